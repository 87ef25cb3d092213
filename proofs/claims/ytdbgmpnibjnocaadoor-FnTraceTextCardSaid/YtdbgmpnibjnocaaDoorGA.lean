/- What the functions of the claim do, on data; written by the program gen.py. -/
import Derived.Test.YtdbgmpnibjnocaaDoorLoop
import Derived.Test.YtdbgmpnibjnocaaDoorLib
import Derived.Test.YtdbgmpnibjnocaaDoorLibS
import Derived.Test.YtdbgmpnibjnocaaDoorNamesW
import Derived.Test.YtdbgmpnibjnocaaDoorNumW
import Derived.Test.YtdbgmpnibjnocaaDoorSh
import Derived.Test.YtdbgmpnibjnocaaDoorShS
import Derived.Test.YtdbgmpnibjnocaaDoorProg
import Derived.KernelRfl
namespace Go.Proofs.YtdbgmpnibjnocaaDoor
open Go.RowKit
set_option linter.unusedVariables false

def bodyOf (f : Func) : Code := match f.body with | some c => c | none => .skip
def nthLoop (f : Func) (i : Nat) : Code := (loopList (bodyOf f)).getD i .skip
abbrev TerrorAddressString : Ty := (.pair .str (.pair (.int .u64) .unit))
abbrev TState : Ty := (.pair (.int .i64) (.pair (.int .i64) (.pair (.int .i64) (.pair (.int .i64) (.pair (.int .i64) .unit)))))
abbrev TMark : Ty := (.pair TState (.pair (.int .i64) (.pair (.int .i64) .unit)))
abbrev Tl01Source : Ty := (.pair (.list (.int .u8)) (.pair (.int .i64) (.pair (.int .i64) .unit)))
abbrev TacceptRange : Ty := (.pair (.int .u8) (.pair (.int .u8) .unit))
abbrev TerrorString : Ty := (.pair .str .unit)
abbrev TboundsError : Ty := (.pair (.int .i64) (.pair (.int .i64) (.pair .bool (.pair (.int .u8) .unit))))
def Γ0 : Tab := [(2, (.int .i64)), (3, (.int .i64)), (4, .bool), (5, (.int .u8)), (9, .str), (22, (.list TMark)), (28, (.list (.int .u8))), (34, TState), (36, TMark), (39, (.list .str)), (67, (.list (.int .i64))), (77, Tl01Source)]
def E0 : Elems := [(22, 36), (28, 5), (39, 9), (67, 2)]
theorem tab0 : tabB Tryd.prog Γ0 E0 = true := by kernel_rfl

abbrev G0 : Gl := Gl.and (Gl.tab Tryd.prog "internal/strconv.uint64pow10" .u64 Lib.pow10Tab) (Gl.and (Gl.iface Tryd.prog "strconv.ErrSyntax") (Gl.and (Gl.iface Tryd.prog "strconv.ErrRange") (Gl.maxLen Tryd.prog
)))
theorem g_tab {w : World} (h : G0.I w) : Lib.TabIs Tryd.prog w "internal/strconv.uint64pow10" .u64 Lib.pow10Tab := h.1
theorem g_es {w : World} (h : G0.I w) : (Gl.iface Tryd.prog "strconv.ErrSyntax").I w := h.2.1
theorem g_er {w : World} (h : G0.I w) : (Gl.iface Tryd.prog "strconv.ErrRange").I w := h.2.2.1
theorem g_max {w : World} (h : G0.I w) : (Gl.maxLen Tryd.prog).I w := h.2.2.2
noncomputable def b_s_l01Split_4 (x : (Ty.T (.pair .str (.pair (.int .u8) (.pair (.own 9 .str) (.pair (.int .i64) (.pair (.int .i64) .unit))))))) : Option ((Ty.T (.pair .str (.pair (.int .u8) (.pair (.own 9 .str) (.pair (.int .i64) (.pair (.int .i64) .unit)))))) ⊕ ((Ty.T (.pair (.own 9 .str) .unit)) ⊕ (Ty.T .unit))) :=
match (decide (x.2.2.2.2.1 ≤ (x.1.length : Int))) with
| true =>
 match (x.2.2.2.2.1 == (x.1.length : Int)) with
 | true =>
  onSome (bounds x.1.length (some (.dat (.int .i64) x.2.2.2.1)) (some (.dat (.int .i64) x.2.2.2.2.1))) fun v1 =>
  room (x.2.2.1.length + [(List.drop v1.1 (List.take v1.2 x.1))].length) (
   some (.inl (x.1, x.2.1, (x.2.2.1 ++ [(List.drop v1.1 (List.take v1.2 x.1))]), (IntKind.i64.wrap (x.2.2.2.2.1 + (1 : Int))), (IntKind.i64.wrap (x.2.2.2.2.1 + (1 : Int))), ())))
 | false =>
  onSome (idx x.1 x.2.2.2.2.1) fun v2 =>
  match ((v2.toNat : Int) == x.2.1) with
  | true =>
   onSome (bounds x.1.length (some (.dat (.int .i64) x.2.2.2.1)) (some (.dat (.int .i64) x.2.2.2.2.1))) fun v3 =>
   room (x.2.2.1.length + [(List.drop v3.1 (List.take v3.2 x.1))].length) (
    some (.inl (x.1, x.2.1, (x.2.2.1 ++ [(List.drop v3.1 (List.take v3.2 x.1))]), (IntKind.i64.wrap (x.2.2.2.2.1 + (1 : Int))), (IntKind.i64.wrap (x.2.2.2.2.1 + (1 : Int))), ())))
  | false =>
   some (.inl (x.1, x.2.1, x.2.2.1, x.2.2.2.1, (IntKind.i64.wrap (x.2.2.2.2.1 + (1 : Int))), ()))
| false =>
 some (.inr (.inl (x.2.2.1, ())))
noncomputable def s_l01Split (x : Ty.T (.pair .str (.pair (.int .u8) .unit))) : Option (Ty.T (.pair (.own 9 .str) .unit)) :=
match loopL b_s_l01Split_4 (x.1, x.2.1, [], (0 : Int), (0 : Int), ()) with
| none => none
| some (.inl v4) =>
 some (v4.1, ())
| some (.inr v6) =>
 none
noncomputable def S_s_l01Split : Spec := ⟨(.pair .str (.pair (.int .u8) .unit)), (.pair (.own 9 .str) .unit), .unit, rfl, s_l01Split⟩
noncomputable def σ_s_l01Split : FuncId → Option Spec := sig []
theorem σok_s_l01Split : ∀ f s, σ_s_l01Split f = some s → FnOK G0 Tryd.prog f s := sig_ok (l := []) trivial
noncomputable def Λ_s_l01Split : Nat → Option LSpec := lkp (loopList (bodyOf Tryd.f19)) [⟨[0, 1, 5, 6, 7], (.pair .str (.pair (.int .u8) (.pair (.own 9 .str) (.pair (.int .i64) (.pair (.int .i64) .unit))))), 0, [5], (.pair (.own 9 .str) .unit), [], .unit, loopL b_s_l01Split_4⟩]
theorem lok_s_l01Split_4 (x) : codeK Γ0 E0 σ_s_l01Split Λ_s_l01Split Tryd.f19.ntmps (nthLoop Tryd.f19 0) (mkF Tryd.f19.ntmps [0, 1, 5, 6, 7] (.pair .str (.pair (.int .u8) (.pair (.own 9 .str) (.pair (.int .i64) (.pair (.int .i64) .unit))))) x) (readK σ_s_l01Split Tryd.f19.ntmps [0, 1, 5, 6, 7] (.pair .str (.pair (.int .u8) (.pair (.own 9 .str) (.pair (.int .i64) (.pair (.int .i64) .unit))))) 0 [5] (.pair (.own 9 .str) .unit) [] .unit) = b_s_l01Split_4 x := by kernel_rfl
theorem ok_s_l01Split : FnOK G0 Tryd.prog 19 S_s_l01Split := fn_ok (Λ := Λ_s_l01Split) tab0 σok_s_l01Split Tryd.func19 (by kernel_rfl) (show Tryd.f19.body = some (bodyOf Tryd.f19) by kernel_rfl) [⟨[0, 1, 5, 6, 7], (.pair .str (.pair (.int .u8) (.pair (.own 9 .str) (.pair (.int .i64) (.pair (.int .i64) .unit))))), 0, [5], (.pair (.own 9 .str) .unit), [], .unit, loopL b_s_l01Split_4⟩] rfl (by kernel_rfl) (by exact ⟨loop_LOK (lok_s_l01Split_4), trivial⟩) (by kernel_rfl)
  fun x y h => (show execFn Γ0 E0 σ_s_l01Split Λ_s_l01Split Tryd.f19 S_s_l01Split x = s_l01Split x by kernel_rfl).trans h

noncomputable def s_l01In (x : Ty.T (.pair (.int .i64) (.pair (.int .i64) (.pair (.int .i64) .unit)))) : Option (Ty.T (.pair .bool .unit)) :=
match (decide (x.1 ≥ x.2.1)) with
| true =>
 some ((decide (x.1 ≤ x.2.2.1)), ())
| false =>
 some (false, ())
noncomputable def S_s_l01In : Spec := ⟨(.pair (.int .i64) (.pair (.int .i64) (.pair (.int .i64) .unit))), (.pair .bool .unit), .unit, rfl, s_l01In⟩
noncomputable def σ_s_l01In : FuncId → Option Spec := sig []
theorem σok_s_l01In : ∀ f s, σ_s_l01In f = some s → FnOK G0 Tryd.prog f s := sig_ok (l := []) trivial
noncomputable def Λ_s_l01In : Nat → Option LSpec := lkp (loopList (bodyOf Tryd.f43)) []
theorem ok_s_l01In : FnOK G0 Tryd.prog 43 S_s_l01In := fn_ok (Λ := Λ_s_l01In) tab0 σok_s_l01In Tryd.func43 (by kernel_rfl) (show Tryd.f43.body = some (bodyOf Tryd.f43) by kernel_rfl) [] rfl (by kernel_rfl) (by exact trivial) (by kernel_rfl)
  fun x y h => (show execFn Γ0 E0 σ_s_l01In Λ_s_l01In Tryd.f43 S_s_l01In x = s_l01In x by kernel_rfl).trans h

noncomputable def s_IsState (x : Ty.T (.pair TState .unit)) : Option (Ty.T (.pair .bool .unit)) :=
match s_l01In (x.1.1, (0 : Int), (65535 : Int), ()) with
| none => none
| some v1 =>
match v1.1 with
| true =>
 match s_l01In (x.1.2.1, (0 : Int), (15 : Int), ()) with
 | none => none
 | some v2 =>
 match v2.1 with
 | true =>
  match s_l01In (x.1.2.2.1, (0 : Int), (15 : Int), ()) with
  | none => none
  | some v3 =>
  match v3.1 with
  | true =>
   match s_l01In (x.1.2.2.2.1, (0 : Int), (255 : Int), ()) with
   | none => none
   | some v4 =>
   match v4.1 with
   | true =>
    match s_l01In (x.1.2.2.2.2.1, (0 : Int), (4294967295 : Int), ()) with
    | none => none
    | some v5 =>
    some (v5.1, ())
   | false =>
    some (false, ())
  | false =>
   some (false, ())
 | false =>
  some (false, ())
| false =>
 some (false, ())
noncomputable def S_s_IsState : Spec := ⟨(.pair TState .unit), (.pair .bool .unit), .unit, rfl, s_IsState⟩
noncomputable def σ_s_IsState : FuncId → Option Spec := sig [(43, S_s_l01In)]
theorem σok_s_IsState : ∀ f s, σ_s_IsState f = some s → FnOK G0 Tryd.prog f s := sig_ok (l := [(43, S_s_l01In)]) ⟨ok_s_l01In, trivial⟩
noncomputable def Λ_s_IsState : Nat → Option LSpec := lkp (loopList (bodyOf Tryd.f41)) []
theorem ok_s_IsState : FnOK G0 Tryd.prog 41 S_s_IsState := fn_ok (Λ := Λ_s_IsState) tab0 σok_s_IsState Tryd.func41 (by kernel_rfl) (show Tryd.f41.body = some (bodyOf Tryd.f41) by kernel_rfl) [] rfl (by kernel_rfl) (by exact trivial) (by kernel_rfl)
  fun x y h => (show execFn Γ0 E0 σ_s_IsState Λ_s_IsState Tryd.f41 S_s_IsState x = s_IsState x by kernel_rfl).trans h

noncomputable def s_l05Node (x : Ty.T (.pair (.int .i64) .unit)) : Option (Ty.T (.pair .bool .unit)) :=
match s_l01In (x.1, (0 : Int), (31 : Int), ()) with
| none => none
| some v1 =>
some (v1.1, ())
noncomputable def S_s_l05Node : Spec := ⟨(.pair (.int .i64) .unit), (.pair .bool .unit), .unit, rfl, s_l05Node⟩
noncomputable def σ_s_l05Node : FuncId → Option Spec := sig [(43, S_s_l01In)]
theorem σok_s_l05Node : ∀ f s, σ_s_l05Node f = some s → FnOK G0 Tryd.prog f s := sig_ok (l := [(43, S_s_l01In)]) ⟨ok_s_l01In, trivial⟩
noncomputable def Λ_s_l05Node : Nat → Option LSpec := lkp (loopList (bodyOf Tryd.f42)) []
theorem ok_s_l05Node : FnOK G0 Tryd.prog 42 S_s_l05Node := fn_ok (Λ := Λ_s_l05Node) tab0 σok_s_l05Node Tryd.func42 (by kernel_rfl) (show Tryd.f42.body = some (bodyOf Tryd.f42) by kernel_rfl) [] rfl (by kernel_rfl) (by exact trivial) (by kernel_rfl)
  fun x y h => (show execFn Γ0 E0 σ_s_l05Node Λ_s_l05Node Tryd.f42 S_s_l05Node x = s_l05Node x by kernel_rfl).trans h

noncomputable def s_IsMark (x : Ty.T (.pair TMark .unit)) : Option (Ty.T (.pair .bool .unit)) :=
match s_IsState ((x.1.1.1, x.1.1.2.1, x.1.1.2.2.1, x.1.1.2.2.2.1, x.1.1.2.2.2.2.1, ()), ()) with
| none => none
| some v1 =>
match v1.1 with
| true =>
 match s_l05Node (x.1.2.1, ()) with
 | none => none
 | some v2 =>
 match v2.1 with
 | true =>
  match s_l01In (x.1.2.2.1, (0 : Int), (4 : Int), ()) with
  | none => none
  | some v3 =>
  some (v3.1, ())
 | false =>
  some (false, ())
| false =>
 some (false, ())
noncomputable def S_s_IsMark : Spec := ⟨(.pair TMark .unit), (.pair .bool .unit), .unit, rfl, s_IsMark⟩
noncomputable def σ_s_IsMark : FuncId → Option Spec := sig [(41, S_s_IsState), (42, S_s_l05Node), (43, S_s_l01In)]
theorem σok_s_IsMark : ∀ f s, σ_s_IsMark f = some s → FnOK G0 Tryd.prog f s := sig_ok (l := [(41, S_s_IsState), (42, S_s_l05Node), (43, S_s_l01In)]) ⟨ok_s_IsState, ok_s_l05Node, ok_s_l01In, trivial⟩
noncomputable def Λ_s_IsMark : Nat → Option LSpec := lkp (loopList (bodyOf Tryd.f18)) []
theorem ok_s_IsMark : FnOK G0 Tryd.prog 18 S_s_IsMark := fn_ok (Λ := Λ_s_IsMark) tab0 σok_s_IsMark Tryd.func18 (by kernel_rfl) (show Tryd.f18.body = some (bodyOf Tryd.f18) by kernel_rfl) [] rfl (by kernel_rfl) (by exact trivial) (by kernel_rfl)
  fun x y h => (show execFn Γ0 E0 σ_s_IsMark Λ_s_IsMark Tryd.f18 S_s_IsMark x = s_IsMark x by kernel_rfl).trans h

noncomputable def F_s_l01Dec (rec : Ty.T (.pair (.int .i64) .unit) → Option (Ty.T TerrorString)) (x : Ty.T (.pair (.int .i64) .unit)) : Option (Ty.T TerrorString) :=
match (decide (x.1 < (10 : Int))) with
| true =>
 some ((List.map (fun n => UInt8.ofNat (Int.toNat n)) ([(IntKind.u8.wrap (IntKind.i64.wrap ((48 : Int) + x.1)))] : List Int)), ())
| false =>
 both (
  match rec ((IntKind.i64.wrap (Int.tdiv x.1 (10 : Int))), ()) with
  | none => none
  | some v1 =>
  room (v1.1.length + (List.map (fun n => UInt8.ofNat (Int.toNat n)) ([(IntKind.u8.wrap (IntKind.i64.wrap ((48 : Int) + (Int.tmod x.1 (10 : Int)))))] : List Int)).length) (
   some ((v1.1 ++ (List.map (fun n => UInt8.ofNat (Int.toNat n)) ([(IntKind.u8.wrap (IntKind.i64.wrap ((48 : Int) + (Int.tmod x.1 (10 : Int)))))] : List Int))), ()))) (
  same (
   match rec ((IntKind.i64.wrap (Int.tdiv x.1 (10 : Int))), ()) with
   | none => none
   | some v1 =>
   room (v1.1.length + (List.map (fun n => UInt8.ofNat (Int.toNat n)) ([(IntKind.u8.wrap (IntKind.i64.wrap ((48 : Int) + (Int.tmod x.1 (10 : Int)))))] : List Int)).length) (
    some ((v1.1 ++ (List.map (fun n => UInt8.ofNat (Int.toNat n)) ([(IntKind.u8.wrap (IntKind.i64.wrap ((48 : Int) + (Int.tmod x.1 (10 : Int)))))] : List Int))), ()))))
noncomputable def s_l01Dec (i : Nat) : Ty.T (.pair (.int .i64) .unit) → Option (Ty.T TerrorString) := Nat.rec (fun _ => none) (fun _ f => F_s_l01Dec f) i
noncomputable def R_s_l01Dec (rec : Ty.T (.pair (.int .i64) .unit) → Option (Ty.T TerrorString)) : Spec := ⟨(.pair (.int .i64) .unit), TerrorString, .unit, rfl, rec⟩
noncomputable def S_s_l01Dec : Spec := R_s_l01Dec (s_l01Dec 100)
noncomputable def σ_s_l01Dec (rec : Ty.T (.pair (.int .i64) .unit) → Option (Ty.T TerrorString)) : FuncId → Option Spec := sig [(58, R_s_l01Dec rec)]
theorem σok_s_l01Dec (rec : Ty.T (.pair (.int .i64) .unit) → Option (Ty.T TerrorString)) (hr : FnOK G0 Tryd.prog 58 (R_s_l01Dec rec)) : ∀ f s, (σ_s_l01Dec rec) f = some s → FnOK G0 Tryd.prog f s := sig_ok (l := [(58, R_s_l01Dec rec)]) ⟨hr, trivial⟩
noncomputable def Λ_s_l01Dec (rec : Ty.T (.pair (.int .i64) .unit) → Option (Ty.T TerrorString)) : Nat → Option LSpec := lkp (loopList (bodyOf Tryd.f58)) []
theorem step_s_l01Dec (rec : Ty.T (.pair (.int .i64) .unit) → Option (Ty.T TerrorString)) (hr : FnOK G0 Tryd.prog 58 (R_s_l01Dec rec)) : FnOK G0 Tryd.prog 58 (R_s_l01Dec (F_s_l01Dec rec)) := fn_ok (Λ := (Λ_s_l01Dec rec)) tab0 (σok_s_l01Dec rec hr) Tryd.func58 (by kernel_rfl) (show Tryd.f58.body = some (bodyOf Tryd.f58) by kernel_rfl) [] rfl (by kernel_rfl) (by exact trivial) (by kernel_rfl)
  fun x y h => (show execFn Γ0 E0 (σ_s_l01Dec rec) (Λ_s_l01Dec rec) Tryd.f58 (R_s_l01Dec (F_s_l01Dec rec)) x = F_s_l01Dec rec x by kernel_rfl).trans h
theorem fuel_s_l01Dec : ∀ i, FnOK G0 Tryd.prog 58 (R_s_l01Dec (s_l01Dec i))
  | 0 => none_ok Tryd.func58 (by kernel_rfl) (show Tryd.f58.body = some (bodyOf Tryd.f58) by kernel_rfl)
  | i + 1 => step_s_l01Dec _ (fuel_s_l01Dec i)
theorem ok_s_l01Dec : FnOK G0 Tryd.prog 58 S_s_l01Dec := fuel_s_l01Dec 100

noncomputable def b_s_l01Value_5 (x : (Ty.T (.pair .str (.pair (.int .i64) (.pair (.int .i64) .unit))))) : Option ((Ty.T (.pair .str (.pair (.int .i64) (.pair (.int .i64) .unit)))) ⊕ ((Ty.T (.pair .str (.pair (.int .i64) .unit))) ⊕ (Ty.T (.pair (.int .i64) (.pair .bool .unit))))) :=
match (decide (x.2.2.1 < (x.1.length : Int))) with
| true =>
 onSome (idx x.1 x.2.2.1) fun v1 =>
 match (decide ((v1.toNat : Int) < (48 : Int))) with
 | true =>
  some (.inr (.inr ((0 : Int), false, ())))
 | false =>
  onSome (idx x.1 x.2.2.1) fun v2 =>
  match (decide ((v2.toNat : Int) > (57 : Int))) with
  | true =>
   some (.inr (.inr ((0 : Int), false, ())))
  | false =>
   onSome (idx x.1 x.2.2.1) fun v3 =>
   some (.inl (x.1, (IntKind.i64.wrap ((IntKind.i64.wrap ((10 : Int) * x.2.1)) + (IntKind.i64.wrap (IntKind.u8.wrap ((v3.toNat : Int) - (48 : Int)))))), (IntKind.i64.wrap (x.2.2.1 + (1 : Int))), ()))
| false =>
 some (.inr (.inl (x.1, x.2.1, ())))
noncomputable def s_l01Value (x : Ty.T TerrorString) : Option (Ty.T (.pair (.int .i64) (.pair .bool .unit))) :=
match (decide ((x.1.length : Int) < (1 : Int))) with
| true =>
 some ((0 : Int), false, ())
| false =>
 match (decide ((x.1.length : Int) > (12 : Int))) with
 | true =>
  some ((0 : Int), false, ())
 | false =>
  match loopL b_s_l01Value_5 (x.1, (0 : Int), (0 : Int), ()) with
  | none => none
  | some (.inl v4) =>
   match s_l01Dec 100 (v4.2.1, ()) with
   | none => none
   | some v6 =>
   some (v4.2.1, (v6.1 == v4.1), ())
  | some (.inr v5) =>
   some (v5.1, v5.2.1, ())
noncomputable def S_s_l01Value : Spec := ⟨TerrorString, (.pair (.int .i64) (.pair .bool .unit)), .unit, rfl, s_l01Value⟩
noncomputable def σ_s_l01Value : FuncId → Option Spec := sig [(58, S_s_l01Dec)]
theorem σok_s_l01Value : ∀ f s, σ_s_l01Value f = some s → FnOK G0 Tryd.prog f s := sig_ok (l := [(58, S_s_l01Dec)]) ⟨ok_s_l01Dec, trivial⟩
noncomputable def Λ_s_l01Value : Nat → Option LSpec := lkp (loopList (bodyOf Tryd.f45)) [⟨[0, 4, 5], (.pair .str (.pair (.int .i64) (.pair (.int .i64) .unit))), 0, [0, 4], (.pair .str (.pair (.int .i64) .unit)), [2, 3], (.pair (.int .i64) (.pair .bool .unit)), loopL b_s_l01Value_5⟩]
theorem lok_s_l01Value_5 (x) : codeK Γ0 E0 σ_s_l01Value Λ_s_l01Value Tryd.f45.ntmps (nthLoop Tryd.f45 0) (mkF Tryd.f45.ntmps [0, 4, 5] (.pair .str (.pair (.int .i64) (.pair (.int .i64) .unit))) x) (readK σ_s_l01Value Tryd.f45.ntmps [0, 4, 5] (.pair .str (.pair (.int .i64) (.pair (.int .i64) .unit))) 0 [0, 4] (.pair .str (.pair (.int .i64) .unit)) [2, 3] (.pair (.int .i64) (.pair .bool .unit))) = b_s_l01Value_5 x := by kernel_rfl
theorem ok_s_l01Value : FnOK G0 Tryd.prog 45 S_s_l01Value := fn_ok (Λ := Λ_s_l01Value) tab0 σok_s_l01Value Tryd.func45 (by kernel_rfl) (show Tryd.f45.body = some (bodyOf Tryd.f45) by kernel_rfl) [⟨[0, 4, 5], (.pair .str (.pair (.int .i64) (.pair (.int .i64) .unit))), 0, [0, 4], (.pair .str (.pair (.int .i64) .unit)), [2, 3], (.pair (.int .i64) (.pair .bool .unit)), loopL b_s_l01Value_5⟩] rfl (by kernel_rfl) (by exact ⟨loop_LOK (lok_s_l01Value_5), trivial⟩) (by kernel_rfl)
  fun x y h => (show execFn Γ0 E0 σ_s_l01Value Λ_s_l01Value Tryd.f45 S_s_l01Value x = s_l01Value x by kernel_rfl).trans h

noncomputable def b_s_l04Numbers_3 (x : (Ty.T (.pair (.list .str) (.pair (.own 2 (.int .i64)) (.pair (.int .i64) .unit))))) : Option ((Ty.T (.pair (.list .str) (.pair (.own 2 (.int .i64)) (.pair (.int .i64) .unit)))) ⊕ ((Ty.T (.pair (.own 2 (.int .i64)) .unit)) ⊕ (Ty.T (.pair (.own 2 (.int .i64)) (.pair .bool .unit))))) :=
match (decide (x.2.2.1 < (x.1.length : Int))) with
| true =>
 onSome (idx x.1 x.2.2.1) fun v1 =>
 match s_l01Value (v1, ()) with
 | none => none
 | some v2 =>
 match (!v2.2.1) with
 | true =>
  some (.inr (.inr ([], false, ())))
 | false =>
  room (x.2.1.length + [v2.1].length) (
   some (.inl (x.1, (x.2.1 ++ [v2.1]), (IntKind.i64.wrap (x.2.2.1 + (1 : Int))), ())))
| false =>
 some (.inr (.inl (x.2.1, ())))
noncomputable def s_l04Numbers (x : Ty.T (.pair (.list .str) .unit)) : Option (Ty.T (.pair (.list (.int .i64)) (.pair .bool .unit))) :=
match loopL b_s_l04Numbers_3 (x.1, [], (0 : Int), ()) with
| none => none
| some (.inl v3) =>
 some (v3.1, true, ())
| some (.inr v4) =>
 some (v4.1, v4.2.1, ())
noncomputable def S_s_l04Numbers : Spec := ⟨(.pair (.list .str) .unit), (.pair (.list (.int .i64)) (.pair .bool .unit)), .unit, rfl, s_l04Numbers⟩
noncomputable def σ_s_l04Numbers : FuncId → Option Spec := sig [(45, S_s_l01Value)]
theorem σok_s_l04Numbers : ∀ f s, σ_s_l04Numbers f = some s → FnOK G0 Tryd.prog f s := sig_ok (l := [(45, S_s_l01Value)]) ⟨ok_s_l01Value, trivial⟩
noncomputable def Λ_s_l04Numbers : Nat → Option LSpec := lkp (loopList (bodyOf Tryd.f61)) [⟨[0, 4, 5], (.pair (.list .str) (.pair (.own 2 (.int .i64)) (.pair (.int .i64) .unit))), 0, [4], (.pair (.own 2 (.int .i64)) .unit), [2, 3], (.pair (.own 2 (.int .i64)) (.pair .bool .unit)), loopL b_s_l04Numbers_3⟩]
theorem lok_s_l04Numbers_3 (x) : codeK Γ0 E0 σ_s_l04Numbers Λ_s_l04Numbers Tryd.f61.ntmps (nthLoop Tryd.f61 0) (mkF Tryd.f61.ntmps [0, 4, 5] (.pair (.list .str) (.pair (.own 2 (.int .i64)) (.pair (.int .i64) .unit))) x) (readK σ_s_l04Numbers Tryd.f61.ntmps [0, 4, 5] (.pair (.list .str) (.pair (.own 2 (.int .i64)) (.pair (.int .i64) .unit))) 0 [4] (.pair (.own 2 (.int .i64)) .unit) [2, 3] (.pair (.own 2 (.int .i64)) (.pair .bool .unit))) = b_s_l04Numbers_3 x := by kernel_rfl
theorem ok_s_l04Numbers : FnOK G0 Tryd.prog 61 S_s_l04Numbers := fn_ok (Λ := Λ_s_l04Numbers) tab0 σok_s_l04Numbers Tryd.func61 (by kernel_rfl) (show Tryd.f61.body = some (bodyOf Tryd.f61) by kernel_rfl) [⟨[0, 4, 5], (.pair (.list .str) (.pair (.own 2 (.int .i64)) (.pair (.int .i64) .unit))), 0, [4], (.pair (.own 2 (.int .i64)) .unit), [2, 3], (.pair (.own 2 (.int .i64)) (.pair .bool .unit)), loopL b_s_l04Numbers_3⟩] rfl (by kernel_rfl) (by exact ⟨loop_LOK (lok_s_l04Numbers_3), trivial⟩) (by kernel_rfl)
  fun x y h => (show execFn Γ0 E0 σ_s_l04Numbers Λ_s_l04Numbers Tryd.f61 S_s_l04Numbers x = s_l04Numbers x by kernel_rfl).trans h

noncomputable def s_ReadState (x : Ty.T TerrorString) : Option (Ty.T (.pair TState (.pair .bool .unit))) :=
match s_l01Split (x.1, (47 : Int), ()) with
| none => none
| some v1 =>
match s_l04Numbers (v1.1, ()) with
| none => none
| some v2 =>
match (!v2.2.1) with
| true =>
 some (((0 : Int), (0 : Int), (0 : Int), (0 : Int), (0 : Int), ()), false, ())
| false =>
 match ((v2.1.length : Int) != (5 : Int)) with
 | true =>
  some (((0 : Int), (0 : Int), (0 : Int), (0 : Int), (0 : Int), ()), false, ())
 | false =>
  onSome (idx v2.1 (0 : Int)) fun v3 =>
  onSome (idx v2.1 (1 : Int)) fun v4 =>
  onSome (idx v2.1 (2 : Int)) fun v5 =>
  onSome (idx v2.1 (3 : Int)) fun v6 =>
  onSome (idx v2.1 (4 : Int)) fun v7 =>
  same (
   match s_IsState ((v3, v4, v5, v6, v7, ()), ()) with
   | none => none
   | some v8 =>
   match (!v8.1) with
   | true =>
    some (((0 : Int), (0 : Int), (0 : Int), (0 : Int), (0 : Int), ()), false, ())
   | false =>
    some ((v3, v4, v5, v6, v7, ()), true, ()))
noncomputable def S_s_ReadState : Spec := ⟨TerrorString, (.pair TState (.pair .bool .unit)), .unit, rfl, s_ReadState⟩
noncomputable def σ_s_ReadState : FuncId → Option Spec := sig [(19, S_s_l01Split), (41, S_s_IsState), (61, S_s_l04Numbers)]
theorem σok_s_ReadState : ∀ f s, σ_s_ReadState f = some s → FnOK G0 Tryd.prog f s := sig_ok (l := [(19, S_s_l01Split), (41, S_s_IsState), (61, S_s_l04Numbers)]) ⟨ok_s_l01Split, ok_s_IsState, ok_s_l04Numbers, trivial⟩
noncomputable def Λ_s_ReadState : Nat → Option LSpec := lkp (loopList (bodyOf Tryd.f44)) []
theorem ok_s_ReadState : FnOK G0 Tryd.prog 44 S_s_ReadState := fn_ok (Λ := Λ_s_ReadState) tab0 σok_s_ReadState Tryd.func44 (by kernel_rfl) (show Tryd.f44.body = some (bodyOf Tryd.f44) by kernel_rfl) [] rfl (by kernel_rfl) (by exact trivial) (by kernel_rfl)
  fun x y h => (show execFn Γ0 E0 σ_s_ReadState Λ_s_ReadState Tryd.f44 S_s_ReadState x = s_ReadState x by kernel_rfl).trans h

noncomputable def s_l28Names (x : Ty.T .unit) : Option (Ty.T (.pair (.own 9 .str) .unit)) :=
some ([([110, 117, 108, 108] : List UInt8), ([105, 110, 118, 97, 108, 105, 100] : List UInt8), ([105, 110, 99, 111, 114, 114, 101, 99, 116] : List UInt8), ([99, 111, 114, 114, 101, 99, 116] : List UInt8), ([100, 105, 115, 97, 103, 114, 101, 101] : List UInt8)], ())
noncomputable def S_s_l28Names : Spec := ⟨.unit, (.pair (.own 9 .str) .unit), .unit, rfl, s_l28Names⟩
noncomputable def σ_s_l28Names : FuncId → Option Spec := sig []
theorem σok_s_l28Names : ∀ f s, σ_s_l28Names f = some s → FnOK G0 Tryd.prog f s := sig_ok (l := []) trivial
noncomputable def Λ_s_l28Names : Nat → Option LSpec := lkp (loopList (bodyOf Tryd.f62)) []
theorem ok_s_l28Names : FnOK G0 Tryd.prog 62 S_s_l28Names := fn_ok (Λ := Λ_s_l28Names) tab0 σok_s_l28Names Tryd.func62 (by kernel_rfl) (show Tryd.f62.body = some (bodyOf Tryd.f62) by kernel_rfl) [] rfl (by kernel_rfl) (by exact trivial) (by kernel_rfl)
  fun x y h => (show execFn Γ0 E0 σ_s_l28Names Λ_s_l28Names Tryd.f62 S_s_l28Names x = s_l28Names x by kernel_rfl).trans h

noncomputable def b_s_StatusNamed_2 (x : (Ty.T (.pair .str (.pair (.int .i64) .unit)))) : Option ((Ty.T (.pair .str (.pair (.int .i64) .unit))) ⊕ ((Ty.T .unit) ⊕ (Ty.T (.pair (.int .i64) (.pair (.int .i64) .unit))))) :=
match (decide (x.2.1 < (5 : Int))) with
| true =>
 match s_l28Names (()) with
 | none => none
 | some v1 =>
 onSome (idx v1.1 x.2.1) fun _ =>
 match v1.1[x.2.1.toNat]? with
 | none => none
 | some v3 =>
 match (v3 == x.1) with
 | true =>
  some (.inr (.inr (x.2.1, (0 : Int), ())))
 | false =>
  some (.inl (x.1, (IntKind.i64.wrap (x.2.1 + (1 : Int))), ()))
| false =>
 some (.inr (.inl (())))
noncomputable def s_StatusNamed (x : Ty.T TerrorString) : Option (Ty.T (.pair (.int .i64) (.pair (.int .i64) .unit))) :=
match loopL b_s_StatusNamed_2 (x.1, (0 : Int), ()) with
| none => none
| some (.inl v4) =>
 some ((0 : Int), (4 : Int), ())
| some (.inr v5) =>
 some (v5.1, v5.2.1, ())
noncomputable def S_s_StatusNamed : Spec := ⟨TerrorString, (.pair (.int .i64) (.pair (.int .i64) .unit)), .unit, rfl, s_StatusNamed⟩
noncomputable def σ_s_StatusNamed : FuncId → Option Spec := sig [(62, S_s_l28Names)]
theorem σok_s_StatusNamed : ∀ f s, σ_s_StatusNamed f = some s → FnOK G0 Tryd.prog f s := sig_ok (l := [(62, S_s_l28Names)]) ⟨ok_s_l28Names, trivial⟩
noncomputable def Λ_s_StatusNamed : Nat → Option LSpec := lkp (loopList (bodyOf Tryd.f46)) [⟨[0, 4], (.pair .str (.pair (.int .i64) .unit)), 0, [], .unit, [2, 3], (.pair (.int .i64) (.pair (.int .i64) .unit)), loopL b_s_StatusNamed_2⟩]
theorem lok_s_StatusNamed_2 (x) : codeK Γ0 E0 σ_s_StatusNamed Λ_s_StatusNamed Tryd.f46.ntmps (nthLoop Tryd.f46 0) (mkF Tryd.f46.ntmps [0, 4] (.pair .str (.pair (.int .i64) .unit)) x) (readK σ_s_StatusNamed Tryd.f46.ntmps [0, 4] (.pair .str (.pair (.int .i64) .unit)) 0 [] .unit [2, 3] (.pair (.int .i64) (.pair (.int .i64) .unit))) = b_s_StatusNamed_2 x := by kernel_rfl
theorem ok_s_StatusNamed : FnOK G0 Tryd.prog 46 S_s_StatusNamed := fn_ok (Λ := Λ_s_StatusNamed) tab0 σok_s_StatusNamed Tryd.func46 (by kernel_rfl) (show Tryd.f46.body = some (bodyOf Tryd.f46) by kernel_rfl) [⟨[0, 4], (.pair .str (.pair (.int .i64) .unit)), 0, [], .unit, [2, 3], (.pair (.int .i64) (.pair (.int .i64) .unit)), loopL b_s_StatusNamed_2⟩] rfl (by kernel_rfl) (by exact ⟨loop_LOK (lok_s_StatusNamed_2), trivial⟩) (by kernel_rfl)
  fun x y h => (show execFn Γ0 E0 σ_s_StatusNamed Λ_s_StatusNamed Tryd.f46 S_s_StatusNamed x = s_StatusNamed x by kernel_rfl).trans h

noncomputable def s_l33Read (x : Ty.T TerrorString) : Option (Ty.T (.pair TMark (.pair .bool .unit))) :=
match s_l01Split (x.1, (32 : Int), ()) with
| none => none
| some v1 =>
match ((v1.1.length : Int) != (3 : Int)) with
| true =>
 some ((((0 : Int), (0 : Int), (0 : Int), (0 : Int), (0 : Int), ()), (0 : Int), (0 : Int), ()), false, ())
| false =>
 onSome (idx v1.1 (0 : Int)) fun _ =>
 match v1.1[(0 : Int).toNat]? with
 | none => none
 | some v3 =>
 match s_ReadState (v3, ()) with
 | none => none
 | some v4 =>
 onSome (idx v1.1 (1 : Int)) fun _ =>
 match v1.1[(1 : Int).toNat]? with
 | none => none
 | some v6 =>
 match s_l01Value (v6, ()) with
 | none => none
 | some v7 =>
 onSome (idx v1.1 (2 : Int)) fun _ =>
 match v1.1[(2 : Int).toNat]? with
 | none => none
 | some v9 =>
 match s_StatusNamed (v9, ()) with
 | none => none
 | some v10 =>
 match (!v4.2.1) with
 | true =>
  some ((((0 : Int), (0 : Int), (0 : Int), (0 : Int), (0 : Int), ()), (0 : Int), (0 : Int), ()), false, ())
 | false =>
  match (!v7.2.1) with
  | true =>
   some ((((0 : Int), (0 : Int), (0 : Int), (0 : Int), (0 : Int), ()), (0 : Int), (0 : Int), ()), false, ())
  | false =>
   match (v10.2.1 != (0 : Int)) with
   | true =>
    some ((((0 : Int), (0 : Int), (0 : Int), (0 : Int), (0 : Int), ()), (0 : Int), (0 : Int), ()), false, ())
   | false =>
    match s_IsMark (((v4.1.1, v4.1.2.1, v4.1.2.2.1, v4.1.2.2.2.1, v4.1.2.2.2.2.1, ()), v7.1, v10.1, ()), ()) with
    | none => none
    | some v11 =>
    match (!v11.1) with
    | true =>
     some ((((0 : Int), (0 : Int), (0 : Int), (0 : Int), (0 : Int), ()), (0 : Int), (0 : Int), ()), false, ())
    | false =>
     some (((v4.1.1, v4.1.2.1, v4.1.2.2.1, v4.1.2.2.2.1, v4.1.2.2.2.2.1, ()), v7.1, v10.1, ()), true, ())
noncomputable def S_s_l33Read : Spec := ⟨TerrorString, (.pair TMark (.pair .bool .unit)), .unit, rfl, s_l33Read⟩
noncomputable def σ_s_l33Read : FuncId → Option Spec := sig [(18, S_s_IsMark), (19, S_s_l01Split), (44, S_s_ReadState), (45, S_s_l01Value), (46, S_s_StatusNamed)]
theorem σok_s_l33Read : ∀ f s, σ_s_l33Read f = some s → FnOK G0 Tryd.prog f s := sig_ok (l := [(18, S_s_IsMark), (19, S_s_l01Split), (44, S_s_ReadState), (45, S_s_l01Value), (46, S_s_StatusNamed)]) ⟨ok_s_IsMark, ok_s_l01Split, ok_s_ReadState, ok_s_l01Value, ok_s_StatusNamed, trivial⟩
noncomputable def Λ_s_l33Read : Nat → Option LSpec := lkp (loopList (bodyOf Tryd.f20)) []
theorem ok_s_l33Read : FnOK G0 Tryd.prog 20 S_s_l33Read := fn_ok (Λ := Λ_s_l33Read) tab0 σok_s_l33Read Tryd.func20 (by kernel_rfl) (show Tryd.f20.body = some (bodyOf Tryd.f20) by kernel_rfl) [] rfl (by kernel_rfl) (by exact trivial) (by kernel_rfl)
  fun x y h => (show execFn Γ0 E0 σ_s_l33Read Λ_s_l33Read Tryd.f20 S_s_l33Read x = s_l33Read x by kernel_rfl).trans h

noncomputable def b_s_l33List_2 (x : (Ty.T (.pair (.list TMark) (.pair (.int .i64) .unit)))) : Option ((Ty.T (.pair (.list TMark) (.pair (.int .i64) .unit))) ⊕ ((Ty.T (.pair (.list TMark) .unit)) ⊕ (Ty.T (.pair .bool .unit)))) :=
match (decide (x.2.1 < (x.1.length : Int))) with
| true =>
 onSome (idx x.1 x.2.1) fun v1 =>
 match s_IsMark (v1, ()) with
 | none => none
 | some v2 =>
 match (!v2.1) with
 | true =>
  some (.inr (.inr (false, ())))
 | false =>
  some (.inl (x.1, (IntKind.i64.wrap (x.2.1 + (1 : Int))), ()))
| false =>
 some (.inr (.inl (x.1, ())))
noncomputable def s_l33List (x : Ty.T (.pair (.list TMark) .unit)) : Option (Ty.T (.pair .bool .unit)) :=
match loopL b_s_l33List_2 (x.1, (0 : Int), ()) with
| none => none
| some (.inl v3) =>
 some ((decide ((v3.1.length : Int) ≤ (60 : Int))), ())
| some (.inr v4) =>
 some (v4.1, ())
noncomputable def S_s_l33List : Spec := ⟨(.pair (.list TMark) .unit), (.pair .bool .unit), .unit, rfl, s_l33List⟩
noncomputable def σ_s_l33List : FuncId → Option Spec := sig [(18, S_s_IsMark)]
theorem σok_s_l33List : ∀ f s, σ_s_l33List f = some s → FnOK G0 Tryd.prog f s := sig_ok (l := [(18, S_s_IsMark)]) ⟨ok_s_IsMark, trivial⟩
noncomputable def Λ_s_l33List : Nat → Option LSpec := lkp (loopList (bodyOf Tryd.f21)) [⟨[0, 3], (.pair (.list TMark) (.pair (.int .i64) .unit)), 0, [0], (.pair (.list TMark) .unit), [2], (.pair .bool .unit), loopL b_s_l33List_2⟩]
theorem lok_s_l33List_2 (x) : codeK Γ0 E0 σ_s_l33List Λ_s_l33List Tryd.f21.ntmps (nthLoop Tryd.f21 0) (mkF Tryd.f21.ntmps [0, 3] (.pair (.list TMark) (.pair (.int .i64) .unit)) x) (readK σ_s_l33List Tryd.f21.ntmps [0, 3] (.pair (.list TMark) (.pair (.int .i64) .unit)) 0 [0] (.pair (.list TMark) .unit) [2] (.pair .bool .unit)) = b_s_l33List_2 x := by kernel_rfl
theorem ok_s_l33List : FnOK G0 Tryd.prog 21 S_s_l33List := fn_ok (Λ := Λ_s_l33List) tab0 σok_s_l33List Tryd.func21 (by kernel_rfl) (show Tryd.f21.body = some (bodyOf Tryd.f21) by kernel_rfl) [⟨[0, 3], (.pair (.list TMark) (.pair (.int .i64) .unit)), 0, [0], (.pair (.list TMark) .unit), [2], (.pair .bool .unit), loopL b_s_l33List_2⟩] rfl (by kernel_rfl) (by exact ⟨loop_LOK (lok_s_l33List_2), trivial⟩) (by kernel_rfl)
  fun x y h => (show execFn Γ0 E0 σ_s_l33List Λ_s_l33List Tryd.f21 S_s_l33List x = s_l33List x by kernel_rfl).trans h

noncomputable def b_s_ReadTrace_4 (x : (Ty.T (.pair (.own 9 .str) (.pair (.own 36 TMark) (.pair (.int .i64) .unit))))) : Option ((Ty.T (.pair (.own 9 .str) (.pair (.own 36 TMark) (.pair (.int .i64) .unit)))) ⊕ ((Ty.T (.pair (.own 9 .str) (.pair (.own 36 TMark) .unit))) ⊕ (Ty.T (.pair (.own 36 TMark) (.pair .bool .unit))))) :=
match (decide ((IntKind.i64.wrap (x.2.2.1 + (1 : Int))) < (x.1.length : Int))) with
| true =>
 onSome (idx x.1 x.2.2.1) fun _ =>
 match x.1[x.2.2.1.toNat]? with
 | none => none
 | some v3 =>
 match s_l33Read (v3, ()) with
 | none => none
 | some v4 =>
 match (!v4.2.1) with
 | true =>
  some (.inr (.inr ([], false, ())))
 | false =>
  room (x.2.1.length + [((v4.1.1.1, v4.1.1.2.1, v4.1.1.2.2.1, v4.1.1.2.2.2.1, v4.1.1.2.2.2.2.1, ()), v4.1.2.1, v4.1.2.2.1, ())].length) (
   some (.inl (x.1, (x.2.1 ++ [((v4.1.1.1, v4.1.1.2.1, v4.1.1.2.2.1, v4.1.1.2.2.2.1, v4.1.1.2.2.2.2.1, ()), v4.1.2.1, v4.1.2.2.1, ())]), (IntKind.i64.wrap (x.2.2.1 + (1 : Int))), ())))
| false =>
 some (.inr (.inl (x.1, x.2.1, ())))
noncomputable def s_ReadTrace (x : Ty.T TerrorString) : Option (Ty.T (.pair (.own 36 TMark) (.pair .bool .unit))) :=
match s_l01Split (x.1, (10 : Int), ()) with
| none => none
| some v1 =>
match loopL b_s_ReadTrace_4 (v1.1, [], (0 : Int), ()) with
| none => none
| some (.inl v5) =>
 onSome (idx v5.1 (IntKind.i64.wrap ((v5.1.length : Int) - (1 : Int)))) fun _ =>
 match v5.1[(IntKind.i64.wrap ((v5.1.length : Int) - (1 : Int))).toNat]? with
 | none => none
 | some v8 =>
 match (!(v8 == [])) with
 | true =>
  some ([], false, ())
 | false =>
  match s_l33List (v5.2.1, ()) with
  | none => none
  | some v9 =>
  match (!v9.1) with
  | true =>
   some ([], false, ())
  | false =>
   some (v5.2.1, true, ())
| some (.inr v6) =>
 some (v6.1, v6.2.1, ())
noncomputable def S_s_ReadTrace : Spec := ⟨TerrorString, (.pair (.own 36 TMark) (.pair .bool .unit)), .unit, rfl, s_ReadTrace⟩
noncomputable def σ_s_ReadTrace : FuncId → Option Spec := sig [(19, S_s_l01Split), (20, S_s_l33Read), (21, S_s_l33List)]
theorem σok_s_ReadTrace : ∀ f s, σ_s_ReadTrace f = some s → FnOK G0 Tryd.prog f s := sig_ok (l := [(19, S_s_l01Split), (20, S_s_l33Read), (21, S_s_l33List)]) ⟨ok_s_l01Split, ok_s_l33Read, ok_s_l33List, trivial⟩
noncomputable def Λ_s_ReadTrace : Nat → Option LSpec := lkp (loopList (bodyOf Tryd.f5)) [⟨[4, 5, 6], (.pair (.own 9 .str) (.pair (.own 36 TMark) (.pair (.int .i64) .unit))), 0, [4, 5], (.pair (.own 9 .str) (.pair (.own 36 TMark) .unit)), [2, 3], (.pair (.own 36 TMark) (.pair .bool .unit)), loopL b_s_ReadTrace_4⟩]
theorem lok_s_ReadTrace_4 (x) : codeK Γ0 E0 σ_s_ReadTrace Λ_s_ReadTrace Tryd.f5.ntmps (nthLoop Tryd.f5 0) (mkF Tryd.f5.ntmps [4, 5, 6] (.pair (.own 9 .str) (.pair (.own 36 TMark) (.pair (.int .i64) .unit))) x) (readK σ_s_ReadTrace Tryd.f5.ntmps [4, 5, 6] (.pair (.own 9 .str) (.pair (.own 36 TMark) (.pair (.int .i64) .unit))) 0 [4, 5] (.pair (.own 9 .str) (.pair (.own 36 TMark) .unit)) [2, 3] (.pair (.own 36 TMark) (.pair .bool .unit))) = b_s_ReadTrace_4 x := by kernel_rfl
theorem ok_s_ReadTrace : FnOK G0 Tryd.prog 5 S_s_ReadTrace := fn_ok (Λ := Λ_s_ReadTrace) tab0 σok_s_ReadTrace Tryd.func5 (by kernel_rfl) (show Tryd.f5.body = some (bodyOf Tryd.f5) by kernel_rfl) [⟨[4, 5, 6], (.pair (.own 9 .str) (.pair (.own 36 TMark) (.pair (.int .i64) .unit))), 0, [4, 5], (.pair (.own 9 .str) (.pair (.own 36 TMark) .unit)), [2, 3], (.pair (.own 36 TMark) (.pair .bool .unit)), loopL b_s_ReadTrace_4⟩] rfl (by kernel_rfl) (by exact ⟨loop_LOK (lok_s_ReadTrace_4), trivial⟩) (by kernel_rfl)
  fun x y h => (show execFn Γ0 E0 σ_s_ReadTrace Λ_s_ReadTrace Tryd.f5 S_s_ReadTrace x = s_ReadTrace x by kernel_rfl).trans h

noncomputable def strings_Cut (x : Ty.T (.pair .str TerrorString)) : Option (Ty.T (.pair .str (.pair .str (.pair .bool .unit)))) := onSome (cutF x.1 x.2.1) fun y => some (y.1, y.2.1, y.2.2, ())
noncomputable def S_strings_Cut : Spec := ⟨(.pair .str TerrorString), (.pair .str (.pair .str (.pair .bool .unit))), .unit, rfl, strings_Cut⟩
theorem ok_strings_Cut : FnOK G0 Tryd.prog 22 S_strings_Cut := FnOK.str2_ssb (entersF_of Tryd.func22 (by kernel_rfl) (show Tryd.f22.body = some (bodyOf Tryd.f22) by kernel_rfl)) (fun w s t y hI hy => cut_calls w s t y (g_max hI) hy)

noncomputable def strings_Split (x : Ty.T (.pair .str TerrorString)) : Option (Ty.T (.pair (.own 9 .str) .unit)) := onSome (splitF x.1 x.2.1) fun s => some (s, ())
noncomputable def S_strings_Split : Spec := ⟨(.pair .str TerrorString), (.pair (.own 9 .str) .unit), .unit, rfl, strings_Split⟩
theorem ok_strings_Split : FnOK G0 Tryd.prog 23 S_strings_Split := FnOK.str2_own (entersF_of Tryd.func23 (by kernel_rfl) (show Tryd.f23.body = some (bodyOf Tryd.f23) by kernel_rfl)) (fun w s t y hI hy => split_calls w s t y (g_max hI) hy)

noncomputable def i_within (x : Ty.T (.pair (.int .i64) (.pair (.int .i64) (.pair (.int .i64) .unit)))) : Option (Ty.T (.pair .bool .unit)) :=
match (decide (x.1 ≥ x.2.1)) with
| true =>
 some ((decide (x.1 ≤ x.2.2.1)), ())
| false =>
 some (false, ())
noncomputable def S_i_within : Spec := ⟨(.pair (.int .i64) (.pair (.int .i64) (.pair (.int .i64) .unit))), (.pair .bool .unit), .unit, rfl, i_within⟩
noncomputable def σ_i_within : FuncId → Option Spec := sig []
theorem σok_i_within : ∀ f s, σ_i_within f = some s → FnOK G0 Tryd.prog f s := sig_ok (l := []) trivial
noncomputable def Λ_i_within : Nat → Option LSpec := lkp (loopList (bodyOf Tryd.f40)) []
theorem ok_i_within : FnOK G0 Tryd.prog 40 S_i_within := fn_ok (Λ := Λ_i_within) tab0 σok_i_within Tryd.func40 (by kernel_rfl) (show Tryd.f40.body = some (bodyOf Tryd.f40) by kernel_rfl) [] rfl (by kernel_rfl) (by exact trivial) (by kernel_rfl)
  fun x y h => (show execFn Γ0 E0 σ_i_within Λ_i_within Tryd.f40 S_i_within x = i_within x by kernel_rfl).trans h

noncomputable def i_isVector (x : Ty.T (.pair (.int .i64) .unit)) : Option (Ty.T (.pair .bool .unit)) :=
match i_within (x.1, (0 : Int), (4294967295 : Int), ()) with
| none => none
| some v1 =>
some (v1.1, ())
noncomputable def S_i_isVector : Spec := ⟨(.pair (.int .i64) .unit), (.pair .bool .unit), .unit, rfl, i_isVector⟩
noncomputable def σ_i_isVector : FuncId → Option Spec := sig [(40, S_i_within)]
theorem σok_i_isVector : ∀ f s, σ_i_isVector f = some s → FnOK G0 Tryd.prog f s := sig_ok (l := [(40, S_i_within)]) ⟨ok_i_within, trivial⟩
noncomputable def Λ_i_isVector : Nat → Option LSpec := lkp (loopList (bodyOf Tryd.f60)) []
theorem ok_i_isVector : FnOK G0 Tryd.prog 60 S_i_isVector := fn_ok (Λ := Λ_i_isVector) tab0 σok_i_isVector Tryd.func60 (by kernel_rfl) (show Tryd.f60.body = some (bodyOf Tryd.f60) by kernel_rfl) [] rfl (by kernel_rfl) (by exact trivial) (by kernel_rfl)
  fun x y h => (show execFn Γ0 E0 σ_i_isVector Λ_i_isVector Tryd.f60 S_i_isVector x = i_isVector x by kernel_rfl).trans h

noncomputable def i_IsState (x : Ty.T (.pair TState .unit)) : Option (Ty.T (.pair .bool .unit)) :=
match i_within (x.1.1, (0 : Int), (65535 : Int), ()) with
| none => none
| some v1 =>
match v1.1 with
| true =>
 match i_within (x.1.2.1, (0 : Int), (15 : Int), ()) with
 | none => none
 | some v2 =>
 match v2.1 with
 | true =>
  match i_within (x.1.2.2.1, (0 : Int), (15 : Int), ()) with
  | none => none
  | some v3 =>
  match v3.1 with
  | true =>
   match i_within (x.1.2.2.2.1, (0 : Int), (255 : Int), ()) with
   | none => none
   | some v4 =>
   match v4.1 with
   | true =>
    match i_isVector (x.1.2.2.2.2.1, ()) with
    | none => none
    | some v5 =>
    some (v5.1, ())
   | false =>
    some (false, ())
  | false =>
   some (false, ())
 | false =>
  some (false, ())
| false =>
 some (false, ())
noncomputable def S_i_IsState : Spec := ⟨(.pair TState .unit), (.pair .bool .unit), .unit, rfl, i_IsState⟩
noncomputable def σ_i_IsState : FuncId → Option Spec := sig [(40, S_i_within), (60, S_i_isVector)]
theorem σok_i_IsState : ∀ f s, σ_i_IsState f = some s → FnOK G0 Tryd.prog f s := sig_ok (l := [(40, S_i_within), (60, S_i_isVector)]) ⟨ok_i_within, ok_i_isVector, trivial⟩
noncomputable def Λ_i_IsState : Nat → Option LSpec := lkp (loopList (bodyOf Tryd.f38)) []
theorem ok_i_IsState : FnOK G0 Tryd.prog 38 S_i_IsState := fn_ok (Λ := Λ_i_IsState) tab0 σok_i_IsState Tryd.func38 (by kernel_rfl) (show Tryd.f38.body = some (bodyOf Tryd.f38) by kernel_rfl) [] rfl (by kernel_rfl) (by exact trivial) (by kernel_rfl)
  fun x y h => (show execFn Γ0 E0 σ_i_IsState Λ_i_IsState Tryd.f38 S_i_IsState x = i_IsState x by kernel_rfl).trans h

noncomputable def i_number (x : Ty.T TerrorString) : Option (Ty.T (.pair (.int .i64) (.pair .bool .unit))) := onSome (numF x.1) fun y => some (y.1, y.2, ())
noncomputable def S_i_number : Spec := ⟨TerrorString, (.pair (.int .i64) (.pair .bool .unit)), .unit, rfl, i_number⟩
theorem ok_i_number : FnOK G0 Tryd.prog 25 S_i_number := FnOK.str_ib (entersF_of Tryd.func25 (by kernel_rfl) (show Tryd.f25.body = some (bodyOf Tryd.f25) by kernel_rfl)) (fun w s y hI hy => number_calls w s y (g_tab hI) (g_es hI) (g_er hI) hy)

noncomputable def b_i_numbersIn_3 (x : (Ty.T (.pair (.own 2 (.int .i64)) (.pair (.own 9 .str) (.pair (.int .i64) (.pair (.int .i64) .unit)))))) : Option ((Ty.T (.pair (.own 2 (.int .i64)) (.pair (.own 9 .str) (.pair (.int .i64) (.pair (.int .i64) .unit))))) ⊕ ((Ty.T (.pair (.own 2 (.int .i64)) .unit)) ⊕ (Ty.T (.pair (.own 2 (.int .i64)) (.pair .bool .unit))))) :=
match (decide (x.2.2.2.1 < x.2.2.1)) with
| true =>
 onSome (idx x.2.1 x.2.2.2.1) fun _ =>
 match x.2.1[x.2.2.2.1.toNat]? with
 | none => none
 | some v3 =>
 match i_number (v3, ()) with
 | none => none
 | some v4 =>
 match (!v4.2.1) with
 | true =>
  some (.inr (.inr ([], false, ())))
 | false =>
  room (x.1.length + [v4.1].length) (
   some (.inl ((x.1 ++ [v4.1]), x.2.1, x.2.2.1, (IntKind.i64.wrap (x.2.2.2.1 + (1 : Int))), ())))
| false =>
 some (.inr (.inl (x.1, ())))
noncomputable def i_numbersIn (x : Ty.T (.pair .str TerrorString)) : Option (Ty.T (.pair (.list (.int .i64)) (.pair .bool .unit))) :=
match strings_Split (x.1, x.2.1, ()) with
| none => none
| some v1 =>
match loopL b_i_numbersIn_3 ([], v1.1, (v1.1.length : Int), (0 : Int), ()) with
| none => none
| some (.inl v5) =>
 some (v5.1, true, ())
| some (.inr v6) =>
 some (v6.1, v6.2.1, ())
noncomputable def S_i_numbersIn : Spec := ⟨(.pair .str TerrorString), (.pair (.list (.int .i64)) (.pair .bool .unit)), .unit, rfl, i_numbersIn⟩
noncomputable def σ_i_numbersIn : FuncId → Option Spec := sig [(23, S_strings_Split), (25, S_i_number)]
theorem σok_i_numbersIn : ∀ f s, σ_i_numbersIn f = some s → FnOK G0 Tryd.prog f s := sig_ok (l := [(23, S_strings_Split), (25, S_i_number)]) ⟨ok_strings_Split, ok_i_number, trivial⟩
noncomputable def Λ_i_numbersIn : Nat → Option LSpec := lkp (loopList (bodyOf Tryd.f49)) [⟨[6, 14, 15, 16], (.pair (.own 2 (.int .i64)) (.pair (.own 9 .str) (.pair (.int .i64) (.pair (.int .i64) .unit)))), 0, [6], (.pair (.own 2 (.int .i64)) .unit), [4, 5], (.pair (.own 2 (.int .i64)) (.pair .bool .unit)), loopL b_i_numbersIn_3⟩]
theorem lok_i_numbersIn_3 (x) : codeK Γ0 E0 σ_i_numbersIn Λ_i_numbersIn Tryd.f49.ntmps (nthLoop Tryd.f49 0) (mkF Tryd.f49.ntmps [6, 14, 15, 16] (.pair (.own 2 (.int .i64)) (.pair (.own 9 .str) (.pair (.int .i64) (.pair (.int .i64) .unit)))) x) (readK σ_i_numbersIn Tryd.f49.ntmps [6, 14, 15, 16] (.pair (.own 2 (.int .i64)) (.pair (.own 9 .str) (.pair (.int .i64) (.pair (.int .i64) .unit)))) 0 [6] (.pair (.own 2 (.int .i64)) .unit) [4, 5] (.pair (.own 2 (.int .i64)) (.pair .bool .unit))) = b_i_numbersIn_3 x := by kernel_rfl
theorem ok_i_numbersIn : FnOK G0 Tryd.prog 49 S_i_numbersIn := fn_ok (Λ := Λ_i_numbersIn) tab0 σok_i_numbersIn Tryd.func49 (by kernel_rfl) (show Tryd.f49.body = some (bodyOf Tryd.f49) by kernel_rfl) [⟨[6, 14, 15, 16], (.pair (.own 2 (.int .i64)) (.pair (.own 9 .str) (.pair (.int .i64) (.pair (.int .i64) .unit)))), 0, [6], (.pair (.own 2 (.int .i64)) .unit), [4, 5], (.pair (.own 2 (.int .i64)) (.pair .bool .unit)), loopL b_i_numbersIn_3⟩] rfl (by kernel_rfl) (by exact ⟨loop_LOK (lok_i_numbersIn_3), trivial⟩) (by kernel_rfl)
  fun x y h => (show execFn Γ0 E0 σ_i_numbersIn Λ_i_numbersIn Tryd.f49 S_i_numbersIn x = i_numbersIn x by kernel_rfl).trans h

noncomputable def i_ReadState (x : Ty.T TerrorString) : Option (Ty.T (.pair TState (.pair .bool .unit))) :=
match i_numbersIn (x.1, ([47] : List UInt8), ()) with
| none => none
| some v1 =>
match (!v1.2.1) with
| true =>
 some (((0 : Int), (0 : Int), (0 : Int), (0 : Int), (0 : Int), ()), false, ())
| false =>
 match ((v1.1.length : Int) != (5 : Int)) with
 | true =>
  some (((0 : Int), (0 : Int), (0 : Int), (0 : Int), (0 : Int), ()), false, ())
 | false =>
  onSome (idx v1.1 (0 : Int)) fun v2 =>
  onSome (idx v1.1 (1 : Int)) fun v3 =>
  onSome (idx v1.1 (2 : Int)) fun v4 =>
  onSome (idx v1.1 (3 : Int)) fun v5 =>
  onSome (idx v1.1 (4 : Int)) fun v6 =>
  same (
   match i_IsState ((v2, v3, v4, v5, v6, ()), ()) with
   | none => none
   | some v7 =>
   match (!v7.1) with
   | true =>
    some (((0 : Int), (0 : Int), (0 : Int), (0 : Int), (0 : Int), ()), false, ())
   | false =>
    some ((v2, v3, v4, v5, v6, ()), true, ()))
noncomputable def S_i_ReadState : Spec := ⟨TerrorString, (.pair TState (.pair .bool .unit)), .unit, rfl, i_ReadState⟩
noncomputable def σ_i_ReadState : FuncId → Option Spec := sig [(38, S_i_IsState), (49, S_i_numbersIn)]
theorem σok_i_ReadState : ∀ f s, σ_i_ReadState f = some s → FnOK G0 Tryd.prog f s := sig_ok (l := [(38, S_i_IsState), (49, S_i_numbersIn)]) ⟨ok_i_IsState, ok_i_numbersIn, trivial⟩
noncomputable def Λ_i_ReadState : Nat → Option LSpec := lkp (loopList (bodyOf Tryd.f24)) []
theorem ok_i_ReadState : FnOK G0 Tryd.prog 24 S_i_ReadState := fn_ok (Λ := Λ_i_ReadState) tab0 σok_i_ReadState Tryd.func24 (by kernel_rfl) (show Tryd.f24.body = some (bodyOf Tryd.f24) by kernel_rfl) [] rfl (by kernel_rfl) (by exact trivial) (by kernel_rfl)
  fun x y h => (show execFn Γ0 E0 σ_i_ReadState Λ_i_ReadState Tryd.f24 S_i_ReadState x = i_ReadState x by kernel_rfl).trans h

noncomputable def i_StatusName (x : Ty.T (.pair (.int .i64) .unit)) : Option (Ty.T TerrorString) := onSome (some (statusN x.1)) fun s => some (s, ())
noncomputable def S_i_StatusName : Spec := ⟨(.pair (.int .i64) .unit), TerrorString, .unit, rfl, i_StatusName⟩
theorem ok_i_StatusName : FnOK G0 Tryd.prog 33 S_i_StatusName := FnOK.int_str (g := fun n => some (statusN n)) (entersF_of Tryd.func33 (by kernel_rfl) (show Tryd.f33.body = some (bodyOf Tryd.f33) by kernel_rfl)) (fun w n s _ hs => Option.some.inj hs ▸ status_calls w n)

noncomputable def b_i_StatusNamed_2 (x : (Ty.T (.pair .str (.pair (.int .i64) .unit)))) : Option ((Ty.T (.pair .str (.pair (.int .i64) .unit))) ⊕ ((Ty.T .unit) ⊕ (Ty.T (.pair (.int .i64) (.pair (.int .i64) .unit))))) :=
match (decide (x.2.1 ≤ (4 : Int))) with
| true =>
 match i_StatusName (x.2.1, ()) with
 | none => none
 | some v1 =>
 match (v1.1 == x.1) with
 | true =>
  some (.inr (.inr (x.2.1, (0 : Int), ())))
 | false =>
  some (.inl (x.1, (IntKind.i64.wrap (x.2.1 + (1 : Int))), ()))
| false =>
 some (.inr (.inl (())))
noncomputable def i_StatusNamed (x : Ty.T TerrorString) : Option (Ty.T (.pair (.int .i64) (.pair (.int .i64) .unit))) :=
match loopL b_i_StatusNamed_2 (x.1, (0 : Int), ()) with
| none => none
| some (.inl v2) =>
 some ((0 : Int), (4 : Int), ())
| some (.inr v3) =>
 some (v3.1, v3.2.1, ())
noncomputable def S_i_StatusNamed : Spec := ⟨TerrorString, (.pair (.int .i64) (.pair (.int .i64) .unit)), .unit, rfl, i_StatusNamed⟩
noncomputable def σ_i_StatusNamed : FuncId → Option Spec := sig [(33, S_i_StatusName)]
theorem σok_i_StatusNamed : ∀ f s, σ_i_StatusNamed f = some s → FnOK G0 Tryd.prog f s := sig_ok (l := [(33, S_i_StatusName)]) ⟨ok_i_StatusName, trivial⟩
noncomputable def Λ_i_StatusNamed : Nat → Option LSpec := lkp (loopList (bodyOf Tryd.f26)) [⟨[0, 4], (.pair .str (.pair (.int .i64) .unit)), 0, [], .unit, [2, 3], (.pair (.int .i64) (.pair (.int .i64) .unit)), loopL b_i_StatusNamed_2⟩]
theorem lok_i_StatusNamed_2 (x) : codeK Γ0 E0 σ_i_StatusNamed Λ_i_StatusNamed Tryd.f26.ntmps (nthLoop Tryd.f26 0) (mkF Tryd.f26.ntmps [0, 4] (.pair .str (.pair (.int .i64) .unit)) x) (readK σ_i_StatusNamed Tryd.f26.ntmps [0, 4] (.pair .str (.pair (.int .i64) .unit)) 0 [] .unit [2, 3] (.pair (.int .i64) (.pair (.int .i64) .unit))) = b_i_StatusNamed_2 x := by kernel_rfl
theorem ok_i_StatusNamed : FnOK G0 Tryd.prog 26 S_i_StatusNamed := fn_ok (Λ := Λ_i_StatusNamed) tab0 σok_i_StatusNamed Tryd.func26 (by kernel_rfl) (show Tryd.f26.body = some (bodyOf Tryd.f26) by kernel_rfl) [⟨[0, 4], (.pair .str (.pair (.int .i64) .unit)), 0, [], .unit, [2, 3], (.pair (.int .i64) (.pair (.int .i64) .unit)), loopL b_i_StatusNamed_2⟩] rfl (by kernel_rfl) (by exact ⟨loop_LOK (lok_i_StatusNamed_2), trivial⟩) (by kernel_rfl)
  fun x y h => (show execFn Γ0 E0 σ_i_StatusNamed Λ_i_StatusNamed Tryd.f26 S_i_StatusNamed x = i_StatusNamed x by kernel_rfl).trans h

noncomputable def b_slices_IndexFunc_Mark_2 (x : (Ty.T (.pair (.list TMark) (.pair (.fn (.pair TMark .unit) (.pair .bool .unit)) (.pair (.int .i64) (.pair (.int .i64) .unit)))))) : Option ((Ty.T (.pair (.list TMark) (.pair (.fn (.pair TMark .unit) (.pair .bool .unit)) (.pair (.int .i64) (.pair (.int .i64) .unit))))) ⊕ ((Ty.T .unit) ⊕ (Ty.T (.pair (.int .i64) .unit)))) :=
match (decide (x.2.2.2.1 < x.2.2.1)) with
| true =>
 onSome (idx x.1 x.2.2.2.1) fun v1 =>
 match x.2.1 (v1, ()) with
 | none => none
 | some v2 =>
 match v2.1 with
 | true =>
  some (.inr (.inr (x.2.2.2.1, ())))
 | false =>
  some (.inl (x.1, x.2.1, x.2.2.1, (IntKind.i64.wrap (x.2.2.2.1 + (1 : Int))), ()))
| false =>
 some (.inr (.inl (())))
noncomputable def slices_IndexFunc_Mark (x : Ty.T (.pair (.list TMark) (.pair (.fn (.pair TMark .unit) (.pair .bool .unit)) .unit))) : Option (Ty.T (.pair (.int .i64) .unit)) :=
match loopL b_slices_IndexFunc_Mark_2 (x.1, x.2.1, (x.1.length : Int), (0 : Int), ()) with
| none => none
| some (.inl v3) =>
 some ((-1 : Int), ())
| some (.inr v4) =>
 some (v4.1, ())
noncomputable def S_slices_IndexFunc_Mark : Spec := ⟨(.pair (.list TMark) (.pair (.fn (.pair TMark .unit) (.pair .bool .unit)) .unit)), (.pair (.int .i64) .unit), .unit, rfl, slices_IndexFunc_Mark⟩
noncomputable def σ_slices_IndexFunc_Mark : FuncId → Option Spec := sig []
theorem σok_slices_IndexFunc_Mark : ∀ f s, σ_slices_IndexFunc_Mark f = some s → FnOK G0 Tryd.prog f s := sig_ok (l := []) trivial
noncomputable def Λ_slices_IndexFunc_Mark : Nat → Option LSpec := lkp (loopList (bodyOf Tryd.f69)) [⟨[0, 1, 7, 8], (.pair (.list TMark) (.pair (.fn (.pair TMark .unit) (.pair .bool .unit)) (.pair (.int .i64) (.pair (.int .i64) .unit)))), 0, [], .unit, [4], (.pair (.int .i64) .unit), loopL b_slices_IndexFunc_Mark_2⟩]
theorem lok_slices_IndexFunc_Mark_2 (x) : codeK Γ0 E0 σ_slices_IndexFunc_Mark Λ_slices_IndexFunc_Mark Tryd.f69.ntmps (nthLoop Tryd.f69 0) (mkF Tryd.f69.ntmps [0, 1, 7, 8] (.pair (.list TMark) (.pair (.fn (.pair TMark .unit) (.pair .bool .unit)) (.pair (.int .i64) (.pair (.int .i64) .unit)))) x) (readK σ_slices_IndexFunc_Mark Tryd.f69.ntmps [0, 1, 7, 8] (.pair (.list TMark) (.pair (.fn (.pair TMark .unit) (.pair .bool .unit)) (.pair (.int .i64) (.pair (.int .i64) .unit)))) 0 [] .unit [4] (.pair (.int .i64) .unit)) = b_slices_IndexFunc_Mark_2 x := by kernel_rfl
theorem ok_slices_IndexFunc_Mark : FnOK G0 Tryd.prog 69 S_slices_IndexFunc_Mark := fn_ok (Λ := Λ_slices_IndexFunc_Mark) tab0 σok_slices_IndexFunc_Mark Tryd.func69 (by kernel_rfl) (show Tryd.f69.body = some (bodyOf Tryd.f69) by kernel_rfl) [⟨[0, 1, 7, 8], (.pair (.list TMark) (.pair (.fn (.pair TMark .unit) (.pair .bool .unit)) (.pair (.int .i64) (.pair (.int .i64) .unit)))), 0, [], .unit, [4], (.pair (.int .i64) .unit), loopL b_slices_IndexFunc_Mark_2⟩] rfl (by kernel_rfl) (by exact ⟨loop_LOK (lok_slices_IndexFunc_Mark_2), trivial⟩) (by kernel_rfl)
  fun x y h => (show execFn Γ0 E0 σ_slices_IndexFunc_Mark Λ_slices_IndexFunc_Mark Tryd.f69 S_slices_IndexFunc_Mark x = slices_IndexFunc_Mark x by kernel_rfl).trans h

noncomputable def slices_ContainsFunc_Mark (x : Ty.T (.pair (.list TMark) (.pair (.fn (.pair TMark .unit) (.pair .bool .unit)) .unit))) : Option (Ty.T (.pair .bool .unit)) :=
match slices_IndexFunc_Mark (x.1, x.2.1, ()) with
| none => none
| some v1 =>
some ((decide (v1.1 ≥ (0 : Int))), ())
noncomputable def S_slices_ContainsFunc_Mark : Spec := ⟨(.pair (.list TMark) (.pair (.fn (.pair TMark .unit) (.pair .bool .unit)) .unit)), (.pair .bool .unit), .unit, rfl, slices_ContainsFunc_Mark⟩
noncomputable def σ_slices_ContainsFunc_Mark : FuncId → Option Spec := sig [(69, S_slices_IndexFunc_Mark)]
theorem σok_slices_ContainsFunc_Mark : ∀ f s, σ_slices_ContainsFunc_Mark f = some s → FnOK G0 Tryd.prog f s := sig_ok (l := [(69, S_slices_IndexFunc_Mark)]) ⟨ok_slices_IndexFunc_Mark, trivial⟩
noncomputable def Λ_slices_ContainsFunc_Mark : Nat → Option LSpec := lkp (loopList (bodyOf Tryd.f51)) []
theorem ok_slices_ContainsFunc_Mark : FnOK G0 Tryd.prog 51 S_slices_ContainsFunc_Mark := fn_ok (Λ := Λ_slices_ContainsFunc_Mark) tab0 σok_slices_ContainsFunc_Mark Tryd.func51 (by kernel_rfl) (show Tryd.f51.body = some (bodyOf Tryd.f51) by kernel_rfl) [] rfl (by kernel_rfl) (by exact trivial) (by kernel_rfl)
  fun x y h => (show execFn Γ0 E0 σ_slices_ContainsFunc_Mark Λ_slices_ContainsFunc_Mark Tryd.f51 S_slices_ContainsFunc_Mark x = slices_ContainsFunc_Mark x by kernel_rfl).trans h

noncomputable def i_isNode (x : Ty.T (.pair (.int .i64) .unit)) : Option (Ty.T (.pair .bool .unit)) :=
match i_within (x.1, (0 : Int), (31 : Int), ()) with
| none => none
| some v1 =>
some (v1.1, ())
noncomputable def S_i_isNode : Spec := ⟨(.pair (.int .i64) .unit), (.pair .bool .unit), .unit, rfl, i_isNode⟩
noncomputable def σ_i_isNode : FuncId → Option Spec := sig [(40, S_i_within)]
theorem σok_i_isNode : ∀ f s, σ_i_isNode f = some s → FnOK G0 Tryd.prog f s := sig_ok (l := [(40, S_i_within)]) ⟨ok_i_within, trivial⟩
noncomputable def Λ_i_isNode : Nat → Option LSpec := lkp (loopList (bodyOf Tryd.f39)) []
theorem ok_i_isNode : FnOK G0 Tryd.prog 39 S_i_isNode := fn_ok (Λ := Λ_i_isNode) tab0 σok_i_isNode Tryd.func39 (by kernel_rfl) (show Tryd.f39.body = some (bodyOf Tryd.f39) by kernel_rfl) [] rfl (by kernel_rfl) (by exact trivial) (by kernel_rfl)
  fun x y h => (show execFn Γ0 E0 σ_i_isNode Λ_i_isNode Tryd.f39 S_i_isNode x = i_isNode x by kernel_rfl).trans h

noncomputable def i_IsMark (x : Ty.T (.pair TMark .unit)) : Option (Ty.T (.pair .bool .unit)) :=
match i_IsState ((x.1.1.1, x.1.1.2.1, x.1.1.2.2.1, x.1.1.2.2.2.1, x.1.1.2.2.2.2.1, ()), ()) with
| none => none
| some v1 =>
match v1.1 with
| true =>
 match i_isNode (x.1.2.1, ()) with
 | none => none
 | some v2 =>
 match v2.1 with
 | true =>
  match i_within (x.1.2.2.1, (0 : Int), (4 : Int), ()) with
  | none => none
  | some v3 =>
  some (v3.1, ())
 | false =>
  some (false, ())
| false =>
 some (false, ())
noncomputable def S_i_IsMark : Spec := ⟨(.pair TMark .unit), (.pair .bool .unit), .unit, rfl, i_IsMark⟩
noncomputable def σ_i_IsMark : FuncId → Option Spec := sig [(38, S_i_IsState), (39, S_i_isNode), (40, S_i_within)]
theorem σok_i_IsMark : ∀ f s, σ_i_IsMark f = some s → FnOK G0 Tryd.prog f s := sig_ok (l := [(38, S_i_IsState), (39, S_i_isNode), (40, S_i_within)]) ⟨ok_i_IsState, ok_i_isNode, ok_i_within, trivial⟩
noncomputable def Λ_i_IsMark : Nat → Option LSpec := lkp (loopList (bodyOf Tryd.f17)) []
theorem ok_i_IsMark : FnOK G0 Tryd.prog 17 S_i_IsMark := fn_ok (Λ := Λ_i_IsMark) tab0 σok_i_IsMark Tryd.func17 (by kernel_rfl) (show Tryd.f17.body = some (bodyOf Tryd.f17) by kernel_rfl) [] rfl (by kernel_rfl) (by exact trivial) (by kernel_rfl)
  fun x y h => (show execFn Γ0 E0 σ_i_IsMark Λ_i_IsMark Tryd.f17 S_i_IsMark x = i_IsMark x by kernel_rfl).trans h

noncomputable def i_isTrace_1 (x : Ty.T (.pair TMark .unit)) : Option (Ty.T (.pair .bool .unit)) :=
match i_IsMark (((x.1.1.1, x.1.1.2.1, x.1.1.2.2.1, x.1.1.2.2.2.1, x.1.1.2.2.2.2.1, ()), x.1.2.1, x.1.2.2.1, ()), ()) with
| none => none
| some v1 =>
some ((!v1.1), ())
noncomputable def S_i_isTrace_1 : Spec := ⟨(.pair TMark .unit), (.pair .bool .unit), .unit, rfl, i_isTrace_1⟩
noncomputable def σ_i_isTrace_1 : FuncId → Option Spec := sig [(17, S_i_IsMark)]
theorem σok_i_isTrace_1 : ∀ f s, σ_i_isTrace_1 f = some s → FnOK G0 Tryd.prog f s := sig_ok (l := [(17, S_i_IsMark)]) ⟨ok_i_IsMark, trivial⟩
noncomputable def Λ_i_isTrace_1 : Nat → Option LSpec := lkp (loopList (bodyOf Tryd.f52)) []
theorem ok_i_isTrace_1 : FnOK G0 Tryd.prog 52 S_i_isTrace_1 := fn_ok (Λ := Λ_i_isTrace_1) tab0 σok_i_isTrace_1 Tryd.func52 (by kernel_rfl) (show Tryd.f52.body = some (bodyOf Tryd.f52) by kernel_rfl) [] rfl (by kernel_rfl) (by exact trivial) (by kernel_rfl)
  fun x y h => (show execFn Γ0 E0 σ_i_isTrace_1 Λ_i_isTrace_1 Tryd.f52 S_i_isTrace_1 x = i_isTrace_1 x by kernel_rfl).trans h

noncomputable def i_isTrace (x : Ty.T (.pair (.list TMark) .unit)) : Option (Ty.T (.pair .bool .unit)) :=
match (decide ((x.1.length : Int) ≤ (60 : Int))) with
| true =>
 match slices_ContainsFunc_Mark (x.1, i_isTrace_1, ()) with
 | none => none
 | some v1 =>
 some ((!v1.1), ())
| false =>
 some (false, ())
noncomputable def S_i_isTrace : Spec := ⟨(.pair (.list TMark) .unit), (.pair .bool .unit), .unit, rfl, i_isTrace⟩
noncomputable def σ_i_isTrace : FuncId → Option Spec := sig [(51, S_slices_ContainsFunc_Mark), (52, S_i_isTrace_1)]
theorem σok_i_isTrace : ∀ f s, σ_i_isTrace f = some s → FnOK G0 Tryd.prog f s := sig_ok (l := [(51, S_slices_ContainsFunc_Mark), (52, S_i_isTrace_1)]) ⟨ok_slices_ContainsFunc_Mark, ok_i_isTrace_1, trivial⟩
noncomputable def Λ_i_isTrace : Nat → Option LSpec := lkp (loopList (bodyOf Tryd.f27)) []
theorem ok_i_isTrace : FnOK G0 Tryd.prog 27 S_i_isTrace := fn_ok (Λ := Λ_i_isTrace) tab0 σok_i_isTrace Tryd.func27 (by kernel_rfl) (show Tryd.f27.body = some (bodyOf Tryd.f27) by kernel_rfl) [] rfl (by kernel_rfl) (by exact trivial) (by kernel_rfl)
  fun x y h => (show execFn Γ0 E0 σ_i_isTrace Λ_i_isTrace Tryd.f27 S_i_isTrace x = i_isTrace x by kernel_rfl).trans h

noncomputable def b_i_ReadTrace_2 (x : (Ty.T (.pair .str (.pair (.own 36 TMark) .unit)))) : Option ((Ty.T (.pair .str (.pair (.own 36 TMark) .unit))) ⊕ ((Ty.T (.pair (.own 36 TMark) .unit)) ⊕ (Ty.T (.pair (.own 36 TMark) (.pair .bool .unit))))) :=
match (decide ((x.1.length : Int) > (0 : Int))) with
| true =>
 match strings_Cut (x.1, ([10] : List UInt8), ()) with
 | none => none
 | some v1 =>
 match strings_Split (v1.1, ([32] : List UInt8), ()) with
 | none => none
 | some v2 =>
 match (!v1.2.2.1) with
 | true =>
  some (.inr (.inr ([], false, ())))
 | false =>
  match ((v2.1.length : Int) != (3 : Int)) with
  | true =>
   some (.inr (.inr ([], false, ())))
  | false =>
   onSome (idx v2.1 (0 : Int)) fun _ =>
   match v2.1[(0 : Int).toNat]? with
   | none => none
   | some v4 =>
   match i_ReadState (v4, ()) with
   | none => none
   | some v5 =>
   onSome (idx v2.1 (1 : Int)) fun _ =>
   match v2.1[(1 : Int).toNat]? with
   | none => none
   | some v7 =>
   match i_number (v7, ()) with
   | none => none
   | some v8 =>
   onSome (idx v2.1 (2 : Int)) fun _ =>
   match v2.1[(2 : Int).toNat]? with
   | none => none
   | some v10 =>
   match i_StatusNamed (v10, ()) with
   | none => none
   | some v11 =>
   match (!v5.2.1) with
   | true =>
    some (.inr (.inr ([], false, ())))
   | false =>
    match (!v8.2.1) with
    | true =>
     some (.inr (.inr ([], false, ())))
    | false =>
     match (v11.2.1 != (0 : Int)) with
     | true =>
      some (.inr (.inr ([], false, ())))
     | false =>
      room (x.2.1.length + [((v5.1.1, v5.1.2.1, v5.1.2.2.1, v5.1.2.2.2.1, v5.1.2.2.2.2.1, ()), v8.1, v11.1, ())].length) (
       some (.inl (v1.2.1, (x.2.1 ++ [((v5.1.1, v5.1.2.1, v5.1.2.2.1, v5.1.2.2.2.1, v5.1.2.2.2.2.1, ()), v8.1, v11.1, ())]), ())))
| false =>
 some (.inr (.inl (x.2.1, ())))
noncomputable def i_ReadTrace (x : Ty.T TerrorString) : Option (Ty.T (.pair (.own 36 TMark) (.pair .bool .unit))) :=
match loopL b_i_ReadTrace_2 (x.1, [], ()) with
| none => none
| some (.inl v12) =>
 match i_isTrace (v12.1, ()) with
 | none => none
 | some v14 =>
 match (!v14.1) with
 | true =>
  some ([], false, ())
 | false =>
  some (v12.1, true, ())
| some (.inr v13) =>
 some (v13.1, v13.2.1, ())
noncomputable def S_i_ReadTrace : Spec := ⟨TerrorString, (.pair (.own 36 TMark) (.pair .bool .unit)), .unit, rfl, i_ReadTrace⟩
noncomputable def σ_i_ReadTrace : FuncId → Option Spec := sig [(22, S_strings_Cut), (23, S_strings_Split), (24, S_i_ReadState), (25, S_i_number), (26, S_i_StatusNamed), (27, S_i_isTrace)]
theorem σok_i_ReadTrace : ∀ f s, σ_i_ReadTrace f = some s → FnOK G0 Tryd.prog f s := sig_ok (l := [(22, S_strings_Cut), (23, S_strings_Split), (24, S_i_ReadState), (25, S_i_number), (26, S_i_StatusNamed), (27, S_i_isTrace)]) ⟨ok_strings_Cut, ok_strings_Split, ok_i_ReadState, ok_i_number, ok_i_StatusNamed, ok_i_isTrace, trivial⟩
noncomputable def Λ_i_ReadTrace : Nat → Option LSpec := lkp (loopList (bodyOf Tryd.f6)) [⟨[0, 4], (.pair .str (.pair (.own 36 TMark) .unit)), 0, [4], (.pair (.own 36 TMark) .unit), [2, 3], (.pair (.own 36 TMark) (.pair .bool .unit)), loopL b_i_ReadTrace_2⟩]
theorem lok_i_ReadTrace_2 (x) : codeK Γ0 E0 σ_i_ReadTrace Λ_i_ReadTrace Tryd.f6.ntmps (nthLoop Tryd.f6 0) (mkF Tryd.f6.ntmps [0, 4] (.pair .str (.pair (.own 36 TMark) .unit)) x) (readK σ_i_ReadTrace Tryd.f6.ntmps [0, 4] (.pair .str (.pair (.own 36 TMark) .unit)) 0 [4] (.pair (.own 36 TMark) .unit) [2, 3] (.pair (.own 36 TMark) (.pair .bool .unit))) = b_i_ReadTrace_2 x := by kernel_rfl
theorem ok_i_ReadTrace : FnOK G0 Tryd.prog 6 S_i_ReadTrace := fn_ok (Λ := Λ_i_ReadTrace) tab0 σok_i_ReadTrace Tryd.func6 (by kernel_rfl) (show Tryd.f6.body = some (bodyOf Tryd.f6) by kernel_rfl) [⟨[0, 4], (.pair .str (.pair (.own 36 TMark) .unit)), 0, [4], (.pair (.own 36 TMark) .unit), [2, 3], (.pair (.own 36 TMark) (.pair .bool .unit)), loopL b_i_ReadTrace_2⟩] rfl (by kernel_rfl) (by exact ⟨loop_LOK (lok_i_ReadTrace_2), trivial⟩) (by kernel_rfl)
  fun x y h => (show execFn Γ0 E0 σ_i_ReadTrace Λ_i_ReadTrace Tryd.f6 S_i_ReadTrace x = i_ReadTrace x by kernel_rfl).trans h

noncomputable def l_eqState (x : Ty.T (.pair TState (.pair TState .unit))) : Option (Ty.T (.pair .bool .unit)) :=
match (x.1.1 != x.2.1.1) with
| true =>
 some (false, ())
| false =>
 match (x.1.2.1 != x.2.1.2.1) with
 | true =>
  some (false, ())
 | false =>
  match (x.1.2.2.1 != x.2.1.2.2.1) with
  | true =>
   some (false, ())
  | false =>
   match (x.1.2.2.2.1 != x.2.1.2.2.2.1) with
   | true =>
    some (false, ())
   | false =>
    match (x.1.2.2.2.2.1 != x.2.1.2.2.2.2.1) with
    | true =>
     some (false, ())
    | false =>
     some (true, ())
noncomputable def S_l_eqState : Spec := ⟨(.pair TState (.pair TState .unit)), (.pair .bool .unit), .unit, rfl, l_eqState⟩
noncomputable def σ_l_eqState : FuncId → Option Spec := sig []
theorem σok_l_eqState : ∀ f s, σ_l_eqState f = some s → FnOK G0 Tryd.prog f s := sig_ok (l := []) trivial
noncomputable def Λ_l_eqState : Nat → Option LSpec := lkp (loopList (bodyOf Tryd.f53)) []
theorem ok_l_eqState : FnOK G0 Tryd.prog 53 S_l_eqState := fn_ok (Λ := Λ_l_eqState) tab0 σok_l_eqState Tryd.func53 (by kernel_rfl) (show Tryd.f53.body = some (bodyOf Tryd.f53) by kernel_rfl) [] rfl (by kernel_rfl) (by exact trivial) (by kernel_rfl)
  fun x y h => (show execFn Γ0 E0 σ_l_eqState Λ_l_eqState Tryd.f53 S_l_eqState x = l_eqState x by kernel_rfl).trans h

noncomputable def l_eqMark (x : Ty.T (.pair TMark (.pair TMark .unit))) : Option (Ty.T (.pair .bool .unit)) :=
match l_eqState ((x.1.1.1, x.1.1.2.1, x.1.1.2.2.1, x.1.1.2.2.2.1, x.1.1.2.2.2.2.1, ()), (x.2.1.1.1, x.2.1.1.2.1, x.2.1.1.2.2.1, x.2.1.1.2.2.2.1, x.2.1.1.2.2.2.2.1, ()), ()) with
| none => none
| some v1 =>
match (!v1.1) with
| true =>
 some (false, ())
| false =>
 match (x.1.2.1 != x.2.1.2.1) with
 | true =>
  some (false, ())
 | false =>
  match (x.1.2.2.1 != x.2.1.2.2.1) with
  | true =>
   some (false, ())
  | false =>
   some (true, ())
noncomputable def S_l_eqMark : Spec := ⟨(.pair TMark (.pair TMark .unit)), (.pair .bool .unit), .unit, rfl, l_eqMark⟩
noncomputable def σ_l_eqMark : FuncId → Option Spec := sig [(53, S_l_eqState)]
theorem σok_l_eqMark : ∀ f s, σ_l_eqMark f = some s → FnOK G0 Tryd.prog f s := sig_ok (l := [(53, S_l_eqState)]) ⟨ok_l_eqState, trivial⟩
noncomputable def Λ_l_eqMark : Nat → Option LSpec := lkp (loopList (bodyOf Tryd.f28)) []
theorem ok_l_eqMark : FnOK G0 Tryd.prog 28 S_l_eqMark := fn_ok (Λ := Λ_l_eqMark) tab0 σok_l_eqMark Tryd.func28 (by kernel_rfl) (show Tryd.f28.body = some (bodyOf Tryd.f28) by kernel_rfl) [] rfl (by kernel_rfl) (by exact trivial) (by kernel_rfl)
  fun x y h => (show execFn Γ0 E0 σ_l_eqMark Λ_l_eqMark Tryd.f28 S_l_eqMark x = l_eqMark x by kernel_rfl).trans h

noncomputable def b_l_eqMarkS_4 (x : (Ty.T (.pair (.list TMark) (.pair (.list TMark) (.pair (.int .i64) .unit))))) : Option ((Ty.T (.pair (.list TMark) (.pair (.list TMark) (.pair (.int .i64) .unit)))) ⊕ ((Ty.T .unit) ⊕ (Ty.T (.pair .bool .unit)))) :=
match (decide (x.2.2.1 < (x.1.length : Int))) with
| true =>
 onSome (idx x.1 x.2.2.1) fun v1 =>
 onSome (idx x.2.1 x.2.2.1) fun v2 =>
 match l_eqMark (v1, v2, ()) with
 | none => none
 | some v3 =>
 match (!v3.1) with
 | true =>
  some (.inr (.inr (false, ())))
 | false =>
  some (.inl (x.1, x.2.1, (IntKind.i64.wrap (x.2.2.1 + (1 : Int))), ()))
| false =>
 some (.inr (.inl (())))
noncomputable def l_eqMarkS (x : Ty.T (.pair (.list TMark) (.pair (.list TMark) .unit))) : Option (Ty.T (.pair .bool .unit)) :=
match ((x.1.length : Int) != (x.2.1.length : Int)) with
| true =>
 some (false, ())
| false =>
 match loopL b_l_eqMarkS_4 (x.1, x.2.1, (0 : Int), ()) with
 | none => none
 | some (.inl v4) =>
  some (true, ())
 | some (.inr v5) =>
  some (v5.1, ())
noncomputable def S_l_eqMarkS : Spec := ⟨(.pair (.list TMark) (.pair (.list TMark) .unit)), (.pair .bool .unit), .unit, rfl, l_eqMarkS⟩
noncomputable def σ_l_eqMarkS : FuncId → Option Spec := sig [(28, S_l_eqMark)]
theorem σok_l_eqMarkS : ∀ f s, σ_l_eqMarkS f = some s → FnOK G0 Tryd.prog f s := sig_ok (l := [(28, S_l_eqMark)]) ⟨ok_l_eqMark, trivial⟩
noncomputable def Λ_l_eqMarkS : Nat → Option LSpec := lkp (loopList (bodyOf Tryd.f7)) [⟨[0, 1, 5], (.pair (.list TMark) (.pair (.list TMark) (.pair (.int .i64) .unit))), 0, [], .unit, [4], (.pair .bool .unit), loopL b_l_eqMarkS_4⟩]
theorem lok_l_eqMarkS_4 (x) : codeK Γ0 E0 σ_l_eqMarkS Λ_l_eqMarkS Tryd.f7.ntmps (nthLoop Tryd.f7 0) (mkF Tryd.f7.ntmps [0, 1, 5] (.pair (.list TMark) (.pair (.list TMark) (.pair (.int .i64) .unit))) x) (readK σ_l_eqMarkS Tryd.f7.ntmps [0, 1, 5] (.pair (.list TMark) (.pair (.list TMark) (.pair (.int .i64) .unit))) 0 [] .unit [4] (.pair .bool .unit)) = b_l_eqMarkS_4 x := by kernel_rfl
theorem ok_l_eqMarkS : FnOK G0 Tryd.prog 7 S_l_eqMarkS := fn_ok (Λ := Λ_l_eqMarkS) tab0 σok_l_eqMarkS Tryd.func7 (by kernel_rfl) (show Tryd.f7.body = some (bodyOf Tryd.f7) by kernel_rfl) [⟨[0, 1, 5], (.pair (.list TMark) (.pair (.list TMark) (.pair (.int .i64) .unit))), 0, [], .unit, [4], (.pair .bool .unit), loopL b_l_eqMarkS_4⟩] rfl (by kernel_rfl) (by exact ⟨loop_LOK (lok_l_eqMarkS_4), trivial⟩) (by kernel_rfl)
  fun x y h => (show execFn Γ0 E0 σ_l_eqMarkS Λ_l_eqMarkS Tryd.f7 S_l_eqMarkS x = l_eqMarkS x by kernel_rfl).trans h

noncomputable def b_l_markMarkS_2 (x : (Ty.T (.pair (.own 36 TMark) (.pair (.int .i64) (.pair (.int .i64) .unit))))) : Option ((Ty.T (.pair (.own 36 TMark) (.pair (.int .i64) (.pair (.int .i64) .unit)))) ⊕ ((Ty.T (.pair (.own 36 TMark) (.pair (.int .i64) .unit))) ⊕ (Ty.T .unit))) :=
match (decide (x.2.2.1 < (x.1.length : Int))) with
| true =>
 onSome (idx x.1 x.2.2.1) fun _ =>
 match x.1[x.2.2.1.toNat]? with
 | none => none
 | some v2 =>
 onSome (idx (x.1.set x.2.2.1.toNat ((x.2.1, v2.1.2.1, v2.1.2.2.1, v2.1.2.2.2.1, v2.1.2.2.2.2.1, ()), v2.2.1, v2.2.2.1, ())) x.2.2.1) fun _ =>
 match (x.1.set x.2.2.1.toNat ((x.2.1, v2.1.2.1, v2.1.2.2.1, v2.1.2.2.2.1, v2.1.2.2.2.2.1, ()), v2.2.1, v2.2.2.1, ()))[x.2.2.1.toNat]? with
 | none => none
 | some v4 =>
 onSome (idx ((x.1.set x.2.2.1.toNat ((x.2.1, v2.1.2.1, v2.1.2.2.1, v2.1.2.2.2.1, v2.1.2.2.2.2.1, ()), v2.2.1, v2.2.2.1, ())).set x.2.2.1.toNat ((v4.1.1, (IntKind.i64.wrap (x.2.1 + (1 : Int))), v4.1.2.2.1, v4.1.2.2.2.1, v4.1.2.2.2.2.1, ()), v4.2.1, v4.2.2.1, ())) x.2.2.1) fun _ =>
 match ((x.1.set x.2.2.1.toNat ((x.2.1, v2.1.2.1, v2.1.2.2.1, v2.1.2.2.2.1, v2.1.2.2.2.2.1, ()), v2.2.1, v2.2.2.1, ())).set x.2.2.1.toNat ((v4.1.1, (IntKind.i64.wrap (x.2.1 + (1 : Int))), v4.1.2.2.1, v4.1.2.2.2.1, v4.1.2.2.2.2.1, ()), v4.2.1, v4.2.2.1, ()))[x.2.2.1.toNat]? with
 | none => none
 | some v6 =>
 onSome (idx (((x.1.set x.2.2.1.toNat ((x.2.1, v2.1.2.1, v2.1.2.2.1, v2.1.2.2.2.1, v2.1.2.2.2.2.1, ()), v2.2.1, v2.2.2.1, ())).set x.2.2.1.toNat ((v4.1.1, (IntKind.i64.wrap (x.2.1 + (1 : Int))), v4.1.2.2.1, v4.1.2.2.2.1, v4.1.2.2.2.2.1, ()), v4.2.1, v4.2.2.1, ())).set x.2.2.1.toNat ((v6.1.1, v6.1.2.1, (IntKind.i64.wrap ((IntKind.i64.wrap (x.2.1 + (1 : Int))) + (1 : Int))), v6.1.2.2.2.1, v6.1.2.2.2.2.1, ()), v6.2.1, v6.2.2.1, ())) x.2.2.1) fun _ =>
 match (((x.1.set x.2.2.1.toNat ((x.2.1, v2.1.2.1, v2.1.2.2.1, v2.1.2.2.2.1, v2.1.2.2.2.2.1, ()), v2.2.1, v2.2.2.1, ())).set x.2.2.1.toNat ((v4.1.1, (IntKind.i64.wrap (x.2.1 + (1 : Int))), v4.1.2.2.1, v4.1.2.2.2.1, v4.1.2.2.2.2.1, ()), v4.2.1, v4.2.2.1, ())).set x.2.2.1.toNat ((v6.1.1, v6.1.2.1, (IntKind.i64.wrap ((IntKind.i64.wrap (x.2.1 + (1 : Int))) + (1 : Int))), v6.1.2.2.2.1, v6.1.2.2.2.2.1, ()), v6.2.1, v6.2.2.1, ()))[x.2.2.1.toNat]? with
 | none => none
 | some v8 =>
 onSome (idx ((((x.1.set x.2.2.1.toNat ((x.2.1, v2.1.2.1, v2.1.2.2.1, v2.1.2.2.2.1, v2.1.2.2.2.2.1, ()), v2.2.1, v2.2.2.1, ())).set x.2.2.1.toNat ((v4.1.1, (IntKind.i64.wrap (x.2.1 + (1 : Int))), v4.1.2.2.1, v4.1.2.2.2.1, v4.1.2.2.2.2.1, ()), v4.2.1, v4.2.2.1, ())).set x.2.2.1.toNat ((v6.1.1, v6.1.2.1, (IntKind.i64.wrap ((IntKind.i64.wrap (x.2.1 + (1 : Int))) + (1 : Int))), v6.1.2.2.2.1, v6.1.2.2.2.2.1, ()), v6.2.1, v6.2.2.1, ())).set x.2.2.1.toNat ((v8.1.1, v8.1.2.1, v8.1.2.2.1, (IntKind.i64.wrap ((IntKind.i64.wrap ((IntKind.i64.wrap (x.2.1 + (1 : Int))) + (1 : Int))) + (1 : Int))), v8.1.2.2.2.2.1, ()), v8.2.1, v8.2.2.1, ())) x.2.2.1) fun _ =>
 match ((((x.1.set x.2.2.1.toNat ((x.2.1, v2.1.2.1, v2.1.2.2.1, v2.1.2.2.2.1, v2.1.2.2.2.2.1, ()), v2.2.1, v2.2.2.1, ())).set x.2.2.1.toNat ((v4.1.1, (IntKind.i64.wrap (x.2.1 + (1 : Int))), v4.1.2.2.1, v4.1.2.2.2.1, v4.1.2.2.2.2.1, ()), v4.2.1, v4.2.2.1, ())).set x.2.2.1.toNat ((v6.1.1, v6.1.2.1, (IntKind.i64.wrap ((IntKind.i64.wrap (x.2.1 + (1 : Int))) + (1 : Int))), v6.1.2.2.2.1, v6.1.2.2.2.2.1, ()), v6.2.1, v6.2.2.1, ())).set x.2.2.1.toNat ((v8.1.1, v8.1.2.1, v8.1.2.2.1, (IntKind.i64.wrap ((IntKind.i64.wrap ((IntKind.i64.wrap (x.2.1 + (1 : Int))) + (1 : Int))) + (1 : Int))), v8.1.2.2.2.2.1, ()), v8.2.1, v8.2.2.1, ()))[x.2.2.1.toNat]? with
 | none => none
 | some v10 =>
 onSome (idx (((((x.1.set x.2.2.1.toNat ((x.2.1, v2.1.2.1, v2.1.2.2.1, v2.1.2.2.2.1, v2.1.2.2.2.2.1, ()), v2.2.1, v2.2.2.1, ())).set x.2.2.1.toNat ((v4.1.1, (IntKind.i64.wrap (x.2.1 + (1 : Int))), v4.1.2.2.1, v4.1.2.2.2.1, v4.1.2.2.2.2.1, ()), v4.2.1, v4.2.2.1, ())).set x.2.2.1.toNat ((v6.1.1, v6.1.2.1, (IntKind.i64.wrap ((IntKind.i64.wrap (x.2.1 + (1 : Int))) + (1 : Int))), v6.1.2.2.2.1, v6.1.2.2.2.2.1, ()), v6.2.1, v6.2.2.1, ())).set x.2.2.1.toNat ((v8.1.1, v8.1.2.1, v8.1.2.2.1, (IntKind.i64.wrap ((IntKind.i64.wrap ((IntKind.i64.wrap (x.2.1 + (1 : Int))) + (1 : Int))) + (1 : Int))), v8.1.2.2.2.2.1, ()), v8.2.1, v8.2.2.1, ())).set x.2.2.1.toNat ((v10.1.1, v10.1.2.1, v10.1.2.2.1, v10.1.2.2.2.1, (IntKind.i64.wrap ((IntKind.i64.wrap ((IntKind.i64.wrap ((IntKind.i64.wrap (x.2.1 + (1 : Int))) + (1 : Int))) + (1 : Int))) + (1 : Int))), ()), v10.2.1, v10.2.2.1, ())) x.2.2.1) fun _ =>
 match (((((x.1.set x.2.2.1.toNat ((x.2.1, v2.1.2.1, v2.1.2.2.1, v2.1.2.2.2.1, v2.1.2.2.2.2.1, ()), v2.2.1, v2.2.2.1, ())).set x.2.2.1.toNat ((v4.1.1, (IntKind.i64.wrap (x.2.1 + (1 : Int))), v4.1.2.2.1, v4.1.2.2.2.1, v4.1.2.2.2.2.1, ()), v4.2.1, v4.2.2.1, ())).set x.2.2.1.toNat ((v6.1.1, v6.1.2.1, (IntKind.i64.wrap ((IntKind.i64.wrap (x.2.1 + (1 : Int))) + (1 : Int))), v6.1.2.2.2.1, v6.1.2.2.2.2.1, ()), v6.2.1, v6.2.2.1, ())).set x.2.2.1.toNat ((v8.1.1, v8.1.2.1, v8.1.2.2.1, (IntKind.i64.wrap ((IntKind.i64.wrap ((IntKind.i64.wrap (x.2.1 + (1 : Int))) + (1 : Int))) + (1 : Int))), v8.1.2.2.2.2.1, ()), v8.2.1, v8.2.2.1, ())).set x.2.2.1.toNat ((v10.1.1, v10.1.2.1, v10.1.2.2.1, v10.1.2.2.2.1, (IntKind.i64.wrap ((IntKind.i64.wrap ((IntKind.i64.wrap ((IntKind.i64.wrap (x.2.1 + (1 : Int))) + (1 : Int))) + (1 : Int))) + (1 : Int))), ()), v10.2.1, v10.2.2.1, ()))[x.2.2.1.toNat]? with
 | none => none
 | some v12 =>
 onSome (idx ((((((x.1.set x.2.2.1.toNat ((x.2.1, v2.1.2.1, v2.1.2.2.1, v2.1.2.2.2.1, v2.1.2.2.2.2.1, ()), v2.2.1, v2.2.2.1, ())).set x.2.2.1.toNat ((v4.1.1, (IntKind.i64.wrap (x.2.1 + (1 : Int))), v4.1.2.2.1, v4.1.2.2.2.1, v4.1.2.2.2.2.1, ()), v4.2.1, v4.2.2.1, ())).set x.2.2.1.toNat ((v6.1.1, v6.1.2.1, (IntKind.i64.wrap ((IntKind.i64.wrap (x.2.1 + (1 : Int))) + (1 : Int))), v6.1.2.2.2.1, v6.1.2.2.2.2.1, ()), v6.2.1, v6.2.2.1, ())).set x.2.2.1.toNat ((v8.1.1, v8.1.2.1, v8.1.2.2.1, (IntKind.i64.wrap ((IntKind.i64.wrap ((IntKind.i64.wrap (x.2.1 + (1 : Int))) + (1 : Int))) + (1 : Int))), v8.1.2.2.2.2.1, ()), v8.2.1, v8.2.2.1, ())).set x.2.2.1.toNat ((v10.1.1, v10.1.2.1, v10.1.2.2.1, v10.1.2.2.2.1, (IntKind.i64.wrap ((IntKind.i64.wrap ((IntKind.i64.wrap ((IntKind.i64.wrap (x.2.1 + (1 : Int))) + (1 : Int))) + (1 : Int))) + (1 : Int))), ()), v10.2.1, v10.2.2.1, ())).set x.2.2.1.toNat ((v12.1.1, v12.1.2.1, v12.1.2.2.1, v12.1.2.2.2.1, v12.1.2.2.2.2.1, ()), (IntKind.i64.wrap ((IntKind.i64.wrap ((IntKind.i64.wrap ((IntKind.i64.wrap ((IntKind.i64.wrap (x.2.1 + (1 : Int))) + (1 : Int))) + (1 : Int))) + (1 : Int))) + (1 : Int))), v12.2.2.1, ())) x.2.2.1) fun _ =>
 match ((((((x.1.set x.2.2.1.toNat ((x.2.1, v2.1.2.1, v2.1.2.2.1, v2.1.2.2.2.1, v2.1.2.2.2.2.1, ()), v2.2.1, v2.2.2.1, ())).set x.2.2.1.toNat ((v4.1.1, (IntKind.i64.wrap (x.2.1 + (1 : Int))), v4.1.2.2.1, v4.1.2.2.2.1, v4.1.2.2.2.2.1, ()), v4.2.1, v4.2.2.1, ())).set x.2.2.1.toNat ((v6.1.1, v6.1.2.1, (IntKind.i64.wrap ((IntKind.i64.wrap (x.2.1 + (1 : Int))) + (1 : Int))), v6.1.2.2.2.1, v6.1.2.2.2.2.1, ()), v6.2.1, v6.2.2.1, ())).set x.2.2.1.toNat ((v8.1.1, v8.1.2.1, v8.1.2.2.1, (IntKind.i64.wrap ((IntKind.i64.wrap ((IntKind.i64.wrap (x.2.1 + (1 : Int))) + (1 : Int))) + (1 : Int))), v8.1.2.2.2.2.1, ()), v8.2.1, v8.2.2.1, ())).set x.2.2.1.toNat ((v10.1.1, v10.1.2.1, v10.1.2.2.1, v10.1.2.2.2.1, (IntKind.i64.wrap ((IntKind.i64.wrap ((IntKind.i64.wrap ((IntKind.i64.wrap (x.2.1 + (1 : Int))) + (1 : Int))) + (1 : Int))) + (1 : Int))), ()), v10.2.1, v10.2.2.1, ())).set x.2.2.1.toNat ((v12.1.1, v12.1.2.1, v12.1.2.2.1, v12.1.2.2.2.1, v12.1.2.2.2.2.1, ()), (IntKind.i64.wrap ((IntKind.i64.wrap ((IntKind.i64.wrap ((IntKind.i64.wrap ((IntKind.i64.wrap (x.2.1 + (1 : Int))) + (1 : Int))) + (1 : Int))) + (1 : Int))) + (1 : Int))), v12.2.2.1, ()))[x.2.2.1.toNat]? with
 | none => none
 | some v14 =>
 some (.inl ((((((((x.1.set x.2.2.1.toNat ((x.2.1, v2.1.2.1, v2.1.2.2.1, v2.1.2.2.2.1, v2.1.2.2.2.2.1, ()), v2.2.1, v2.2.2.1, ())).set x.2.2.1.toNat ((v4.1.1, (IntKind.i64.wrap (x.2.1 + (1 : Int))), v4.1.2.2.1, v4.1.2.2.2.1, v4.1.2.2.2.2.1, ()), v4.2.1, v4.2.2.1, ())).set x.2.2.1.toNat ((v6.1.1, v6.1.2.1, (IntKind.i64.wrap ((IntKind.i64.wrap (x.2.1 + (1 : Int))) + (1 : Int))), v6.1.2.2.2.1, v6.1.2.2.2.2.1, ()), v6.2.1, v6.2.2.1, ())).set x.2.2.1.toNat ((v8.1.1, v8.1.2.1, v8.1.2.2.1, (IntKind.i64.wrap ((IntKind.i64.wrap ((IntKind.i64.wrap (x.2.1 + (1 : Int))) + (1 : Int))) + (1 : Int))), v8.1.2.2.2.2.1, ()), v8.2.1, v8.2.2.1, ())).set x.2.2.1.toNat ((v10.1.1, v10.1.2.1, v10.1.2.2.1, v10.1.2.2.2.1, (IntKind.i64.wrap ((IntKind.i64.wrap ((IntKind.i64.wrap ((IntKind.i64.wrap (x.2.1 + (1 : Int))) + (1 : Int))) + (1 : Int))) + (1 : Int))), ()), v10.2.1, v10.2.2.1, ())).set x.2.2.1.toNat ((v12.1.1, v12.1.2.1, v12.1.2.2.1, v12.1.2.2.2.1, v12.1.2.2.2.2.1, ()), (IntKind.i64.wrap ((IntKind.i64.wrap ((IntKind.i64.wrap ((IntKind.i64.wrap ((IntKind.i64.wrap (x.2.1 + (1 : Int))) + (1 : Int))) + (1 : Int))) + (1 : Int))) + (1 : Int))), v12.2.2.1, ())).set x.2.2.1.toNat ((v14.1.1, v14.1.2.1, v14.1.2.2.1, v14.1.2.2.2.1, v14.1.2.2.2.2.1, ()), v14.2.1, (IntKind.i64.wrap ((IntKind.i64.wrap ((IntKind.i64.wrap ((IntKind.i64.wrap ((IntKind.i64.wrap ((IntKind.i64.wrap (x.2.1 + (1 : Int))) + (1 : Int))) + (1 : Int))) + (1 : Int))) + (1 : Int))) + (1 : Int))), ())), (IntKind.i64.wrap ((IntKind.i64.wrap ((IntKind.i64.wrap ((IntKind.i64.wrap ((IntKind.i64.wrap ((IntKind.i64.wrap ((IntKind.i64.wrap (x.2.1 + (1 : Int))) + (1 : Int))) + (1 : Int))) + (1 : Int))) + (1 : Int))) + (1 : Int))) + (1 : Int))), (IntKind.i64.wrap (x.2.2.1 + (1 : Int))), ()))
| false =>
 some (.inr (.inl (x.1, x.2.1, ())))
noncomputable def l_markMarkS (x : Ty.T (.pair (.own 36 TMark) (.pair (.int .i64) .unit))) : Option (Ty.T (.pair (.int .i64) (.pair (.own 36 TMark) .unit))) :=
match loopL b_l_markMarkS_2 (x.1, x.2.1, (0 : Int), ()) with
| none => none
| some (.inl v15) =>
 some (v15.2.1, v15.1, ())
| some (.inr v17) =>
 none
noncomputable def S_l_markMarkS : Spec := ⟨(.pair (.own 36 TMark) (.pair (.int .i64) .unit)), (.pair (.int .i64) .unit), (.pair (.own 36 TMark) .unit), rfl, l_markMarkS⟩
noncomputable def σ_l_markMarkS : FuncId → Option Spec := sig []
theorem σok_l_markMarkS : ∀ f s, σ_l_markMarkS f = some s → FnOK G0 Tryd.prog f s := sig_ok (l := []) trivial
noncomputable def Λ_l_markMarkS : Nat → Option LSpec := lkp (loopList (bodyOf Tryd.f8)) [⟨[0, 1, 5], (.pair (.own 36 TMark) (.pair (.int .i64) (.pair (.int .i64) .unit))), 0, [0, 1], (.pair (.own 36 TMark) (.pair (.int .i64) .unit)), [], .unit, loopL b_l_markMarkS_2⟩]
theorem lok_l_markMarkS_2 (x) : codeK Γ0 E0 σ_l_markMarkS Λ_l_markMarkS Tryd.f8.ntmps (nthLoop Tryd.f8 0) (mkF Tryd.f8.ntmps [0, 1, 5] (.pair (.own 36 TMark) (.pair (.int .i64) (.pair (.int .i64) .unit))) x) (readK σ_l_markMarkS Tryd.f8.ntmps [0, 1, 5] (.pair (.own 36 TMark) (.pair (.int .i64) (.pair (.int .i64) .unit))) 0 [0, 1] (.pair (.own 36 TMark) (.pair (.int .i64) .unit)) [] .unit) = b_l_markMarkS_2 x := by kernel_rfl
theorem ok_l_markMarkS : FnOK G0 Tryd.prog 8 S_l_markMarkS := fn_ok (Λ := Λ_l_markMarkS) tab0 σok_l_markMarkS Tryd.func8 (by kernel_rfl) (show Tryd.f8.body = some (bodyOf Tryd.f8) by kernel_rfl) [⟨[0, 1, 5], (.pair (.own 36 TMark) (.pair (.int .i64) (.pair (.int .i64) .unit))), 0, [0, 1], (.pair (.own 36 TMark) (.pair (.int .i64) .unit)), [], .unit, loopL b_l_markMarkS_2⟩] rfl (by kernel_rfl) (by exact ⟨loop_LOK (lok_l_markMarkS_2), trivial⟩) (by kernel_rfl)
  fun x y h => (show execFn Γ0 E0 σ_l_markMarkS Λ_l_markMarkS Tryd.f8 S_l_markMarkS x = l_markMarkS x by kernel_rfl).trans h

noncomputable def b_l_heldMarkS_2 (x : (Ty.T (.pair (.list TMark) (.pair (.int .i64) (.pair (.int .i64) .unit))))) : Option ((Ty.T (.pair (.list TMark) (.pair (.int .i64) (.pair (.int .i64) .unit)))) ⊕ ((Ty.T (.pair (.int .i64) .unit)) ⊕ (Ty.T (.pair (.int .i64) .unit)))) :=
match (decide (x.2.2.1 < (x.1.length : Int))) with
| true =>
 onSome (idx x.1 x.2.2.1) fun v1 =>
 match (v1.1.1 != x.2.1) with
 | true =>
  some (.inr (.inr ((-1 : Int), ())))
 | false =>
  onSome (idx x.1 x.2.2.1) fun v2 =>
  match (v2.1.2.1 != (IntKind.i64.wrap (x.2.1 + (1 : Int)))) with
  | true =>
   some (.inr (.inr ((-1 : Int), ())))
  | false =>
   onSome (idx x.1 x.2.2.1) fun v3 =>
   match (v3.1.2.2.1 != (IntKind.i64.wrap ((IntKind.i64.wrap (x.2.1 + (1 : Int))) + (1 : Int)))) with
   | true =>
    some (.inr (.inr ((-1 : Int), ())))
   | false =>
    onSome (idx x.1 x.2.2.1) fun v4 =>
    match (v4.1.2.2.2.1 != (IntKind.i64.wrap ((IntKind.i64.wrap ((IntKind.i64.wrap (x.2.1 + (1 : Int))) + (1 : Int))) + (1 : Int)))) with
    | true =>
     some (.inr (.inr ((-1 : Int), ())))
    | false =>
     onSome (idx x.1 x.2.2.1) fun v5 =>
     match (v5.1.2.2.2.2.1 != (IntKind.i64.wrap ((IntKind.i64.wrap ((IntKind.i64.wrap ((IntKind.i64.wrap (x.2.1 + (1 : Int))) + (1 : Int))) + (1 : Int))) + (1 : Int)))) with
     | true =>
      some (.inr (.inr ((-1 : Int), ())))
     | false =>
      onSome (idx x.1 x.2.2.1) fun v6 =>
      match (v6.2.1 != (IntKind.i64.wrap ((IntKind.i64.wrap ((IntKind.i64.wrap ((IntKind.i64.wrap ((IntKind.i64.wrap (x.2.1 + (1 : Int))) + (1 : Int))) + (1 : Int))) + (1 : Int))) + (1 : Int)))) with
      | true =>
       some (.inr (.inr ((-1 : Int), ())))
      | false =>
       onSome (idx x.1 x.2.2.1) fun v7 =>
       match (v7.2.2.1 != (IntKind.i64.wrap ((IntKind.i64.wrap ((IntKind.i64.wrap ((IntKind.i64.wrap ((IntKind.i64.wrap ((IntKind.i64.wrap (x.2.1 + (1 : Int))) + (1 : Int))) + (1 : Int))) + (1 : Int))) + (1 : Int))) + (1 : Int)))) with
       | true =>
        some (.inr (.inr ((-1 : Int), ())))
       | false =>
        some (.inl (x.1, (IntKind.i64.wrap ((IntKind.i64.wrap ((IntKind.i64.wrap ((IntKind.i64.wrap ((IntKind.i64.wrap ((IntKind.i64.wrap ((IntKind.i64.wrap (x.2.1 + (1 : Int))) + (1 : Int))) + (1 : Int))) + (1 : Int))) + (1 : Int))) + (1 : Int))) + (1 : Int))), (IntKind.i64.wrap (x.2.2.1 + (1 : Int))), ()))
| false =>
 some (.inr (.inl (x.2.1, ())))
noncomputable def l_heldMarkS (x : Ty.T (.pair (.list TMark) (.pair (.int .i64) .unit))) : Option (Ty.T (.pair (.int .i64) .unit)) :=
match loopL b_l_heldMarkS_2 (x.1, x.2.1, (0 : Int), ()) with
| none => none
| some (.inl v8) =>
 some (v8.1, ())
| some (.inr v9) =>
 some (v9.1, ())
noncomputable def S_l_heldMarkS : Spec := ⟨(.pair (.list TMark) (.pair (.int .i64) .unit)), (.pair (.int .i64) .unit), .unit, rfl, l_heldMarkS⟩
noncomputable def σ_l_heldMarkS : FuncId → Option Spec := sig []
theorem σok_l_heldMarkS : ∀ f s, σ_l_heldMarkS f = some s → FnOK G0 Tryd.prog f s := sig_ok (l := []) trivial
noncomputable def Λ_l_heldMarkS : Nat → Option LSpec := lkp (loopList (bodyOf Tryd.f9)) [⟨[0, 1, 5], (.pair (.list TMark) (.pair (.int .i64) (.pair (.int .i64) .unit))), 0, [1], (.pair (.int .i64) .unit), [4], (.pair (.int .i64) .unit), loopL b_l_heldMarkS_2⟩]
theorem lok_l_heldMarkS_2 (x) : codeK Γ0 E0 σ_l_heldMarkS Λ_l_heldMarkS Tryd.f9.ntmps (nthLoop Tryd.f9 0) (mkF Tryd.f9.ntmps [0, 1, 5] (.pair (.list TMark) (.pair (.int .i64) (.pair (.int .i64) .unit))) x) (readK σ_l_heldMarkS Tryd.f9.ntmps [0, 1, 5] (.pair (.list TMark) (.pair (.int .i64) (.pair (.int .i64) .unit))) 0 [1] (.pair (.int .i64) .unit) [4] (.pair (.int .i64) .unit)) = b_l_heldMarkS_2 x := by kernel_rfl
theorem ok_l_heldMarkS : FnOK G0 Tryd.prog 9 S_l_heldMarkS := fn_ok (Λ := Λ_l_heldMarkS) tab0 σok_l_heldMarkS Tryd.func9 (by kernel_rfl) (show Tryd.f9.body = some (bodyOf Tryd.f9) by kernel_rfl) [⟨[0, 1, 5], (.pair (.list TMark) (.pair (.int .i64) (.pair (.int .i64) .unit))), 0, [1], (.pair (.int .i64) .unit), [4], (.pair (.int .i64) .unit), loopL b_l_heldMarkS_2⟩] rfl (by kernel_rfl) (by exact ⟨loop_LOK (lok_l_heldMarkS_2), trivial⟩) (by kernel_rfl)
  fun x y h => (show execFn Γ0 E0 σ_l_heldMarkS Λ_l_heldMarkS Tryd.f9 S_l_heldMarkS x = l_heldMarkS x by kernel_rfl).trans h

noncomputable def l_FnExactReadTrace (x : Ty.T TerrorString) : Option (Ty.T (.pair .bool .unit)) :=
match (decide ((x.1.length : Int) > (1048576 : Int))) with
| true =>
 some (true, ())
| false =>
 match s_ReadTrace (x.1, ()) with
 | none => none
 | some v1 =>
 match i_ReadTrace (x.1, ()) with
 | none => none
 | some v2 =>
 match l_eqMarkS (v2.1, v1.1, ()) with
 | none => none
 | some v3 =>
 match (!v3.1) with
 | true =>
  some (false, ())
 | false =>
  match (v2.2.1 != v1.2.1) with
  | true =>
   some (false, ())
  | false =>
   match l_markMarkS (v2.1, (1 : Int), ()) with
   | none => none
   | some v4 =>
   match l_heldMarkS (v4.2.1, (1 : Int), ()) with
   | none => none
   | some v5 =>
   match (decide (v5.1 < (0 : Int))) with
   | true =>
    some (false, ())
   | false =>
    match (v5.1 != v4.1) with
    | true =>
     some (false, ())
    | false =>
     match i_ReadTrace (x.1, ()) with
     | none => none
     | some v6 =>
     match l_eqMarkS (v6.1, v1.1, ()) with
     | none => none
     | some v7 =>
     match (!v7.1) with
     | true =>
      some (false, ())
     | false =>
      match (v6.2.1 != v1.2.1) with
      | true =>
       some (false, ())
      | false =>
       match l_heldMarkS (v4.2.1, (1 : Int), ()) with
       | none => none
       | some v8 =>
       match (decide (v8.1 < (0 : Int))) with
       | true =>
        some (false, ())
       | false =>
        match (v8.1 != v4.1) with
        | true =>
         some (false, ())
        | false =>
         some (true, ())
noncomputable def S_l_FnExactReadTrace : Spec := ⟨TerrorString, (.pair .bool .unit), .unit, rfl, l_FnExactReadTrace⟩
noncomputable def σ_l_FnExactReadTrace : FuncId → Option Spec := sig [(5, S_s_ReadTrace), (6, S_i_ReadTrace), (7, S_l_eqMarkS), (8, S_l_markMarkS), (9, S_l_heldMarkS)]
theorem σok_l_FnExactReadTrace : ∀ f s, σ_l_FnExactReadTrace f = some s → FnOK G0 Tryd.prog f s := sig_ok (l := [(5, S_s_ReadTrace), (6, S_i_ReadTrace), (7, S_l_eqMarkS), (8, S_l_markMarkS), (9, S_l_heldMarkS)]) ⟨ok_s_ReadTrace, ok_i_ReadTrace, ok_l_eqMarkS, ok_l_markMarkS, ok_l_heldMarkS, trivial⟩
noncomputable def Λ_l_FnExactReadTrace : Nat → Option LSpec := lkp (loopList (bodyOf Tryd.f3)) []
theorem ok_l_FnExactReadTrace : FnOK G0 Tryd.prog 3 S_l_FnExactReadTrace := fn_ok (Λ := Λ_l_FnExactReadTrace) tab0 σok_l_FnExactReadTrace Tryd.func3 (by kernel_rfl) (show Tryd.f3.body = some (bodyOf Tryd.f3) by kernel_rfl) [] rfl (by kernel_rfl) (by exact trivial) (by kernel_rfl)
  fun x y h => (show execFn Γ0 E0 σ_l_FnExactReadTrace Λ_l_FnExactReadTrace Tryd.f3 S_l_FnExactReadTrace x = l_FnExactReadTrace x by kernel_rfl).trans h

noncomputable def l_big (x : Ty.T (.pair (.list (.int .u8)) .unit)) : Option (Ty.T (.pair .bool .unit)) :=
some ((decide ((x.1.length : Int) > (4096 : Int))), ())
noncomputable def S_l_big : Spec := ⟨(.pair (.list (.int .u8)) .unit), (.pair .bool .unit), .unit, rfl, l_big⟩
noncomputable def σ_l_big : FuncId → Option Spec := sig []
theorem σok_l_big : ∀ f s, σ_l_big f = some s → FnOK G0 Tryd.prog f s := sig_ok (l := []) trivial
noncomputable def Λ_l_big : Nat → Option LSpec := lkp (loopList (bodyOf Tryd.f10)) []
theorem ok_l_big : FnOK G0 Tryd.prog 10 S_l_big := fn_ok (Λ := Λ_l_big) tab0 σok_l_big Tryd.func10 (by kernel_rfl) (show Tryd.f10.body = some (bodyOf Tryd.f10) by kernel_rfl) [] rfl (by kernel_rfl) (by exact trivial) (by kernel_rfl)
  fun x y h => (show execFn Γ0 E0 σ_l_big Λ_l_big Tryd.f10 S_l_big x = l_big x by kernel_rfl).trans h

noncomputable def s_l01Next (x : Ty.T (.pair (.box Tl01Source) (.pair (.int .i64) .unit))) : Option (Ty.T (.pair (.int .i64) (.pair (.box Tl01Source) .unit))) :=
match (decide (x.2.1 ≤ (1 : Int))) with
| true =>
 some ((0 : Int), (x.1.1, x.1.2.1, x.1.2.2.1, ()), ())
| false =>
 match (decide (x.1.2.1 < (x.1.1.length : Int))) with
 | true =>
  onSome (idx x.1.1 x.1.2.1) fun v1 =>
  match (decide (x.2.1 ≤ (256 : Int))) with
  | true =>
   match ((Int.tmod (IntKind.i64.wrap (x.1.2.1 + (1 : Int))) (2 : Int)) == (0 : Int)) with
   | true =>
    onSome (idx x.1.1 (IntKind.i64.wrap ((IntKind.i64.wrap (x.1.2.1 + (1 : Int))) - (1 : Int)))) fun v2 =>
    if x.2.1 = 0 then none else
    some ((Int.tmod (IntKind.i64.wrap v2) x.2.1), (x.1.1, (IntKind.i64.wrap (x.1.2.1 + (1 : Int))), (Int.tmod (IntKind.i64.wrap ((IntKind.i64.wrap (x.1.2.2.1 * (48271 : Int))) + (17 : Int))) (2147483647 : Int)), ()), ())
   | false =>
    if x.2.1 = 0 then none else
    some ((Int.tmod (IntKind.i64.wrap ((IntKind.i64.wrap (Int.tdiv (Int.tmod (IntKind.i64.wrap ((IntKind.i64.wrap (x.1.2.2.1 * (48271 : Int))) + (17 : Int))) (2147483647 : Int)) (23 : Int))) + (IntKind.i64.wrap v1))) x.2.1), (x.1.1, (IntKind.i64.wrap (x.1.2.1 + (1 : Int))), (Int.tmod (IntKind.i64.wrap ((IntKind.i64.wrap (x.1.2.2.1 * (48271 : Int))) + (17 : Int))) (2147483647 : Int)), ()), ())
  | false =>
   if x.2.1 = 0 then none else
   some ((Int.tmod (IntKind.i64.wrap ((IntKind.i64.wrap (Int.tdiv (Int.tmod (IntKind.i64.wrap ((IntKind.i64.wrap (x.1.2.2.1 * (48271 : Int))) + (17 : Int))) (2147483647 : Int)) (23 : Int))) + (IntKind.i64.wrap v1))) x.2.1), (x.1.1, (IntKind.i64.wrap (x.1.2.1 + (1 : Int))), (Int.tmod (IntKind.i64.wrap ((IntKind.i64.wrap (x.1.2.2.1 * (48271 : Int))) + (17 : Int))) (2147483647 : Int)), ()), ())
 | false =>
  if x.2.1 = 0 then none else
  some ((Int.tmod (IntKind.i64.wrap (Int.tdiv (Int.tmod (IntKind.i64.wrap ((IntKind.i64.wrap (x.1.2.2.1 * (48271 : Int))) + (17 : Int))) (2147483647 : Int)) (23 : Int))) x.2.1), (x.1.1, x.1.2.1, (Int.tmod (IntKind.i64.wrap ((IntKind.i64.wrap (x.1.2.2.1 * (48271 : Int))) + (17 : Int))) (2147483647 : Int)), ()), ())
noncomputable def S_s_l01Next : Spec := ⟨(.pair (.box Tl01Source) (.pair (.int .i64) .unit)), (.pair (.int .i64) .unit), (.pair (.box Tl01Source) .unit), rfl, s_l01Next⟩
noncomputable def σ_s_l01Next : FuncId → Option Spec := sig []
theorem σok_s_l01Next : ∀ f s, σ_s_l01Next f = some s → FnOK G0 Tryd.prog f s := sig_ok (l := []) trivial
noncomputable def Λ_s_l01Next : Nat → Option LSpec := lkp (loopList (bodyOf Tryd.f34)) []
theorem ok_s_l01Next : FnOK G0 Tryd.prog 34 S_s_l01Next := fn_ok (Λ := Λ_s_l01Next) tab0 σok_s_l01Next Tryd.func34 (by kernel_rfl) (show Tryd.f34.body = some (bodyOf Tryd.f34) by kernel_rfl) [] rfl (by kernel_rfl) (by exact trivial) (by kernel_rfl)
  fun x y h => (show execFn Γ0 E0 σ_s_l01Next Λ_s_l01Next Tryd.f34 S_s_l01Next x = s_l01Next x by kernel_rfl).trans h

noncomputable def s_l04Draw (x : Ty.T (.pair (.box Tl01Source) .unit)) : Option (Ty.T (.pair TState (.pair (.box Tl01Source) .unit))) :=
match s_l01Next ((x.1.1, x.1.2.1, x.1.2.2.1, ()), (200 : Int), ()) with
| none => none
| some v1 =>
match s_l01Next ((v1.2.1.1, v1.2.1.2.1, v1.2.1.2.2.1, ()), (3 : Int), ()) with
| none => none
| some v2 =>
match s_l01Next ((v2.2.1.1, v2.2.1.2.1, v2.2.1.2.2.1, ()), (3 : Int), ()) with
| none => none
| some v3 =>
match s_l01Next ((v3.2.1.1, v3.2.1.2.1, v3.2.1.2.2.1, ()), (6 : Int), ()) with
| none => none
| some v4 =>
match s_l01Next ((v4.2.1.1, v4.2.1.2.1, v4.2.1.2.2.1, ()), (256 : Int), ()) with
| none => none
| some v5 =>
match s_l01Next ((v5.2.1.1, v5.2.1.2.1, v5.2.1.2.2.1, ()), (8 : Int), ()) with
| none => none
| some v6 =>
match (v6.1 == (0 : Int)) with
| true =>
 match s_l01Next ((v6.2.1.1, v6.2.1.2.1, v6.2.1.2.2.1, ()), (9 : Int), ()) with
 | none => none
 | some v7 =>
 match s_l01Next ((v7.2.1.1, v7.2.1.2.1, v7.2.1.2.2.1, ()), (16 : Int), ()) with
 | none => none
 | some v8 =>
 match s_l01Next ((v8.2.1.1, v8.2.1.2.1, v8.2.1.2.2.1, ()), (16 : Int), ()) with
 | none => none
 | some v9 =>
 match s_l01Next ((v9.2.1.1, v9.2.1.2.1, v9.2.1.2.2.1, ()), (256 : Int), ()) with
 | none => none
 | some v10 =>
 match s_l01Next ((v10.2.1.1, v10.2.1.2.1, v10.2.1.2.2.1, ()), (99 : Int), ()) with
 | none => none
 | some v11 =>
 some (((IntKind.i64.wrap ((65535 : Int) - v7.1)), v8.1, v9.1, v10.1, (IntKind.i64.wrap ((4294967295 : Int) - v11.1)), ()), (v11.2.1.1, v11.2.1.2.1, v11.2.1.2.2.1, ()), ())
| false =>
 some ((v1.1, v2.1, v3.1, v4.1, v5.1, ()), (v6.2.1.1, v6.2.1.2.1, v6.2.1.2.2.1, ()), ())
noncomputable def S_s_l04Draw : Spec := ⟨(.pair (.box Tl01Source) .unit), (.pair TState .unit), (.pair (.box Tl01Source) .unit), rfl, s_l04Draw⟩
noncomputable def σ_s_l04Draw : FuncId → Option Spec := sig [(34, S_s_l01Next)]
theorem σok_s_l04Draw : ∀ f s, σ_s_l04Draw f = some s → FnOK G0 Tryd.prog f s := sig_ok (l := [(34, S_s_l01Next)]) ⟨ok_s_l01Next, trivial⟩
noncomputable def Λ_s_l04Draw : Nat → Option LSpec := lkp (loopList (bodyOf Tryd.f55)) []
theorem ok_s_l04Draw : FnOK G0 Tryd.prog 55 S_s_l04Draw := fn_ok (Λ := Λ_s_l04Draw) tab0 σok_s_l04Draw Tryd.func55 (by kernel_rfl) (show Tryd.f55.body = some (bodyOf Tryd.f55) by kernel_rfl) [] rfl (by kernel_rfl) (by exact trivial) (by kernel_rfl)
  fun x y h => (show execFn Γ0 E0 σ_s_l04Draw Λ_s_l04Draw Tryd.f55 S_s_l04Draw x = s_l04Draw x by kernel_rfl).trans h

noncomputable def s_l04DrawAny (x : Ty.T (.pair (.box Tl01Source) .unit)) : Option (Ty.T (.pair TState (.pair (.box Tl01Source) .unit))) :=
match s_l04Draw ((x.1.1, x.1.2.1, x.1.2.2.1, ()), ()) with
| none => none
| some v1 =>
match s_l01Next ((v1.2.1.1, v1.2.1.2.1, v1.2.1.2.2.1, ()), (30 : Int), ()) with
| none => none
| some v2 =>
match (v2.1 == (0 : Int)) with
| true =>
 match s_l01Next ((v2.2.1.1, v2.2.1.2.1, v2.2.1.2.2.1, ()), (3 : Int), ()) with
 | none => none
 | some v3 =>
 onSome (idx [(-1 : Int), (65535 : Int), (65536 : Int)] v3.1) fun _ =>
 match [(-1 : Int), (65535 : Int), (65536 : Int)][v3.1.toNat]? with
 | none => none
 | some v5 =>
 some ((v5, v1.1.2.1, v1.1.2.2.1, v1.1.2.2.2.1, v1.1.2.2.2.2.1, ()), (v3.2.1.1, v3.2.1.2.1, v3.2.1.2.2.1, ()), ())
| false =>
 match (v2.1 == (1 : Int)) with
 | true =>
  match s_l01Next ((v2.2.1.1, v2.2.1.2.1, v2.2.1.2.2.1, ()), (2 : Int), ()) with
  | none => none
  | some v6 =>
  onSome (idx [(-1 : Int), (16 : Int)] v6.1) fun _ =>
  match [(-1 : Int), (16 : Int)][v6.1.toNat]? with
  | none => none
  | some v8 =>
  some ((v1.1.1, v8, v1.1.2.2.1, v1.1.2.2.2.1, v1.1.2.2.2.2.1, ()), (v6.2.1.1, v6.2.1.2.1, v6.2.1.2.2.1, ()), ())
 | false =>
  match (v2.1 == (2 : Int)) with
  | true =>
   match s_l01Next ((v2.2.1.1, v2.2.1.2.1, v2.2.1.2.2.1, ()), (2 : Int), ()) with
   | none => none
   | some v9 =>
   onSome (idx [(-1 : Int), (16 : Int)] v9.1) fun _ =>
   match [(-1 : Int), (16 : Int)][v9.1.toNat]? with
   | none => none
   | some v11 =>
   some ((v1.1.1, v1.1.2.1, v11, v1.1.2.2.2.1, v1.1.2.2.2.2.1, ()), (v9.2.1.1, v9.2.1.2.1, v9.2.1.2.2.1, ()), ())
  | false =>
   match (v2.1 == (3 : Int)) with
   | true =>
    match s_l01Next ((v2.2.1.1, v2.2.1.2.1, v2.2.1.2.2.1, ()), (2 : Int), ()) with
    | none => none
    | some v12 =>
    onSome (idx [(-1 : Int), (256 : Int)] v12.1) fun _ =>
    match [(-1 : Int), (256 : Int)][v12.1.toNat]? with
    | none => none
    | some v14 =>
    some ((v1.1.1, v1.1.2.1, v1.1.2.2.1, v14, v1.1.2.2.2.2.1, ()), (v12.2.1.1, v12.2.1.2.1, v12.2.1.2.2.1, ()), ())
   | false =>
    match (v2.1 == (4 : Int)) with
    | true =>
     match s_l01Next ((v2.2.1.1, v2.2.1.2.1, v2.2.1.2.2.1, ()), (2 : Int), ()) with
     | none => none
     | some v15 =>
     onSome (idx [(-1 : Int), (4294967296 : Int)] v15.1) fun _ =>
     match [(-1 : Int), (4294967296 : Int)][v15.1.toNat]? with
     | none => none
     | some v17 =>
     some ((v1.1.1, v1.1.2.1, v1.1.2.2.1, v1.1.2.2.2.1, v17, ()), (v15.2.1.1, v15.2.1.2.1, v15.2.1.2.2.1, ()), ())
    | false =>
     some ((v1.1.1, v1.1.2.1, v1.1.2.2.1, v1.1.2.2.2.1, v1.1.2.2.2.2.1, ()), (v2.2.1.1, v2.2.1.2.1, v2.2.1.2.2.1, ()), ())
noncomputable def S_s_l04DrawAny : Spec := ⟨(.pair (.box Tl01Source) .unit), (.pair TState .unit), (.pair (.box Tl01Source) .unit), rfl, s_l04DrawAny⟩
noncomputable def σ_s_l04DrawAny : FuncId → Option Spec := sig [(34, S_s_l01Next), (55, S_s_l04Draw)]
theorem σok_s_l04DrawAny : ∀ f s, σ_s_l04DrawAny f = some s → FnOK G0 Tryd.prog f s := sig_ok (l := [(34, S_s_l01Next), (55, S_s_l04Draw)]) ⟨ok_s_l01Next, ok_s_l04Draw, trivial⟩
noncomputable def Λ_s_l04DrawAny : Nat → Option LSpec := lkp (loopList (bodyOf Tryd.f56)) []
theorem ok_s_l04DrawAny : FnOK G0 Tryd.prog 56 S_s_l04DrawAny := fn_ok (Λ := Λ_s_l04DrawAny) tab0 σok_s_l04DrawAny Tryd.func56 (by kernel_rfl) (show Tryd.f56.body = some (bodyOf Tryd.f56) by kernel_rfl) [] rfl (by kernel_rfl) (by exact trivial) (by kernel_rfl)
  fun x y h => (show execFn Γ0 E0 σ_s_l04DrawAny Λ_s_l04DrawAny Tryd.f56 S_s_l04DrawAny x = s_l04DrawAny x by kernel_rfl).trans h

noncomputable def s_l33DrawOne (x : Ty.T (.pair (.box Tl01Source) .unit)) : Option (Ty.T (.pair TMark (.pair (.box Tl01Source) .unit))) :=
match s_l04Draw ((x.1.1, x.1.2.1, x.1.2.2.1, ()), ()) with
| none => none
| some v1 =>
match s_l01Next ((v1.2.1.1, v1.2.1.2.1, v1.2.1.2.2.1, ()), (3 : Int), ()) with
| none => none
| some v2 =>
match s_l01Next ((v2.2.1.1, v2.2.1.2.1, v2.2.1.2.2.1, ()), (5 : Int), ()) with
| none => none
| some v3 =>
match s_l01Next ((v3.2.1.1, v3.2.1.2.1, v3.2.1.2.2.1, ()), (4 : Int), ()) with
| none => none
| some v4 =>
onSome (idx [(3 : Int), (3 : Int), (3 : Int), v3.1] v4.1) fun _ =>
match [(3 : Int), (3 : Int), (3 : Int), v3.1][v4.1.toNat]? with
| none => none
| some v6 =>
match s_l01Next ((v4.2.1.1, v4.2.1.2.1, v4.2.1.2.2.1, ()), (80 : Int), ()) with
| none => none
| some v7 =>
match (v7.1 == (0 : Int)) with
| true =>
 match s_l04DrawAny ((v7.2.1.1, v7.2.1.2.1, v7.2.1.2.2.1, ()), ()) with
 | none => none
 | some v8 =>
 some (((v8.1.1, v8.1.2.1, v8.1.2.2.1, v8.1.2.2.2.1, v8.1.2.2.2.2.1, ()), v2.1, v6, ()), (v8.2.1.1, v8.2.1.2.1, v8.2.1.2.2.1, ()), ())
| false =>
 match (v7.1 == (1 : Int)) with
 | true =>
  match s_l01Next ((v7.2.1.1, v7.2.1.2.1, v7.2.1.2.2.1, ()), (2 : Int), ()) with
  | none => none
  | some v9 =>
  onSome (idx [(-1 : Int), (32 : Int)] v9.1) fun _ =>
  match [(-1 : Int), (32 : Int)][v9.1.toNat]? with
  | none => none
  | some v11 =>
  some (((v1.1.1, v1.1.2.1, v1.1.2.2.1, v1.1.2.2.2.1, v1.1.2.2.2.2.1, ()), v11, v6, ()), (v9.2.1.1, v9.2.1.2.1, v9.2.1.2.2.1, ()), ())
 | false =>
  match (v7.1 == (2 : Int)) with
  | true =>
   match s_l01Next ((v7.2.1.1, v7.2.1.2.1, v7.2.1.2.2.1, ()), (2 : Int), ()) with
   | none => none
   | some v12 =>
   onSome (idx [(-1 : Int), (5 : Int)] v12.1) fun _ =>
   match [(-1 : Int), (5 : Int)][v12.1.toNat]? with
   | none => none
   | some v14 =>
   some (((v1.1.1, v1.1.2.1, v1.1.2.2.1, v1.1.2.2.2.1, v1.1.2.2.2.2.1, ()), v2.1, v14, ()), (v12.2.1.1, v12.2.1.2.1, v12.2.1.2.2.1, ()), ())
  | false =>
   some (((v1.1.1, v1.1.2.1, v1.1.2.2.1, v1.1.2.2.2.1, v1.1.2.2.2.2.1, ()), v2.1, v6, ()), (v7.2.1.1, v7.2.1.2.1, v7.2.1.2.2.1, ()), ())
noncomputable def S_s_l33DrawOne : Spec := ⟨(.pair (.box Tl01Source) .unit), (.pair TMark .unit), (.pair (.box Tl01Source) .unit), rfl, s_l33DrawOne⟩
noncomputable def σ_s_l33DrawOne : FuncId → Option Spec := sig [(34, S_s_l01Next), (55, S_s_l04Draw), (56, S_s_l04DrawAny)]
theorem σok_s_l33DrawOne : ∀ f s, σ_s_l33DrawOne f = some s → FnOK G0 Tryd.prog f s := sig_ok (l := [(34, S_s_l01Next), (55, S_s_l04Draw), (56, S_s_l04DrawAny)]) ⟨ok_s_l01Next, ok_s_l04Draw, ok_s_l04DrawAny, trivial⟩
noncomputable def Λ_s_l33DrawOne : Nat → Option LSpec := lkp (loopList (bodyOf Tryd.f36)) []
theorem ok_s_l33DrawOne : FnOK G0 Tryd.prog 36 S_s_l33DrawOne := fn_ok (Λ := Λ_s_l33DrawOne) tab0 σok_s_l33DrawOne Tryd.func36 (by kernel_rfl) (show Tryd.f36.body = some (bodyOf Tryd.f36) by kernel_rfl) [] rfl (by kernel_rfl) (by exact trivial) (by kernel_rfl)
  fun x y h => (show execFn Γ0 E0 σ_s_l33DrawOne Λ_s_l33DrawOne Tryd.f36 S_s_l33DrawOne x = s_l33DrawOne x by kernel_rfl).trans h

noncomputable def b_s_l33Draw_3 (x : (Ty.T (.pair (.box Tl01Source) (.pair (.own 36 TMark) (.pair (.int .i64) .unit))))) : Option ((Ty.T (.pair (.box Tl01Source) (.pair (.own 36 TMark) (.pair (.int .i64) .unit)))) ⊕ ((Ty.T (.pair (.box Tl01Source) (.pair (.own 36 TMark) .unit))) ⊕ (Ty.T .unit))) :=
match (decide (x.2.2.1 > (0 : Int))) with
| true =>
 match s_l33DrawOne ((x.1.1, x.1.2.1, x.1.2.2.1, ()), ()) with
 | none => none
 | some v2 =>
 room (x.2.1.length + [v2.1].length) (
  some (.inl ((v2.2.1.1, v2.2.1.2.1, v2.2.1.2.2.1, ()), (x.2.1 ++ [v2.1]), (IntKind.i64.wrap (x.2.2.1 - (1 : Int))), ())))
| false =>
 some (.inr (.inl ((x.1.1, x.1.2.1, x.1.2.2.1, ()), x.2.1, ())))
noncomputable def s_l33Draw (x : Ty.T (.pair (.box Tl01Source) .unit)) : Option (Ty.T (.pair (.own 36 TMark) (.pair (.box Tl01Source) .unit))) :=
match s_l01Next ((x.1.1, x.1.2.1, x.1.2.2.1, ()), (10 : Int), ()) with
| none => none
| some v1 =>
match loopL b_s_l33Draw_3 ((v1.2.1.1, v1.2.1.2.1, v1.2.1.2.2.1, ()), [], v1.1, ()) with
| none => none
| some (.inl v3) =>
 match s_l01Next ((v3.1.1, v3.1.2.1, v3.1.2.2.1, ()), (60 : Int), ()) with
 | none => none
 | some v5 =>
 match (v5.1 == (0 : Int)) with
 | true =>
  match s_l01Next ((v5.2.1.1, v5.2.1.2.1, v5.2.1.2.2.1, ()), (2 : Int), ()) with
  | none => none
  | some v6 =>
  if 0 ≤ (IntKind.i64.wrap ((60 : Int) + v6.1)) ∧ (IntKind.i64.wrap ((60 : Int) + v6.1)) ≤ (IntKind.i64.wrap ((60 : Int) + v6.1)) then
   room ((IntKind.i64.wrap ((60 : Int) + v6.1)).toNat) (
    some ((List.replicate (IntKind.i64.wrap ((60 : Int) + v6.1)).toNat (((0 : Int), (0 : Int), (0 : Int), (0 : Int), (0 : Int), ()), (0 : Int), (0 : Int), ())), (v6.2.1.1, v6.2.1.2.1, v6.2.1.2.2.1, ()), ()))
  else none
 | false =>
  some (v3.2.1, (v5.2.1.1, v5.2.1.2.1, v5.2.1.2.2.1, ()), ())
| some (.inr v7) =>
 none
noncomputable def S_s_l33Draw : Spec := ⟨(.pair (.box Tl01Source) .unit), (.pair (.own 36 TMark) .unit), (.pair (.box Tl01Source) .unit), rfl, s_l33Draw⟩
noncomputable def σ_s_l33Draw : FuncId → Option Spec := sig [(34, S_s_l01Next), (36, S_s_l33DrawOne)]
theorem σok_s_l33Draw : ∀ f s, σ_s_l33Draw f = some s → FnOK G0 Tryd.prog f s := sig_ok (l := [(34, S_s_l01Next), (36, S_s_l33DrawOne)]) ⟨ok_s_l01Next, ok_s_l33DrawOne, trivial⟩
noncomputable def Λ_s_l33Draw : Nat → Option LSpec := lkp (loopList (bodyOf Tryd.f29)) [⟨[0, 3, 4], (.pair (.box Tl01Source) (.pair (.own 36 TMark) (.pair (.int .i64) .unit))), 0, [0, 3], (.pair (.box Tl01Source) (.pair (.own 36 TMark) .unit)), [], .unit, loopL b_s_l33Draw_3⟩]
theorem lok_s_l33Draw_3 (x) : codeK Γ0 E0 σ_s_l33Draw Λ_s_l33Draw Tryd.f29.ntmps (nthLoop Tryd.f29 0) (mkF Tryd.f29.ntmps [0, 3, 4] (.pair (.box Tl01Source) (.pair (.own 36 TMark) (.pair (.int .i64) .unit))) x) (readK σ_s_l33Draw Tryd.f29.ntmps [0, 3, 4] (.pair (.box Tl01Source) (.pair (.own 36 TMark) (.pair (.int .i64) .unit))) 0 [0, 3] (.pair (.box Tl01Source) (.pair (.own 36 TMark) .unit)) [] .unit) = b_s_l33Draw_3 x := by kernel_rfl
theorem ok_s_l33Draw : FnOK G0 Tryd.prog 29 S_s_l33Draw := fn_ok (Λ := Λ_s_l33Draw) tab0 σok_s_l33Draw Tryd.func29 (by kernel_rfl) (show Tryd.f29.body = some (bodyOf Tryd.f29) by kernel_rfl) [⟨[0, 3, 4], (.pair (.box Tl01Source) (.pair (.own 36 TMark) (.pair (.int .i64) .unit))), 0, [0, 3], (.pair (.box Tl01Source) (.pair (.own 36 TMark) .unit)), [], .unit, loopL b_s_l33Draw_3⟩] rfl (by kernel_rfl) (by exact ⟨loop_LOK (lok_s_l33Draw_3), trivial⟩) (by kernel_rfl)
  fun x y h => (show execFn Γ0 E0 σ_s_l33Draw Λ_s_l33Draw Tryd.f29 S_s_l33Draw x = s_l33Draw x by kernel_rfl).trans h

noncomputable def b_s_l01From_3 (x : (Ty.T (.pair (.list (.int .u8)) (.pair (.box Tl01Source) (.pair (.int .i64) .unit))))) : Option ((Ty.T (.pair (.list (.int .u8)) (.pair (.box Tl01Source) (.pair (.int .i64) .unit)))) ⊕ ((Ty.T (.pair (.box Tl01Source) .unit)) ⊕ (Ty.T .unit))) :=
match (decide (x.2.2.1 < (x.1.length : Int))) with
| true =>
 match (decide (x.2.2.1 < (64 : Int))) with
 | true =>
  onSome (idx x.1 x.2.2.1) fun v1 =>
  some (.inl (x.1, (x.2.1.1, x.2.1.2.1, (Int.tmod (IntKind.i64.wrap ((IntKind.i64.wrap (x.2.1.2.2.1 * (53 : Int))) + (IntKind.i64.wrap v1))) (2147483647 : Int)), ()), (IntKind.i64.wrap (x.2.2.1 + (1 : Int))), ()))
 | false =>
  some (.inr (.inl ((x.2.1.1, x.2.1.2.1, x.2.1.2.2.1, ()), ())))
| false =>
 some (.inr (.inl ((x.2.1.1, x.2.1.2.1, x.2.1.2.2.1, ()), ())))
noncomputable def s_l01From (x : Ty.T (.pair (.list (.int .u8)) .unit)) : Option (Ty.T (.pair (.box Tl01Source) .unit)) :=
match loopL b_s_l01From_3 (x.1, (x.1, (0 : Int), (40009 : Int), ()), (0 : Int), ()) with
| none => none
| some (.inl v2) =>
 some ((v2.1.1, v2.1.2.1, v2.1.2.2.1, ()), ())
| some (.inr v4) =>
 none
noncomputable def S_s_l01From : Spec := ⟨(.pair (.list (.int .u8)) .unit), (.pair (.box Tl01Source) .unit), .unit, rfl, s_l01From⟩
noncomputable def σ_s_l01From : FuncId → Option Spec := sig []
theorem σok_s_l01From : ∀ f s, σ_s_l01From f = some s → FnOK G0 Tryd.prog f s := sig_ok (l := []) trivial
noncomputable def Λ_s_l01From : Nat → Option LSpec := lkp (loopList (bodyOf Tryd.f30)) [⟨[0, 3, 4], (.pair (.list (.int .u8)) (.pair (.box Tl01Source) (.pair (.int .i64) .unit))), 0, [3], (.pair (.box Tl01Source) .unit), [], .unit, loopL b_s_l01From_3⟩]
theorem lok_s_l01From_3 (x) : codeK Γ0 E0 σ_s_l01From Λ_s_l01From Tryd.f30.ntmps (nthLoop Tryd.f30 0) (mkF Tryd.f30.ntmps [0, 3, 4] (.pair (.list (.int .u8)) (.pair (.box Tl01Source) (.pair (.int .i64) .unit))) x) (readK σ_s_l01From Tryd.f30.ntmps [0, 3, 4] (.pair (.list (.int .u8)) (.pair (.box Tl01Source) (.pair (.int .i64) .unit))) 0 [3] (.pair (.box Tl01Source) .unit) [] .unit) = b_s_l01From_3 x := by kernel_rfl
theorem ok_s_l01From : FnOK G0 Tryd.prog 30 S_s_l01From := fn_ok (Λ := Λ_s_l01From) tab0 σok_s_l01From Tryd.func30 (by kernel_rfl) (show Tryd.f30.body = some (bodyOf Tryd.f30) by kernel_rfl) [⟨[0, 3, 4], (.pair (.list (.int .u8)) (.pair (.box Tl01Source) (.pair (.int .i64) .unit))), 0, [3], (.pair (.box Tl01Source) .unit), [], .unit, loopL b_s_l01From_3⟩] rfl (by kernel_rfl) (by exact ⟨loop_LOK (lok_s_l01From_3), trivial⟩) (by kernel_rfl)
  fun x y h => (show execFn Γ0 E0 σ_s_l01From Λ_s_l01From Tryd.f30 S_s_l01From x = s_l01From x by kernel_rfl).trans h

noncomputable def s_DrawTraceText (x : Ty.T (.pair (.list (.int .u8)) .unit)) : Option (Ty.T (.pair (.own 36 TMark) .unit)) :=
match s_l01From (x.1, ()) with
| none => none
| some v1 =>
match s_l33Draw ((v1.1.1, v1.1.2.1, v1.1.2.2.1, ()), ()) with
| none => none
| some v2 =>
some (v2.1, ())
noncomputable def S_s_DrawTraceText : Spec := ⟨(.pair (.list (.int .u8)) .unit), (.pair (.own 36 TMark) .unit), .unit, rfl, s_DrawTraceText⟩
noncomputable def σ_s_DrawTraceText : FuncId → Option Spec := sig [(29, S_s_l33Draw), (30, S_s_l01From)]
theorem σok_s_DrawTraceText : ∀ f s, σ_s_DrawTraceText f = some s → FnOK G0 Tryd.prog f s := sig_ok (l := [(29, S_s_l33Draw), (30, S_s_l01From)]) ⟨ok_s_l33Draw, ok_s_l01From, trivial⟩
noncomputable def Λ_s_DrawTraceText : Nat → Option LSpec := lkp (loopList (bodyOf Tryd.f11)) []
theorem ok_s_DrawTraceText : FnOK G0 Tryd.prog 11 S_s_DrawTraceText := fn_ok (Λ := Λ_s_DrawTraceText) tab0 σok_s_DrawTraceText Tryd.func11 (by kernel_rfl) (show Tryd.f11.body = some (bodyOf Tryd.f11) by kernel_rfl) [] rfl (by kernel_rfl) (by exact trivial) (by kernel_rfl)
  fun x y h => (show execFn Γ0 E0 σ_s_DrawTraceText Λ_s_DrawTraceText Tryd.f11 S_s_DrawTraceText x = s_DrawTraceText x by kernel_rfl).trans h

noncomputable def strconv_FormatInt (x : Ty.T (.pair (.int .i64) (.pair (.int .i64) .unit))) : Option (Ty.T TerrorString) := onSome (formatI x.1 x.2.1) fun s => some (s, ())
noncomputable def S_strconv_FormatInt : Spec := ⟨(.pair (.int .i64) (.pair (.int .i64) .unit)), TerrorString, .unit, rfl, strconv_FormatInt⟩
theorem ok_strconv_FormatInt : FnOK G0 Tryd.prog 54 S_strconv_FormatInt := format_ok (entersF_of Tryd.func54 (by kernel_rfl) (show Tryd.f54.body = some (bodyOf Tryd.f54) by kernel_rfl)) (fun w h => g_tab h) (fun n h0 h1 w ht => Tryd.strconv_FormatInt_10 n h0 h1 w ht)

noncomputable def i_text (x : Ty.T (.pair (.int .i64) .unit)) : Option (Ty.T TerrorString) :=
match strconv_FormatInt (x.1, (10 : Int), ()) with
| none => none
| some v1 =>
some (v1.1, ())
noncomputable def S_i_text : Spec := ⟨(.pair (.int .i64) .unit), TerrorString, .unit, rfl, i_text⟩
noncomputable def σ_i_text : FuncId → Option Spec := sig [(54, S_strconv_FormatInt)]
theorem σok_i_text : ∀ f s, σ_i_text f = some s → FnOK G0 Tryd.prog f s := sig_ok (l := [(54, S_strconv_FormatInt)]) ⟨ok_strconv_FormatInt, trivial⟩
noncomputable def Λ_i_text : Nat → Option LSpec := lkp (loopList (bodyOf Tryd.f32)) []
theorem ok_i_text : FnOK G0 Tryd.prog 32 S_i_text := fn_ok (Λ := Λ_i_text) tab0 σok_i_text Tryd.func32 (by kernel_rfl) (show Tryd.f32.body = some (bodyOf Tryd.f32) by kernel_rfl) [] rfl (by kernel_rfl) (by exact trivial) (by kernel_rfl)
  fun x y h => (show execFn Γ0 E0 σ_i_text Λ_i_text Tryd.f32 S_i_text x = i_text x by kernel_rfl).trans h

noncomputable def i_StateText (x : Ty.T (.pair TState .unit)) : Option (Ty.T TerrorString) :=
match i_IsState ((x.1.1, x.1.2.1, x.1.2.2.1, x.1.2.2.2.1, x.1.2.2.2.2.1, ()), ()) with
| none => none
| some v1 =>
match (!v1.1) with
| true =>
 some ([], ())
| false =>
 match i_text (x.1.1, ()) with
 | none => none
 | some v2 =>
 room (v2.1.length + ([47] : List UInt8).length) (
  match i_text (x.1.2.1, ()) with
  | none => none
  | some v3 =>
  room ((v2.1 ++ ([47] : List UInt8)).length + v3.1.length) (
   room (((v2.1 ++ ([47] : List UInt8)) ++ v3.1).length + ([47] : List UInt8).length) (
    match i_text (x.1.2.2.1, ()) with
    | none => none
    | some v4 =>
    room ((((v2.1 ++ ([47] : List UInt8)) ++ v3.1) ++ ([47] : List UInt8)).length + v4.1.length) (
     room (((((v2.1 ++ ([47] : List UInt8)) ++ v3.1) ++ ([47] : List UInt8)) ++ v4.1).length + ([47] : List UInt8).length) (
      match i_text (x.1.2.2.2.1, ()) with
      | none => none
      | some v5 =>
      room ((((((v2.1 ++ ([47] : List UInt8)) ++ v3.1) ++ ([47] : List UInt8)) ++ v4.1) ++ ([47] : List UInt8)).length + v5.1.length) (
       room (((((((v2.1 ++ ([47] : List UInt8)) ++ v3.1) ++ ([47] : List UInt8)) ++ v4.1) ++ ([47] : List UInt8)) ++ v5.1).length + ([47] : List UInt8).length) (
        match i_text (x.1.2.2.2.2.1, ()) with
        | none => none
        | some v6 =>
        room ((((((((v2.1 ++ ([47] : List UInt8)) ++ v3.1) ++ ([47] : List UInt8)) ++ v4.1) ++ ([47] : List UInt8)) ++ v5.1) ++ ([47] : List UInt8)).length + v6.1.length) (
         some (((((((((v2.1 ++ ([47] : List UInt8)) ++ v3.1) ++ ([47] : List UInt8)) ++ v4.1) ++ ([47] : List UInt8)) ++ v5.1) ++ ([47] : List UInt8)) ++ v6.1), ())))))))))
noncomputable def S_i_StateText : Spec := ⟨(.pair TState .unit), TerrorString, .unit, rfl, i_StateText⟩
noncomputable def σ_i_StateText : FuncId → Option Spec := sig [(32, S_i_text), (38, S_i_IsState)]
theorem σok_i_StateText : ∀ f s, σ_i_StateText f = some s → FnOK G0 Tryd.prog f s := sig_ok (l := [(32, S_i_text), (38, S_i_IsState)]) ⟨ok_i_text, ok_i_IsState, trivial⟩
noncomputable def Λ_i_StateText : Nat → Option LSpec := lkp (loopList (bodyOf Tryd.f31)) []
theorem ok_i_StateText : FnOK G0 Tryd.prog 31 S_i_StateText := fn_ok (Λ := Λ_i_StateText) tab0 σok_i_StateText Tryd.func31 (by kernel_rfl) (show Tryd.f31.body = some (bodyOf Tryd.f31) by kernel_rfl) [] rfl (by kernel_rfl) (by exact trivial) (by kernel_rfl)
  fun x y h => (show execFn Γ0 E0 σ_i_StateText Λ_i_StateText Tryd.f31 S_i_StateText x = i_StateText x by kernel_rfl).trans h

noncomputable def b_i_TraceText_5 (x : (Ty.T (.pair .str (.pair (.list TMark) (.pair (.int .i64) (.pair (.int .i64) .unit)))))) : Option ((Ty.T (.pair .str (.pair (.list TMark) (.pair (.int .i64) (.pair (.int .i64) .unit))))) ⊕ ((Ty.T TerrorString) ⊕ (Ty.T .unit))) :=
match (decide (x.2.2.2.1 < x.2.2.1)) with
| true =>
 onSome (idx x.2.1 x.2.2.2.1) fun v2 =>
 match i_StateText ((v2.1.1, v2.1.2.1, v2.1.2.2.1, v2.1.2.2.2.1, v2.1.2.2.2.2.1, ()), ()) with
 | none => none
 | some v3 =>
 room (v3.1.length + ([32] : List UInt8).length) (
  match i_text (v2.2.1, ()) with
  | none => none
  | some v4 =>
  room ((v3.1 ++ ([32] : List UInt8)).length + v4.1.length) (
   room (((v3.1 ++ ([32] : List UInt8)) ++ v4.1).length + ([32] : List UInt8).length) (
    match i_StatusName (v2.2.2.1, ()) with
    | none => none
    | some v5 =>
    room ((((v3.1 ++ ([32] : List UInt8)) ++ v4.1) ++ ([32] : List UInt8)).length + v5.1.length) (
     room (((((v3.1 ++ ([32] : List UInt8)) ++ v4.1) ++ ([32] : List UInt8)) ++ v5.1).length + ([10] : List UInt8).length) (
      room (x.1.length + (((((v3.1 ++ ([32] : List UInt8)) ++ v4.1) ++ ([32] : List UInt8)) ++ v5.1) ++ ([10] : List UInt8)).length) (
       some (.inl ((x.1 ++ (((((v3.1 ++ ([32] : List UInt8)) ++ v4.1) ++ ([32] : List UInt8)) ++ v5.1) ++ ([10] : List UInt8))), x.2.1, x.2.2.1, (IntKind.i64.wrap (x.2.2.2.1 + (1 : Int))), ()))))))))
| false =>
 some (.inr (.inl (x.1, ())))
noncomputable def i_TraceText (x : Ty.T (.pair (.list TMark) .unit)) : Option (Ty.T TerrorString) :=
match i_isTrace (x.1, ()) with
| none => none
| some v1 =>
match (!v1.1) with
| true =>
 some ([], ())
| false =>
 match loopL b_i_TraceText_5 ([], x.1, (x.1.length : Int), (0 : Int), ()) with
 | none => none
 | some (.inl v6) =>
  some (v6.1, ())
 | some (.inr v8) =>
  none
noncomputable def S_i_TraceText : Spec := ⟨(.pair (.list TMark) .unit), TerrorString, .unit, rfl, i_TraceText⟩
noncomputable def σ_i_TraceText : FuncId → Option Spec := sig [(27, S_i_isTrace), (31, S_i_StateText), (32, S_i_text), (33, S_i_StatusName)]
theorem σok_i_TraceText : ∀ f s, σ_i_TraceText f = some s → FnOK G0 Tryd.prog f s := sig_ok (l := [(27, S_i_isTrace), (31, S_i_StateText), (32, S_i_text), (33, S_i_StatusName)]) ⟨ok_i_isTrace, ok_i_StateText, ok_i_text, ok_i_StatusName, trivial⟩
noncomputable def Λ_i_TraceText : Nat → Option LSpec := lkp (loopList (bodyOf Tryd.f12)) [⟨[3, 10, 11, 12], (.pair .str (.pair (.list TMark) (.pair (.int .i64) (.pair (.int .i64) .unit)))), 0, [3], TerrorString, [], .unit, loopL b_i_TraceText_5⟩]
theorem lok_i_TraceText_5 (x) : codeK Γ0 E0 σ_i_TraceText Λ_i_TraceText Tryd.f12.ntmps (nthLoop Tryd.f12 0) (mkF Tryd.f12.ntmps [3, 10, 11, 12] (.pair .str (.pair (.list TMark) (.pair (.int .i64) (.pair (.int .i64) .unit)))) x) (readK σ_i_TraceText Tryd.f12.ntmps [3, 10, 11, 12] (.pair .str (.pair (.list TMark) (.pair (.int .i64) (.pair (.int .i64) .unit)))) 0 [3] TerrorString [] .unit) = b_i_TraceText_5 x := by kernel_rfl
theorem ok_i_TraceText : FnOK G0 Tryd.prog 12 S_i_TraceText := fn_ok (Λ := Λ_i_TraceText) tab0 σok_i_TraceText Tryd.func12 (by kernel_rfl) (show Tryd.f12.body = some (bodyOf Tryd.f12) by kernel_rfl) [⟨[3, 10, 11, 12], (.pair .str (.pair (.list TMark) (.pair (.int .i64) (.pair (.int .i64) .unit)))), 0, [3], TerrorString, [], .unit, loopL b_i_TraceText_5⟩] rfl (by kernel_rfl) (by exact ⟨loop_LOK (lok_i_TraceText_5), trivial⟩) (by kernel_rfl)
  fun x y h => (show execFn Γ0 E0 σ_i_TraceText Λ_i_TraceText Tryd.f12 S_i_TraceText x = i_TraceText x by kernel_rfl).trans h

noncomputable def s_StateText (x : Ty.T (.pair TState .unit)) : Option (Ty.T TerrorString) :=
match s_IsState ((x.1.1, x.1.2.1, x.1.2.2.1, x.1.2.2.2.1, x.1.2.2.2.2.1, ()), ()) with
| none => none
| some v1 =>
match (!v1.1) with
| true =>
 some ([], ())
| false =>
 match s_l01Dec 100 (x.1.1, ()) with
 | none => none
 | some v2 =>
 room (v2.1.length + ([47] : List UInt8).length) (
  match s_l01Dec 100 (x.1.2.1, ()) with
  | none => none
  | some v3 =>
  room ((v2.1 ++ ([47] : List UInt8)).length + v3.1.length) (
   room (((v2.1 ++ ([47] : List UInt8)) ++ v3.1).length + ([47] : List UInt8).length) (
    match s_l01Dec 100 (x.1.2.2.1, ()) with
    | none => none
    | some v4 =>
    room ((((v2.1 ++ ([47] : List UInt8)) ++ v3.1) ++ ([47] : List UInt8)).length + v4.1.length) (
     room (((((v2.1 ++ ([47] : List UInt8)) ++ v3.1) ++ ([47] : List UInt8)) ++ v4.1).length + ([47] : List UInt8).length) (
      match s_l01Dec 100 (x.1.2.2.2.1, ()) with
      | none => none
      | some v5 =>
      room ((((((v2.1 ++ ([47] : List UInt8)) ++ v3.1) ++ ([47] : List UInt8)) ++ v4.1) ++ ([47] : List UInt8)).length + v5.1.length) (
       room (((((((v2.1 ++ ([47] : List UInt8)) ++ v3.1) ++ ([47] : List UInt8)) ++ v4.1) ++ ([47] : List UInt8)) ++ v5.1).length + ([47] : List UInt8).length) (
        match s_l01Dec 100 (x.1.2.2.2.2.1, ()) with
        | none => none
        | some v6 =>
        room ((((((((v2.1 ++ ([47] : List UInt8)) ++ v3.1) ++ ([47] : List UInt8)) ++ v4.1) ++ ([47] : List UInt8)) ++ v5.1) ++ ([47] : List UInt8)).length + v6.1.length) (
         some (((((((((v2.1 ++ ([47] : List UInt8)) ++ v3.1) ++ ([47] : List UInt8)) ++ v4.1) ++ ([47] : List UInt8)) ++ v5.1) ++ ([47] : List UInt8)) ++ v6.1), ())))))))))
noncomputable def S_s_StateText : Spec := ⟨(.pair TState .unit), TerrorString, .unit, rfl, s_StateText⟩
noncomputable def σ_s_StateText : FuncId → Option Spec := sig [(41, S_s_IsState), (58, S_s_l01Dec)]
theorem σok_s_StateText : ∀ f s, σ_s_StateText f = some s → FnOK G0 Tryd.prog f s := sig_ok (l := [(41, S_s_IsState), (58, S_s_l01Dec)]) ⟨ok_s_IsState, ok_s_l01Dec, trivial⟩
noncomputable def Λ_s_StateText : Nat → Option LSpec := lkp (loopList (bodyOf Tryd.f57)) []
theorem ok_s_StateText : FnOK G0 Tryd.prog 57 S_s_StateText := fn_ok (Λ := Λ_s_StateText) tab0 σok_s_StateText Tryd.func57 (by kernel_rfl) (show Tryd.f57.body = some (bodyOf Tryd.f57) by kernel_rfl) [] rfl (by kernel_rfl) (by exact trivial) (by kernel_rfl)
  fun x y h => (show execFn Γ0 E0 σ_s_StateText Λ_s_StateText Tryd.f57 S_s_StateText x = s_StateText x by kernel_rfl).trans h

noncomputable def s_StatusName (x : Ty.T (.pair (.int .i64) .unit)) : Option (Ty.T TerrorString) :=
match s_l01In (x.1, (0 : Int), (4 : Int), ()) with
| none => none
| some v1 =>
match (!v1.1) with
| true =>
 some ([], ())
| false =>
 match s_l28Names (()) with
 | none => none
 | some v2 =>
 onSome (idx v2.1 x.1) fun _ =>
 match v2.1[x.1.toNat]? with
 | none => none
 | some v4 =>
 some (v4, ())
noncomputable def S_s_StatusName : Spec := ⟨(.pair (.int .i64) .unit), TerrorString, .unit, rfl, s_StatusName⟩
noncomputable def σ_s_StatusName : FuncId → Option Spec := sig [(43, S_s_l01In), (62, S_s_l28Names)]
theorem σok_s_StatusName : ∀ f s, σ_s_StatusName f = some s → FnOK G0 Tryd.prog f s := sig_ok (l := [(43, S_s_l01In), (62, S_s_l28Names)]) ⟨ok_s_l01In, ok_s_l28Names, trivial⟩
noncomputable def Λ_s_StatusName : Nat → Option LSpec := lkp (loopList (bodyOf Tryd.f59)) []
theorem ok_s_StatusName : FnOK G0 Tryd.prog 59 S_s_StatusName := fn_ok (Λ := Λ_s_StatusName) tab0 σok_s_StatusName Tryd.func59 (by kernel_rfl) (show Tryd.f59.body = some (bodyOf Tryd.f59) by kernel_rfl) [] rfl (by kernel_rfl) (by exact trivial) (by kernel_rfl)
  fun x y h => (show execFn Γ0 E0 σ_s_StatusName Λ_s_StatusName Tryd.f59 S_s_StatusName x = s_StatusName x by kernel_rfl).trans h

noncomputable def s_l33Text (x : Ty.T (.pair TMark .unit)) : Option (Ty.T TerrorString) :=
match s_StateText ((x.1.1.1, x.1.1.2.1, x.1.1.2.2.1, x.1.1.2.2.2.1, x.1.1.2.2.2.2.1, ()), ()) with
| none => none
| some v1 =>
room (v1.1.length + ([32] : List UInt8).length) (
 match s_l01Dec 100 (x.1.2.1, ()) with
 | none => none
 | some v2 =>
 room ((v1.1 ++ ([32] : List UInt8)).length + v2.1.length) (
  room (((v1.1 ++ ([32] : List UInt8)) ++ v2.1).length + ([32] : List UInt8).length) (
   match s_StatusName (x.1.2.2.1, ()) with
   | none => none
   | some v3 =>
   room ((((v1.1 ++ ([32] : List UInt8)) ++ v2.1) ++ ([32] : List UInt8)).length + v3.1.length) (
    some (((((v1.1 ++ ([32] : List UInt8)) ++ v2.1) ++ ([32] : List UInt8)) ++ v3.1), ())))))
noncomputable def S_s_l33Text : Spec := ⟨(.pair TMark .unit), TerrorString, .unit, rfl, s_l33Text⟩
noncomputable def σ_s_l33Text : FuncId → Option Spec := sig [(57, S_s_StateText), (58, S_s_l01Dec), (59, S_s_StatusName)]
theorem σok_s_l33Text : ∀ f s, σ_s_l33Text f = some s → FnOK G0 Tryd.prog f s := sig_ok (l := [(57, S_s_StateText), (58, S_s_l01Dec), (59, S_s_StatusName)]) ⟨ok_s_StateText, ok_s_l01Dec, ok_s_StatusName, trivial⟩
noncomputable def Λ_s_l33Text : Nat → Option LSpec := lkp (loopList (bodyOf Tryd.f37)) []
theorem ok_s_l33Text : FnOK G0 Tryd.prog 37 S_s_l33Text := fn_ok (Λ := Λ_s_l33Text) tab0 σok_s_l33Text Tryd.func37 (by kernel_rfl) (show Tryd.f37.body = some (bodyOf Tryd.f37) by kernel_rfl) [] rfl (by kernel_rfl) (by exact trivial) (by kernel_rfl)
  fun x y h => (show execFn Γ0 E0 σ_s_l33Text Λ_s_l33Text Tryd.f37 S_s_l33Text x = s_l33Text x by kernel_rfl).trans h

noncomputable def b_s_TraceText_3 (x : (Ty.T (.pair (.list TMark) (.pair .str (.pair (.int .i64) .unit))))) : Option ((Ty.T (.pair (.list TMark) (.pair .str (.pair (.int .i64) .unit)))) ⊕ ((Ty.T TerrorString) ⊕ (Ty.T .unit))) :=
match (decide (x.2.2.1 < (x.1.length : Int))) with
| true =>
 match s_l33List (x.1, ()) with
 | none => none
 | some v1 =>
 match v1.1 with
 | true =>
  onSome (idx x.1 x.2.2.1) fun v2 =>
  match s_l33Text (v2, ()) with
  | none => none
  | some v3 =>
  room (x.2.1.length + v3.1.length) (
   room ((x.2.1 ++ v3.1).length + ([10] : List UInt8).length) (
    some (.inl (x.1, ((x.2.1 ++ v3.1) ++ ([10] : List UInt8)), (IntKind.i64.wrap (x.2.2.1 + (1 : Int))), ()))))
 | false =>
  some (.inr (.inl (x.2.1, ())))
| false =>
 some (.inr (.inl (x.2.1, ())))
noncomputable def s_TraceText (x : Ty.T (.pair (.list TMark) .unit)) : Option (Ty.T TerrorString) :=
match loopL b_s_TraceText_3 (x.1, [], (0 : Int), ()) with
| none => none
| some (.inl v4) =>
 some (v4.1, ())
| some (.inr v6) =>
 none
noncomputable def S_s_TraceText : Spec := ⟨(.pair (.list TMark) .unit), TerrorString, .unit, rfl, s_TraceText⟩
noncomputable def σ_s_TraceText : FuncId → Option Spec := sig [(21, S_s_l33List), (37, S_s_l33Text)]
theorem σok_s_TraceText : ∀ f s, σ_s_TraceText f = some s → FnOK G0 Tryd.prog f s := sig_ok (l := [(21, S_s_l33List), (37, S_s_l33Text)]) ⟨ok_s_l33List, ok_s_l33Text, trivial⟩
noncomputable def Λ_s_TraceText : Nat → Option LSpec := lkp (loopList (bodyOf Tryd.f15)) [⟨[0, 3, 4], (.pair (.list TMark) (.pair .str (.pair (.int .i64) .unit))), 0, [3], TerrorString, [], .unit, loopL b_s_TraceText_3⟩]
theorem lok_s_TraceText_3 (x) : codeK Γ0 E0 σ_s_TraceText Λ_s_TraceText Tryd.f15.ntmps (nthLoop Tryd.f15 0) (mkF Tryd.f15.ntmps [0, 3, 4] (.pair (.list TMark) (.pair .str (.pair (.int .i64) .unit))) x) (readK σ_s_TraceText Tryd.f15.ntmps [0, 3, 4] (.pair (.list TMark) (.pair .str (.pair (.int .i64) .unit))) 0 [3] TerrorString [] .unit) = b_s_TraceText_3 x := by kernel_rfl
theorem ok_s_TraceText : FnOK G0 Tryd.prog 15 S_s_TraceText := fn_ok (Λ := Λ_s_TraceText) tab0 σok_s_TraceText Tryd.func15 (by kernel_rfl) (show Tryd.f15.body = some (bodyOf Tryd.f15) by kernel_rfl) [⟨[0, 3, 4], (.pair (.list TMark) (.pair .str (.pair (.int .i64) .unit))), 0, [3], TerrorString, [], .unit, loopL b_s_TraceText_3⟩] rfl (by kernel_rfl) (by exact ⟨loop_LOK (lok_s_TraceText_3), trivial⟩) (by kernel_rfl)
  fun x y h => (show execFn Γ0 E0 σ_s_TraceText Λ_s_TraceText Tryd.f15 S_s_TraceText x = s_TraceText x by kernel_rfl).trans h

noncomputable def s_l01Damage (x : Ty.T (.pair (.box Tl01Source) TerrorString)) : Option (Ty.T (.pair .str (.pair (.box Tl01Source) .unit))) :=
match s_l01Next ((x.1.1, x.1.2.1, x.1.2.2.1, ()), (IntKind.i64.wrap ((x.2.1.length : Int) + (1 : Int))), ()) with
| none => none
| some v1 =>
match s_l01Next ((v1.2.1.1, v1.2.1.2.1, v1.2.1.2.2.1, ()), (8 : Int), ()) with
| none => none
| some v2 =>
match (v2.1 == (0 : Int)) with
| true =>
 onSome (bounds x.2.1.length none (some (.dat (.int .i64) v1.1))) fun v3 =>
 some ((List.drop v3.1 (List.take v3.2 x.2.1)), (v2.2.1.1, v2.2.1.2.1, v2.2.1.2.2.1, ()), ())
| false =>
 match (v2.1 == (1 : Int)) with
 | true =>
  onSome (bounds x.2.1.length none (some (.dat (.int .i64) v1.1))) fun v4 =>
  onSome (bounds x.2.1.length (some (.dat (.int .i64) v1.1)) none) fun v5 =>
  same (
   match s_l01Next ((v2.2.1.1, v2.2.1.2.1, v2.2.1.2.2.1, ()), (8 : Int), ()) with
   | none => none
   | some v6 =>
   onSome (idx [([48] : List UInt8), ([49] : List UInt8), ([32] : List UInt8), ([58] : List UInt8), ([45] : List UInt8), ([97] : List UInt8), ([47] : List UInt8), ([10] : List UInt8)] v6.1) fun _ =>
   match [([48] : List UInt8), ([49] : List UInt8), ([32] : List UInt8), ([58] : List UInt8), ([45] : List UInt8), ([97] : List UInt8), ([47] : List UInt8), ([10] : List UInt8)][v6.1.toNat]? with
   | none => none
   | some v8 =>
   room ((List.drop v4.1 (List.take v4.2 x.2.1)).length + v8.length) (
    room (((List.drop v4.1 (List.take v4.2 x.2.1)) ++ v8).length + (List.drop v5.1 (List.take v5.2 x.2.1)).length) (
     some ((((List.drop v4.1 (List.take v4.2 x.2.1)) ++ v8) ++ (List.drop v5.1 (List.take v5.2 x.2.1))), (v6.2.1.1, v6.2.1.2.1, v6.2.1.2.2.1, ()), ()))))
 | false =>
  match (v2.1 == (2 : Int)) with
  | true =>
   match (decide (v1.1 < (x.2.1.length : Int))) with
   | true =>
    onSome (bounds x.2.1.length none (some (.dat (.int .i64) v1.1))) fun v9 =>
    onSome (bounds x.2.1.length (some (.dat (.int .i64) (IntKind.i64.wrap (v1.1 + (1 : Int))))) none) fun v10 =>
    room ((List.drop v9.1 (List.take v9.2 x.2.1)).length + (List.drop v10.1 (List.take v10.2 x.2.1)).length) (
     some (((List.drop v9.1 (List.take v9.2 x.2.1)) ++ (List.drop v10.1 (List.take v10.2 x.2.1))), (v2.2.1.1, v2.2.1.2.1, v2.2.1.2.2.1, ()), ()))
   | false =>
    some (x.2.1, (v2.2.1.1, v2.2.1.2.1, v2.2.1.2.2.1, ()), ())
  | false =>
   some (x.2.1, (v2.2.1.1, v2.2.1.2.1, v2.2.1.2.2.1, ()), ())
noncomputable def S_s_l01Damage : Spec := ⟨(.pair (.box Tl01Source) TerrorString), TerrorString, (.pair (.box Tl01Source) .unit), rfl, s_l01Damage⟩
noncomputable def σ_s_l01Damage : FuncId → Option Spec := sig [(34, S_s_l01Next)]
theorem σok_s_l01Damage : ∀ f s, σ_s_l01Damage f = some s → FnOK G0 Tryd.prog f s := sig_ok (l := [(34, S_s_l01Next)]) ⟨ok_s_l01Next, trivial⟩
noncomputable def Λ_s_l01Damage : Nat → Option LSpec := lkp (loopList (bodyOf Tryd.f35)) []
theorem ok_s_l01Damage : FnOK G0 Tryd.prog 35 S_s_l01Damage := fn_ok (Λ := Λ_s_l01Damage) tab0 σok_s_l01Damage Tryd.func35 (by kernel_rfl) (show Tryd.f35.body = some (bodyOf Tryd.f35) by kernel_rfl) [] rfl (by kernel_rfl) (by exact trivial) (by kernel_rfl)
  fun x y h => (show execFn Γ0 E0 σ_s_l01Damage Λ_s_l01Damage Tryd.f35 S_s_l01Damage x = s_l01Damage x by kernel_rfl).trans h

noncomputable def s_DrawReadTrace (x : Ty.T (.pair (.list (.int .u8)) .unit)) : Option (Ty.T TerrorString) :=
match s_l01From (x.1, ()) with
| none => none
| some v1 =>
match s_l33Draw ((v1.1.1, v1.1.2.1, v1.1.2.2.1, ()), ()) with
| none => none
| some v2 =>
match s_TraceText (v2.1, ()) with
| none => none
| some v3 =>
match s_l01Next ((v2.2.1.1, v2.2.1.2.1, v2.2.1.2.2.1, ()), (3 : Int), ()) with
| none => none
| some v4 =>
match (v4.1 == (0 : Int)) with
| true =>
 match s_l01Damage ((v4.2.1.1, v4.2.1.2.1, v4.2.1.2.2.1, ()), v3.1, ()) with
 | none => none
 | some v5 =>
 some (v5.1, ())
| false =>
 some (v3.1, ())
noncomputable def S_s_DrawReadTrace : Spec := ⟨(.pair (.list (.int .u8)) .unit), TerrorString, .unit, rfl, s_DrawReadTrace⟩
noncomputable def σ_s_DrawReadTrace : FuncId → Option Spec := sig [(15, S_s_TraceText), (29, S_s_l33Draw), (30, S_s_l01From), (34, S_s_l01Next), (35, S_s_l01Damage)]
theorem σok_s_DrawReadTrace : ∀ f s, σ_s_DrawReadTrace f = some s → FnOK G0 Tryd.prog f s := sig_ok (l := [(15, S_s_TraceText), (29, S_s_l33Draw), (30, S_s_l01From), (34, S_s_l01Next), (35, S_s_l01Damage)]) ⟨ok_s_TraceText, ok_s_l33Draw, ok_s_l01From, ok_s_l01Next, ok_s_l01Damage, trivial⟩
noncomputable def Λ_s_DrawReadTrace : Nat → Option LSpec := lkp (loopList (bodyOf Tryd.f13)) []
theorem ok_s_DrawReadTrace : FnOK G0 Tryd.prog 13 S_s_DrawReadTrace := fn_ok (Λ := Λ_s_DrawReadTrace) tab0 σok_s_DrawReadTrace Tryd.func13 (by kernel_rfl) (show Tryd.f13.body = some (bodyOf Tryd.f13) by kernel_rfl) [] rfl (by kernel_rfl) (by exact trivial) (by kernel_rfl)
  fun x y h => (show execFn Γ0 E0 σ_s_DrawReadTrace Λ_s_DrawReadTrace Tryd.f13 S_s_DrawReadTrace x = s_DrawReadTrace x by kernel_rfl).trans h

noncomputable def s_DrawIsMark (x : Ty.T (.pair (.list (.int .u8)) .unit)) : Option (Ty.T (.pair TMark .unit)) :=
match s_l01From (x.1, ()) with
| none => none
| some v1 =>
match s_l33DrawOne ((v1.1.1, v1.1.2.1, v1.1.2.2.1, ()), ()) with
| none => none
| some v2 =>
some (((v2.1.1.1, v2.1.1.2.1, v2.1.1.2.2.1, v2.1.1.2.2.2.1, v2.1.1.2.2.2.2.1, ()), v2.1.2.1, v2.1.2.2.1, ()), ())
noncomputable def S_s_DrawIsMark : Spec := ⟨(.pair (.list (.int .u8)) .unit), (.pair TMark .unit), .unit, rfl, s_DrawIsMark⟩
noncomputable def σ_s_DrawIsMark : FuncId → Option Spec := sig [(30, S_s_l01From), (36, S_s_l33DrawOne)]
theorem σok_s_DrawIsMark : ∀ f s, σ_s_DrawIsMark f = some s → FnOK G0 Tryd.prog f s := sig_ok (l := [(30, S_s_l01From), (36, S_s_l33DrawOne)]) ⟨ok_s_l01From, ok_s_l33DrawOne, trivial⟩
noncomputable def Λ_s_DrawIsMark : Nat → Option LSpec := lkp (loopList (bodyOf Tryd.f14)) []
theorem ok_s_DrawIsMark : FnOK G0 Tryd.prog 14 S_s_DrawIsMark := fn_ok (Λ := Λ_s_DrawIsMark) tab0 σok_s_DrawIsMark Tryd.func14 (by kernel_rfl) (show Tryd.f14.body = some (bodyOf Tryd.f14) by kernel_rfl) [] rfl (by kernel_rfl) (by exact trivial) (by kernel_rfl)
  fun x y h => (show execFn Γ0 E0 σ_s_DrawIsMark Λ_s_DrawIsMark Tryd.f14 S_s_DrawIsMark x = s_DrawIsMark x by kernel_rfl).trans h

noncomputable def b_l_likeMarks_4 (x : (Ty.T (.pair (.list TMark) (.pair (.list TMark) (.pair (.int .i64) .unit))))) : Option ((Ty.T (.pair (.list TMark) (.pair (.list TMark) (.pair (.int .i64) .unit)))) ⊕ ((Ty.T .unit) ⊕ (Ty.T (.pair .bool .unit)))) :=
match (decide (x.2.2.1 < (x.1.length : Int))) with
| true =>
 onSome (idx x.1 x.2.2.1) fun v1 =>
 onSome (idx x.2.1 x.2.2.1) fun v2 =>
 match (!(eqT TMark v1 v2)) with
 | true =>
  some (.inr (.inr (false, ())))
 | false =>
  some (.inl (x.1, x.2.1, (IntKind.i64.wrap (x.2.2.1 + (1 : Int))), ()))
| false =>
 some (.inr (.inl (())))
noncomputable def l_likeMarks (x : Ty.T (.pair (.list TMark) (.pair (.list TMark) .unit))) : Option (Ty.T (.pair .bool .unit)) :=
match ((x.1.length : Int) != (x.2.1.length : Int)) with
| true =>
 some (false, ())
| false =>
 match loopL b_l_likeMarks_4 (x.1, x.2.1, (0 : Int), ()) with
 | none => none
 | some (.inl v3) =>
  some (true, ())
 | some (.inr v4) =>
  some (v4.1, ())
noncomputable def S_l_likeMarks : Spec := ⟨(.pair (.list TMark) (.pair (.list TMark) .unit)), (.pair .bool .unit), .unit, rfl, l_likeMarks⟩
noncomputable def σ_l_likeMarks : FuncId → Option Spec := sig []
theorem σok_l_likeMarks : ∀ f s, σ_l_likeMarks f = some s → FnOK G0 Tryd.prog f s := sig_ok (l := []) trivial
noncomputable def Λ_l_likeMarks : Nat → Option LSpec := lkp (loopList (bodyOf Tryd.f16)) [⟨[0, 1, 5], (.pair (.list TMark) (.pair (.list TMark) (.pair (.int .i64) .unit))), 0, [], .unit, [4], (.pair .bool .unit), loopL b_l_likeMarks_4⟩]
theorem lok_l_likeMarks_4 (x) : codeK Γ0 E0 σ_l_likeMarks Λ_l_likeMarks Tryd.f16.ntmps (nthLoop Tryd.f16 0) (mkF Tryd.f16.ntmps [0, 1, 5] (.pair (.list TMark) (.pair (.list TMark) (.pair (.int .i64) .unit))) x) (readK σ_l_likeMarks Tryd.f16.ntmps [0, 1, 5] (.pair (.list TMark) (.pair (.list TMark) (.pair (.int .i64) .unit))) 0 [] .unit [4] (.pair .bool .unit)) = b_l_likeMarks_4 x := by kernel_rfl
theorem ok_l_likeMarks : FnOK G0 Tryd.prog 16 S_l_likeMarks := fn_ok (Λ := Λ_l_likeMarks) tab0 σok_l_likeMarks Tryd.func16 (by kernel_rfl) (show Tryd.f16.body = some (bodyOf Tryd.f16) by kernel_rfl) [⟨[0, 1, 5], (.pair (.list TMark) (.pair (.list TMark) (.pair (.int .i64) .unit))), 0, [], .unit, [4], (.pair .bool .unit), loopL b_l_likeMarks_4⟩] rfl (by kernel_rfl) (by exact ⟨loop_LOK (lok_l_likeMarks_4), trivial⟩) (by kernel_rfl)
  fun x y h => (show execFn Γ0 E0 σ_l_likeMarks Λ_l_likeMarks Tryd.f16 S_l_likeMarks x = l_likeMarks x by kernel_rfl).trans h

noncomputable def l_FnTraceText (x : Ty.T (.pair (.list (.int .u8)) .unit)) : Option (Ty.T (.pair .bool .unit)) :=
match l_big (x.1, ()) with
| none => none
| some v1 =>
match v1.1 with
| true =>
 some (true, ())
| false =>
 match s_DrawTraceText (x.1, ()) with
 | none => none
 | some v2 =>
 match i_TraceText (v2.1, ()) with
 | none => none
 | some v3 =>
 match i_ReadTrace (v3.1, ()) with
 | none => none
 | some v4 =>
 match s_DrawReadTrace (x.1, ()) with
 | none => none
 | some v5 =>
 match i_ReadTrace (v5.1, ()) with
 | none => none
 | some v6 =>
 match s_ReadTrace (v5.1, ()) with
 | none => none
 | some v7 =>
 match s_DrawIsMark (x.1, ()) with
 | none => none
 | some v8 =>
 match s_TraceText (v2.1, ()) with
 | none => none
 | some v9 =>
 match (v3.1 == v9.1) with
 | true =>
  match v4.2.1 with
  | true =>
   match (v3.1 == []) with
   | true =>
    match (v6.2.1 == v7.2.1) with
    | true =>
     match l_likeMarks (v6.1, v7.1, ()) with
     | none => none
     | some v10 =>
     match v10.1 with
     | true =>
      match (!v6.2.1) with
      | true =>
       match i_IsMark (((v8.1.1.1, v8.1.1.2.1, v8.1.1.2.2.1, v8.1.1.2.2.2.1, v8.1.1.2.2.2.2.1, ()), v8.1.2.1, v8.1.2.2.1, ()), ()) with
       | none => none
       | some v11 =>
       match s_IsMark (((v8.1.1.1, v8.1.1.2.1, v8.1.1.2.2.1, v8.1.1.2.2.2.1, v8.1.1.2.2.2.2.1, ()), v8.1.2.1, v8.1.2.2.1, ()), ()) with
       | none => none
       | some v12 =>
       some ((v11.1 == v12.1), ())
      | false =>
       match i_TraceText (v6.1, ()) with
       | none => none
       | some v13 =>
       match (v13.1 == v5.1) with
       | true =>
        match i_IsMark (((v8.1.1.1, v8.1.1.2.1, v8.1.1.2.2.1, v8.1.1.2.2.2.1, v8.1.1.2.2.2.2.1, ()), v8.1.2.1, v8.1.2.2.1, ()), ()) with
        | none => none
        | some v14 =>
        match s_IsMark (((v8.1.1.1, v8.1.1.2.1, v8.1.1.2.2.1, v8.1.1.2.2.2.1, v8.1.1.2.2.2.2.1, ()), v8.1.2.1, v8.1.2.2.1, ()), ()) with
        | none => none
        | some v15 =>
        some ((v14.1 == v15.1), ())
       | false =>
        some (false, ())
     | false =>
      some (false, ())
    | false =>
     some (false, ())
   | false =>
    match l_likeMarks (v4.1, v2.1, ()) with
    | none => none
    | some v16 =>
    match v16.1 with
    | true =>
     match (v6.2.1 == v7.2.1) with
     | true =>
      match l_likeMarks (v6.1, v7.1, ()) with
      | none => none
      | some v17 =>
      match v17.1 with
      | true =>
       match (!v6.2.1) with
       | true =>
        match i_IsMark (((v8.1.1.1, v8.1.1.2.1, v8.1.1.2.2.1, v8.1.1.2.2.2.1, v8.1.1.2.2.2.2.1, ()), v8.1.2.1, v8.1.2.2.1, ()), ()) with
        | none => none
        | some v18 =>
        match s_IsMark (((v8.1.1.1, v8.1.1.2.1, v8.1.1.2.2.1, v8.1.1.2.2.2.1, v8.1.1.2.2.2.2.1, ()), v8.1.2.1, v8.1.2.2.1, ()), ()) with
        | none => none
        | some v19 =>
        some ((v18.1 == v19.1), ())
       | false =>
        match i_TraceText (v6.1, ()) with
        | none => none
        | some v20 =>
        match (v20.1 == v5.1) with
        | true =>
         match i_IsMark (((v8.1.1.1, v8.1.1.2.1, v8.1.1.2.2.1, v8.1.1.2.2.2.1, v8.1.1.2.2.2.2.1, ()), v8.1.2.1, v8.1.2.2.1, ()), ()) with
         | none => none
         | some v21 =>
         match s_IsMark (((v8.1.1.1, v8.1.1.2.1, v8.1.1.2.2.1, v8.1.1.2.2.2.1, v8.1.1.2.2.2.2.1, ()), v8.1.2.1, v8.1.2.2.1, ()), ()) with
         | none => none
         | some v22 =>
         some ((v21.1 == v22.1), ())
        | false =>
         some (false, ())
      | false =>
       some (false, ())
     | false =>
      some (false, ())
    | false =>
     some (false, ())
  | false =>
   some (false, ())
 | false =>
  some (false, ())
noncomputable def S_l_FnTraceText : Spec := ⟨(.pair (.list (.int .u8)) .unit), (.pair .bool .unit), .unit, rfl, l_FnTraceText⟩
noncomputable def σ_l_FnTraceText : FuncId → Option Spec := sig [(5, S_s_ReadTrace), (6, S_i_ReadTrace), (10, S_l_big), (11, S_s_DrawTraceText), (12, S_i_TraceText), (13, S_s_DrawReadTrace), (14, S_s_DrawIsMark), (15, S_s_TraceText), (16, S_l_likeMarks), (17, S_i_IsMark), (18, S_s_IsMark)]
theorem σok_l_FnTraceText : ∀ f s, σ_l_FnTraceText f = some s → FnOK G0 Tryd.prog f s := sig_ok (l := [(5, S_s_ReadTrace), (6, S_i_ReadTrace), (10, S_l_big), (11, S_s_DrawTraceText), (12, S_i_TraceText), (13, S_s_DrawReadTrace), (14, S_s_DrawIsMark), (15, S_s_TraceText), (16, S_l_likeMarks), (17, S_i_IsMark), (18, S_s_IsMark)]) ⟨ok_s_ReadTrace, ok_i_ReadTrace, ok_l_big, ok_s_DrawTraceText, ok_i_TraceText, ok_s_DrawReadTrace, ok_s_DrawIsMark, ok_s_TraceText, ok_l_likeMarks, ok_i_IsMark, ok_s_IsMark, trivial⟩
noncomputable def Λ_l_FnTraceText : Nat → Option LSpec := lkp (loopList (bodyOf Tryd.f4)) []
theorem ok_l_FnTraceText : FnOK G0 Tryd.prog 4 S_l_FnTraceText := fn_ok (Λ := Λ_l_FnTraceText) tab0 σok_l_FnTraceText Tryd.func4 (by kernel_rfl) (show Tryd.f4.body = some (bodyOf Tryd.f4) by kernel_rfl) [] rfl (by kernel_rfl) (by exact trivial) (by kernel_rfl)
  fun x y h => (show execFn Γ0 E0 σ_l_FnTraceText Λ_l_FnTraceText Tryd.f4 S_l_FnTraceText x = l_FnTraceText x by kernel_rfl).trans h

end Go.Proofs.YtdbgmpnibjnocaaDoor
