/- What the functions of the claim do, on data; written by the program gen.py. -/
import Derived.Test.YtmdflpfagbcaiaaDoorLoop
import Derived.Test.YtmdflpfagbcaiaaDoorLib
import Derived.Test.YtmdflpfagbcaiaaDoorNamesW
import Derived.Test.YtmdflpfagbcaiaaDoorSh
import Derived.Test.YtmdflpfagbcaiaaDoorProg
import Derived.KernelRfl
namespace Go.Proofs.YtmdflpfagbcaiaaDoor
open Go.RowKit
set_option linter.unusedVariables false

def bodyOf (f : Func) : Code := match f.body with | some c => c | none => .skip
def nthLoop (f : Func) (i : Nat) : Code := (loopList (bodyOf f)).getD i .skip
abbrev TerrorAddressString : Ty := (.pair .str (.pair (.int .u64) .unit))
abbrev TState : Ty := (.pair (.int .i64) (.pair (.int .i64) (.pair (.int .i64) (.pair (.int .i64) (.pair (.int .i64) .unit)))))
abbrev TMark : Ty := (.pair TState (.pair (.int .i64) (.pair (.int .i64) .unit)))
abbrev TboundsError : Ty := (.pair (.int .i64) (.pair (.int .i64) (.pair .bool (.pair (.int .u8) .unit))))
def Γ0 : Tab := [(2, (.int .i64)), (5, (.int .u8)), (9, .str), (22, (.list TMark)), (25, (.list TMark)), (32, TState), (34, TMark), (36, TState), (38, TMark), (51, (.list (.int .u8))), (52, (.list .str))]
def E0 : Elems := [(22, 38), (25, 34), (51, 5), (52, 9)]
theorem tab0 : tabB Tryd.prog Γ0 E0 = true := by kernel_rfl

abbrev G0 : Gl := Gl.tab Tryd.prog "internal/strconv.uint64pow10" .u64 Lib.pow10Tab
noncomputable def l_szMarkS (x : Ty.T (.pair (.list TMark) (.pair (.int .i64) .unit))) : Option (Ty.T (.pair (.int .i64) .unit)) :=
match (decide ((IntKind.i64.wrap (x.2.1 - (x.1.length : Int))) < (0 : Int))) with
| true =>
 some ((-1 : Int), ())
| false =>
 some ((IntKind.i64.wrap (x.2.1 - (x.1.length : Int))), ())
noncomputable def S_l_szMarkS : Spec := ⟨(.pair (.list TMark) (.pair (.int .i64) .unit)), (.pair (.int .i64) .unit), .unit, rfl, l_szMarkS⟩
noncomputable def σ_l_szMarkS : FuncId → Option Spec := sig []
theorem σok_l_szMarkS : ∀ f s, σ_l_szMarkS f = some s → FnOK G0 Tryd.prog f s := sig_ok (l := []) trivial
noncomputable def Λ_l_szMarkS : Nat → Option LSpec := lkp (loopList (bodyOf Tryd.f4)) []
theorem ok_l_szMarkS : FnOK G0 Tryd.prog 4 S_l_szMarkS := fn_ok (Λ := Λ_l_szMarkS) tab0 σok_l_szMarkS Tryd.func4 (by kernel_rfl) (show Tryd.f4.body = some (bodyOf Tryd.f4) by kernel_rfl) [] rfl (by kernel_rfl) (by exact trivial) (by kernel_rfl)
  fun x y h => (show execFn Γ0 E0 σ_l_szMarkS Λ_l_szMarkS Tryd.f4 S_l_szMarkS x = l_szMarkS x by kernel_rfl).trans h

noncomputable def s_l01In (x : Ty.T (.pair (.int .i64) (.pair (.int .i64) (.pair (.int .i64) .unit)))) : Option (Ty.T (.pair .bool .unit)) :=
match (decide (x.1 ≥ x.2.1)) with
| true =>
 some ((decide (x.1 ≤ x.2.2.1)), ())
| false =>
 some (false, ())
noncomputable def S_s_l01In : Spec := ⟨(.pair (.int .i64) (.pair (.int .i64) (.pair (.int .i64) .unit))), (.pair .bool .unit), .unit, rfl, s_l01In⟩
noncomputable def σ_s_l01In : FuncId → Option Spec := sig []
theorem σok_s_l01In : ∀ f s, σ_s_l01In f = some s → FnOK G0 Tryd.prog f s := sig_ok (l := []) trivial
noncomputable def Λ_s_l01In : Nat → Option LSpec := lkp (loopList (bodyOf Tryd.f31)) []
theorem ok_s_l01In : FnOK G0 Tryd.prog 31 S_s_l01In := fn_ok (Λ := Λ_s_l01In) tab0 σok_s_l01In Tryd.func31 (by kernel_rfl) (show Tryd.f31.body = some (bodyOf Tryd.f31) by kernel_rfl) [] rfl (by kernel_rfl) (by exact trivial) (by kernel_rfl)
  fun x y h => (show execFn Γ0 E0 σ_s_l01In Λ_s_l01In Tryd.f31 S_s_l01In x = s_l01In x by kernel_rfl).trans h

noncomputable def s_IsState (x : Ty.T (.pair TState .unit)) : Option (Ty.T (.pair .bool .unit)) :=
match s_l01In (x.1.1, (0 : Int), (65535 : Int), ()) with
| none => none
| some v1 =>
match v1.1 with
| true =>
 match s_l01In (x.1.2.1, (0 : Int), (15 : Int), ()) with
 | none => none
 | some v2 =>
 match v2.1 with
 | true =>
  match s_l01In (x.1.2.2.1, (0 : Int), (15 : Int), ()) with
  | none => none
  | some v3 =>
  match v3.1 with
  | true =>
   match s_l01In (x.1.2.2.2.1, (0 : Int), (255 : Int), ()) with
   | none => none
   | some v4 =>
   match v4.1 with
   | true =>
    match s_l01In (x.1.2.2.2.2.1, (0 : Int), (4294967295 : Int), ()) with
    | none => none
    | some v5 =>
    some (v5.1, ())
   | false =>
    some (false, ())
  | false =>
   some (false, ())
 | false =>
  some (false, ())
| false =>
 some (false, ())
noncomputable def S_s_IsState : Spec := ⟨(.pair TState .unit), (.pair .bool .unit), .unit, rfl, s_IsState⟩
noncomputable def σ_s_IsState : FuncId → Option Spec := sig [(31, S_s_l01In)]
theorem σok_s_IsState : ∀ f s, σ_s_IsState f = some s → FnOK G0 Tryd.prog f s := sig_ok (l := [(31, S_s_l01In)]) ⟨ok_s_l01In, trivial⟩
noncomputable def Λ_s_IsState : Nat → Option LSpec := lkp (loopList (bodyOf Tryd.f29)) []
theorem ok_s_IsState : FnOK G0 Tryd.prog 29 S_s_IsState := fn_ok (Λ := Λ_s_IsState) tab0 σok_s_IsState Tryd.func29 (by kernel_rfl) (show Tryd.f29.body = some (bodyOf Tryd.f29) by kernel_rfl) [] rfl (by kernel_rfl) (by exact trivial) (by kernel_rfl)
  fun x y h => (show execFn Γ0 E0 σ_s_IsState Λ_s_IsState Tryd.f29 S_s_IsState x = s_IsState x by kernel_rfl).trans h

noncomputable def s_l05Node (x : Ty.T (.pair (.int .i64) .unit)) : Option (Ty.T (.pair .bool .unit)) :=
match s_l01In (x.1, (0 : Int), (31 : Int), ()) with
| none => none
| some v1 =>
some (v1.1, ())
noncomputable def S_s_l05Node : Spec := ⟨(.pair (.int .i64) .unit), (.pair .bool .unit), .unit, rfl, s_l05Node⟩
noncomputable def σ_s_l05Node : FuncId → Option Spec := sig [(31, S_s_l01In)]
theorem σok_s_l05Node : ∀ f s, σ_s_l05Node f = some s → FnOK G0 Tryd.prog f s := sig_ok (l := [(31, S_s_l01In)]) ⟨ok_s_l01In, trivial⟩
noncomputable def Λ_s_l05Node : Nat → Option LSpec := lkp (loopList (bodyOf Tryd.f30)) []
theorem ok_s_l05Node : FnOK G0 Tryd.prog 30 S_s_l05Node := fn_ok (Λ := Λ_s_l05Node) tab0 σok_s_l05Node Tryd.func30 (by kernel_rfl) (show Tryd.f30.body = some (bodyOf Tryd.f30) by kernel_rfl) [] rfl (by kernel_rfl) (by exact trivial) (by kernel_rfl)
  fun x y h => (show execFn Γ0 E0 σ_s_l05Node Λ_s_l05Node Tryd.f30 S_s_l05Node x = s_l05Node x by kernel_rfl).trans h

noncomputable def s_IsMark (x : Ty.T (.pair TMark .unit)) : Option (Ty.T (.pair .bool .unit)) :=
match s_IsState ((x.1.1.1, x.1.1.2.1, x.1.1.2.2.1, x.1.1.2.2.2.1, x.1.1.2.2.2.2.1, ()), ()) with
| none => none
| some v1 =>
match v1.1 with
| true =>
 match s_l05Node (x.1.2.1, ()) with
 | none => none
 | some v2 =>
 match v2.1 with
 | true =>
  match s_l01In (x.1.2.2.1, (0 : Int), (4 : Int), ()) with
  | none => none
  | some v3 =>
  some (v3.1, ())
 | false =>
  some (false, ())
| false =>
 some (false, ())
noncomputable def S_s_IsMark : Spec := ⟨(.pair TMark .unit), (.pair .bool .unit), .unit, rfl, s_IsMark⟩
noncomputable def σ_s_IsMark : FuncId → Option Spec := sig [(29, S_s_IsState), (30, S_s_l05Node), (31, S_s_l01In)]
theorem σok_s_IsMark : ∀ f s, σ_s_IsMark f = some s → FnOK G0 Tryd.prog f s := sig_ok (l := [(29, S_s_IsState), (30, S_s_l05Node), (31, S_s_l01In)]) ⟨ok_s_IsState, ok_s_l05Node, ok_s_l01In, trivial⟩
noncomputable def Λ_s_IsMark : Nat → Option LSpec := lkp (loopList (bodyOf Tryd.f17)) []
theorem ok_s_IsMark : FnOK G0 Tryd.prog 17 S_s_IsMark := fn_ok (Λ := Λ_s_IsMark) tab0 σok_s_IsMark Tryd.func17 (by kernel_rfl) (show Tryd.f17.body = some (bodyOf Tryd.f17) by kernel_rfl) [] rfl (by kernel_rfl) (by exact trivial) (by kernel_rfl)
  fun x y h => (show execFn Γ0 E0 σ_s_IsMark Λ_s_IsMark Tryd.f17 S_s_IsMark x = s_IsMark x by kernel_rfl).trans h

noncomputable def b_s_l33List_2 (x : (Ty.T (.pair (.list TMark) (.pair (.int .i64) .unit)))) : Option ((Ty.T (.pair (.list TMark) (.pair (.int .i64) .unit))) ⊕ ((Ty.T (.pair (.list TMark) .unit)) ⊕ (Ty.T (.pair .bool .unit)))) :=
match (decide (x.2.1 < (x.1.length : Int))) with
| true =>
 onSome (idx x.1 x.2.1) fun v1 =>
 match s_IsMark (v1, ()) with
 | none => none
 | some v2 =>
 match (!v2.1) with
 | true =>
  some (.inr (.inr (false, ())))
 | false =>
  some (.inl (x.1, (IntKind.i64.wrap (x.2.1 + (1 : Int))), ()))
| false =>
 some (.inr (.inl (x.1, ())))
noncomputable def s_l33List (x : Ty.T (.pair (.list TMark) .unit)) : Option (Ty.T (.pair .bool .unit)) :=
match loopL b_s_l33List_2 (x.1, (0 : Int), ()) with
| none => none
| some (.inl v3) =>
 some ((decide ((v3.1.length : Int) ≤ (60 : Int))), ())
| some (.inr v4) =>
 some (v4.1, ())
noncomputable def S_s_l33List : Spec := ⟨(.pair (.list TMark) .unit), (.pair .bool .unit), .unit, rfl, s_l33List⟩
noncomputable def σ_s_l33List : FuncId → Option Spec := sig [(17, S_s_IsMark)]
theorem σok_s_l33List : ∀ f s, σ_s_l33List f = some s → FnOK G0 Tryd.prog f s := sig_ok (l := [(17, S_s_IsMark)]) ⟨ok_s_IsMark, trivial⟩
noncomputable def Λ_s_l33List : Nat → Option LSpec := lkp (loopList (bodyOf Tryd.f9)) [⟨[0, 3], (.pair (.list TMark) (.pair (.int .i64) .unit)), 0, [0], (.pair (.list TMark) .unit), [2], (.pair .bool .unit), loopL b_s_l33List_2⟩]
theorem lok_s_l33List_2 (x) : codeK Γ0 E0 σ_s_l33List Λ_s_l33List Tryd.f9.ntmps (nthLoop Tryd.f9 0) (mkF Tryd.f9.ntmps [0, 3] (.pair (.list TMark) (.pair (.int .i64) .unit)) x) (readK σ_s_l33List Tryd.f9.ntmps [0, 3] (.pair (.list TMark) (.pair (.int .i64) .unit)) 0 [0] (.pair (.list TMark) .unit) [2] (.pair .bool .unit)) = b_s_l33List_2 x := by kernel_rfl
theorem ok_s_l33List : FnOK G0 Tryd.prog 9 S_s_l33List := fn_ok (Λ := Λ_s_l33List) tab0 σok_s_l33List Tryd.func9 (by kernel_rfl) (show Tryd.f9.body = some (bodyOf Tryd.f9) by kernel_rfl) [⟨[0, 3], (.pair (.list TMark) (.pair (.int .i64) .unit)), 0, [0], (.pair (.list TMark) .unit), [2], (.pair .bool .unit), loopL b_s_l33List_2⟩] rfl (by kernel_rfl) (by exact ⟨loop_LOK (lok_s_l33List_2), trivial⟩) (by kernel_rfl)
  fun x y h => (show execFn Γ0 E0 σ_s_l33List Λ_s_l33List Tryd.f9 S_s_l33List x = s_l33List x by kernel_rfl).trans h

noncomputable def F_s_l01Dec (rec : Ty.T (.pair (.int .i64) .unit) → Option (Ty.T (.pair .str .unit))) (x : Ty.T (.pair (.int .i64) .unit)) : Option (Ty.T (.pair .str .unit)) :=
match (decide (x.1 < (10 : Int))) with
| true =>
 some ((List.map (fun n => UInt8.ofNat (Int.toNat n)) ([(IntKind.u8.wrap (IntKind.i64.wrap ((48 : Int) + x.1)))] : List Int)), ())
| false =>
 both (
  match rec ((IntKind.i64.wrap (Int.tdiv x.1 (10 : Int))), ()) with
  | none => none
  | some v1 =>
  room (v1.1.length + (List.map (fun n => UInt8.ofNat (Int.toNat n)) ([(IntKind.u8.wrap (IntKind.i64.wrap ((48 : Int) + (Int.tmod x.1 (10 : Int)))))] : List Int)).length) (
   some ((v1.1 ++ (List.map (fun n => UInt8.ofNat (Int.toNat n)) ([(IntKind.u8.wrap (IntKind.i64.wrap ((48 : Int) + (Int.tmod x.1 (10 : Int)))))] : List Int))), ()))) (
  same (
   match rec ((IntKind.i64.wrap (Int.tdiv x.1 (10 : Int))), ()) with
   | none => none
   | some v1 =>
   room (v1.1.length + (List.map (fun n => UInt8.ofNat (Int.toNat n)) ([(IntKind.u8.wrap (IntKind.i64.wrap ((48 : Int) + (Int.tmod x.1 (10 : Int)))))] : List Int)).length) (
    some ((v1.1 ++ (List.map (fun n => UInt8.ofNat (Int.toNat n)) ([(IntKind.u8.wrap (IntKind.i64.wrap ((48 : Int) + (Int.tmod x.1 (10 : Int)))))] : List Int))), ()))))
noncomputable def s_l01Dec (i : Nat) : Ty.T (.pair (.int .i64) .unit) → Option (Ty.T (.pair .str .unit)) := Nat.rec (fun _ => none) (fun _ f => F_s_l01Dec f) i
noncomputable def R_s_l01Dec (rec : Ty.T (.pair (.int .i64) .unit) → Option (Ty.T (.pair .str .unit))) : Spec := ⟨(.pair (.int .i64) .unit), (.pair .str .unit), .unit, rfl, rec⟩
noncomputable def S_s_l01Dec : Spec := R_s_l01Dec (s_l01Dec 100)
noncomputable def σ_s_l01Dec (rec : Ty.T (.pair (.int .i64) .unit) → Option (Ty.T (.pair .str .unit))) : FuncId → Option Spec := sig [(19, R_s_l01Dec rec)]
theorem σok_s_l01Dec (rec : Ty.T (.pair (.int .i64) .unit) → Option (Ty.T (.pair .str .unit))) (hr : FnOK G0 Tryd.prog 19 (R_s_l01Dec rec)) : ∀ f s, (σ_s_l01Dec rec) f = some s → FnOK G0 Tryd.prog f s := sig_ok (l := [(19, R_s_l01Dec rec)]) ⟨hr, trivial⟩
noncomputable def Λ_s_l01Dec (rec : Ty.T (.pair (.int .i64) .unit) → Option (Ty.T (.pair .str .unit))) : Nat → Option LSpec := lkp (loopList (bodyOf Tryd.f19)) []
theorem step_s_l01Dec (rec : Ty.T (.pair (.int .i64) .unit) → Option (Ty.T (.pair .str .unit))) (hr : FnOK G0 Tryd.prog 19 (R_s_l01Dec rec)) : FnOK G0 Tryd.prog 19 (R_s_l01Dec (F_s_l01Dec rec)) := fn_ok (Λ := (Λ_s_l01Dec rec)) tab0 (σok_s_l01Dec rec hr) Tryd.func19 (by kernel_rfl) (show Tryd.f19.body = some (bodyOf Tryd.f19) by kernel_rfl) [] rfl (by kernel_rfl) (by exact trivial) (by kernel_rfl)
  fun x y h => (show execFn Γ0 E0 (σ_s_l01Dec rec) (Λ_s_l01Dec rec) Tryd.f19 (R_s_l01Dec (F_s_l01Dec rec)) x = F_s_l01Dec rec x by kernel_rfl).trans h
theorem fuel_s_l01Dec : ∀ i, FnOK G0 Tryd.prog 19 (R_s_l01Dec (s_l01Dec i))
  | 0 => none_ok Tryd.func19 (by kernel_rfl) (show Tryd.f19.body = some (bodyOf Tryd.f19) by kernel_rfl)
  | i + 1 => step_s_l01Dec _ (fuel_s_l01Dec i)
theorem ok_s_l01Dec : FnOK G0 Tryd.prog 19 S_s_l01Dec := fuel_s_l01Dec 100

noncomputable def s_StateText (x : Ty.T (.pair TState .unit)) : Option (Ty.T (.pair .str .unit)) :=
match s_IsState ((x.1.1, x.1.2.1, x.1.2.2.1, x.1.2.2.2.1, x.1.2.2.2.2.1, ()), ()) with
| none => none
| some v1 =>
match (!v1.1) with
| true =>
 some ([], ())
| false =>
 match s_l01Dec 100 (x.1.1, ()) with
 | none => none
 | some v2 =>
 room (v2.1.length + ([47] : List UInt8).length) (
  match s_l01Dec 100 (x.1.2.1, ()) with
  | none => none
  | some v3 =>
  room ((v2.1 ++ ([47] : List UInt8)).length + v3.1.length) (
   room (((v2.1 ++ ([47] : List UInt8)) ++ v3.1).length + ([47] : List UInt8).length) (
    match s_l01Dec 100 (x.1.2.2.1, ()) with
    | none => none
    | some v4 =>
    room ((((v2.1 ++ ([47] : List UInt8)) ++ v3.1) ++ ([47] : List UInt8)).length + v4.1.length) (
     room (((((v2.1 ++ ([47] : List UInt8)) ++ v3.1) ++ ([47] : List UInt8)) ++ v4.1).length + ([47] : List UInt8).length) (
      match s_l01Dec 100 (x.1.2.2.2.1, ()) with
      | none => none
      | some v5 =>
      room ((((((v2.1 ++ ([47] : List UInt8)) ++ v3.1) ++ ([47] : List UInt8)) ++ v4.1) ++ ([47] : List UInt8)).length + v5.1.length) (
       room (((((((v2.1 ++ ([47] : List UInt8)) ++ v3.1) ++ ([47] : List UInt8)) ++ v4.1) ++ ([47] : List UInt8)) ++ v5.1).length + ([47] : List UInt8).length) (
        match s_l01Dec 100 (x.1.2.2.2.2.1, ()) with
        | none => none
        | some v6 =>
        room ((((((((v2.1 ++ ([47] : List UInt8)) ++ v3.1) ++ ([47] : List UInt8)) ++ v4.1) ++ ([47] : List UInt8)) ++ v5.1) ++ ([47] : List UInt8)).length + v6.1.length) (
         some (((((((((v2.1 ++ ([47] : List UInt8)) ++ v3.1) ++ ([47] : List UInt8)) ++ v4.1) ++ ([47] : List UInt8)) ++ v5.1) ++ ([47] : List UInt8)) ++ v6.1), ())))))))))
noncomputable def S_s_StateText : Spec := ⟨(.pair TState .unit), (.pair .str .unit), .unit, rfl, s_StateText⟩
noncomputable def σ_s_StateText : FuncId → Option Spec := sig [(19, S_s_l01Dec), (29, S_s_IsState)]
theorem σok_s_StateText : ∀ f s, σ_s_StateText f = some s → FnOK G0 Tryd.prog f s := sig_ok (l := [(19, S_s_l01Dec), (29, S_s_IsState)]) ⟨ok_s_l01Dec, ok_s_IsState, trivial⟩
noncomputable def Λ_s_StateText : Nat → Option LSpec := lkp (loopList (bodyOf Tryd.f18)) []
theorem ok_s_StateText : FnOK G0 Tryd.prog 18 S_s_StateText := fn_ok (Λ := Λ_s_StateText) tab0 σok_s_StateText Tryd.func18 (by kernel_rfl) (show Tryd.f18.body = some (bodyOf Tryd.f18) by kernel_rfl) [] rfl (by kernel_rfl) (by exact trivial) (by kernel_rfl)
  fun x y h => (show execFn Γ0 E0 σ_s_StateText Λ_s_StateText Tryd.f18 S_s_StateText x = s_StateText x by kernel_rfl).trans h

noncomputable def s_l28Names (x : Ty.T .unit) : Option (Ty.T (.pair (.own 9 .str) .unit)) :=
some ([([110, 117, 108, 108] : List UInt8), ([105, 110, 118, 97, 108, 105, 100] : List UInt8), ([105, 110, 99, 111, 114, 114, 101, 99, 116] : List UInt8), ([99, 111, 114, 114, 101, 99, 116] : List UInt8), ([100, 105, 115, 97, 103, 114, 101, 101] : List UInt8)], ())
noncomputable def S_s_l28Names : Spec := ⟨.unit, (.pair (.own 9 .str) .unit), .unit, rfl, s_l28Names⟩
noncomputable def σ_s_l28Names : FuncId → Option Spec := sig []
theorem σok_s_l28Names : ∀ f s, σ_s_l28Names f = some s → FnOK G0 Tryd.prog f s := sig_ok (l := []) trivial
noncomputable def Λ_s_l28Names : Nat → Option LSpec := lkp (loopList (bodyOf Tryd.f32)) []
theorem ok_s_l28Names : FnOK G0 Tryd.prog 32 S_s_l28Names := fn_ok (Λ := Λ_s_l28Names) tab0 σok_s_l28Names Tryd.func32 (by kernel_rfl) (show Tryd.f32.body = some (bodyOf Tryd.f32) by kernel_rfl) [] rfl (by kernel_rfl) (by exact trivial) (by kernel_rfl)
  fun x y h => (show execFn Γ0 E0 σ_s_l28Names Λ_s_l28Names Tryd.f32 S_s_l28Names x = s_l28Names x by kernel_rfl).trans h

noncomputable def s_StatusName (x : Ty.T (.pair (.int .i64) .unit)) : Option (Ty.T (.pair .str .unit)) :=
match s_l01In (x.1, (0 : Int), (4 : Int), ()) with
| none => none
| some v1 =>
match (!v1.1) with
| true =>
 some ([], ())
| false =>
 match s_l28Names (()) with
 | none => none
 | some v2 =>
 onSome (idx v2.1 x.1) fun _ =>
 match v2.1[x.1.toNat]? with
 | none => none
 | some v4 =>
 some (v4, ())
noncomputable def S_s_StatusName : Spec := ⟨(.pair (.int .i64) .unit), (.pair .str .unit), .unit, rfl, s_StatusName⟩
noncomputable def σ_s_StatusName : FuncId → Option Spec := sig [(31, S_s_l01In), (32, S_s_l28Names)]
theorem σok_s_StatusName : ∀ f s, σ_s_StatusName f = some s → FnOK G0 Tryd.prog f s := sig_ok (l := [(31, S_s_l01In), (32, S_s_l28Names)]) ⟨ok_s_l01In, ok_s_l28Names, trivial⟩
noncomputable def Λ_s_StatusName : Nat → Option LSpec := lkp (loopList (bodyOf Tryd.f20)) []
theorem ok_s_StatusName : FnOK G0 Tryd.prog 20 S_s_StatusName := fn_ok (Λ := Λ_s_StatusName) tab0 σok_s_StatusName Tryd.func20 (by kernel_rfl) (show Tryd.f20.body = some (bodyOf Tryd.f20) by kernel_rfl) [] rfl (by kernel_rfl) (by exact trivial) (by kernel_rfl)
  fun x y h => (show execFn Γ0 E0 σ_s_StatusName Λ_s_StatusName Tryd.f20 S_s_StatusName x = s_StatusName x by kernel_rfl).trans h

noncomputable def s_l33Text (x : Ty.T (.pair TMark .unit)) : Option (Ty.T (.pair .str .unit)) :=
match s_StateText ((x.1.1.1, x.1.1.2.1, x.1.1.2.2.1, x.1.1.2.2.2.1, x.1.1.2.2.2.2.1, ()), ()) with
| none => none
| some v1 =>
room (v1.1.length + ([32] : List UInt8).length) (
 match s_l01Dec 100 (x.1.2.1, ()) with
 | none => none
 | some v2 =>
 room ((v1.1 ++ ([32] : List UInt8)).length + v2.1.length) (
  room (((v1.1 ++ ([32] : List UInt8)) ++ v2.1).length + ([32] : List UInt8).length) (
   match s_StatusName (x.1.2.2.1, ()) with
   | none => none
   | some v3 =>
   room ((((v1.1 ++ ([32] : List UInt8)) ++ v2.1) ++ ([32] : List UInt8)).length + v3.1.length) (
    some (((((v1.1 ++ ([32] : List UInt8)) ++ v2.1) ++ ([32] : List UInt8)) ++ v3.1), ())))))
noncomputable def S_s_l33Text : Spec := ⟨(.pair TMark .unit), (.pair .str .unit), .unit, rfl, s_l33Text⟩
noncomputable def σ_s_l33Text : FuncId → Option Spec := sig [(18, S_s_StateText), (19, S_s_l01Dec), (20, S_s_StatusName)]
theorem σok_s_l33Text : ∀ f s, σ_s_l33Text f = some s → FnOK G0 Tryd.prog f s := sig_ok (l := [(18, S_s_StateText), (19, S_s_l01Dec), (20, S_s_StatusName)]) ⟨ok_s_StateText, ok_s_l01Dec, ok_s_StatusName, trivial⟩
noncomputable def Λ_s_l33Text : Nat → Option LSpec := lkp (loopList (bodyOf Tryd.f10)) []
theorem ok_s_l33Text : FnOK G0 Tryd.prog 10 S_s_l33Text := fn_ok (Λ := Λ_s_l33Text) tab0 σok_s_l33Text Tryd.func10 (by kernel_rfl) (show Tryd.f10.body = some (bodyOf Tryd.f10) by kernel_rfl) [] rfl (by kernel_rfl) (by exact trivial) (by kernel_rfl)
  fun x y h => (show execFn Γ0 E0 σ_s_l33Text Λ_s_l33Text Tryd.f10 S_s_l33Text x = s_l33Text x by kernel_rfl).trans h

noncomputable def b_s_TraceText_3 (x : (Ty.T (.pair (.list TMark) (.pair .str (.pair (.int .i64) .unit))))) : Option ((Ty.T (.pair (.list TMark) (.pair .str (.pair (.int .i64) .unit)))) ⊕ ((Ty.T (.pair .str .unit)) ⊕ (Ty.T .unit))) :=
match (decide (x.2.2.1 < (x.1.length : Int))) with
| true =>
 match s_l33List (x.1, ()) with
 | none => none
 | some v1 =>
 match v1.1 with
 | true =>
  onSome (idx x.1 x.2.2.1) fun v2 =>
  match s_l33Text (v2, ()) with
  | none => none
  | some v3 =>
  room (x.2.1.length + v3.1.length) (
   room ((x.2.1 ++ v3.1).length + ([10] : List UInt8).length) (
    some (.inl (x.1, ((x.2.1 ++ v3.1) ++ ([10] : List UInt8)), (IntKind.i64.wrap (x.2.2.1 + (1 : Int))), ()))))
 | false =>
  some (.inr (.inl (x.2.1, ())))
| false =>
 some (.inr (.inl (x.2.1, ())))
noncomputable def s_TraceText (x : Ty.T (.pair (.list TMark) .unit)) : Option (Ty.T (.pair .str .unit)) :=
match loopL b_s_TraceText_3 (x.1, [], (0 : Int), ()) with
| none => none
| some (.inl v4) =>
 some (v4.1, ())
| some (.inr v6) =>
 none
noncomputable def S_s_TraceText : Spec := ⟨(.pair (.list TMark) .unit), (.pair .str .unit), .unit, rfl, s_TraceText⟩
noncomputable def σ_s_TraceText : FuncId → Option Spec := sig [(9, S_s_l33List), (10, S_s_l33Text)]
theorem σok_s_TraceText : ∀ f s, σ_s_TraceText f = some s → FnOK G0 Tryd.prog f s := sig_ok (l := [(9, S_s_l33List), (10, S_s_l33Text)]) ⟨ok_s_l33List, ok_s_l33Text, trivial⟩
noncomputable def Λ_s_TraceText : Nat → Option LSpec := lkp (loopList (bodyOf Tryd.f5)) [⟨[0, 3, 4], (.pair (.list TMark) (.pair .str (.pair (.int .i64) .unit))), 0, [3], (.pair .str .unit), [], .unit, loopL b_s_TraceText_3⟩]
theorem lok_s_TraceText_3 (x) : codeK Γ0 E0 σ_s_TraceText Λ_s_TraceText Tryd.f5.ntmps (nthLoop Tryd.f5 0) (mkF Tryd.f5.ntmps [0, 3, 4] (.pair (.list TMark) (.pair .str (.pair (.int .i64) .unit))) x) (readK σ_s_TraceText Tryd.f5.ntmps [0, 3, 4] (.pair (.list TMark) (.pair .str (.pair (.int .i64) .unit))) 0 [3] (.pair .str .unit) [] .unit) = b_s_TraceText_3 x := by kernel_rfl
theorem ok_s_TraceText : FnOK G0 Tryd.prog 5 S_s_TraceText := fn_ok (Λ := Λ_s_TraceText) tab0 σok_s_TraceText Tryd.func5 (by kernel_rfl) (show Tryd.f5.body = some (bodyOf Tryd.f5) by kernel_rfl) [⟨[0, 3, 4], (.pair (.list TMark) (.pair .str (.pair (.int .i64) .unit))), 0, [3], (.pair .str .unit), [], .unit, loopL b_s_TraceText_3⟩] rfl (by kernel_rfl) (by exact ⟨loop_LOK (lok_s_TraceText_3), trivial⟩) (by kernel_rfl)
  fun x y h => (show execFn Γ0 E0 σ_s_TraceText Λ_s_TraceText Tryd.f5 S_s_TraceText x = s_TraceText x by kernel_rfl).trans h

noncomputable def l_toState (x : Ty.T (.pair TState .unit)) : Option (Ty.T (.pair TState .unit)) :=
some ((x.1.1, x.1.2.1, x.1.2.2.1, x.1.2.2.2.1, x.1.2.2.2.2.1, ()), ())
noncomputable def S_l_toState : Spec := ⟨(.pair TState .unit), (.pair TState .unit), .unit, rfl, l_toState⟩
noncomputable def σ_l_toState : FuncId → Option Spec := sig []
theorem σok_l_toState : ∀ f s, σ_l_toState f = some s → FnOK G0 Tryd.prog f s := sig_ok (l := []) trivial
noncomputable def Λ_l_toState : Nat → Option LSpec := lkp (loopList (bodyOf Tryd.f21)) []
theorem ok_l_toState : FnOK G0 Tryd.prog 21 S_l_toState := fn_ok (Λ := Λ_l_toState) tab0 σok_l_toState Tryd.func21 (by kernel_rfl) (show Tryd.f21.body = some (bodyOf Tryd.f21) by kernel_rfl) [] rfl (by kernel_rfl) (by exact trivial) (by kernel_rfl)
  fun x y h => (show execFn Γ0 E0 σ_l_toState Λ_l_toState Tryd.f21 S_l_toState x = l_toState x by kernel_rfl).trans h

noncomputable def l_toMark (x : Ty.T (.pair TMark .unit)) : Option (Ty.T (.pair TMark .unit)) :=
match l_toState ((x.1.1.1, x.1.1.2.1, x.1.1.2.2.1, x.1.1.2.2.2.1, x.1.1.2.2.2.2.1, ()), ()) with
| none => none
| some v1 =>
some (((v1.1.1, v1.1.2.1, v1.1.2.2.1, v1.1.2.2.2.1, v1.1.2.2.2.2.1, ()), x.1.2.1, x.1.2.2.1, ()), ())
noncomputable def S_l_toMark : Spec := ⟨(.pair TMark .unit), (.pair TMark .unit), .unit, rfl, l_toMark⟩
noncomputable def σ_l_toMark : FuncId → Option Spec := sig [(21, S_l_toState)]
theorem σok_l_toMark : ∀ f s, σ_l_toMark f = some s → FnOK G0 Tryd.prog f s := sig_ok (l := [(21, S_l_toState)]) ⟨ok_l_toState, trivial⟩
noncomputable def Λ_l_toMark : Nat → Option LSpec := lkp (loopList (bodyOf Tryd.f11)) []
theorem ok_l_toMark : FnOK G0 Tryd.prog 11 S_l_toMark := fn_ok (Λ := Λ_l_toMark) tab0 σok_l_toMark Tryd.func11 (by kernel_rfl) (show Tryd.f11.body = some (bodyOf Tryd.f11) by kernel_rfl) [] rfl (by kernel_rfl) (by exact trivial) (by kernel_rfl)
  fun x y h => (show execFn Γ0 E0 σ_l_toMark Λ_l_toMark Tryd.f11 S_l_toMark x = l_toMark x by kernel_rfl).trans h

noncomputable def b_l_toMarkS_3 (x : (Ty.T (.pair (.list TMark) (.pair (.own 34 TMark) (.pair (.int .i64) .unit))))) : Option ((Ty.T (.pair (.list TMark) (.pair (.own 34 TMark) (.pair (.int .i64) .unit)))) ⊕ ((Ty.T (.pair (.own 34 TMark) .unit)) ⊕ (Ty.T .unit))) :=
match (decide (x.2.2.1 < (x.1.length : Int))) with
| true =>
 onSome (idx x.1 x.2.2.1) fun v1 =>
 match l_toMark (v1, ()) with
 | none => none
 | some v2 =>
 onSome (idx x.2.1 x.2.2.1) fun _ =>
 match x.2.1[x.2.2.1.toNat]? with
 | none => none
 | some v4 =>
 some (.inl (x.1, (x.2.1.set x.2.2.1.toNat ((v2.1.1.1, v2.1.1.2.1, v2.1.1.2.2.1, v2.1.1.2.2.2.1, v2.1.1.2.2.2.2.1, ()), v2.1.2.1, v2.1.2.2.1, ())), (IntKind.i64.wrap (x.2.2.1 + (1 : Int))), ()))
| false =>
 some (.inr (.inl (x.2.1, ())))
noncomputable def l_toMarkS (x : Ty.T (.pair (.list TMark) .unit)) : Option (Ty.T (.pair (.own 34 TMark) .unit)) :=
if 0 ≤ (x.1.length : Int) ∧ (x.1.length : Int) ≤ (x.1.length : Int) then
 room ((x.1.length : Int).toNat) (
  match loopL b_l_toMarkS_3 (x.1, (List.replicate (x.1.length : Int).toNat (((0 : Int), (0 : Int), (0 : Int), (0 : Int), (0 : Int), ()), (0 : Int), (0 : Int), ())), (0 : Int), ()) with
  | none => none
  | some (.inl v5) =>
   some (v5.1, ())
  | some (.inr v7) =>
   none)
else none
noncomputable def S_l_toMarkS : Spec := ⟨(.pair (.list TMark) .unit), (.pair (.own 34 TMark) .unit), .unit, rfl, l_toMarkS⟩
noncomputable def σ_l_toMarkS : FuncId → Option Spec := sig [(11, S_l_toMark)]
theorem σok_l_toMarkS : ∀ f s, σ_l_toMarkS f = some s → FnOK G0 Tryd.prog f s := sig_ok (l := [(11, S_l_toMark)]) ⟨ok_l_toMark, trivial⟩
noncomputable def Λ_l_toMarkS : Nat → Option LSpec := lkp (loopList (bodyOf Tryd.f6)) [⟨[0, 3, 4], (.pair (.list TMark) (.pair (.own 34 TMark) (.pair (.int .i64) .unit))), 0, [3], (.pair (.own 34 TMark) .unit), [], .unit, loopL b_l_toMarkS_3⟩]
theorem lok_l_toMarkS_3 (x) : codeK Γ0 E0 σ_l_toMarkS Λ_l_toMarkS Tryd.f6.ntmps (nthLoop Tryd.f6 0) (mkF Tryd.f6.ntmps [0, 3, 4] (.pair (.list TMark) (.pair (.own 34 TMark) (.pair (.int .i64) .unit))) x) (readK σ_l_toMarkS Tryd.f6.ntmps [0, 3, 4] (.pair (.list TMark) (.pair (.own 34 TMark) (.pair (.int .i64) .unit))) 0 [3] (.pair (.own 34 TMark) .unit) [] .unit) = b_l_toMarkS_3 x := by kernel_rfl
theorem ok_l_toMarkS : FnOK G0 Tryd.prog 6 S_l_toMarkS := fn_ok (Λ := Λ_l_toMarkS) tab0 σok_l_toMarkS Tryd.func6 (by kernel_rfl) (show Tryd.f6.body = some (bodyOf Tryd.f6) by kernel_rfl) [⟨[0, 3, 4], (.pair (.list TMark) (.pair (.own 34 TMark) (.pair (.int .i64) .unit))), 0, [3], (.pair (.own 34 TMark) .unit), [], .unit, loopL b_l_toMarkS_3⟩] rfl (by kernel_rfl) (by exact ⟨loop_LOK (lok_l_toMarkS_3), trivial⟩) (by kernel_rfl)
  fun x y h => (show execFn Γ0 E0 σ_l_toMarkS Λ_l_toMarkS Tryd.f6 S_l_toMarkS x = l_toMarkS x by kernel_rfl).trans h

noncomputable def b_slices_IndexFunc_Mark_2 (x : (Ty.T (.pair (.list TMark) (.pair (.fn (.pair TMark .unit) (.pair .bool .unit)) (.pair (.int .i64) (.pair (.int .i64) .unit)))))) : Option ((Ty.T (.pair (.list TMark) (.pair (.fn (.pair TMark .unit) (.pair .bool .unit)) (.pair (.int .i64) (.pair (.int .i64) .unit))))) ⊕ ((Ty.T .unit) ⊕ (Ty.T (.pair (.int .i64) .unit)))) :=
match (decide (x.2.2.2.1 < x.2.2.1)) with
| true =>
 onSome (idx x.1 x.2.2.2.1) fun v1 =>
 match x.2.1 (v1, ()) with
 | none => none
 | some v2 =>
 match v2.1 with
 | true =>
  some (.inr (.inr (x.2.2.2.1, ())))
 | false =>
  some (.inl (x.1, x.2.1, x.2.2.1, (IntKind.i64.wrap (x.2.2.2.1 + (1 : Int))), ()))
| false =>
 some (.inr (.inl (())))
noncomputable def slices_IndexFunc_Mark (x : Ty.T (.pair (.list TMark) (.pair (.fn (.pair TMark .unit) (.pair .bool .unit)) .unit))) : Option (Ty.T (.pair (.int .i64) .unit)) :=
match loopL b_slices_IndexFunc_Mark_2 (x.1, x.2.1, (x.1.length : Int), (0 : Int), ()) with
| none => none
| some (.inl v3) =>
 some ((-1 : Int), ())
| some (.inr v4) =>
 some (v4.1, ())
noncomputable def S_slices_IndexFunc_Mark : Spec := ⟨(.pair (.list TMark) (.pair (.fn (.pair TMark .unit) (.pair .bool .unit)) .unit)), (.pair (.int .i64) .unit), .unit, rfl, slices_IndexFunc_Mark⟩
noncomputable def σ_slices_IndexFunc_Mark : FuncId → Option Spec := sig []
theorem σok_slices_IndexFunc_Mark : ∀ f s, σ_slices_IndexFunc_Mark f = some s → FnOK G0 Tryd.prog f s := sig_ok (l := []) trivial
noncomputable def Λ_slices_IndexFunc_Mark : Nat → Option LSpec := lkp (loopList (bodyOf Tryd.f33)) [⟨[0, 1, 7, 8], (.pair (.list TMark) (.pair (.fn (.pair TMark .unit) (.pair .bool .unit)) (.pair (.int .i64) (.pair (.int .i64) .unit)))), 0, [], .unit, [4], (.pair (.int .i64) .unit), loopL b_slices_IndexFunc_Mark_2⟩]
theorem lok_slices_IndexFunc_Mark_2 (x) : codeK Γ0 E0 σ_slices_IndexFunc_Mark Λ_slices_IndexFunc_Mark Tryd.f33.ntmps (nthLoop Tryd.f33 0) (mkF Tryd.f33.ntmps [0, 1, 7, 8] (.pair (.list TMark) (.pair (.fn (.pair TMark .unit) (.pair .bool .unit)) (.pair (.int .i64) (.pair (.int .i64) .unit)))) x) (readK σ_slices_IndexFunc_Mark Tryd.f33.ntmps [0, 1, 7, 8] (.pair (.list TMark) (.pair (.fn (.pair TMark .unit) (.pair .bool .unit)) (.pair (.int .i64) (.pair (.int .i64) .unit)))) 0 [] .unit [4] (.pair (.int .i64) .unit)) = b_slices_IndexFunc_Mark_2 x := by kernel_rfl
theorem ok_slices_IndexFunc_Mark : FnOK G0 Tryd.prog 33 S_slices_IndexFunc_Mark := fn_ok (Λ := Λ_slices_IndexFunc_Mark) tab0 σok_slices_IndexFunc_Mark Tryd.func33 (by kernel_rfl) (show Tryd.f33.body = some (bodyOf Tryd.f33) by kernel_rfl) [⟨[0, 1, 7, 8], (.pair (.list TMark) (.pair (.fn (.pair TMark .unit) (.pair .bool .unit)) (.pair (.int .i64) (.pair (.int .i64) .unit)))), 0, [], .unit, [4], (.pair (.int .i64) .unit), loopL b_slices_IndexFunc_Mark_2⟩] rfl (by kernel_rfl) (by exact ⟨loop_LOK (lok_slices_IndexFunc_Mark_2), trivial⟩) (by kernel_rfl)
  fun x y h => (show execFn Γ0 E0 σ_slices_IndexFunc_Mark Λ_slices_IndexFunc_Mark Tryd.f33 S_slices_IndexFunc_Mark x = slices_IndexFunc_Mark x by kernel_rfl).trans h

noncomputable def slices_ContainsFunc_Mark (x : Ty.T (.pair (.list TMark) (.pair (.fn (.pair TMark .unit) (.pair .bool .unit)) .unit))) : Option (Ty.T (.pair .bool .unit)) :=
match slices_IndexFunc_Mark (x.1, x.2.1, ()) with
| none => none
| some v1 =>
some ((decide (v1.1 ≥ (0 : Int))), ())
noncomputable def S_slices_ContainsFunc_Mark : Spec := ⟨(.pair (.list TMark) (.pair (.fn (.pair TMark .unit) (.pair .bool .unit)) .unit)), (.pair .bool .unit), .unit, rfl, slices_ContainsFunc_Mark⟩
noncomputable def σ_slices_ContainsFunc_Mark : FuncId → Option Spec := sig [(33, S_slices_IndexFunc_Mark)]
theorem σok_slices_ContainsFunc_Mark : ∀ f s, σ_slices_ContainsFunc_Mark f = some s → FnOK G0 Tryd.prog f s := sig_ok (l := [(33, S_slices_IndexFunc_Mark)]) ⟨ok_slices_IndexFunc_Mark, trivial⟩
noncomputable def Λ_slices_ContainsFunc_Mark : Nat → Option LSpec := lkp (loopList (bodyOf Tryd.f22)) []
theorem ok_slices_ContainsFunc_Mark : FnOK G0 Tryd.prog 22 S_slices_ContainsFunc_Mark := fn_ok (Λ := Λ_slices_ContainsFunc_Mark) tab0 σok_slices_ContainsFunc_Mark Tryd.func22 (by kernel_rfl) (show Tryd.f22.body = some (bodyOf Tryd.f22) by kernel_rfl) [] rfl (by kernel_rfl) (by exact trivial) (by kernel_rfl)
  fun x y h => (show execFn Γ0 E0 σ_slices_ContainsFunc_Mark Λ_slices_ContainsFunc_Mark Tryd.f22 S_slices_ContainsFunc_Mark x = slices_ContainsFunc_Mark x by kernel_rfl).trans h

noncomputable def i_within (x : Ty.T (.pair (.int .i64) (.pair (.int .i64) (.pair (.int .i64) .unit)))) : Option (Ty.T (.pair .bool .unit)) :=
match (decide (x.1 ≥ x.2.1)) with
| true =>
 some ((decide (x.1 ≤ x.2.2.1)), ())
| false =>
 some (false, ())
noncomputable def S_i_within : Spec := ⟨(.pair (.int .i64) (.pair (.int .i64) (.pair (.int .i64) .unit))), (.pair .bool .unit), .unit, rfl, i_within⟩
noncomputable def σ_i_within : FuncId → Option Spec := sig []
theorem σok_i_within : ∀ f s, σ_i_within f = some s → FnOK G0 Tryd.prog f s := sig_ok (l := []) trivial
noncomputable def Λ_i_within : Nat → Option LSpec := lkp (loopList (bodyOf Tryd.f27)) []
theorem ok_i_within : FnOK G0 Tryd.prog 27 S_i_within := fn_ok (Λ := Λ_i_within) tab0 σok_i_within Tryd.func27 (by kernel_rfl) (show Tryd.f27.body = some (bodyOf Tryd.f27) by kernel_rfl) [] rfl (by kernel_rfl) (by exact trivial) (by kernel_rfl)
  fun x y h => (show execFn Γ0 E0 σ_i_within Λ_i_within Tryd.f27 S_i_within x = i_within x by kernel_rfl).trans h

noncomputable def i_isVector (x : Ty.T (.pair (.int .i64) .unit)) : Option (Ty.T (.pair .bool .unit)) :=
match i_within (x.1, (0 : Int), (4294967295 : Int), ()) with
| none => none
| some v1 =>
some (v1.1, ())
noncomputable def S_i_isVector : Spec := ⟨(.pair (.int .i64) .unit), (.pair .bool .unit), .unit, rfl, i_isVector⟩
noncomputable def σ_i_isVector : FuncId → Option Spec := sig [(27, S_i_within)]
theorem σok_i_isVector : ∀ f s, σ_i_isVector f = some s → FnOK G0 Tryd.prog f s := sig_ok (l := [(27, S_i_within)]) ⟨ok_i_within, trivial⟩
noncomputable def Λ_i_isVector : Nat → Option LSpec := lkp (loopList (bodyOf Tryd.f35)) []
theorem ok_i_isVector : FnOK G0 Tryd.prog 35 S_i_isVector := fn_ok (Λ := Λ_i_isVector) tab0 σok_i_isVector Tryd.func35 (by kernel_rfl) (show Tryd.f35.body = some (bodyOf Tryd.f35) by kernel_rfl) [] rfl (by kernel_rfl) (by exact trivial) (by kernel_rfl)
  fun x y h => (show execFn Γ0 E0 σ_i_isVector Λ_i_isVector Tryd.f35 S_i_isVector x = i_isVector x by kernel_rfl).trans h

noncomputable def i_IsState (x : Ty.T (.pair TState .unit)) : Option (Ty.T (.pair .bool .unit)) :=
match i_within (x.1.1, (0 : Int), (65535 : Int), ()) with
| none => none
| some v1 =>
match v1.1 with
| true =>
 match i_within (x.1.2.1, (0 : Int), (15 : Int), ()) with
 | none => none
 | some v2 =>
 match v2.1 with
 | true =>
  match i_within (x.1.2.2.1, (0 : Int), (15 : Int), ()) with
  | none => none
  | some v3 =>
  match v3.1 with
  | true =>
   match i_within (x.1.2.2.2.1, (0 : Int), (255 : Int), ()) with
   | none => none
   | some v4 =>
   match v4.1 with
   | true =>
    match i_isVector (x.1.2.2.2.2.1, ()) with
    | none => none
    | some v5 =>
    some (v5.1, ())
   | false =>
    some (false, ())
  | false =>
   some (false, ())
 | false =>
  some (false, ())
| false =>
 some (false, ())
noncomputable def S_i_IsState : Spec := ⟨(.pair TState .unit), (.pair .bool .unit), .unit, rfl, i_IsState⟩
noncomputable def σ_i_IsState : FuncId → Option Spec := sig [(27, S_i_within), (35, S_i_isVector)]
theorem σok_i_IsState : ∀ f s, σ_i_IsState f = some s → FnOK G0 Tryd.prog f s := sig_ok (l := [(27, S_i_within), (35, S_i_isVector)]) ⟨ok_i_within, ok_i_isVector, trivial⟩
noncomputable def Λ_i_IsState : Nat → Option LSpec := lkp (loopList (bodyOf Tryd.f25)) []
theorem ok_i_IsState : FnOK G0 Tryd.prog 25 S_i_IsState := fn_ok (Λ := Λ_i_IsState) tab0 σok_i_IsState Tryd.func25 (by kernel_rfl) (show Tryd.f25.body = some (bodyOf Tryd.f25) by kernel_rfl) [] rfl (by kernel_rfl) (by exact trivial) (by kernel_rfl)
  fun x y h => (show execFn Γ0 E0 σ_i_IsState Λ_i_IsState Tryd.f25 S_i_IsState x = i_IsState x by kernel_rfl).trans h

noncomputable def i_isNode (x : Ty.T (.pair (.int .i64) .unit)) : Option (Ty.T (.pair .bool .unit)) :=
match i_within (x.1, (0 : Int), (31 : Int), ()) with
| none => none
| some v1 =>
some (v1.1, ())
noncomputable def S_i_isNode : Spec := ⟨(.pair (.int .i64) .unit), (.pair .bool .unit), .unit, rfl, i_isNode⟩
noncomputable def σ_i_isNode : FuncId → Option Spec := sig [(27, S_i_within)]
theorem σok_i_isNode : ∀ f s, σ_i_isNode f = some s → FnOK G0 Tryd.prog f s := sig_ok (l := [(27, S_i_within)]) ⟨ok_i_within, trivial⟩
noncomputable def Λ_i_isNode : Nat → Option LSpec := lkp (loopList (bodyOf Tryd.f34)) []
theorem ok_i_isNode : FnOK G0 Tryd.prog 34 S_i_isNode := fn_ok (Λ := Λ_i_isNode) tab0 σok_i_isNode Tryd.func34 (by kernel_rfl) (show Tryd.f34.body = some (bodyOf Tryd.f34) by kernel_rfl) [] rfl (by kernel_rfl) (by exact trivial) (by kernel_rfl)
  fun x y h => (show execFn Γ0 E0 σ_i_isNode Λ_i_isNode Tryd.f34 S_i_isNode x = i_isNode x by kernel_rfl).trans h

noncomputable def i_IsMark (x : Ty.T (.pair TMark .unit)) : Option (Ty.T (.pair .bool .unit)) :=
match i_IsState ((x.1.1.1, x.1.1.2.1, x.1.1.2.2.1, x.1.1.2.2.2.1, x.1.1.2.2.2.2.1, ()), ()) with
| none => none
| some v1 =>
match v1.1 with
| true =>
 match i_isNode (x.1.2.1, ()) with
 | none => none
 | some v2 =>
 match v2.1 with
 | true =>
  match i_within (x.1.2.2.1, (0 : Int), (4 : Int), ()) with
  | none => none
  | some v3 =>
  some (v3.1, ())
 | false =>
  some (false, ())
| false =>
 some (false, ())
noncomputable def S_i_IsMark : Spec := ⟨(.pair TMark .unit), (.pair .bool .unit), .unit, rfl, i_IsMark⟩
noncomputable def σ_i_IsMark : FuncId → Option Spec := sig [(25, S_i_IsState), (27, S_i_within), (34, S_i_isNode)]
theorem σok_i_IsMark : ∀ f s, σ_i_IsMark f = some s → FnOK G0 Tryd.prog f s := sig_ok (l := [(25, S_i_IsState), (27, S_i_within), (34, S_i_isNode)]) ⟨ok_i_IsState, ok_i_within, ok_i_isNode, trivial⟩
noncomputable def Λ_i_IsMark : Nat → Option LSpec := lkp (loopList (bodyOf Tryd.f24)) []
theorem ok_i_IsMark : FnOK G0 Tryd.prog 24 S_i_IsMark := fn_ok (Λ := Λ_i_IsMark) tab0 σok_i_IsMark Tryd.func24 (by kernel_rfl) (show Tryd.f24.body = some (bodyOf Tryd.f24) by kernel_rfl) [] rfl (by kernel_rfl) (by exact trivial) (by kernel_rfl)
  fun x y h => (show execFn Γ0 E0 σ_i_IsMark Λ_i_IsMark Tryd.f24 S_i_IsMark x = i_IsMark x by kernel_rfl).trans h

noncomputable def i_isTrace_1 (x : Ty.T (.pair TMark .unit)) : Option (Ty.T (.pair .bool .unit)) :=
match i_IsMark (((x.1.1.1, x.1.1.2.1, x.1.1.2.2.1, x.1.1.2.2.2.1, x.1.1.2.2.2.2.1, ()), x.1.2.1, x.1.2.2.1, ()), ()) with
| none => none
| some v1 =>
some ((!v1.1), ())
noncomputable def S_i_isTrace_1 : Spec := ⟨(.pair TMark .unit), (.pair .bool .unit), .unit, rfl, i_isTrace_1⟩
noncomputable def σ_i_isTrace_1 : FuncId → Option Spec := sig [(24, S_i_IsMark)]
theorem σok_i_isTrace_1 : ∀ f s, σ_i_isTrace_1 f = some s → FnOK G0 Tryd.prog f s := sig_ok (l := [(24, S_i_IsMark)]) ⟨ok_i_IsMark, trivial⟩
noncomputable def Λ_i_isTrace_1 : Nat → Option LSpec := lkp (loopList (bodyOf Tryd.f23)) []
theorem ok_i_isTrace_1 : FnOK G0 Tryd.prog 23 S_i_isTrace_1 := fn_ok (Λ := Λ_i_isTrace_1) tab0 σok_i_isTrace_1 Tryd.func23 (by kernel_rfl) (show Tryd.f23.body = some (bodyOf Tryd.f23) by kernel_rfl) [] rfl (by kernel_rfl) (by exact trivial) (by kernel_rfl)
  fun x y h => (show execFn Γ0 E0 σ_i_isTrace_1 Λ_i_isTrace_1 Tryd.f23 S_i_isTrace_1 x = i_isTrace_1 x by kernel_rfl).trans h

noncomputable def i_isTrace (x : Ty.T (.pair (.list TMark) .unit)) : Option (Ty.T (.pair .bool .unit)) :=
match (decide ((x.1.length : Int) ≤ (60 : Int))) with
| true =>
 match slices_ContainsFunc_Mark (x.1, i_isTrace_1, ()) with
 | none => none
 | some v1 =>
 some ((!v1.1), ())
| false =>
 some (false, ())
noncomputable def S_i_isTrace : Spec := ⟨(.pair (.list TMark) .unit), (.pair .bool .unit), .unit, rfl, i_isTrace⟩
noncomputable def σ_i_isTrace : FuncId → Option Spec := sig [(22, S_slices_ContainsFunc_Mark), (23, S_i_isTrace_1)]
theorem σok_i_isTrace : ∀ f s, σ_i_isTrace f = some s → FnOK G0 Tryd.prog f s := sig_ok (l := [(22, S_slices_ContainsFunc_Mark), (23, S_i_isTrace_1)]) ⟨ok_slices_ContainsFunc_Mark, ok_i_isTrace_1, trivial⟩
noncomputable def Λ_i_isTrace : Nat → Option LSpec := lkp (loopList (bodyOf Tryd.f12)) []
theorem ok_i_isTrace : FnOK G0 Tryd.prog 12 S_i_isTrace := fn_ok (Λ := Λ_i_isTrace) tab0 σok_i_isTrace Tryd.func12 (by kernel_rfl) (show Tryd.f12.body = some (bodyOf Tryd.f12) by kernel_rfl) [] rfl (by kernel_rfl) (by exact trivial) (by kernel_rfl)
  fun x y h => (show execFn Γ0 E0 σ_i_isTrace Λ_i_isTrace Tryd.f12 S_i_isTrace x = i_isTrace x by kernel_rfl).trans h

noncomputable def strconv_FormatInt (x : Ty.T (.pair (.int .i64) (.pair (.int .i64) .unit))) : Option (Ty.T (.pair .str .unit)) := onSome (formatI x.1 x.2.1) fun s => some (s, ())
noncomputable def S_strconv_FormatInt : Spec := ⟨(.pair (.int .i64) (.pair (.int .i64) .unit)), (.pair .str .unit), .unit, rfl, strconv_FormatInt⟩
theorem ok_strconv_FormatInt : FnOK G0 Tryd.prog 26 S_strconv_FormatInt := format_ok (entersF_of Tryd.func26 (by kernel_rfl) (show Tryd.f26.body = some (bodyOf Tryd.f26) by kernel_rfl)) (fun n h0 h1 w ht => Tryd.strconv_FormatInt_10 n h0 h1 w ht)

noncomputable def i_text (x : Ty.T (.pair (.int .i64) .unit)) : Option (Ty.T (.pair .str .unit)) :=
match strconv_FormatInt (x.1, (10 : Int), ()) with
| none => none
| some v1 =>
some (v1.1, ())
noncomputable def S_i_text : Spec := ⟨(.pair (.int .i64) .unit), (.pair .str .unit), .unit, rfl, i_text⟩
noncomputable def σ_i_text : FuncId → Option Spec := sig [(26, S_strconv_FormatInt)]
theorem σok_i_text : ∀ f s, σ_i_text f = some s → FnOK G0 Tryd.prog f s := sig_ok (l := [(26, S_strconv_FormatInt)]) ⟨ok_strconv_FormatInt, trivial⟩
noncomputable def Λ_i_text : Nat → Option LSpec := lkp (loopList (bodyOf Tryd.f14)) []
theorem ok_i_text : FnOK G0 Tryd.prog 14 S_i_text := fn_ok (Λ := Λ_i_text) tab0 σok_i_text Tryd.func14 (by kernel_rfl) (show Tryd.f14.body = some (bodyOf Tryd.f14) by kernel_rfl) [] rfl (by kernel_rfl) (by exact trivial) (by kernel_rfl)
  fun x y h => (show execFn Γ0 E0 σ_i_text Λ_i_text Tryd.f14 S_i_text x = i_text x by kernel_rfl).trans h

noncomputable def i_StateText (x : Ty.T (.pair TState .unit)) : Option (Ty.T (.pair .str .unit)) :=
match i_IsState ((x.1.1, x.1.2.1, x.1.2.2.1, x.1.2.2.2.1, x.1.2.2.2.2.1, ()), ()) with
| none => none
| some v1 =>
match (!v1.1) with
| true =>
 some ([], ())
| false =>
 match i_text (x.1.1, ()) with
 | none => none
 | some v2 =>
 room (v2.1.length + ([47] : List UInt8).length) (
  match i_text (x.1.2.1, ()) with
  | none => none
  | some v3 =>
  room ((v2.1 ++ ([47] : List UInt8)).length + v3.1.length) (
   room (((v2.1 ++ ([47] : List UInt8)) ++ v3.1).length + ([47] : List UInt8).length) (
    match i_text (x.1.2.2.1, ()) with
    | none => none
    | some v4 =>
    room ((((v2.1 ++ ([47] : List UInt8)) ++ v3.1) ++ ([47] : List UInt8)).length + v4.1.length) (
     room (((((v2.1 ++ ([47] : List UInt8)) ++ v3.1) ++ ([47] : List UInt8)) ++ v4.1).length + ([47] : List UInt8).length) (
      match i_text (x.1.2.2.2.1, ()) with
      | none => none
      | some v5 =>
      room ((((((v2.1 ++ ([47] : List UInt8)) ++ v3.1) ++ ([47] : List UInt8)) ++ v4.1) ++ ([47] : List UInt8)).length + v5.1.length) (
       room (((((((v2.1 ++ ([47] : List UInt8)) ++ v3.1) ++ ([47] : List UInt8)) ++ v4.1) ++ ([47] : List UInt8)) ++ v5.1).length + ([47] : List UInt8).length) (
        match i_text (x.1.2.2.2.2.1, ()) with
        | none => none
        | some v6 =>
        room ((((((((v2.1 ++ ([47] : List UInt8)) ++ v3.1) ++ ([47] : List UInt8)) ++ v4.1) ++ ([47] : List UInt8)) ++ v5.1) ++ ([47] : List UInt8)).length + v6.1.length) (
         some (((((((((v2.1 ++ ([47] : List UInt8)) ++ v3.1) ++ ([47] : List UInt8)) ++ v4.1) ++ ([47] : List UInt8)) ++ v5.1) ++ ([47] : List UInt8)) ++ v6.1), ())))))))))
noncomputable def S_i_StateText : Spec := ⟨(.pair TState .unit), (.pair .str .unit), .unit, rfl, i_StateText⟩
noncomputable def σ_i_StateText : FuncId → Option Spec := sig [(14, S_i_text), (25, S_i_IsState)]
theorem σok_i_StateText : ∀ f s, σ_i_StateText f = some s → FnOK G0 Tryd.prog f s := sig_ok (l := [(14, S_i_text), (25, S_i_IsState)]) ⟨ok_i_text, ok_i_IsState, trivial⟩
noncomputable def Λ_i_StateText : Nat → Option LSpec := lkp (loopList (bodyOf Tryd.f13)) []
theorem ok_i_StateText : FnOK G0 Tryd.prog 13 S_i_StateText := fn_ok (Λ := Λ_i_StateText) tab0 σok_i_StateText Tryd.func13 (by kernel_rfl) (show Tryd.f13.body = some (bodyOf Tryd.f13) by kernel_rfl) [] rfl (by kernel_rfl) (by exact trivial) (by kernel_rfl)
  fun x y h => (show execFn Γ0 E0 σ_i_StateText Λ_i_StateText Tryd.f13 S_i_StateText x = i_StateText x by kernel_rfl).trans h

noncomputable def i_StatusName (x : Ty.T (.pair (.int .i64) .unit)) : Option (Ty.T (.pair .str .unit)) := onSome (some (statusN x.1)) fun s => some (s, ())
noncomputable def S_i_StatusName : Spec := ⟨(.pair (.int .i64) .unit), (.pair .str .unit), .unit, rfl, i_StatusName⟩
theorem ok_i_StatusName : FnOK G0 Tryd.prog 15 S_i_StatusName := FnOK.int_str (g := fun n => some (statusN n)) (entersF_of Tryd.func15 (by kernel_rfl) (show Tryd.f15.body = some (bodyOf Tryd.f15) by kernel_rfl)) (fun w n s _ hs => Option.some.inj hs ▸ status_calls w n)

noncomputable def b_i_TraceText_5 (x : (Ty.T (.pair .str (.pair (.list TMark) (.pair (.int .i64) (.pair (.int .i64) .unit)))))) : Option ((Ty.T (.pair .str (.pair (.list TMark) (.pair (.int .i64) (.pair (.int .i64) .unit))))) ⊕ ((Ty.T (.pair .str .unit)) ⊕ (Ty.T .unit))) :=
match (decide (x.2.2.2.1 < x.2.2.1)) with
| true =>
 onSome (idx x.2.1 x.2.2.2.1) fun v2 =>
 match i_StateText ((v2.1.1, v2.1.2.1, v2.1.2.2.1, v2.1.2.2.2.1, v2.1.2.2.2.2.1, ()), ()) with
 | none => none
 | some v3 =>
 room (v3.1.length + ([32] : List UInt8).length) (
  match i_text (v2.2.1, ()) with
  | none => none
  | some v4 =>
  room ((v3.1 ++ ([32] : List UInt8)).length + v4.1.length) (
   room (((v3.1 ++ ([32] : List UInt8)) ++ v4.1).length + ([32] : List UInt8).length) (
    match i_StatusName (v2.2.2.1, ()) with
    | none => none
    | some v5 =>
    room ((((v3.1 ++ ([32] : List UInt8)) ++ v4.1) ++ ([32] : List UInt8)).length + v5.1.length) (
     room (((((v3.1 ++ ([32] : List UInt8)) ++ v4.1) ++ ([32] : List UInt8)) ++ v5.1).length + ([10] : List UInt8).length) (
      room (x.1.length + (((((v3.1 ++ ([32] : List UInt8)) ++ v4.1) ++ ([32] : List UInt8)) ++ v5.1) ++ ([10] : List UInt8)).length) (
       some (.inl ((x.1 ++ (((((v3.1 ++ ([32] : List UInt8)) ++ v4.1) ++ ([32] : List UInt8)) ++ v5.1) ++ ([10] : List UInt8))), x.2.1, x.2.2.1, (IntKind.i64.wrap (x.2.2.2.1 + (1 : Int))), ()))))))))
| false =>
 some (.inr (.inl (x.1, ())))
noncomputable def i_TraceText (x : Ty.T (.pair (.list TMark) .unit)) : Option (Ty.T (.pair .str .unit)) :=
match i_isTrace (x.1, ()) with
| none => none
| some v1 =>
match (!v1.1) with
| true =>
 some ([], ())
| false =>
 match loopL b_i_TraceText_5 ([], x.1, (x.1.length : Int), (0 : Int), ()) with
 | none => none
 | some (.inl v6) =>
  some (v6.1, ())
 | some (.inr v8) =>
  none
noncomputable def S_i_TraceText : Spec := ⟨(.pair (.list TMark) .unit), (.pair .str .unit), .unit, rfl, i_TraceText⟩
noncomputable def σ_i_TraceText : FuncId → Option Spec := sig [(12, S_i_isTrace), (13, S_i_StateText), (14, S_i_text), (15, S_i_StatusName)]
theorem σok_i_TraceText : ∀ f s, σ_i_TraceText f = some s → FnOK G0 Tryd.prog f s := sig_ok (l := [(12, S_i_isTrace), (13, S_i_StateText), (14, S_i_text), (15, S_i_StatusName)]) ⟨ok_i_isTrace, ok_i_StateText, ok_i_text, ok_i_StatusName, trivial⟩
noncomputable def Λ_i_TraceText : Nat → Option LSpec := lkp (loopList (bodyOf Tryd.f7)) [⟨[3, 10, 11, 12], (.pair .str (.pair (.list TMark) (.pair (.int .i64) (.pair (.int .i64) .unit)))), 0, [3], (.pair .str .unit), [], .unit, loopL b_i_TraceText_5⟩]
theorem lok_i_TraceText_5 (x) : codeK Γ0 E0 σ_i_TraceText Λ_i_TraceText Tryd.f7.ntmps (nthLoop Tryd.f7 0) (mkF Tryd.f7.ntmps [3, 10, 11, 12] (.pair .str (.pair (.list TMark) (.pair (.int .i64) (.pair (.int .i64) .unit)))) x) (readK σ_i_TraceText Tryd.f7.ntmps [3, 10, 11, 12] (.pair .str (.pair (.list TMark) (.pair (.int .i64) (.pair (.int .i64) .unit)))) 0 [3] (.pair .str .unit) [] .unit) = b_i_TraceText_5 x := by kernel_rfl
theorem ok_i_TraceText : FnOK G0 Tryd.prog 7 S_i_TraceText := fn_ok (Λ := Λ_i_TraceText) tab0 σok_i_TraceText Tryd.func7 (by kernel_rfl) (show Tryd.f7.body = some (bodyOf Tryd.f7) by kernel_rfl) [⟨[3, 10, 11, 12], (.pair .str (.pair (.list TMark) (.pair (.int .i64) (.pair (.int .i64) .unit)))), 0, [3], (.pair .str .unit), [], .unit, loopL b_i_TraceText_5⟩] rfl (by kernel_rfl) (by exact ⟨loop_LOK (lok_i_TraceText_5), trivial⟩) (by kernel_rfl)
  fun x y h => (show execFn Γ0 E0 σ_i_TraceText Λ_i_TraceText Tryd.f7 S_i_TraceText x = i_TraceText x by kernel_rfl).trans h

noncomputable def l_eqState (x : Ty.T (.pair TState (.pair TState .unit))) : Option (Ty.T (.pair .bool .unit)) :=
match (x.1.1 != x.2.1.1) with
| true =>
 some (false, ())
| false =>
 match (x.1.2.1 != x.2.1.2.1) with
 | true =>
  some (false, ())
 | false =>
  match (x.1.2.2.1 != x.2.1.2.2.1) with
  | true =>
   some (false, ())
  | false =>
   match (x.1.2.2.2.1 != x.2.1.2.2.2.1) with
   | true =>
    some (false, ())
   | false =>
    match (x.1.2.2.2.2.1 != x.2.1.2.2.2.2.1) with
    | true =>
     some (false, ())
    | false =>
     some (true, ())
noncomputable def S_l_eqState : Spec := ⟨(.pair TState (.pair TState .unit)), (.pair .bool .unit), .unit, rfl, l_eqState⟩
noncomputable def σ_l_eqState : FuncId → Option Spec := sig []
theorem σok_l_eqState : ∀ f s, σ_l_eqState f = some s → FnOK G0 Tryd.prog f s := sig_ok (l := []) trivial
noncomputable def Λ_l_eqState : Nat → Option LSpec := lkp (loopList (bodyOf Tryd.f28)) []
theorem ok_l_eqState : FnOK G0 Tryd.prog 28 S_l_eqState := fn_ok (Λ := Λ_l_eqState) tab0 σok_l_eqState Tryd.func28 (by kernel_rfl) (show Tryd.f28.body = some (bodyOf Tryd.f28) by kernel_rfl) [] rfl (by kernel_rfl) (by exact trivial) (by kernel_rfl)
  fun x y h => (show execFn Γ0 E0 σ_l_eqState Λ_l_eqState Tryd.f28 S_l_eqState x = l_eqState x by kernel_rfl).trans h

noncomputable def l_eqMark (x : Ty.T (.pair TMark (.pair TMark .unit))) : Option (Ty.T (.pair .bool .unit)) :=
match l_eqState ((x.1.1.1, x.1.1.2.1, x.1.1.2.2.1, x.1.1.2.2.2.1, x.1.1.2.2.2.2.1, ()), (x.2.1.1.1, x.2.1.1.2.1, x.2.1.1.2.2.1, x.2.1.1.2.2.2.1, x.2.1.1.2.2.2.2.1, ()), ()) with
| none => none
| some v1 =>
match (!v1.1) with
| true =>
 some (false, ())
| false =>
 match (x.1.2.1 != x.2.1.2.1) with
 | true =>
  some (false, ())
 | false =>
  match (x.1.2.2.1 != x.2.1.2.2.1) with
  | true =>
   some (false, ())
  | false =>
   some (true, ())
noncomputable def S_l_eqMark : Spec := ⟨(.pair TMark (.pair TMark .unit)), (.pair .bool .unit), .unit, rfl, l_eqMark⟩
noncomputable def σ_l_eqMark : FuncId → Option Spec := sig [(28, S_l_eqState)]
theorem σok_l_eqMark : ∀ f s, σ_l_eqMark f = some s → FnOK G0 Tryd.prog f s := sig_ok (l := [(28, S_l_eqState)]) ⟨ok_l_eqState, trivial⟩
noncomputable def Λ_l_eqMark : Nat → Option LSpec := lkp (loopList (bodyOf Tryd.f16)) []
theorem ok_l_eqMark : FnOK G0 Tryd.prog 16 S_l_eqMark := fn_ok (Λ := Λ_l_eqMark) tab0 σok_l_eqMark Tryd.func16 (by kernel_rfl) (show Tryd.f16.body = some (bodyOf Tryd.f16) by kernel_rfl) [] rfl (by kernel_rfl) (by exact trivial) (by kernel_rfl)
  fun x y h => (show execFn Γ0 E0 σ_l_eqMark Λ_l_eqMark Tryd.f16 S_l_eqMark x = l_eqMark x by kernel_rfl).trans h

noncomputable def b_l_eqMarkS_4 (x : (Ty.T (.pair (.list TMark) (.pair (.list TMark) (.pair (.int .i64) .unit))))) : Option ((Ty.T (.pair (.list TMark) (.pair (.list TMark) (.pair (.int .i64) .unit)))) ⊕ ((Ty.T .unit) ⊕ (Ty.T (.pair .bool .unit)))) :=
match (decide (x.2.2.1 < (x.1.length : Int))) with
| true =>
 onSome (idx x.1 x.2.2.1) fun v1 =>
 onSome (idx x.2.1 x.2.2.1) fun v2 =>
 match l_eqMark (v1, v2, ()) with
 | none => none
 | some v3 =>
 match (!v3.1) with
 | true =>
  some (.inr (.inr (false, ())))
 | false =>
  some (.inl (x.1, x.2.1, (IntKind.i64.wrap (x.2.2.1 + (1 : Int))), ()))
| false =>
 some (.inr (.inl (())))
noncomputable def l_eqMarkS (x : Ty.T (.pair (.list TMark) (.pair (.list TMark) .unit))) : Option (Ty.T (.pair .bool .unit)) :=
match ((x.1.length : Int) != (x.2.1.length : Int)) with
| true =>
 some (false, ())
| false =>
 match loopL b_l_eqMarkS_4 (x.1, x.2.1, (0 : Int), ()) with
 | none => none
 | some (.inl v4) =>
  some (true, ())
 | some (.inr v5) =>
  some (v5.1, ())
noncomputable def S_l_eqMarkS : Spec := ⟨(.pair (.list TMark) (.pair (.list TMark) .unit)), (.pair .bool .unit), .unit, rfl, l_eqMarkS⟩
noncomputable def σ_l_eqMarkS : FuncId → Option Spec := sig [(16, S_l_eqMark)]
theorem σok_l_eqMarkS : ∀ f s, σ_l_eqMarkS f = some s → FnOK G0 Tryd.prog f s := sig_ok (l := [(16, S_l_eqMark)]) ⟨ok_l_eqMark, trivial⟩
noncomputable def Λ_l_eqMarkS : Nat → Option LSpec := lkp (loopList (bodyOf Tryd.f8)) [⟨[0, 1, 5], (.pair (.list TMark) (.pair (.list TMark) (.pair (.int .i64) .unit))), 0, [], .unit, [4], (.pair .bool .unit), loopL b_l_eqMarkS_4⟩]
theorem lok_l_eqMarkS_4 (x) : codeK Γ0 E0 σ_l_eqMarkS Λ_l_eqMarkS Tryd.f8.ntmps (nthLoop Tryd.f8 0) (mkF Tryd.f8.ntmps [0, 1, 5] (.pair (.list TMark) (.pair (.list TMark) (.pair (.int .i64) .unit))) x) (readK σ_l_eqMarkS Tryd.f8.ntmps [0, 1, 5] (.pair (.list TMark) (.pair (.list TMark) (.pair (.int .i64) .unit))) 0 [] .unit [4] (.pair .bool .unit)) = b_l_eqMarkS_4 x := by kernel_rfl
theorem ok_l_eqMarkS : FnOK G0 Tryd.prog 8 S_l_eqMarkS := fn_ok (Λ := Λ_l_eqMarkS) tab0 σok_l_eqMarkS Tryd.func8 (by kernel_rfl) (show Tryd.f8.body = some (bodyOf Tryd.f8) by kernel_rfl) [⟨[0, 1, 5], (.pair (.list TMark) (.pair (.list TMark) (.pair (.int .i64) .unit))), 0, [], .unit, [4], (.pair .bool .unit), loopL b_l_eqMarkS_4⟩] rfl (by kernel_rfl) (by exact ⟨loop_LOK (lok_l_eqMarkS_4), trivial⟩) (by kernel_rfl)
  fun x y h => (show execFn Γ0 E0 σ_l_eqMarkS Λ_l_eqMarkS Tryd.f8 S_l_eqMarkS x = l_eqMarkS x by kernel_rfl).trans h

noncomputable def l_FnExactTraceText (x : Ty.T (.pair (.list TMark) .unit)) : Option (Ty.T (.pair .bool .unit)) :=
match l_szMarkS (x.1, (1048576 : Int), ()) with
| none => none
| some v1 =>
match (decide (v1.1 < (0 : Int))) with
| true =>
 some (true, ())
| false =>
 match l_toMarkS (x.1, ()) with
 | none => none
 | some v2 =>
 match s_TraceText (v2.1, ()) with
 | none => none
 | some v3 =>
 match l_toMarkS (x.1, ()) with
 | none => none
 | some v4 =>
 match i_TraceText (v4.1, ()) with
 | none => none
 | some v5 =>
 match (!(v5.1 == v3.1)) with
 | true =>
  some (false, ())
 | false =>
  match l_toMarkS (x.1, ()) with
  | none => none
  | some v6 =>
  match l_eqMarkS (v4.1, v6.1, ()) with
  | none => none
  | some v7 =>
  match (!v7.1) with
  | true =>
   some (false, ())
  | false =>
   some (true, ())
noncomputable def S_l_FnExactTraceText : Spec := ⟨(.pair (.list TMark) .unit), (.pair .bool .unit), .unit, rfl, l_FnExactTraceText⟩
noncomputable def σ_l_FnExactTraceText : FuncId → Option Spec := sig [(4, S_l_szMarkS), (5, S_s_TraceText), (6, S_l_toMarkS), (7, S_i_TraceText), (8, S_l_eqMarkS)]
theorem σok_l_FnExactTraceText : ∀ f s, σ_l_FnExactTraceText f = some s → FnOK G0 Tryd.prog f s := sig_ok (l := [(4, S_l_szMarkS), (5, S_s_TraceText), (6, S_l_toMarkS), (7, S_i_TraceText), (8, S_l_eqMarkS)]) ⟨ok_l_szMarkS, ok_s_TraceText, ok_l_toMarkS, ok_i_TraceText, ok_l_eqMarkS, trivial⟩
noncomputable def Λ_l_FnExactTraceText : Nat → Option LSpec := lkp (loopList (bodyOf Tryd.f3)) []
theorem ok_l_FnExactTraceText : FnOK G0 Tryd.prog 3 S_l_FnExactTraceText := fn_ok (Λ := Λ_l_FnExactTraceText) tab0 σok_l_FnExactTraceText Tryd.func3 (by kernel_rfl) (show Tryd.f3.body = some (bodyOf Tryd.f3) by kernel_rfl) [] rfl (by kernel_rfl) (by exact trivial) (by kernel_rfl)
  fun x y h => (show execFn Γ0 E0 σ_l_FnExactTraceText Λ_l_FnExactTraceText Tryd.f3 S_l_FnExactTraceText x = l_FnExactTraceText x by kernel_rfl).trans h

end Go.Proofs.YtmdflpfagbcaiaaDoor
