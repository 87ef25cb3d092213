/- What the functions of the claim do, on data; written by the program gen.py. -/
import Derived.Test.YtieajgkcadmchaaGreatDoorGB
namespace Go.Proofs.YtieajgkcadmchaaGreatDoor
open Go.RowKit
set_option linter.unusedVariables false

noncomputable def c_l_FnExactReceiveChannel_31 (x : Ty.T (.pair (.box (.pair (.int .i64) (.pair (.pair (.int .i64) (.pair (.int .i64) (.pair TState (.pair (.own 2 (.int .i64)) .unit)))) .unit))) (.pair (.int .i64) (.pair (.box (.pair (.int .i64) (.pair (.pair (.int .i64) (.pair (.int .i64) (.pair TState (.pair (.own 2 (.int .i64)) .unit)))) .unit))) (.pair (.int .i64) (.pair (.box (.pair (.int .i64) (.pair (.pair (.int .i64) (.pair (.int .i64) (.pair TState (.pair (.own 2 (.int .i64)) .unit)))) .unit))) (.pair (.int .i64) .unit))))))) : Option (Unit ⊕ (Ty.T (.pair .bool .unit))) :=
match l_eqVerdict ((x.2.2.2.2.1.1, (x.2.2.2.2.1.2.1.1, x.2.2.2.2.1.2.1.2.1, (x.2.2.2.2.1.2.1.2.2.1.1, x.2.2.2.2.1.2.1.2.2.1.2.1, x.2.2.2.2.1.2.1.2.2.1.2.2.1, x.2.2.2.2.1.2.1.2.2.1.2.2.2.1, x.2.2.2.2.1.2.1.2.2.1.2.2.2.2.1, ()), x.2.2.2.2.1.2.1.2.2.2.1, ()), ()), (x.1.1, (x.1.2.1.1, x.1.2.1.2.1, (x.1.2.1.2.2.1.1, x.1.2.1.2.2.1.2.1, x.1.2.1.2.2.1.2.2.1, x.1.2.1.2.2.1.2.2.2.1, x.1.2.1.2.2.1.2.2.2.2.1, ()), x.1.2.1.2.2.2.1, ()), ()), ()) with
| none => none
| some v14 =>
match (!v14.1) with
| true =>
 some (.inr (false, ()))
| false =>
 match (x.2.2.2.2.2.1 != x.2.1) with
 | true =>
  some (.inr (false, ()))
 | false =>
  match l_heldVerdict ((x.2.2.1.1, (x.2.2.1.2.1.1, x.2.2.1.2.1.2.1, (x.2.2.1.2.1.2.2.1.1, x.2.2.1.2.1.2.2.1.2.1, x.2.2.1.2.1.2.2.1.2.2.1, x.2.2.1.2.1.2.2.1.2.2.2.1, x.2.2.1.2.1.2.2.1.2.2.2.2.1, ()), x.2.2.1.2.1.2.2.2.1, ()), ()), (1 : Int), ()) with
  | none => none
  | some v15 =>
  match (decide (v15.1 < (0 : Int))) with
  | true =>
   some (.inr (false, ()))
  | false =>
   match (v15.1 != x.2.2.2.1) with
   | true =>
    some (.inr (false, ()))
   | false =>
    some (.inr (true, ()))
noncomputable def c_l_FnExactReceiveChannel_11 (x : Ty.T (.pair (.list (.int .i64)) (.pair (.ptr TMedl) (.pair (.ptr TState) (.pair (.box (.pair (.int .i64) (.pair (.pair (.int .i64) (.pair (.int .i64) (.pair TState (.pair (.own 2 (.int .i64)) .unit)))) .unit))) (.pair (.int .i64) (.pair (.box (.pair (.int .i64) (.pair (.own 82 TNodeInfo) (.pair (.own 84 (.pair (.int .i64) (.pair (.int .i64) (.pair (.own 2 (.int .i64)) .unit)))) (.pair (.own 89 TSlotInfo) .unit))))) (.pair (.own 2 (.int .i64)) (.pair (.box (.pair (.int .i64) (.pair (.pair (.int .i64) (.pair (.int .i64) (.pair TState (.pair (.own 2 (.int .i64)) .unit)))) .unit))) (.pair (.int .i64) .unit)))))))))) : Option (Unit ⊕ (Ty.T (.pair .bool .unit))) :=
match l_eqVerdict ((x.2.2.2.2.2.2.2.1.1, (x.2.2.2.2.2.2.2.1.2.1.1, x.2.2.2.2.2.2.2.1.2.1.2.1, (x.2.2.2.2.2.2.2.1.2.1.2.2.1.1, x.2.2.2.2.2.2.2.1.2.1.2.2.1.2.1, x.2.2.2.2.2.2.2.1.2.1.2.2.1.2.2.1, x.2.2.2.2.2.2.2.1.2.1.2.2.1.2.2.2.1, x.2.2.2.2.2.2.2.1.2.1.2.2.1.2.2.2.2.1, ()), x.2.2.2.2.2.2.2.1.2.1.2.2.2.1, ()), ()), (x.2.2.2.1.1, (x.2.2.2.1.2.1.1, x.2.2.2.1.2.1.2.1, (x.2.2.2.1.2.1.2.2.1.1, x.2.2.2.1.2.1.2.2.1.2.1, x.2.2.2.1.2.1.2.2.1.2.2.1, x.2.2.2.1.2.1.2.2.1.2.2.2.1, x.2.2.2.1.2.1.2.2.1.2.2.2.2.1, ()), x.2.2.2.1.2.1.2.2.2.1, ()), ()), ()) with
| none => none
| some v4 =>
match (!v4.1) with
| true =>
 some (.inr (false, ()))
| false =>
 match (x.2.2.2.2.2.2.2.2.1 != x.2.2.2.2.1) with
 | true =>
  some (.inr (false, ()))
 | false =>
  match l_toMedl (x.2.1, ()) with
  | none => none
  | some v5 =>
  match l_eqMedl ((x.2.2.2.2.2.1.1, x.2.2.2.2.2.1.2.1, x.2.2.2.2.2.1.2.2.1, x.2.2.2.2.2.1.2.2.2.1, ()), (v5.1.1, v5.1.2.1, v5.1.2.2.1, v5.1.2.2.2.1, ()), ()) with
  | none => none
  | some v6 =>
  match (!v6.1) with
  | true =>
   some (.inr (false, ()))
  | false =>
   match l_toInt64S (x.1, ()) with
   | none => none
   | some v7 =>
   match l_eqInt64S (x.2.2.2.2.2.2.1, v7.1, ()) with
   | none => none
   | some v8 =>
   match (!v8.1) with
   | true =>
    some (.inr (false, ()))
   | false =>
    match l_markMedl ((x.2.2.2.2.2.1.1, x.2.2.2.2.2.1.2.1, x.2.2.2.2.2.1.2.2.1, x.2.2.2.2.2.1.2.2.2.1, ()), (1 : Int), ()) with
    | none => none
    | some v9 =>
    match l_markInt64S (x.2.2.2.2.2.2.1, v9.1, ()) with
    | none => none
    | some v10 =>
    match (decide (v10.1 < (0 : Int))) with
    | true =>
     some (.inr (false, ()))
    | false =>
     match l_eqVerdict ((x.2.2.2.2.2.2.2.1.1, (x.2.2.2.2.2.2.2.1.2.1.1, x.2.2.2.2.2.2.2.1.2.1.2.1, (x.2.2.2.2.2.2.2.1.2.1.2.2.1.1, x.2.2.2.2.2.2.2.1.2.1.2.2.1.2.1, x.2.2.2.2.2.2.2.1.2.1.2.2.1.2.2.1, x.2.2.2.2.2.2.2.1.2.1.2.2.1.2.2.2.1, x.2.2.2.2.2.2.2.1.2.1.2.2.1.2.2.2.2.1, ()), x.2.2.2.2.2.2.2.1.2.1.2.2.2.1, ()), ()), (x.2.2.2.1.1, (x.2.2.2.1.2.1.1, x.2.2.2.1.2.1.2.1, (x.2.2.2.1.2.1.2.2.1.1, x.2.2.2.1.2.1.2.2.1.2.1, x.2.2.2.1.2.1.2.2.1.2.2.1, x.2.2.2.1.2.1.2.2.1.2.2.2.1, x.2.2.2.1.2.1.2.2.1.2.2.2.2.1, ()), x.2.2.2.1.2.1.2.2.2.1, ()), ()), ()) with
     | none => none
     | some v11 =>
     match (!v11.1) with
     | true =>
      some (.inr (false, ()))
     | false =>
      match (x.2.2.2.2.2.2.2.2.1 != x.2.2.2.2.1) with
      | true =>
       some (.inr (false, ()))
      | false =>
       match l_markVerdict ((x.2.2.2.2.2.2.2.1.1, (x.2.2.2.2.2.2.2.1.2.1.1, x.2.2.2.2.2.2.2.1.2.1.2.1, (x.2.2.2.2.2.2.2.1.2.1.2.2.1.1, x.2.2.2.2.2.2.2.1.2.1.2.2.1.2.1, x.2.2.2.2.2.2.2.1.2.1.2.2.1.2.2.1, x.2.2.2.2.2.2.2.1.2.1.2.2.1.2.2.2.1, x.2.2.2.2.2.2.2.1.2.1.2.2.1.2.2.2.2.1, ()), x.2.2.2.2.2.2.2.1.2.1.2.2.2.1, ()), ()), (1 : Int), ()) with
       | none => none
       | some v12 =>
       match l_heldVerdict ((x.2.2.2.2.2.2.2.1.1, (x.2.2.2.2.2.2.2.1.2.1.1, x.2.2.2.2.2.2.2.1.2.1.2.1, (x.2.2.2.2.2.2.2.1.2.1.2.2.1.1, x.2.2.2.2.2.2.2.1.2.1.2.2.1.2.1, x.2.2.2.2.2.2.2.1.2.1.2.2.1.2.2.1, x.2.2.2.2.2.2.2.1.2.1.2.2.1.2.2.2.1, x.2.2.2.2.2.2.2.1.2.1.2.2.1.2.2.2.2.1, ()), v12.2.1.2.1.2.2.2.1, ()), ()), (1 : Int), ()) with
       | none => none
       | some v13 =>
       match (decide (v13.1 < (0 : Int))) with
       | true =>
        some (.inr (false, ()))
       | false =>
        match (v13.1 != v12.1) with
        | true =>
         some (.inr (false, ()))
        | false =>
         both (
          match l_toMedl (x.2.1, ()) with
          | none => none
          | some v16 =>
          both (
           match l_toState (x.2.2.1, ()) with
           | none => none
           | some v17 =>
           both (
            match l_toInt64S (x.1, ()) with
            | none => none
            | some v18 =>
            same (
             match i_ReceiveChannel ((v16.1.1, v16.1.2.1, v16.1.2.2.1, v16.1.2.2.2.1, ()), v17.1, v18.1, ()) with
             | none => none
             | some v19 =>
             match c_l_FnExactReceiveChannel_31 ((x.2.2.2.1.1, (x.2.2.2.1.2.1.1, x.2.2.2.1.2.1.2.1, (x.2.2.2.1.2.1.2.2.1.1, x.2.2.2.1.2.1.2.2.1.2.1, x.2.2.2.1.2.1.2.2.1.2.2.1, x.2.2.2.1.2.1.2.2.1.2.2.2.1, x.2.2.2.1.2.1.2.2.1.2.2.2.2.1, ()), x.2.2.2.1.2.1.2.2.2.1, ()), ()), x.2.2.2.2.1, (x.2.2.2.2.2.2.2.1.1, (x.2.2.2.2.2.2.2.1.2.1.1, x.2.2.2.2.2.2.2.1.2.1.2.1, (x.2.2.2.2.2.2.2.1.2.1.2.2.1.1, x.2.2.2.2.2.2.2.1.2.1.2.2.1.2.1, x.2.2.2.2.2.2.2.1.2.1.2.2.1.2.2.1, x.2.2.2.2.2.2.2.1.2.1.2.2.1.2.2.2.1, x.2.2.2.2.2.2.2.1.2.1.2.2.1.2.2.2.2.1, ()), v12.2.1.2.1.2.2.2.1, ()), ()), v12.1, (v19.1.1, (v19.1.2.1.1, v19.1.2.1.2.1, (v19.1.2.1.2.2.1.1, v19.1.2.1.2.2.1.2.1, v19.1.2.1.2.2.1.2.2.1, v19.1.2.1.2.2.1.2.2.2.1, v19.1.2.1.2.2.1.2.2.2.2.1, ()), v19.1.2.1.2.2.2.1, ()), ()), v19.2.1, ()) with
             | none => none
             | some (.inl v21) => none
             | some (.inr v20) =>
              some (.inr (v20.1, ())))) (
            match l_toInt64S (x.1, ()) with
            | none => none
            | some v18 =>
            match i_ReceiveChannel ((v16.1.1, v16.1.2.1, v16.1.2.2.1, v16.1.2.2.2.1, ()), v17.1, v18.1, ()) with
            | none => none
            | some v19 =>
            match c_l_FnExactReceiveChannel_31 ((x.2.2.2.1.1, (x.2.2.2.1.2.1.1, x.2.2.2.1.2.1.2.1, (x.2.2.2.1.2.1.2.2.1.1, x.2.2.2.1.2.1.2.2.1.2.1, x.2.2.2.1.2.1.2.2.1.2.2.1, x.2.2.2.1.2.1.2.2.1.2.2.2.1, x.2.2.2.1.2.1.2.2.1.2.2.2.2.1, ()), x.2.2.2.1.2.1.2.2.2.1, ()), ()), x.2.2.2.2.1, (x.2.2.2.2.2.2.2.1.1, (x.2.2.2.2.2.2.2.1.2.1.1, x.2.2.2.2.2.2.2.1.2.1.2.1, (x.2.2.2.2.2.2.2.1.2.1.2.2.1.1, x.2.2.2.2.2.2.2.1.2.1.2.2.1.2.1, x.2.2.2.2.2.2.2.1.2.1.2.2.1.2.2.1, x.2.2.2.2.2.2.2.1.2.1.2.2.1.2.2.2.1, x.2.2.2.2.2.2.2.1.2.1.2.2.1.2.2.2.2.1, ()), v12.2.1.2.1.2.2.2.1, ()), ()), v12.1, (v19.1.1, (v19.1.2.1.1, v19.1.2.1.2.1, (v19.1.2.1.2.2.1.1, v19.1.2.1.2.2.1.2.1, v19.1.2.1.2.2.1.2.2.1, v19.1.2.1.2.2.1.2.2.2.1, v19.1.2.1.2.2.1.2.2.2.2.1, ()), v19.1.2.1.2.2.2.1, ()), ()), v19.2.1, ()) with
            | none => none
            | some (.inl v21) => none
            | some (.inr v20) =>
             some (.inr (v20.1, ())))) (
           match l_toState (x.2.2.1, ()) with
           | none => none
           | some v17 =>
           match l_toInt64S (x.1, ()) with
           | none => none
           | some v18 =>
           match i_ReceiveChannel ((v16.1.1, v16.1.2.1, v16.1.2.2.1, v16.1.2.2.2.1, ()), v17.1, v18.1, ()) with
           | none => none
           | some v19 =>
           match c_l_FnExactReceiveChannel_31 ((x.2.2.2.1.1, (x.2.2.2.1.2.1.1, x.2.2.2.1.2.1.2.1, (x.2.2.2.1.2.1.2.2.1.1, x.2.2.2.1.2.1.2.2.1.2.1, x.2.2.2.1.2.1.2.2.1.2.2.1, x.2.2.2.1.2.1.2.2.1.2.2.2.1, x.2.2.2.1.2.1.2.2.1.2.2.2.2.1, ()), x.2.2.2.1.2.1.2.2.2.1, ()), ()), x.2.2.2.2.1, (x.2.2.2.2.2.2.2.1.1, (x.2.2.2.2.2.2.2.1.2.1.1, x.2.2.2.2.2.2.2.1.2.1.2.1, (x.2.2.2.2.2.2.2.1.2.1.2.2.1.1, x.2.2.2.2.2.2.2.1.2.1.2.2.1.2.1, x.2.2.2.2.2.2.2.1.2.1.2.2.1.2.2.1, x.2.2.2.2.2.2.2.1.2.1.2.2.1.2.2.2.1, x.2.2.2.2.2.2.2.1.2.1.2.2.1.2.2.2.2.1, ()), v12.2.1.2.1.2.2.2.1, ()), ()), v12.1, (v19.1.1, (v19.1.2.1.1, v19.1.2.1.2.1, (v19.1.2.1.2.2.1.1, v19.1.2.1.2.2.1.2.1, v19.1.2.1.2.2.1.2.2.1, v19.1.2.1.2.2.1.2.2.2.1, v19.1.2.1.2.2.1.2.2.2.2.1, ()), v19.1.2.1.2.2.2.1, ()), ()), v19.2.1, ()) with
           | none => none
           | some (.inl v21) => none
           | some (.inr v20) =>
            some (.inr (v20.1, ())))) (
          match l_toMedl (x.2.1, ()) with
          | none => none
          | some v16 =>
          match l_toState (x.2.2.1, ()) with
          | none => none
          | some v17 =>
          match l_toInt64S (x.1, ()) with
          | none => none
          | some v18 =>
          match i_ReceiveChannel ((v16.1.1, v16.1.2.1, v16.1.2.2.1, v16.1.2.2.2.1, ()), v17.1, v18.1, ()) with
          | none => none
          | some v19 =>
          match c_l_FnExactReceiveChannel_31 ((x.2.2.2.1.1, (x.2.2.2.1.2.1.1, x.2.2.2.1.2.1.2.1, (x.2.2.2.1.2.1.2.2.1.1, x.2.2.2.1.2.1.2.2.1.2.1, x.2.2.2.1.2.1.2.2.1.2.2.1, x.2.2.2.1.2.1.2.2.1.2.2.2.1, x.2.2.2.1.2.1.2.2.1.2.2.2.2.1, ()), x.2.2.2.1.2.1.2.2.2.1, ()), ()), x.2.2.2.2.1, (x.2.2.2.2.2.2.2.1.1, (x.2.2.2.2.2.2.2.1.2.1.1, x.2.2.2.2.2.2.2.1.2.1.2.1, (x.2.2.2.2.2.2.2.1.2.1.2.2.1.1, x.2.2.2.2.2.2.2.1.2.1.2.2.1.2.1, x.2.2.2.2.2.2.2.1.2.1.2.2.1.2.2.1, x.2.2.2.2.2.2.2.1.2.1.2.2.1.2.2.2.1, x.2.2.2.2.2.2.2.1.2.1.2.2.1.2.2.2.2.1, ()), v12.2.1.2.1.2.2.2.1, ()), ()), v12.1, (v19.1.1, (v19.1.2.1.1, v19.1.2.1.2.1, (v19.1.2.1.2.2.1.1, v19.1.2.1.2.2.1.2.1, v19.1.2.1.2.2.1.2.2.1, v19.1.2.1.2.2.1.2.2.2.1, v19.1.2.1.2.2.1.2.2.2.2.1, ()), v19.1.2.1.2.2.2.1, ()), ()), v19.2.1, ()) with
          | none => none
          | some (.inl v21) => none
          | some (.inr v20) =>
           some (.inr (v20.1, ())))
noncomputable def c_l_FnExactReceiveChannel_8 (x : Ty.T (.pair (.list (.int .i64)) (.pair (.ptr TMedl) (.pair (.ptr TState) (.pair (.box (.pair (.int .i64) (.pair (.pair (.int .i64) (.pair (.int .i64) (.pair TState (.pair (.own 2 (.int .i64)) .unit)))) .unit))) (.pair (.int .i64) .unit)))))) : Option (Unit ⊕ (Ty.T (.pair .bool .unit))) :=
match l_toMedl (x.2.1, ()) with
| none => none
| some v2 =>
match l_toInt64S (x.1, ()) with
| none => none
| some v3 =>
both (
 both (
  match l_toState (x.2.2.1, ()) with
  | none => none
  | some v22 =>
  same (
   match i_ReceiveChannel ((v2.1.1, v2.1.2.1, v2.1.2.2.1, v2.1.2.2.2.1, ()), v22.1, v3.1, ()) with
   | none => none
   | some v23 =>
   match c_l_FnExactReceiveChannel_11 (x.1, x.2.1, x.2.2.1, (x.2.2.2.1.1, (x.2.2.2.1.2.1.1, x.2.2.2.1.2.1.2.1, (x.2.2.2.1.2.1.2.2.1.1, x.2.2.2.1.2.1.2.2.1.2.1, x.2.2.2.1.2.1.2.2.1.2.2.1, x.2.2.2.1.2.1.2.2.1.2.2.2.1, x.2.2.2.1.2.1.2.2.1.2.2.2.2.1, ()), x.2.2.2.1.2.1.2.2.2.1, ()), ()), x.2.2.2.2.1, (v2.1.1, v2.1.2.1, v2.1.2.2.1, v2.1.2.2.2.1, ()), v3.1, (v23.1.1, (v23.1.2.1.1, v23.1.2.1.2.1, (v23.1.2.1.2.2.1.1, v23.1.2.1.2.2.1.2.1, v23.1.2.1.2.2.1.2.2.1, v23.1.2.1.2.2.1.2.2.2.1, v23.1.2.1.2.2.1.2.2.2.2.1, ()), v23.1.2.1.2.2.2.1, ()), ()), v23.2.1, ()) with
   | none => none
   | some (.inl v25) => none
   | some (.inr v24) =>
    some (.inr (v24.1, ())))) (
  match l_toState (x.2.2.1, ()) with
  | none => none
  | some v22 =>
  match i_ReceiveChannel ((v2.1.1, v2.1.2.1, v2.1.2.2.1, v2.1.2.2.2.1, ()), v22.1, v3.1, ()) with
  | none => none
  | some v23 =>
  match c_l_FnExactReceiveChannel_11 (x.1, x.2.1, x.2.2.1, (x.2.2.2.1.1, (x.2.2.2.1.2.1.1, x.2.2.2.1.2.1.2.1, (x.2.2.2.1.2.1.2.2.1.1, x.2.2.2.1.2.1.2.2.1.2.1, x.2.2.2.1.2.1.2.2.1.2.2.1, x.2.2.2.1.2.1.2.2.1.2.2.2.1, x.2.2.2.1.2.1.2.2.1.2.2.2.2.1, ()), x.2.2.2.1.2.1.2.2.2.1, ()), ()), x.2.2.2.2.1, (v2.1.1, v2.1.2.1, v2.1.2.2.1, v2.1.2.2.2.1, ()), v3.1, (v23.1.1, (v23.1.2.1.1, v23.1.2.1.2.1, (v23.1.2.1.2.2.1.1, v23.1.2.1.2.2.1.2.1, v23.1.2.1.2.2.1.2.2.1, v23.1.2.1.2.2.1.2.2.2.1, v23.1.2.1.2.2.1.2.2.2.2.1, ()), v23.1.2.1.2.2.2.1, ()), ()), v23.2.1, ()) with
  | none => none
  | some (.inl v25) => none
  | some (.inr v24) =>
   some (.inr (v24.1, ())))) (
 both (
  match l_toState (x.2.2.1, ()) with
  | none => none
  | some v22 =>
  both (
   same (
    match i_ReceiveChannel ((v2.1.1, v2.1.2.1, v2.1.2.2.1, v2.1.2.2.2.1, ()), v22.1, v3.1, ()) with
    | none => none
    | some v23 =>
    match c_l_FnExactReceiveChannel_11 (x.1, x.2.1, x.2.2.1, (x.2.2.2.1.1, (x.2.2.2.1.2.1.1, x.2.2.2.1.2.1.2.1, (x.2.2.2.1.2.1.2.2.1.1, x.2.2.2.1.2.1.2.2.1.2.1, x.2.2.2.1.2.1.2.2.1.2.2.1, x.2.2.2.1.2.1.2.2.1.2.2.2.1, x.2.2.2.1.2.1.2.2.1.2.2.2.2.1, ()), x.2.2.2.1.2.1.2.2.2.1, ()), ()), x.2.2.2.2.1, (v2.1.1, v2.1.2.1, v2.1.2.2.1, v2.1.2.2.2.1, ()), v3.1, (v23.1.1, (v23.1.2.1.1, v23.1.2.1.2.1, (v23.1.2.1.2.2.1.1, v23.1.2.1.2.2.1.2.1, v23.1.2.1.2.2.1.2.2.1, v23.1.2.1.2.2.1.2.2.2.1, v23.1.2.1.2.2.1.2.2.2.2.1, ()), v23.1.2.1.2.2.2.1, ()), ()), v23.2.1, ()) with
    | none => none
    | some (.inl v25) => none
    | some (.inr v24) =>
     some (.inr (v24.1, ())))) (
   match i_ReceiveChannel ((v2.1.1, v2.1.2.1, v2.1.2.2.1, v2.1.2.2.2.1, ()), v22.1, v3.1, ()) with
   | none => none
   | some v23 =>
   match c_l_FnExactReceiveChannel_11 (x.1, x.2.1, x.2.2.1, (x.2.2.2.1.1, (x.2.2.2.1.2.1.1, x.2.2.2.1.2.1.2.1, (x.2.2.2.1.2.1.2.2.1.1, x.2.2.2.1.2.1.2.2.1.2.1, x.2.2.2.1.2.1.2.2.1.2.2.1, x.2.2.2.1.2.1.2.2.1.2.2.2.1, x.2.2.2.1.2.1.2.2.1.2.2.2.2.1, ()), x.2.2.2.1.2.1.2.2.2.1, ()), ()), x.2.2.2.2.1, (v2.1.1, v2.1.2.1, v2.1.2.2.1, v2.1.2.2.2.1, ()), v3.1, (v23.1.1, (v23.1.2.1.1, v23.1.2.1.2.1, (v23.1.2.1.2.2.1.1, v23.1.2.1.2.2.1.2.1, v23.1.2.1.2.2.1.2.2.1, v23.1.2.1.2.2.1.2.2.2.1, v23.1.2.1.2.2.1.2.2.2.2.1, ()), v23.1.2.1.2.2.2.1, ()), ()), v23.2.1, ()) with
   | none => none
   | some (.inl v25) => none
   | some (.inr v24) =>
    some (.inr (v24.1, ())))) (
  same (
   match l_toState (x.2.2.1, ()) with
   | none => none
   | some v22 =>
   match i_ReceiveChannel ((v2.1.1, v2.1.2.1, v2.1.2.2.1, v2.1.2.2.2.1, ()), v22.1, v3.1, ()) with
   | none => none
   | some v23 =>
   match c_l_FnExactReceiveChannel_11 (x.1, x.2.1, x.2.2.1, (x.2.2.2.1.1, (x.2.2.2.1.2.1.1, x.2.2.2.1.2.1.2.1, (x.2.2.2.1.2.1.2.2.1.1, x.2.2.2.1.2.1.2.2.1.2.1, x.2.2.2.1.2.1.2.2.1.2.2.1, x.2.2.2.1.2.1.2.2.1.2.2.2.1, x.2.2.2.1.2.1.2.2.1.2.2.2.2.1, ()), x.2.2.2.1.2.1.2.2.2.1, ()), ()), x.2.2.2.2.1, (v2.1.1, v2.1.2.1, v2.1.2.2.1, v2.1.2.2.2.1, ()), v3.1, (v23.1.1, (v23.1.2.1.1, v23.1.2.1.2.1, (v23.1.2.1.2.2.1.1, v23.1.2.1.2.2.1.2.1, v23.1.2.1.2.2.1.2.2.1, v23.1.2.1.2.2.1.2.2.2.1, v23.1.2.1.2.2.1.2.2.2.2.1, ()), v23.1.2.1.2.2.2.1, ()), ()), v23.2.1, ()) with
   | none => none
   | some (.inl v25) => none
   | some (.inr v24) =>
    some (.inr (v24.1, ())))))
noncomputable def l_FnExactReceiveChannel (x : Ty.T (.pair TMedl (.pair TState (.pair (.list (.int .i64)) .unit)))) : Option (Ty.T (.pair .bool .unit)) :=
match (decide ((x.2.2.1.length : Int) > (1048576 : Int))) with
| true =>
 some (true, ())
| false =>
 match l_szMedl ((x.1.1, x.1.2.1, x.1.2.2.1, x.1.2.2.2.1, ()), (1048576 : Int), ()) with
 | none => none
 | some v1 =>
 match (decide (v1.1 < (0 : Int))) with
 | true =>
  some (true, ())
 | false =>
  both (
   match l_toMedl ((x.1.1, x.1.2.1, x.1.2.2.1, x.1.2.2.2.1, ()), ()) with
   | none => none
   | some v26 =>
   both (
    match l_toState ((x.2.1.1, x.2.1.2.1, x.2.1.2.2.1, x.2.1.2.2.2.1, x.2.1.2.2.2.2.1, ()), ()) with
    | none => none
    | some v27 =>
    both (
     match l_toInt64S (x.2.2.1, ()) with
     | none => none
     | some v28 =>
     same (
      match s_ReceiveChannel ((v26.1.1, v26.1.2.1, v26.1.2.2.1, v26.1.2.2.2.1, ()), v27.1, v28.1, ()) with
      | none => none
      | some v29 =>
      match c_l_FnExactReceiveChannel_8 (x.2.2.1, (x.1.1, x.1.2.1, x.1.2.2.1, x.1.2.2.2.1, ()), (x.2.1.1, x.2.1.2.1, x.2.1.2.2.1, x.2.1.2.2.2.1, x.2.1.2.2.2.2.1, ()), (v29.1.1, (v29.1.2.1.1, v29.1.2.1.2.1, (v29.1.2.1.2.2.1.1, v29.1.2.1.2.2.1.2.1, v29.1.2.1.2.2.1.2.2.1, v29.1.2.1.2.2.1.2.2.2.1, v29.1.2.1.2.2.1.2.2.2.2.1, ()), v29.1.2.1.2.2.2.1, ()), ()), v29.2.1, ()) with
      | none => none
      | some (.inl v31) => none
      | some (.inr v30) =>
       some (v30.1, ()))) (
     match l_toInt64S (x.2.2.1, ()) with
     | none => none
     | some v28 =>
     match s_ReceiveChannel ((v26.1.1, v26.1.2.1, v26.1.2.2.1, v26.1.2.2.2.1, ()), v27.1, v28.1, ()) with
     | none => none
     | some v29 =>
     match c_l_FnExactReceiveChannel_8 (x.2.2.1, (x.1.1, x.1.2.1, x.1.2.2.1, x.1.2.2.2.1, ()), (x.2.1.1, x.2.1.2.1, x.2.1.2.2.1, x.2.1.2.2.2.1, x.2.1.2.2.2.2.1, ()), (v29.1.1, (v29.1.2.1.1, v29.1.2.1.2.1, (v29.1.2.1.2.2.1.1, v29.1.2.1.2.2.1.2.1, v29.1.2.1.2.2.1.2.2.1, v29.1.2.1.2.2.1.2.2.2.1, v29.1.2.1.2.2.1.2.2.2.2.1, ()), v29.1.2.1.2.2.2.1, ()), ()), v29.2.1, ()) with
     | none => none
     | some (.inl v31) => none
     | some (.inr v30) =>
      some (v30.1, ()))) (
    match l_toState ((x.2.1.1, x.2.1.2.1, x.2.1.2.2.1, x.2.1.2.2.2.1, x.2.1.2.2.2.2.1, ()), ()) with
    | none => none
    | some v27 =>
    match l_toInt64S (x.2.2.1, ()) with
    | none => none
    | some v28 =>
    match s_ReceiveChannel ((v26.1.1, v26.1.2.1, v26.1.2.2.1, v26.1.2.2.2.1, ()), v27.1, v28.1, ()) with
    | none => none
    | some v29 =>
    match c_l_FnExactReceiveChannel_8 (x.2.2.1, (x.1.1, x.1.2.1, x.1.2.2.1, x.1.2.2.2.1, ()), (x.2.1.1, x.2.1.2.1, x.2.1.2.2.1, x.2.1.2.2.2.1, x.2.1.2.2.2.2.1, ()), (v29.1.1, (v29.1.2.1.1, v29.1.2.1.2.1, (v29.1.2.1.2.2.1.1, v29.1.2.1.2.2.1.2.1, v29.1.2.1.2.2.1.2.2.1, v29.1.2.1.2.2.1.2.2.2.1, v29.1.2.1.2.2.1.2.2.2.2.1, ()), v29.1.2.1.2.2.2.1, ()), ()), v29.2.1, ()) with
    | none => none
    | some (.inl v31) => none
    | some (.inr v30) =>
     some (v30.1, ()))) (
   match l_toMedl ((x.1.1, x.1.2.1, x.1.2.2.1, x.1.2.2.2.1, ()), ()) with
   | none => none
   | some v26 =>
   match l_toState ((x.2.1.1, x.2.1.2.1, x.2.1.2.2.1, x.2.1.2.2.2.1, x.2.1.2.2.2.2.1, ()), ()) with
   | none => none
   | some v27 =>
   match l_toInt64S (x.2.2.1, ()) with
   | none => none
   | some v28 =>
   match s_ReceiveChannel ((v26.1.1, v26.1.2.1, v26.1.2.2.1, v26.1.2.2.2.1, ()), v27.1, v28.1, ()) with
   | none => none
   | some v29 =>
   match c_l_FnExactReceiveChannel_8 (x.2.2.1, (x.1.1, x.1.2.1, x.1.2.2.1, x.1.2.2.2.1, ()), (x.2.1.1, x.2.1.2.1, x.2.1.2.2.1, x.2.1.2.2.2.1, x.2.1.2.2.2.2.1, ()), (v29.1.1, (v29.1.2.1.1, v29.1.2.1.2.1, (v29.1.2.1.2.2.1.1, v29.1.2.1.2.2.1.2.1, v29.1.2.1.2.2.1.2.2.1, v29.1.2.1.2.2.1.2.2.2.1, v29.1.2.1.2.2.1.2.2.2.2.1, ()), v29.1.2.1.2.2.2.1, ()), ()), v29.2.1, ()) with
   | none => none
   | some (.inl v31) => none
   | some (.inr v30) =>
    some (v30.1, ()))
noncomputable def S_l_FnExactReceiveChannel : Spec := ⟨(.pair TMedl (.pair TState (.pair (.list (.int .i64)) .unit))), (.pair .bool .unit), .unit, rfl, l_FnExactReceiveChannel⟩
noncomputable def σ_l_FnExactReceiveChannel : FuncId → Option Spec := sig [(5, S_l_szMedl), (6, S_s_ReceiveChannel), (7, S_l_toMedl), (8, S_l_toState), (9, S_l_toInt64S), (10, S_i_ReceiveChannel), (11, S_l_eqVerdict), (12, S_l_eqMedl), (13, S_l_eqInt64S), (14, S_l_markMedl), (15, S_l_markInt64S), (16, S_l_markVerdict), (17, S_l_heldVerdict)]
theorem σok_l_FnExactReceiveChannel : ∀ f s, σ_l_FnExactReceiveChannel f = some s → FnOK G0 Tryz.prog f s := sig_ok (l := [(5, S_l_szMedl), (6, S_s_ReceiveChannel), (7, S_l_toMedl), (8, S_l_toState), (9, S_l_toInt64S), (10, S_i_ReceiveChannel), (11, S_l_eqVerdict), (12, S_l_eqMedl), (13, S_l_eqInt64S), (14, S_l_markMedl), (15, S_l_markInt64S), (16, S_l_markVerdict), (17, S_l_heldVerdict)]) ⟨ok_l_szMedl, ok_s_ReceiveChannel, ok_l_toMedl, ok_l_toState, ok_l_toInt64S, ok_i_ReceiveChannel, ok_l_eqVerdict, ok_l_eqMedl, ok_l_eqInt64S, ok_l_markMedl, ok_l_markInt64S, ok_l_markVerdict, ok_l_heldVerdict, trivial⟩
noncomputable def cuts_l_FnExactReceiveChannel : List (Nat × LSpec) := [(8, ⟨[2, 3, 4, 8, 9], (.pair (.list (.int .i64)) (.pair (.ptr TMedl) (.pair (.ptr TState) (.pair (.box (.pair (.int .i64) (.pair (.pair (.int .i64) (.pair (.int .i64) (.pair TState (.pair (.own 2 (.int .i64)) .unit)))) .unit))) (.pair (.int .i64) .unit))))), 1000008, [], .unit, [6], (.pair .bool .unit), c_l_FnExactReceiveChannel_8⟩), (11, ⟨[2, 3, 4, 8, 9, 10, 11, 12, 13], (.pair (.list (.int .i64)) (.pair (.ptr TMedl) (.pair (.ptr TState) (.pair (.box (.pair (.int .i64) (.pair (.pair (.int .i64) (.pair (.int .i64) (.pair TState (.pair (.own 2 (.int .i64)) .unit)))) .unit))) (.pair (.int .i64) (.pair (.box (.pair (.int .i64) (.pair (.own 82 TNodeInfo) (.pair (.own 84 (.pair (.int .i64) (.pair (.int .i64) (.pair (.own 2 (.int .i64)) .unit)))) (.pair (.own 89 TSlotInfo) .unit))))) (.pair (.own 2 (.int .i64)) (.pair (.box (.pair (.int .i64) (.pair (.pair (.int .i64) (.pair (.int .i64) (.pair TState (.pair (.own 2 (.int .i64)) .unit)))) .unit))) (.pair (.int .i64) .unit))))))))), 1000011, [], .unit, [6], (.pair .bool .unit), c_l_FnExactReceiveChannel_11⟩), (31, ⟨[8, 9, 12, 15, 17, 18], (.pair (.box (.pair (.int .i64) (.pair (.pair (.int .i64) (.pair (.int .i64) (.pair TState (.pair (.own 2 (.int .i64)) .unit)))) .unit))) (.pair (.int .i64) (.pair (.box (.pair (.int .i64) (.pair (.pair (.int .i64) (.pair (.int .i64) (.pair TState (.pair (.own 2 (.int .i64)) .unit)))) .unit))) (.pair (.int .i64) (.pair (.box (.pair (.int .i64) (.pair (.pair (.int .i64) (.pair (.int .i64) (.pair TState (.pair (.own 2 (.int .i64)) .unit)))) .unit))) (.pair (.int .i64) .unit)))))), 1000031, [], .unit, [6], (.pair .bool .unit), c_l_FnExactReceiveChannel_31⟩)]
noncomputable def Λ_l_FnExactReceiveChannel : Nat → Option LSpec := lkp2 (loopList (bodyOf Tryz.f3)) [] cuts_l_FnExactReceiveChannel
theorem cok_l_FnExactReceiveChannel_8 (x) : codeK Γ0 E0 σ_l_FnExactReceiveChannel Λ_l_FnExactReceiveChannel Tryz.f3.ntmps (nthCut Tryz.f3 9) (mkF Tryz.f3.ntmps [2, 3, 4, 8, 9] (.pair (.list (.int .i64)) (.pair (.ptr TMedl) (.pair (.ptr TState) (.pair (.box (.pair (.int .i64) (.pair (.pair (.int .i64) (.pair (.int .i64) (.pair TState (.pair (.own 2 (.int .i64)) .unit)))) .unit))) (.pair (.int .i64) .unit))))) x) (readC σ_l_FnExactReceiveChannel Tryz.f3.ntmps 1000008 [] .unit [6] (.pair .bool .unit)) = c_l_FnExactReceiveChannel_8 x := by kernel_rfl
theorem cok_l_FnExactReceiveChannel_11 (x) : codeK Γ0 E0 σ_l_FnExactReceiveChannel Λ_l_FnExactReceiveChannel Tryz.f3.ntmps (nthCut Tryz.f3 12) (mkF Tryz.f3.ntmps [2, 3, 4, 8, 9, 10, 11, 12, 13] (.pair (.list (.int .i64)) (.pair (.ptr TMedl) (.pair (.ptr TState) (.pair (.box (.pair (.int .i64) (.pair (.pair (.int .i64) (.pair (.int .i64) (.pair TState (.pair (.own 2 (.int .i64)) .unit)))) .unit))) (.pair (.int .i64) (.pair (.box (.pair (.int .i64) (.pair (.own 82 TNodeInfo) (.pair (.own 84 (.pair (.int .i64) (.pair (.int .i64) (.pair (.own 2 (.int .i64)) .unit)))) (.pair (.own 89 TSlotInfo) .unit))))) (.pair (.own 2 (.int .i64)) (.pair (.box (.pair (.int .i64) (.pair (.pair (.int .i64) (.pair (.int .i64) (.pair TState (.pair (.own 2 (.int .i64)) .unit)))) .unit))) (.pair (.int .i64) .unit))))))))) x) (readC σ_l_FnExactReceiveChannel Tryz.f3.ntmps 1000011 [] .unit [6] (.pair .bool .unit)) = c_l_FnExactReceiveChannel_11 x := by kernel_rfl
theorem cok_l_FnExactReceiveChannel_31 (x) : codeK Γ0 E0 σ_l_FnExactReceiveChannel Λ_l_FnExactReceiveChannel Tryz.f3.ntmps (nthCut Tryz.f3 38) (mkF Tryz.f3.ntmps [8, 9, 12, 15, 17, 18] (.pair (.box (.pair (.int .i64) (.pair (.pair (.int .i64) (.pair (.int .i64) (.pair TState (.pair (.own 2 (.int .i64)) .unit)))) .unit))) (.pair (.int .i64) (.pair (.box (.pair (.int .i64) (.pair (.pair (.int .i64) (.pair (.int .i64) (.pair TState (.pair (.own 2 (.int .i64)) .unit)))) .unit))) (.pair (.int .i64) (.pair (.box (.pair (.int .i64) (.pair (.pair (.int .i64) (.pair (.int .i64) (.pair TState (.pair (.own 2 (.int .i64)) .unit)))) .unit))) (.pair (.int .i64) .unit)))))) x) (readC σ_l_FnExactReceiveChannel Tryz.f3.ntmps 1000031 [] .unit [6] (.pair .bool .unit)) = c_l_FnExactReceiveChannel_31 x := by kernel_rfl
theorem ok_l_FnExactReceiveChannel : FnOK G0 Tryz.prog 3 S_l_FnExactReceiveChannel := fn_okC (Λ := Λ_l_FnExactReceiveChannel) tab0 σok_l_FnExactReceiveChannel Tryz.func3 (by kernel_rfl) (show Tryz.f3.body = some (bodyOf Tryz.f3) by kernel_rfl) [] cuts_l_FnExactReceiveChannel rfl (by kernel_rfl) (by exact trivial) (by exact ⟨trivial, trivial, trivial, trivial, trivial, trivial, trivial, trivial, trivial, cut_COK cok_l_FnExactReceiveChannel_8, trivial, trivial, cut_COK cok_l_FnExactReceiveChannel_11, trivial, trivial, trivial, trivial, trivial, trivial, trivial, trivial, trivial, trivial, trivial, trivial, trivial, trivial, trivial, trivial, trivial, trivial, trivial, trivial, trivial, trivial, trivial, trivial, trivial, cut_COK cok_l_FnExactReceiveChannel_31, trivial, trivial, trivial, trivial, trivial, trivial, trivial, trivial, trivial, trivial, trivial, trivial, trivial⟩) (by kernel_rfl)
  fun x y h => (show execFn Γ0 E0 σ_l_FnExactReceiveChannel Λ_l_FnExactReceiveChannel Tryz.f3 S_l_FnExactReceiveChannel x = l_FnExactReceiveChannel x by kernel_rfl).trans h

end Go.Proofs.YtieajgkcadmchaaGreatDoor
