/- What the functions of the claim do, on data; written by the program gen.py. -/
import Derived.Test.YtmdflpfagbcaiaaGB
namespace Go.Proofs.Ytmdflpfagbcaiaa
open Go.RowKit
set_option linter.unusedVariables false

noncomputable def b_slices_partitionOrdered_int64_3 (x : (Ty.T (.pair (.own 2 (.int .i64)) (.pair (.int .i64) (.pair (.int .i64) (.pair (.int .i64) .unit)))))) : Option ((Ty.T (.pair (.own 2 (.int .i64)) (.pair (.int .i64) (.pair (.int .i64) (.pair (.int .i64) .unit))))) ⊕ ((Ty.T (.pair (.own 2 (.int .i64)) (.pair (.int .i64) (.pair (.int .i64) (.pair (.int .i64) .unit))))) ⊕ (Ty.T .unit))) :=
match (decide (x.2.2.1 ≤ x.2.2.2.1)) with
| true =>
 onSome (idx x.1 x.2.2.1) fun _ =>
 match x.1[x.2.2.1.toNat]? with
 | none => none
 | some v10 =>
 onSome (idx x.1 x.2.1) fun _ =>
 match x.1[x.2.1.toNat]? with
 | none => none
 | some v12 =>
 match cmp_Less_int64 (v10, v12, ()) with
 | none => none
 | some v13 =>
 match v13.1 with
 | true =>
  some (.inl (x.1, x.2.1, (IntKind.i64.wrap (x.2.2.1 + (1 : Int))), x.2.2.2.1, ()))
 | false =>
  some (.inr (.inl (x.1, x.2.1, x.2.2.1, x.2.2.2.1, ())))
| false =>
 some (.inr (.inl (x.1, x.2.1, x.2.2.1, x.2.2.2.1, ())))
noncomputable def b_slices_partitionOrdered_int64_5 (x : (Ty.T (.pair (.own 2 (.int .i64)) (.pair (.int .i64) (.pair (.int .i64) (.pair (.int .i64) .unit)))))) : Option ((Ty.T (.pair (.own 2 (.int .i64)) (.pair (.int .i64) (.pair (.int .i64) (.pair (.int .i64) .unit))))) ⊕ ((Ty.T (.pair (.own 2 (.int .i64)) (.pair (.int .i64) (.pair (.int .i64) (.pair (.int .i64) .unit))))) ⊕ (Ty.T .unit))) :=
match (decide (x.2.2.1 ≤ x.2.2.2.1)) with
| true =>
 onSome (idx x.1 x.2.2.2.1) fun _ =>
 match x.1[x.2.2.2.1.toNat]? with
 | none => none
 | some v17 =>
 onSome (idx x.1 x.2.1) fun _ =>
 match x.1[x.2.1.toNat]? with
 | none => none
 | some v19 =>
 match cmp_Less_int64 (v17, v19, ()) with
 | none => none
 | some v20 =>
 match (!v20.1) with
 | true =>
  some (.inl (x.1, x.2.1, x.2.2.1, (IntKind.i64.wrap (x.2.2.2.1 - (1 : Int))), ()))
 | false =>
  some (.inr (.inl (x.1, x.2.1, x.2.2.1, x.2.2.2.1, ())))
| false =>
 some (.inr (.inl (x.1, x.2.1, x.2.2.1, x.2.2.2.1, ())))
noncomputable def b_slices_partitionOrdered_int64_13 (x : (Ty.T (.pair (.own 2 (.int .i64)) (.pair (.int .i64) (.pair (.int .i64) (.pair (.int .i64) .unit)))))) : Option ((Ty.T (.pair (.own 2 (.int .i64)) (.pair (.int .i64) (.pair (.int .i64) (.pair (.int .i64) .unit))))) ⊕ ((Ty.T (.pair (.own 2 (.int .i64)) (.pair (.int .i64) (.pair (.int .i64) (.pair (.int .i64) .unit))))) ⊕ (Ty.T .unit))) :=
match (decide (x.2.2.1 ≤ x.2.2.2.1)) with
| true =>
 onSome (idx x.1 x.2.2.1) fun _ =>
 match x.1[x.2.2.1.toNat]? with
 | none => none
 | some v40 =>
 onSome (idx x.1 x.2.1) fun _ =>
 match x.1[x.2.1.toNat]? with
 | none => none
 | some v42 =>
 match cmp_Less_int64 (v40, v42, ()) with
 | none => none
 | some v43 =>
 match v43.1 with
 | true =>
  some (.inl (x.1, x.2.1, (IntKind.i64.wrap (x.2.2.1 + (1 : Int))), x.2.2.2.1, ()))
 | false =>
  some (.inr (.inl (x.1, x.2.1, x.2.2.1, x.2.2.2.1, ())))
| false =>
 some (.inr (.inl (x.1, x.2.1, x.2.2.1, x.2.2.2.1, ())))
noncomputable def b_slices_partitionOrdered_int64_15 (x : (Ty.T (.pair (.own 2 (.int .i64)) (.pair (.int .i64) (.pair (.int .i64) (.pair (.int .i64) .unit)))))) : Option ((Ty.T (.pair (.own 2 (.int .i64)) (.pair (.int .i64) (.pair (.int .i64) (.pair (.int .i64) .unit))))) ⊕ ((Ty.T (.pair (.own 2 (.int .i64)) (.pair (.int .i64) (.pair (.int .i64) (.pair (.int .i64) .unit))))) ⊕ (Ty.T .unit))) :=
match (decide (x.2.2.1 ≤ x.2.2.2.1)) with
| true =>
 onSome (idx x.1 x.2.2.2.1) fun _ =>
 match x.1[x.2.2.2.1.toNat]? with
 | none => none
 | some v47 =>
 onSome (idx x.1 x.2.1) fun _ =>
 match x.1[x.2.1.toNat]? with
 | none => none
 | some v49 =>
 match cmp_Less_int64 (v47, v49, ()) with
 | none => none
 | some v50 =>
 match (!v50.1) with
 | true =>
  some (.inl (x.1, x.2.1, x.2.2.1, (IntKind.i64.wrap (x.2.2.2.1 - (1 : Int))), ()))
 | false =>
  some (.inr (.inl (x.1, x.2.1, x.2.2.1, x.2.2.2.1, ())))
| false =>
 some (.inr (.inl (x.1, x.2.1, x.2.2.1, x.2.2.2.1, ())))
noncomputable def b_slices_partitionOrdered_int64_1013 (x : (Ty.T (.pair (.own 2 (.int .i64)) (.pair (.int .i64) (.pair (.int .i64) (.pair (.int .i64) .unit)))))) : Option ((Ty.T (.pair (.own 2 (.int .i64)) (.pair (.int .i64) (.pair (.int .i64) (.pair (.int .i64) .unit))))) ⊕ ((Ty.T (.pair (.own 2 (.int .i64)) (.pair (.int .i64) (.pair (.int .i64) .unit)))) ⊕ (Ty.T .unit))) :=
match loopL b_slices_partitionOrdered_int64_13 (x.1, x.2.1, x.2.2.1, x.2.2.2.1, ()) with
| none => none
| some (.inl v39) =>
 match loopL b_slices_partitionOrdered_int64_15 (v39.1, v39.2.1, v39.2.2.1, v39.2.2.2.1, ()) with
 | none => none
 | some (.inl v41) =>
  match (decide (v41.2.2.1 > v41.2.2.2.1)) with
  | true =>
   some (.inr (.inl (v41.1, v41.2.1, v41.2.2.2.1, ())))
  | false =>
   onSome (idx v41.1 v41.2.2.2.1) fun _ =>
   onSome (idx v41.1 v41.2.2.1) fun _ =>
   both (
    match v41.1[v41.2.2.2.1.toNat]? with
    | none => none
    | some v45 =>
    match v41.1[v41.2.2.1.toNat]? with
    | none => none
    | some v46 =>
    onSome (idx v41.1 v41.2.2.1) fun _ =>
    match v41.1[v41.2.2.1.toNat]? with
    | none => none
    | some v48 =>
    onSome (idx (v41.1.set v41.2.2.1.toNat v45) v41.2.2.2.1) fun _ =>
    match (v41.1.set v41.2.2.1.toNat v45)[v41.2.2.2.1.toNat]? with
    | none => none
    | some v50 =>
    some (.inl (((v41.1.set v41.2.2.1.toNat v45).set v41.2.2.2.1.toNat v46), v41.2.1, (IntKind.i64.wrap (v41.2.2.1 + (1 : Int))), (IntKind.i64.wrap (v41.2.2.2.1 - (1 : Int))), ()))) (
    match v41.1[v41.2.2.1.toNat]? with
    | none => none
    | some v45 =>
    match v41.1[v41.2.2.2.1.toNat]? with
    | none => none
    | some v46 =>
    onSome (idx v41.1 v41.2.2.1) fun _ =>
    match v41.1[v41.2.2.1.toNat]? with
    | none => none
    | some v48 =>
    onSome (idx (v41.1.set v41.2.2.1.toNat v46) v41.2.2.2.1) fun _ =>
    match (v41.1.set v41.2.2.1.toNat v46)[v41.2.2.2.1.toNat]? with
    | none => none
    | some v50 =>
    some (.inl (((v41.1.set v41.2.2.1.toNat v46).set v41.2.2.2.1.toNat v45), v41.2.1, (IntKind.i64.wrap (v41.2.2.1 + (1 : Int))), (IntKind.i64.wrap (v41.2.2.2.1 - (1 : Int))), ())))
 | some (.inr v51) =>
  some (.inr (.inr (())))
| some (.inr v52) =>
 some (.inr (.inr (())))
noncomputable def slices_partitionOrdered_int64 (x : Ty.T (.pair (.own 2 (.int .i64)) (.pair (.int .i64) (.pair (.int .i64) (.pair (.int .i64) .unit))))) : Option (Ty.T (.pair (.int .i64) (.pair .bool (.pair (.own 2 (.int .i64)) .unit)))) :=
onSome (idx x.1 x.2.2.2.1) fun _ =>
onSome (idx x.1 x.2.1) fun _ =>
both (
 match x.1[x.2.2.2.1.toNat]? with
 | none => none
 | some v3 =>
 match x.1[x.2.1.toNat]? with
 | none => none
 | some v4 =>
 onSome (idx x.1 x.2.1) fun _ =>
 match x.1[x.2.1.toNat]? with
 | none => none
 | some v6 =>
 onSome (idx (x.1.set x.2.1.toNat v3) x.2.2.2.1) fun _ =>
 match (x.1.set x.2.1.toNat v3)[x.2.2.2.1.toNat]? with
 | none => none
 | some v8 =>
 match loopL b_slices_partitionOrdered_int64_3 (((x.1.set x.2.1.toNat v3).set x.2.2.2.1.toNat v4), x.2.1, (IntKind.i64.wrap (x.2.1 + (1 : Int))), (IntKind.i64.wrap (x.2.2.1 - (1 : Int))), ()) with
 | none => none
 | some (.inl v14) =>
  match loopL b_slices_partitionOrdered_int64_5 (v14.1, v14.2.1, v14.2.2.1, v14.2.2.2.1, ()) with
  | none => none
  | some (.inl v21) =>
   match (decide (v21.2.2.1 > v21.2.2.2.1)) with
   | true =>
    onSome (idx v21.1 v21.2.1) fun _ =>
    onSome (idx v21.1 v21.2.2.2.1) fun _ =>
    both (
     match v21.1[v21.2.1.toNat]? with
     | none => none
     | some v25 =>
     match v21.1[v21.2.2.2.1.toNat]? with
     | none => none
     | some v26 =>
     onSome (idx v21.1 v21.2.2.2.1) fun _ =>
     match v21.1[v21.2.2.2.1.toNat]? with
     | none => none
     | some v28 =>
     onSome (idx (v21.1.set v21.2.2.2.1.toNat v25) v21.2.1) fun _ =>
     match (v21.1.set v21.2.2.2.1.toNat v25)[v21.2.1.toNat]? with
     | none => none
     | some v30 =>
     some (v21.2.2.2.1, true, ((v21.1.set v21.2.2.2.1.toNat v25).set v21.2.1.toNat v26), ())) (
     match v21.1[v21.2.2.2.1.toNat]? with
     | none => none
     | some v25 =>
     match v21.1[v21.2.1.toNat]? with
     | none => none
     | some v26 =>
     onSome (idx v21.1 v21.2.2.2.1) fun _ =>
     match v21.1[v21.2.2.2.1.toNat]? with
     | none => none
     | some v28 =>
     onSome (idx (v21.1.set v21.2.2.2.1.toNat v26) v21.2.1) fun _ =>
     match (v21.1.set v21.2.2.2.1.toNat v26)[v21.2.1.toNat]? with
     | none => none
     | some v30 =>
     some (v21.2.2.2.1, true, ((v21.1.set v21.2.2.2.1.toNat v26).set v21.2.1.toNat v25), ()))
   | false =>
    onSome (idx v21.1 v21.2.2.2.1) fun _ =>
    onSome (idx v21.1 v21.2.2.1) fun _ =>
    both (
     match v21.1[v21.2.2.2.1.toNat]? with
     | none => none
     | some v33 =>
     match v21.1[v21.2.2.1.toNat]? with
     | none => none
     | some v34 =>
     onSome (idx v21.1 v21.2.2.1) fun _ =>
     match v21.1[v21.2.2.1.toNat]? with
     | none => none
     | some v36 =>
     onSome (idx (v21.1.set v21.2.2.1.toNat v33) v21.2.2.2.1) fun _ =>
     match (v21.1.set v21.2.2.1.toNat v33)[v21.2.2.2.1.toNat]? with
     | none => none
     | some v38 =>
     match loopL b_slices_partitionOrdered_int64_1013 (((v21.1.set v21.2.2.1.toNat v33).set v21.2.2.2.1.toNat v34), v21.2.1, (IntKind.i64.wrap (v21.2.2.1 + (1 : Int))), (IntKind.i64.wrap (v21.2.2.2.1 - (1 : Int))), ()) with
     | none => none
     | some (.inl v53) =>
      onSome (idx v53.1 v53.2.1) fun _ =>
      onSome (idx v53.1 v53.2.2.1) fun _ =>
      both (
       match v53.1[v53.2.1.toNat]? with
       | none => none
       | some v57 =>
       match v53.1[v53.2.2.1.toNat]? with
       | none => none
       | some v58 =>
       onSome (idx v53.1 v53.2.2.1) fun _ =>
       match v53.1[v53.2.2.1.toNat]? with
       | none => none
       | some v60 =>
       onSome (idx (v53.1.set v53.2.2.1.toNat v57) v53.2.1) fun _ =>
       match (v53.1.set v53.2.2.1.toNat v57)[v53.2.1.toNat]? with
       | none => none
       | some v62 =>
       some (v53.2.2.1, false, ((v53.1.set v53.2.2.1.toNat v57).set v53.2.1.toNat v58), ())) (
       match v53.1[v53.2.2.1.toNat]? with
       | none => none
       | some v57 =>
       match v53.1[v53.2.1.toNat]? with
       | none => none
       | some v58 =>
       onSome (idx v53.1 v53.2.2.1) fun _ =>
       match v53.1[v53.2.2.1.toNat]? with
       | none => none
       | some v60 =>
       onSome (idx (v53.1.set v53.2.2.1.toNat v58) v53.2.1) fun _ =>
       match (v53.1.set v53.2.2.1.toNat v58)[v53.2.1.toNat]? with
       | none => none
       | some v62 =>
       some (v53.2.2.1, false, ((v53.1.set v53.2.2.1.toNat v58).set v53.2.1.toNat v57), ()))
     | some (.inr v54) =>
      none) (
     match v21.1[v21.2.2.1.toNat]? with
     | none => none
     | some v33 =>
     match v21.1[v21.2.2.2.1.toNat]? with
     | none => none
     | some v34 =>
     onSome (idx v21.1 v21.2.2.1) fun _ =>
     match v21.1[v21.2.2.1.toNat]? with
     | none => none
     | some v36 =>
     onSome (idx (v21.1.set v21.2.2.1.toNat v34) v21.2.2.2.1) fun _ =>
     match (v21.1.set v21.2.2.1.toNat v34)[v21.2.2.2.1.toNat]? with
     | none => none
     | some v38 =>
     match loopL b_slices_partitionOrdered_int64_1013 (((v21.1.set v21.2.2.1.toNat v34).set v21.2.2.2.1.toNat v33), v21.2.1, (IntKind.i64.wrap (v21.2.2.1 + (1 : Int))), (IntKind.i64.wrap (v21.2.2.2.1 - (1 : Int))), ()) with
     | none => none
     | some (.inl v39) =>
      onSome (idx v39.1 v39.2.1) fun _ =>
      onSome (idx v39.1 v39.2.2.1) fun _ =>
      both (
       match v39.1[v39.2.1.toNat]? with
       | none => none
       | some v43 =>
       match v39.1[v39.2.2.1.toNat]? with
       | none => none
       | some v44 =>
       onSome (idx v39.1 v39.2.2.1) fun _ =>
       match v39.1[v39.2.2.1.toNat]? with
       | none => none
       | some v46 =>
       onSome (idx (v39.1.set v39.2.2.1.toNat v43) v39.2.1) fun _ =>
       match (v39.1.set v39.2.2.1.toNat v43)[v39.2.1.toNat]? with
       | none => none
       | some v48 =>
       some (v39.2.2.1, false, ((v39.1.set v39.2.2.1.toNat v43).set v39.2.1.toNat v44), ())) (
       match v39.1[v39.2.2.1.toNat]? with
       | none => none
       | some v43 =>
       match v39.1[v39.2.1.toNat]? with
       | none => none
       | some v44 =>
       onSome (idx v39.1 v39.2.2.1) fun _ =>
       match v39.1[v39.2.2.1.toNat]? with
       | none => none
       | some v46 =>
       onSome (idx (v39.1.set v39.2.2.1.toNat v44) v39.2.1) fun _ =>
       match (v39.1.set v39.2.2.1.toNat v44)[v39.2.1.toNat]? with
       | none => none
       | some v48 =>
       some (v39.2.2.1, false, ((v39.1.set v39.2.2.1.toNat v44).set v39.2.1.toNat v43), ()))
     | some (.inr v40) =>
      none)
  | some (.inr v63) =>
   none
 | some (.inr v64) =>
  none) (
 match x.1[x.2.1.toNat]? with
 | none => none
 | some v3 =>
 match x.1[x.2.2.2.1.toNat]? with
 | none => none
 | some v4 =>
 onSome (idx x.1 x.2.1) fun _ =>
 match x.1[x.2.1.toNat]? with
 | none => none
 | some v6 =>
 onSome (idx (x.1.set x.2.1.toNat v4) x.2.2.2.1) fun _ =>
 match (x.1.set x.2.1.toNat v4)[x.2.2.2.1.toNat]? with
 | none => none
 | some v8 =>
 match loopL b_slices_partitionOrdered_int64_3 (((x.1.set x.2.1.toNat v4).set x.2.2.2.1.toNat v3), x.2.1, (IntKind.i64.wrap (x.2.1 + (1 : Int))), (IntKind.i64.wrap (x.2.2.1 - (1 : Int))), ()) with
 | none => none
 | some (.inl v9) =>
  match loopL b_slices_partitionOrdered_int64_5 (v9.1, v9.2.1, v9.2.2.1, v9.2.2.2.1, ()) with
  | none => none
  | some (.inl v11) =>
   match (decide (v11.2.2.1 > v11.2.2.2.1)) with
   | true =>
    onSome (idx v11.1 v11.2.1) fun _ =>
    onSome (idx v11.1 v11.2.2.2.1) fun _ =>
    both (
     match v11.1[v11.2.1.toNat]? with
     | none => none
     | some v15 =>
     match v11.1[v11.2.2.2.1.toNat]? with
     | none => none
     | some v16 =>
     onSome (idx v11.1 v11.2.2.2.1) fun _ =>
     match v11.1[v11.2.2.2.1.toNat]? with
     | none => none
     | some v18 =>
     onSome (idx (v11.1.set v11.2.2.2.1.toNat v15) v11.2.1) fun _ =>
     match (v11.1.set v11.2.2.2.1.toNat v15)[v11.2.1.toNat]? with
     | none => none
     | some v20 =>
     some (v11.2.2.2.1, true, ((v11.1.set v11.2.2.2.1.toNat v15).set v11.2.1.toNat v16), ())) (
     match v11.1[v11.2.2.2.1.toNat]? with
     | none => none
     | some v15 =>
     match v11.1[v11.2.1.toNat]? with
     | none => none
     | some v16 =>
     onSome (idx v11.1 v11.2.2.2.1) fun _ =>
     match v11.1[v11.2.2.2.1.toNat]? with
     | none => none
     | some v18 =>
     onSome (idx (v11.1.set v11.2.2.2.1.toNat v16) v11.2.1) fun _ =>
     match (v11.1.set v11.2.2.2.1.toNat v16)[v11.2.1.toNat]? with
     | none => none
     | some v20 =>
     some (v11.2.2.2.1, true, ((v11.1.set v11.2.2.2.1.toNat v16).set v11.2.1.toNat v15), ()))
   | false =>
    onSome (idx v11.1 v11.2.2.2.1) fun _ =>
    onSome (idx v11.1 v11.2.2.1) fun _ =>
    both (
     match v11.1[v11.2.2.2.1.toNat]? with
     | none => none
     | some v23 =>
     match v11.1[v11.2.2.1.toNat]? with
     | none => none
     | some v24 =>
     onSome (idx v11.1 v11.2.2.1) fun _ =>
     match v11.1[v11.2.2.1.toNat]? with
     | none => none
     | some v26 =>
     onSome (idx (v11.1.set v11.2.2.1.toNat v23) v11.2.2.2.1) fun _ =>
     match (v11.1.set v11.2.2.1.toNat v23)[v11.2.2.2.1.toNat]? with
     | none => none
     | some v28 =>
     match loopL b_slices_partitionOrdered_int64_1013 (((v11.1.set v11.2.2.1.toNat v23).set v11.2.2.2.1.toNat v24), v11.2.1, (IntKind.i64.wrap (v11.2.2.1 + (1 : Int))), (IntKind.i64.wrap (v11.2.2.2.1 - (1 : Int))), ()) with
     | none => none
     | some (.inl v29) =>
      onSome (idx v29.1 v29.2.1) fun _ =>
      onSome (idx v29.1 v29.2.2.1) fun _ =>
      both (
       match v29.1[v29.2.1.toNat]? with
       | none => none
       | some v33 =>
       match v29.1[v29.2.2.1.toNat]? with
       | none => none
       | some v34 =>
       onSome (idx v29.1 v29.2.2.1) fun _ =>
       match v29.1[v29.2.2.1.toNat]? with
       | none => none
       | some v36 =>
       onSome (idx (v29.1.set v29.2.2.1.toNat v33) v29.2.1) fun _ =>
       match (v29.1.set v29.2.2.1.toNat v33)[v29.2.1.toNat]? with
       | none => none
       | some v38 =>
       some (v29.2.2.1, false, ((v29.1.set v29.2.2.1.toNat v33).set v29.2.1.toNat v34), ())) (
       match v29.1[v29.2.2.1.toNat]? with
       | none => none
       | some v33 =>
       match v29.1[v29.2.1.toNat]? with
       | none => none
       | some v34 =>
       onSome (idx v29.1 v29.2.2.1) fun _ =>
       match v29.1[v29.2.2.1.toNat]? with
       | none => none
       | some v36 =>
       onSome (idx (v29.1.set v29.2.2.1.toNat v34) v29.2.1) fun _ =>
       match (v29.1.set v29.2.2.1.toNat v34)[v29.2.1.toNat]? with
       | none => none
       | some v38 =>
       some (v29.2.2.1, false, ((v29.1.set v29.2.2.1.toNat v34).set v29.2.1.toNat v33), ()))
     | some (.inr v30) =>
      none) (
     match v11.1[v11.2.2.1.toNat]? with
     | none => none
     | some v23 =>
     match v11.1[v11.2.2.2.1.toNat]? with
     | none => none
     | some v24 =>
     onSome (idx v11.1 v11.2.2.1) fun _ =>
     match v11.1[v11.2.2.1.toNat]? with
     | none => none
     | some v26 =>
     onSome (idx (v11.1.set v11.2.2.1.toNat v24) v11.2.2.2.1) fun _ =>
     match (v11.1.set v11.2.2.1.toNat v24)[v11.2.2.2.1.toNat]? with
     | none => none
     | some v28 =>
     match loopL b_slices_partitionOrdered_int64_1013 (((v11.1.set v11.2.2.1.toNat v24).set v11.2.2.2.1.toNat v23), v11.2.1, (IntKind.i64.wrap (v11.2.2.1 + (1 : Int))), (IntKind.i64.wrap (v11.2.2.2.1 - (1 : Int))), ()) with
     | none => none
     | some (.inl v29) =>
      onSome (idx v29.1 v29.2.1) fun _ =>
      onSome (idx v29.1 v29.2.2.1) fun _ =>
      both (
       match v29.1[v29.2.1.toNat]? with
       | none => none
       | some v33 =>
       match v29.1[v29.2.2.1.toNat]? with
       | none => none
       | some v34 =>
       onSome (idx v29.1 v29.2.2.1) fun _ =>
       match v29.1[v29.2.2.1.toNat]? with
       | none => none
       | some v36 =>
       onSome (idx (v29.1.set v29.2.2.1.toNat v33) v29.2.1) fun _ =>
       match (v29.1.set v29.2.2.1.toNat v33)[v29.2.1.toNat]? with
       | none => none
       | some v38 =>
       some (v29.2.2.1, false, ((v29.1.set v29.2.2.1.toNat v33).set v29.2.1.toNat v34), ())) (
       match v29.1[v29.2.2.1.toNat]? with
       | none => none
       | some v33 =>
       match v29.1[v29.2.1.toNat]? with
       | none => none
       | some v34 =>
       onSome (idx v29.1 v29.2.2.1) fun _ =>
       match v29.1[v29.2.2.1.toNat]? with
       | none => none
       | some v36 =>
       onSome (idx (v29.1.set v29.2.2.1.toNat v34) v29.2.1) fun _ =>
       match (v29.1.set v29.2.2.1.toNat v34)[v29.2.1.toNat]? with
       | none => none
       | some v38 =>
       some (v29.2.2.1, false, ((v29.1.set v29.2.2.1.toNat v34).set v29.2.1.toNat v33), ()))
     | some (.inr v30) =>
      none)
  | some (.inr v39) =>
   none
 | some (.inr v40) =>
  none)
noncomputable def S_slices_partitionOrdered_int64 : Spec := ⟨(.pair (.own 2 (.int .i64)) (.pair (.int .i64) (.pair (.int .i64) (.pair (.int .i64) .unit)))), (.pair (.int .i64) (.pair .bool .unit)), (.pair (.own 2 (.int .i64)) .unit), rfl, slices_partitionOrdered_int64⟩
noncomputable def σ_slices_partitionOrdered_int64 : FuncId → Option Spec := sig [(172, S_cmp_Less_int64)]
theorem σok_slices_partitionOrdered_int64 : ∀ f s, σ_slices_partitionOrdered_int64 f = some s → FnOK Try.prog f s := sig_ok (l := [(172, S_cmp_Less_int64)]) ⟨ok_cmp_Less_int64, trivial⟩
noncomputable def Λ_slices_partitionOrdered_int64 : Nat → Option LSpec := lkp (loopList (bodyOf Try.f174)) [⟨[0, 1, 10, 11], (.pair (.own 2 (.int .i64)) (.pair (.int .i64) (.pair (.int .i64) (.pair (.int .i64) .unit)))), 0, [0, 1, 10, 11], (.pair (.own 2 (.int .i64)) (.pair (.int .i64) (.pair (.int .i64) (.pair (.int .i64) .unit)))), [], .unit, loopL b_slices_partitionOrdered_int64_3⟩, ⟨[0, 1, 10, 11], (.pair (.own 2 (.int .i64)) (.pair (.int .i64) (.pair (.int .i64) (.pair (.int .i64) .unit)))), 2, [0, 1, 10, 11], (.pair (.own 2 (.int .i64)) (.pair (.int .i64) (.pair (.int .i64) (.pair (.int .i64) .unit)))), [], .unit, loopL b_slices_partitionOrdered_int64_5⟩, ⟨[0, 1, 10, 11], (.pair (.own 2 (.int .i64)) (.pair (.int .i64) (.pair (.int .i64) (.pair (.int .i64) .unit)))), 4, [0, 1, 11], (.pair (.own 2 (.int .i64)) (.pair (.int .i64) (.pair (.int .i64) .unit))), [], .unit, loopL b_slices_partitionOrdered_int64_1013⟩, ⟨[0, 1, 10, 11], (.pair (.own 2 (.int .i64)) (.pair (.int .i64) (.pair (.int .i64) (.pair (.int .i64) .unit)))), 6, [0, 1, 10, 11], (.pair (.own 2 (.int .i64)) (.pair (.int .i64) (.pair (.int .i64) (.pair (.int .i64) .unit)))), [], .unit, loopL b_slices_partitionOrdered_int64_13⟩, ⟨[0, 1, 10, 11], (.pair (.own 2 (.int .i64)) (.pair (.int .i64) (.pair (.int .i64) (.pair (.int .i64) .unit)))), 8, [0, 1, 10, 11], (.pair (.own 2 (.int .i64)) (.pair (.int .i64) (.pair (.int .i64) (.pair (.int .i64) .unit)))), [], .unit, loopL b_slices_partitionOrdered_int64_15⟩]
theorem lok_slices_partitionOrdered_int64_3 (x) : codeK Γ0 E0 σ_slices_partitionOrdered_int64 Λ_slices_partitionOrdered_int64 Try.f174.ntmps (nthLoop Try.f174 0) (mkF Try.f174.ntmps [0, 1, 10, 11] (.pair (.own 2 (.int .i64)) (.pair (.int .i64) (.pair (.int .i64) (.pair (.int .i64) .unit)))) x) (readK σ_slices_partitionOrdered_int64 Try.f174.ntmps [0, 1, 10, 11] (.pair (.own 2 (.int .i64)) (.pair (.int .i64) (.pair (.int .i64) (.pair (.int .i64) .unit)))) 0 [0, 1, 10, 11] (.pair (.own 2 (.int .i64)) (.pair (.int .i64) (.pair (.int .i64) (.pair (.int .i64) .unit)))) [] .unit) = b_slices_partitionOrdered_int64_3 x := by kernel_rfl
theorem lok_slices_partitionOrdered_int64_5 (x) : codeK Γ0 E0 σ_slices_partitionOrdered_int64 Λ_slices_partitionOrdered_int64 Try.f174.ntmps (nthLoop Try.f174 1) (mkF Try.f174.ntmps [0, 1, 10, 11] (.pair (.own 2 (.int .i64)) (.pair (.int .i64) (.pair (.int .i64) (.pair (.int .i64) .unit)))) x) (readK σ_slices_partitionOrdered_int64 Try.f174.ntmps [0, 1, 10, 11] (.pair (.own 2 (.int .i64)) (.pair (.int .i64) (.pair (.int .i64) (.pair (.int .i64) .unit)))) 2 [0, 1, 10, 11] (.pair (.own 2 (.int .i64)) (.pair (.int .i64) (.pair (.int .i64) (.pair (.int .i64) .unit)))) [] .unit) = b_slices_partitionOrdered_int64_5 x := by kernel_rfl
theorem lok_slices_partitionOrdered_int64_1013 (x) : codeK Γ0 E0 σ_slices_partitionOrdered_int64 Λ_slices_partitionOrdered_int64 Try.f174.ntmps (nthLoop Try.f174 2) (mkF Try.f174.ntmps [0, 1, 10, 11] (.pair (.own 2 (.int .i64)) (.pair (.int .i64) (.pair (.int .i64) (.pair (.int .i64) .unit)))) x) (readK σ_slices_partitionOrdered_int64 Try.f174.ntmps [0, 1, 10, 11] (.pair (.own 2 (.int .i64)) (.pair (.int .i64) (.pair (.int .i64) (.pair (.int .i64) .unit)))) 4 [0, 1, 11] (.pair (.own 2 (.int .i64)) (.pair (.int .i64) (.pair (.int .i64) .unit))) [] .unit) = b_slices_partitionOrdered_int64_1013 x := by kernel_rfl
theorem lok_slices_partitionOrdered_int64_13 (x) : codeK Γ0 E0 σ_slices_partitionOrdered_int64 Λ_slices_partitionOrdered_int64 Try.f174.ntmps (nthLoop Try.f174 3) (mkF Try.f174.ntmps [0, 1, 10, 11] (.pair (.own 2 (.int .i64)) (.pair (.int .i64) (.pair (.int .i64) (.pair (.int .i64) .unit)))) x) (readK σ_slices_partitionOrdered_int64 Try.f174.ntmps [0, 1, 10, 11] (.pair (.own 2 (.int .i64)) (.pair (.int .i64) (.pair (.int .i64) (.pair (.int .i64) .unit)))) 6 [0, 1, 10, 11] (.pair (.own 2 (.int .i64)) (.pair (.int .i64) (.pair (.int .i64) (.pair (.int .i64) .unit)))) [] .unit) = b_slices_partitionOrdered_int64_13 x := by kernel_rfl
theorem lok_slices_partitionOrdered_int64_15 (x) : codeK Γ0 E0 σ_slices_partitionOrdered_int64 Λ_slices_partitionOrdered_int64 Try.f174.ntmps (nthLoop Try.f174 4) (mkF Try.f174.ntmps [0, 1, 10, 11] (.pair (.own 2 (.int .i64)) (.pair (.int .i64) (.pair (.int .i64) (.pair (.int .i64) .unit)))) x) (readK σ_slices_partitionOrdered_int64 Try.f174.ntmps [0, 1, 10, 11] (.pair (.own 2 (.int .i64)) (.pair (.int .i64) (.pair (.int .i64) (.pair (.int .i64) .unit)))) 8 [0, 1, 10, 11] (.pair (.own 2 (.int .i64)) (.pair (.int .i64) (.pair (.int .i64) (.pair (.int .i64) .unit)))) [] .unit) = b_slices_partitionOrdered_int64_15 x := by kernel_rfl
theorem ok_slices_partitionOrdered_int64 : FnOK Try.prog 174 S_slices_partitionOrdered_int64 := fn_ok (Λ := Λ_slices_partitionOrdered_int64) tab0 σok_slices_partitionOrdered_int64 Try.func174 (by kernel_rfl) (show Try.f174.body = some (bodyOf Try.f174) by kernel_rfl) [⟨[0, 1, 10, 11], (.pair (.own 2 (.int .i64)) (.pair (.int .i64) (.pair (.int .i64) (.pair (.int .i64) .unit)))), 0, [0, 1, 10, 11], (.pair (.own 2 (.int .i64)) (.pair (.int .i64) (.pair (.int .i64) (.pair (.int .i64) .unit)))), [], .unit, loopL b_slices_partitionOrdered_int64_3⟩, ⟨[0, 1, 10, 11], (.pair (.own 2 (.int .i64)) (.pair (.int .i64) (.pair (.int .i64) (.pair (.int .i64) .unit)))), 2, [0, 1, 10, 11], (.pair (.own 2 (.int .i64)) (.pair (.int .i64) (.pair (.int .i64) (.pair (.int .i64) .unit)))), [], .unit, loopL b_slices_partitionOrdered_int64_5⟩, ⟨[0, 1, 10, 11], (.pair (.own 2 (.int .i64)) (.pair (.int .i64) (.pair (.int .i64) (.pair (.int .i64) .unit)))), 4, [0, 1, 11], (.pair (.own 2 (.int .i64)) (.pair (.int .i64) (.pair (.int .i64) .unit))), [], .unit, loopL b_slices_partitionOrdered_int64_1013⟩, ⟨[0, 1, 10, 11], (.pair (.own 2 (.int .i64)) (.pair (.int .i64) (.pair (.int .i64) (.pair (.int .i64) .unit)))), 6, [0, 1, 10, 11], (.pair (.own 2 (.int .i64)) (.pair (.int .i64) (.pair (.int .i64) (.pair (.int .i64) .unit)))), [], .unit, loopL b_slices_partitionOrdered_int64_13⟩, ⟨[0, 1, 10, 11], (.pair (.own 2 (.int .i64)) (.pair (.int .i64) (.pair (.int .i64) (.pair (.int .i64) .unit)))), 8, [0, 1, 10, 11], (.pair (.own 2 (.int .i64)) (.pair (.int .i64) (.pair (.int .i64) (.pair (.int .i64) .unit)))), [], .unit, loopL b_slices_partitionOrdered_int64_15⟩] rfl (by kernel_rfl) (by exact ⟨loop_LOK lok_slices_partitionOrdered_int64_3, loop_LOK lok_slices_partitionOrdered_int64_5, loop_LOK lok_slices_partitionOrdered_int64_1013, loop_LOK lok_slices_partitionOrdered_int64_13, loop_LOK lok_slices_partitionOrdered_int64_15, trivial⟩) (by kernel_rfl)
  fun x y h => (show execFn Γ0 E0 σ_slices_partitionOrdered_int64 Λ_slices_partitionOrdered_int64 Try.f174 S_slices_partitionOrdered_int64 x = slices_partitionOrdered_int64 x by kernel_rfl).trans h

noncomputable def i_floorDivide (x : Ty.T (.pair (.int .i64) (.pair (.int .i64) .unit))) : Option (Ty.T (.pair (.int .i64) .unit)) :=
if x.2.1 = 0 then none else
if x.2.1 = 0 then none else
match (decide ((Int.tmod x.1 x.2.1) < (0 : Int))) with
| true =>
 some ((IntKind.i64.wrap ((IntKind.i64.wrap (Int.tdiv x.1 x.2.1)) - (1 : Int))), ())
| false =>
 some ((IntKind.i64.wrap (Int.tdiv x.1 x.2.1)), ())
noncomputable def S_i_floorDivide : Spec := ⟨(.pair (.int .i64) (.pair (.int .i64) .unit)), (.pair (.int .i64) .unit), .unit, rfl, i_floorDivide⟩
noncomputable def σ_i_floorDivide : FuncId → Option Spec := sig []
theorem σok_i_floorDivide : ∀ f s, σ_i_floorDivide f = some s → FnOK Try.prog f s := sig_ok (l := []) trivial
noncomputable def Λ_i_floorDivide : Nat → Option LSpec := lkp (loopList (bodyOf Try.f145)) []
theorem ok_i_floorDivide : FnOK Try.prog 145 S_i_floorDivide := fn_ok (Λ := Λ_i_floorDivide) tab0 σok_i_floorDivide Try.func145 (by kernel_rfl) (show Try.f145.body = some (bodyOf Try.f145) by kernel_rfl) [] rfl (by kernel_rfl) (by exact trivial) (by kernel_rfl)
  fun x y h => (show execFn Γ0 E0 σ_i_floorDivide Λ_i_floorDivide Try.f145 S_i_floorDivide x = i_floorDivide x by kernel_rfl).trans h

end Go.Proofs.Ytmdflpfagbcaiaa
