import Derived.Test.YthfgmmmeplanbaaGreatDoorGB
namespace Go.Proofs.YthfgmmmeplanbaaGreatDoor
open Go.RowKit
set_option linter.unusedVariables false
noncomputable def aR(x:Ty.T (.pair (.box (.pair (.int .i64) (.pair (.pair (.int .i64) (.pair (.int .i64) (.pair ab (.pair (.own 2 (.int .i64)) .unit)))) .unit))) (.pair (.box ab) (.pair (.int .i64) (.pair (.box (.pair (.int .i64) (.pair (.pair (.int .i64) (.pair (.int .i64) (.pair ab (.pair (.own 2 (.int .i64)) .unit)))) .unit))) (.pair (.int .i64) (.pair (.box (.pair (.int .i64) (.pair (.pair (.int .i64) (.pair (.int .i64) (.pair ab (.pair (.own 2 (.int .i64)) .unit)))) .unit))) (.pair (.box ab) (.pair (.int .i64) .unit))))))))):Option (Unit ⊕ (Ty.T (.pair .bool .unit))):=
match kq (x.2.2.2.2.2.1,x.1,())with
|none=>none
|some v17=>
match(!v17.1)with
|true=>
 some (.inr (false,()))
|false=>
 match gQ (x.2.2.2.2.2.2.1,x.2.1,())with
 |none=>none
 |some v18=>
 match(!v18.1)with
 |true=>
  some (.inr (false,()))
 |false=>
  match(x.2.2.2.2.2.2.2.1 != x.2.2.1)with
  |true=>
   some (.inr (false,()))
  |false=>
   match ka (x.2.2.2.1,(1:Int),())with
   |none=>none
   |some v19=>
   match(decide (v19.1<(0:Int)))with
   |true=>
    some (.inr (false,()))
   |false=>
    match(v19.1 != x.2.2.2.2.1)with
    |true=>
     some (.inr (false,()))
    |false=>
     some (.inr (true,()))
noncomputable def cm(x:Ty.T (.pair (.box ag) (.pair (.box ab) (.pair (.box aH) (.pair (.box (.pair (.int .i64) (.pair (.pair (.int .i64) (.pair (.int .i64) (.pair ab (.pair (.own 2 (.int .i64)) .unit)))) .unit))) (.pair (.box ab) (.pair (.int .i64) (.pair (.box (.pair (.int .i64) (.pair (.own 143 aj) (.pair (.own 145 (.pair (.int .i64) (.pair (.int .i64) (.pair (.own 2 (.int .i64)) .unit)))) (.pair (.own 148 ae) .unit))))) (.pair (.box (.pair (.int .i64) (.pair (.int .i64) (.pair (.own 105 al) (.pair (.own 105 al) .unit))))) (.pair (.box (.pair (.int .i64) (.pair (.pair (.int .i64) (.pair (.int .i64) (.pair ab (.pair (.own 2 (.int .i64)) .unit)))) .unit))) (.pair (.box ab) (.pair (.int .i64) .unit)))))))))))):Option (Unit ⊕ (Ty.T (.pair .bool .unit))):=
match kq (x.2.2.2.2.2.2.2.2.1,x.2.2.2.1,())with
|none=>none
|some v5=>
match(!v5.1)with
|true=>
 some (.inr (false,()))
|false=>
 match gQ (x.2.2.2.2.2.2.2.2.2.1,x.2.2.2.2.1,())with
 |none=>none
 |some v6=>
 match(!v6.1)with
 |true=>
  some (.inr (false,()))
 |false=>
  match(x.2.2.2.2.2.2.2.2.2.2.1 != x.2.2.2.2.2.1)with
  |true=>
   some (.inr (false,()))
  |false=>
   match g6 (x.1,())with
   |none=>none
   |some v7=>
   match x9 (x.2.2.2.2.2.2.1,v7.1,())with
   |none=>none
   |some v8=>
   match(!v8.1)with
   |true=>
    some (.inr (false,()))
   |false=>
    match b9 (x.2.2.1,())with
    |none=>none
    |some v9=>
    match yz (x.2.2.2.2.2.2.2.1,v9.1,())with
    |none=>none
    |some v10=>
    match(!v10.1)with
    |true=>
     some (.inr (false,()))
    |false=>
     match rG (x.2.2.2.2.2.2.1,(1:Int),())with
     |none=>none
     |some v11=>
     match rU (x.2.2.2.2.2.2.2.1,v11.1,())with
     |none=>none
     |some v12=>
     match(decide (v12.1<(0:Int)))with
     |true=>
      some (.inr (false,()))
     |false=>
      match kq (x.2.2.2.2.2.2.2.2.1,x.2.2.2.1,())with
      |none=>none
      |some v13=>
      match(!v13.1)with
      |true=>
       some (.inr (false,()))
      |false=>
       match gQ (x.2.2.2.2.2.2.2.2.2.1,x.2.2.2.2.1,())with
       |none=>none
       |some v14=>
       match(!v14.1)with
       |true=>
        some (.inr (false,()))
       |false=>
        match(x.2.2.2.2.2.2.2.2.2.2.1 != x.2.2.2.2.2.1)with
        |true=>
         some (.inr (false,()))
        |false=>
         match mB (x.2.2.2.2.2.2.2.2.1,(1:Int),())with
         |none=>none
         |some v15=>
         match ka ((x.2.2.2.2.2.2.2.2.1.1,(x.2.2.2.2.2.2.2.2.1.2.1.1,x.2.2.2.2.2.2.2.2.1.2.1.2.1,x.2.2.2.2.2.2.2.2.1.2.1.2.2.1,v15.2.1.2.1.2.2.2.1,()),()),(1:Int),())with
         |none=>none
         |some v16=>
         match(decide (v16.1<(0:Int)))with
         |true=>
          some (.inr (false,()))
         |false=>
          match(v16.1 != v15.1)with
          |true=>
           some (.inr (false,()))
          |false=>
           aU (
            match g6 (x.1,())with
            |none=>none
            |some v20=>
            aU (
             match cq (x.2.1,())with
             |none=>none
             |some v21=>
             aU (
              match b9 (x.2.2.1,())with
              |none=>none
              |some v22=>
              aU (
               match bW (v20.1,v21.1,v22.1,())with
               |none=>none
               |some v23=>
               aL (
                match aR (x.2.2.2.1,x.2.2.2.2.1,x.2.2.2.2.2.1,(x.2.2.2.2.2.2.2.2.1.1,(x.2.2.2.2.2.2.2.2.1.2.1.1,x.2.2.2.2.2.2.2.2.1.2.1.2.1,x.2.2.2.2.2.2.2.2.1.2.1.2.2.1,v15.2.1.2.1.2.2.2.1,()),()),v15.1,v23.1,v23.2.1,v23.2.2.1,())with
                |none=>none
                |some (.inl v25)=>none
                |some (.inr v24)=>
                 some (.inr (v24.1,())))) (
               aL (
                aL (
                 match bW (v20.1,v21.1,v22.1,())with
                 |none=>none
                 |some v23=>
                 match aR (x.2.2.2.1,x.2.2.2.2.1,x.2.2.2.2.2.1,(x.2.2.2.2.2.2.2.2.1.1,(x.2.2.2.2.2.2.2.2.1.2.1.1,x.2.2.2.2.2.2.2.2.1.2.1.2.1,x.2.2.2.2.2.2.2.2.1.2.1.2.2.1,v15.2.1.2.1.2.2.2.1,()),()),v15.1,v23.1,v23.2.1,v23.2.2.1,())with
                 |none=>none
                 |some (.inl v25)=>none
                 |some (.inr v24)=>
                  some (.inr (v24.1,())))))) (
              aL (
               aU (
                match b9 (x.2.2.1,())with
                |none=>none
                |some v22=>
                aL (
                 match bW (v20.1,v21.1,v22.1,())with
                 |none=>none
                 |some v23=>
                 match aR (x.2.2.2.1,x.2.2.2.2.1,x.2.2.2.2.2.1,(x.2.2.2.2.2.2.2.2.1.1,(x.2.2.2.2.2.2.2.2.1.2.1.1,x.2.2.2.2.2.2.2.2.1.2.1.2.1,x.2.2.2.2.2.2.2.2.1.2.1.2.2.1,v15.2.1.2.1.2.2.2.1,()),()),v15.1,v23.1,v23.2.1,v23.2.2.1,())with
                 |none=>none
                 |some (.inl v25)=>none
                 |some (.inr v24)=>
                  some (.inr (v24.1,())))) (
                match b9 (x.2.2.1,())with
                |none=>none
                |some v22=>
                match bW (v20.1,v21.1,v22.1,())with
                |none=>none
                |some v23=>
                match aR (x.2.2.2.1,x.2.2.2.2.1,x.2.2.2.2.2.1,(x.2.2.2.2.2.2.2.2.1.1,(x.2.2.2.2.2.2.2.2.1.2.1.1,x.2.2.2.2.2.2.2.2.1.2.1.2.1,x.2.2.2.2.2.2.2.2.1.2.1.2.2.1,v15.2.1.2.1.2.2.2.1,()),()),v15.1,v23.1,v23.2.1,v23.2.2.1,())with
                |none=>none
                |some (.inl v25)=>none
                |some (.inr v24)=>
                 some (.inr (v24.1,())))))) (
             aL (
              aU (
               match cq (x.2.1,())with
               |none=>none
               |some v21=>
               aU (
                match b9 (x.2.2.1,())with
                |none=>none
                |some v22=>
                aL (
                 match bW (v20.1,v21.1,v22.1,())with
                 |none=>none
                 |some v23=>
                 match aR (x.2.2.2.1,x.2.2.2.2.1,x.2.2.2.2.2.1,(x.2.2.2.2.2.2.2.2.1.1,(x.2.2.2.2.2.2.2.2.1.2.1.1,x.2.2.2.2.2.2.2.2.1.2.1.2.1,x.2.2.2.2.2.2.2.2.1.2.1.2.2.1,v15.2.1.2.1.2.2.2.1,()),()),v15.1,v23.1,v23.2.1,v23.2.2.1,())with
                 |none=>none
                 |some (.inl v25)=>none
                 |some (.inr v24)=>
                  some (.inr (v24.1,())))) (
                match b9 (x.2.2.1,())with
                |none=>none
                |some v22=>
                match bW (v20.1,v21.1,v22.1,())with
                |none=>none
                |some v23=>
                match aR (x.2.2.2.1,x.2.2.2.2.1,x.2.2.2.2.2.1,(x.2.2.2.2.2.2.2.2.1.1,(x.2.2.2.2.2.2.2.2.1.2.1.1,x.2.2.2.2.2.2.2.2.1.2.1.2.1,x.2.2.2.2.2.2.2.2.1.2.1.2.2.1,v15.2.1.2.1.2.2.2.1,()),()),v15.1,v23.1,v23.2.1,v23.2.2.1,())with
                |none=>none
                |some (.inl v25)=>none
                |some (.inr v24)=>
                 some (.inr (v24.1,())))) (
               match cq (x.2.1,())with
               |none=>none
               |some v21=>
               match b9 (x.2.2.1,())with
               |none=>none
               |some v22=>
               match bW (v20.1,v21.1,v22.1,())with
               |none=>none
               |some v23=>
               match aR (x.2.2.2.1,x.2.2.2.2.1,x.2.2.2.2.2.1,(x.2.2.2.2.2.2.2.2.1.1,(x.2.2.2.2.2.2.2.2.1.2.1.1,x.2.2.2.2.2.2.2.2.1.2.1.2.1,x.2.2.2.2.2.2.2.2.1.2.1.2.2.1,v15.2.1.2.1.2.2.2.1,()),()),v15.1,v23.1,v23.2.1,v23.2.2.1,())with
               |none=>none
               |some (.inl v25)=>none
               |some (.inr v24)=>
                some (.inr (v24.1,())))))) (
            aL (
             aU (
              match g6 (x.1,())with
              |none=>none
              |some v20=>
              aU (
               match cq (x.2.1,())with
               |none=>none
               |some v21=>
               aU (
                match b9 (x.2.2.1,())with
                |none=>none
                |some v22=>
                aL (
                 match bW (v20.1,v21.1,v22.1,())with
                 |none=>none
                 |some v23=>
                 match aR (x.2.2.2.1,x.2.2.2.2.1,x.2.2.2.2.2.1,(x.2.2.2.2.2.2.2.2.1.1,(x.2.2.2.2.2.2.2.2.1.2.1.1,x.2.2.2.2.2.2.2.2.1.2.1.2.1,x.2.2.2.2.2.2.2.2.1.2.1.2.2.1,v15.2.1.2.1.2.2.2.1,()),()),v15.1,v23.1,v23.2.1,v23.2.2.1,())with
                 |none=>none
                 |some (.inl v25)=>none
                 |some (.inr v24)=>
                  some (.inr (v24.1,())))) (
                match b9 (x.2.2.1,())with
                |none=>none
                |some v22=>
                match bW (v20.1,v21.1,v22.1,())with
                |none=>none
                |some v23=>
                match aR (x.2.2.2.1,x.2.2.2.2.1,x.2.2.2.2.2.1,(x.2.2.2.2.2.2.2.2.1.1,(x.2.2.2.2.2.2.2.2.1.2.1.1,x.2.2.2.2.2.2.2.2.1.2.1.2.1,x.2.2.2.2.2.2.2.2.1.2.1.2.2.1,v15.2.1.2.1.2.2.2.1,()),()),v15.1,v23.1,v23.2.1,v23.2.2.1,())with
                |none=>none
                |some (.inl v25)=>none
                |some (.inr v24)=>
                 some (.inr (v24.1,())))) (
               match cq (x.2.1,())with
               |none=>none
               |some v21=>
               match b9 (x.2.2.1,())with
               |none=>none
               |some v22=>
               match bW (v20.1,v21.1,v22.1,())with
               |none=>none
               |some v23=>
               match aR (x.2.2.2.1,x.2.2.2.2.1,x.2.2.2.2.2.1,(x.2.2.2.2.2.2.2.2.1.1,(x.2.2.2.2.2.2.2.2.1.2.1.1,x.2.2.2.2.2.2.2.2.1.2.1.2.1,x.2.2.2.2.2.2.2.2.1.2.1.2.2.1,v15.2.1.2.1.2.2.2.1,()),()),v15.1,v23.1,v23.2.1,v23.2.2.1,())with
               |none=>none
               |some (.inl v25)=>none
               |some (.inr v24)=>
                some (.inr (v24.1,())))) (
              match g6 (x.1,())with
              |none=>none
              |some v20=>
              match cq (x.2.1,())with
              |none=>none
              |some v21=>
              match b9 (x.2.2.1,())with
              |none=>none
              |some v22=>
              match bW (v20.1,v21.1,v22.1,())with
              |none=>none
              |some v23=>
              match aR (x.2.2.2.1,x.2.2.2.2.1,x.2.2.2.2.2.1,(x.2.2.2.2.2.2.2.2.1.1,(x.2.2.2.2.2.2.2.2.1.2.1.1,x.2.2.2.2.2.2.2.2.1.2.1.2.1,x.2.2.2.2.2.2.2.2.1.2.1.2.2.1,v15.2.1.2.1.2.2.2.1,()),()),v15.1,v23.1,v23.2.1,v23.2.2.1,())with
              |none=>none
              |some (.inl v25)=>none
              |some (.inr v24)=>
               some (.inr (v24.1,())))))
noncomputable def aV(x:Ty.T (.pair (.box ag) (.pair (.box ab) (.pair (.box aH) (.pair (.box (.pair (.int .i64) (.pair (.pair (.int .i64) (.pair (.int .i64) (.pair ab (.pair (.own 2 (.int .i64)) .unit)))) .unit))) (.pair (.box ab) (.pair (.int .i64) .unit))))))):Option (Unit ⊕ (Ty.T (.pair .bool .unit))):=
match g6 (x.1,())with
|none=>none
|some v3=>
match b9 (x.2.2.1,())with
|none=>none
|some v4=>
aU (
 match cq (x.2.1,())with
 |none=>none
 |some v26=>
 aU (
  match bW (v3.1,v26.1,v4.1,())with
  |none=>none
  |some v27=>
  aL (
   match cm (x.1,x.2.1,x.2.2.1,x.2.2.2.1,x.2.2.2.2.1,x.2.2.2.2.2.1,v3.1,v4.1,v27.1,v27.2.1,v27.2.2.1,())with
   |none=>none
   |some (.inl v29)=>none
   |some (.inr v28)=>
    some (.inr (v28.1,())))) (
  aL (
   aL (
    match bW (v3.1,v26.1,v4.1,())with
    |none=>none
    |some v27=>
    match cm (x.1,x.2.1,x.2.2.1,x.2.2.2.1,x.2.2.2.2.1,x.2.2.2.2.2.1,v3.1,v4.1,v27.1,v27.2.1,v27.2.2.1,())with
    |none=>none
    |some (.inl v29)=>none
    |some (.inr v28)=>
     some (.inr (v28.1,())))))) (
 aL (
  aU (
   match cq (x.2.1,())with
   |none=>none
   |some v26=>
   aL (
    match bW (v3.1,v26.1,v4.1,())with
    |none=>none
    |some v27=>
    match cm (x.1,x.2.1,x.2.2.1,x.2.2.2.1,x.2.2.2.2.1,x.2.2.2.2.2.1,v3.1,v4.1,v27.1,v27.2.1,v27.2.2.1,())with
    |none=>none
    |some (.inl v29)=>none
    |some (.inr v28)=>
     some (.inr (v28.1,())))) (
   match cq (x.2.1,())with
   |none=>none
   |some v26=>
   match bW (v3.1,v26.1,v4.1,())with
   |none=>none
   |some v27=>
   match cm (x.1,x.2.1,x.2.2.1,x.2.2.2.1,x.2.2.2.2.1,x.2.2.2.2.2.1,v3.1,v4.1,v27.1,v27.2.1,v27.2.2.1,())with
   |none=>none
   |some (.inl v29)=>none
   |some (.inr v28)=>
    some (.inr (v28.1,())))))
noncomputable def fy(x:Ty.T (.pair ag (.pair ab (.pair aH .unit)))):Option (Ty.T (.pair .bool .unit)):=
match o7 (x.1,(1048576:Int),())with
|none=>none
|some v1=>
match(decide (v1.1<(0:Int)))with
|true=>
 some (true,())
|false=>
 match o9 (x.2.2.1,v1.1,())with
 |none=>none
 |some v2=>
 match(decide (v2.1<(0:Int)))with
 |true=>
  some (true,())
 |false=>
  aU (
   match g6 (x.1,())with
   |none=>none
   |some v30=>
   aU (
    match cq (x.2.1,())with
    |none=>none
    |some v31=>
    aU (
     match b9 (x.2.2.1,())with
     |none=>none
     |some v32=>
     aU (
      match dq (v30.1,v31.1,v32.1,())with
      |none=>none
      |some v33=>
      aL (
       match aV (x.1,x.2.1,x.2.2.1,v33.1,v33.2.1,v33.2.2.1,())with
       |none=>none
       |some (.inl v35)=>none
       |some (.inr v34)=>
        some (v34.1,()))) (
      aL (
       aL (
        match dq (v30.1,v31.1,v32.1,())with
        |none=>none
        |some v33=>
        match aV (x.1,x.2.1,x.2.2.1,v33.1,v33.2.1,v33.2.2.1,())with
        |none=>none
        |some (.inl v35)=>none
        |some (.inr v34)=>
         some (v34.1,()))))) (
     aL (
      aU (
       match b9 (x.2.2.1,())with
       |none=>none
       |some v32=>
       aL (
        match dq (v30.1,v31.1,v32.1,())with
        |none=>none
        |some v33=>
        match aV (x.1,x.2.1,x.2.2.1,v33.1,v33.2.1,v33.2.2.1,())with
        |none=>none
        |some (.inl v35)=>none
        |some (.inr v34)=>
         some (v34.1,()))) (
       match b9 (x.2.2.1,())with
       |none=>none
       |some v32=>
       match dq (v30.1,v31.1,v32.1,())with
       |none=>none
       |some v33=>
       match aV (x.1,x.2.1,x.2.2.1,v33.1,v33.2.1,v33.2.2.1,())with
       |none=>none
       |some (.inl v35)=>none
       |some (.inr v34)=>
        some (v34.1,()))))) (
    aL (
     aU (
      match cq (x.2.1,())with
      |none=>none
      |some v31=>
      aU (
       match b9 (x.2.2.1,())with
       |none=>none
       |some v32=>
       aL (
        match dq (v30.1,v31.1,v32.1,())with
        |none=>none
        |some v33=>
        match aV (x.1,x.2.1,x.2.2.1,v33.1,v33.2.1,v33.2.2.1,())with
        |none=>none
        |some (.inl v35)=>none
        |some (.inr v34)=>
         some (v34.1,()))) (
       match b9 (x.2.2.1,())with
       |none=>none
       |some v32=>
       match dq (v30.1,v31.1,v32.1,())with
       |none=>none
       |some v33=>
       match aV (x.1,x.2.1,x.2.2.1,v33.1,v33.2.1,v33.2.2.1,())with
       |none=>none
       |some (.inl v35)=>none
       |some (.inr v34)=>
        some (v34.1,()))) (
      match cq (x.2.1,())with
      |none=>none
      |some v31=>
      match b9 (x.2.2.1,())with
      |none=>none
      |some v32=>
      match dq (v30.1,v31.1,v32.1,())with
      |none=>none
      |some v33=>
      match aV (x.1,x.2.1,x.2.2.1,v33.1,v33.2.1,v33.2.2.1,())with
      |none=>none
      |some (.inl v35)=>none
      |some (.inr v34)=>
       some (v34.1,()))))) (
   aL (
    aU (
     match g6 (x.1,())with
     |none=>none
     |some v30=>
     aU (
      match cq (x.2.1,())with
      |none=>none
      |some v31=>
      aU (
       match b9 (x.2.2.1,())with
       |none=>none
       |some v32=>
       aL (
        match dq (v30.1,v31.1,v32.1,())with
        |none=>none
        |some v33=>
        match aV (x.1,x.2.1,x.2.2.1,v33.1,v33.2.1,v33.2.2.1,())with
        |none=>none
        |some (.inl v35)=>none
        |some (.inr v34)=>
         some (v34.1,()))) (
       match b9 (x.2.2.1,())with
       |none=>none
       |some v32=>
       match dq (v30.1,v31.1,v32.1,())with
       |none=>none
       |some v33=>
       match aV (x.1,x.2.1,x.2.2.1,v33.1,v33.2.1,v33.2.2.1,())with
       |none=>none
       |some (.inl v35)=>none
       |some (.inr v34)=>
        some (v34.1,()))) (
      match cq (x.2.1,())with
      |none=>none
      |some v31=>
      match b9 (x.2.2.1,())with
      |none=>none
      |some v32=>
      match dq (v30.1,v31.1,v32.1,())with
      |none=>none
      |some v33=>
      match aV (x.1,x.2.1,x.2.2.1,v33.1,v33.2.1,v33.2.2.1,())with
      |none=>none
      |some (.inl v35)=>none
      |some (.inr v34)=>
       some (v34.1,()))) (
     match g6 (x.1,())with
     |none=>none
     |some v30=>
     match cq (x.2.1,())with
     |none=>none
     |some v31=>
     match b9 (x.2.2.1,())with
     |none=>none
     |some v32=>
     match dq (v30.1,v31.1,v32.1,())with
     |none=>none
     |some v33=>
     match aV (x.1,x.2.1,x.2.2.1,v33.1,v33.2.1,v33.2.2.1,())with
     |none=>none
     |some (.inl v35)=>none
     |some (.inr v34)=>
      some (v34.1,()))))
noncomputable def oW:Spec:=⟨_,(.pair .bool .unit),.unit,rfl,fy⟩
noncomputable def cy:FuncId→Option Spec:=a8 [(8,He),(12,Hm),(13,Ef),(17,y3),(18,Hu),(21,Bm),(24,uy),(25,uC),(31,Hx),(32,Cb),(33,Ia),(34,CI),(35,Eg),(36,I4),(37,CK)]
theorem vM:∀f s,cy f=some s→FnOK G0 Tryz.prog f s:=au ⟨PR,PS,NT,JW,PU,LY,Fr,Fs,PV,Mp,Ql,MP,Bd,QE,MS,trivial⟩
noncomputable def mq:List (Nat×ar):=[(9,⟨[3,4,5,8,9,10],(.pair (.box ag) (.pair (.box ab) (.pair (.box aH) (.pair (.box (.pair (.int .i64) (.pair (.pair (.int .i64) (.pair (.int .i64) (.pair ab (.pair (.own 2 (.int .i64)) .unit)))) .unit))) (.pair (.box ab) (.pair (.int .i64) .unit)))))),1000009,[],.unit,[6],(.pair .bool .unit),aV⟩),(12,⟨[3,4,5,8,9,10,11,12,13,14,15],(.pair (.box ag) (.pair (.box ab) (.pair (.box aH) (.pair (.box (.pair (.int .i64) (.pair (.pair (.int .i64) (.pair (.int .i64) (.pair ab (.pair (.own 2 (.int .i64)) .unit)))) .unit))) (.pair (.box ab) (.pair (.int .i64) (.pair (.box (.pair (.int .i64) (.pair (.own 143 aj) (.pair (.own 145 (.pair (.int .i64) (.pair (.int .i64) (.pair (.own 2 (.int .i64)) .unit)))) (.pair (.own 148 ae) .unit))))) (.pair (.box (.pair (.int .i64) (.pair (.int .i64) (.pair (.own 105 al) (.pair (.own 105 al) .unit))))) (.pair (.box (.pair (.int .i64) (.pair (.pair (.int .i64) (.pair (.int .i64) (.pair ab (.pair (.own 2 (.int .i64)) .unit)))) .unit))) (.pair (.box ab) (.pair (.int .i64) .unit))))))))))),1000012,[],.unit,[6],(.pair .bool .unit),cm⟩),(32,⟨[8,9,10,13,17,19,20,21],(.pair (.box (.pair (.int .i64) (.pair (.pair (.int .i64) (.pair (.int .i64) (.pair ab (.pair (.own 2 (.int .i64)) .unit)))) .unit))) (.pair (.box ab) (.pair (.int .i64) (.pair (.box (.pair (.int .i64) (.pair (.pair (.int .i64) (.pair (.int .i64) (.pair ab (.pair (.own 2 (.int .i64)) .unit)))) .unit))) (.pair (.int .i64) (.pair (.box (.pair (.int .i64) (.pair (.pair (.int .i64) (.pair (.int .i64) (.pair ab (.pair (.own 2 (.int .i64)) .unit)))) .unit))) (.pair (.box ab) (.pair (.int .i64) .unit)))))))),1000032,[],.unit,[6],(.pair .bool .unit),aR⟩)]
noncomputable def fg:Nat→Option ar:=JR (bF (eK Tryz.f5)) [] mq
theorem uk(x):dl aS E0 cy fg Tryz.f5.ntmps (A6 Tryz.f5 10) (dA Tryz.f5.ntmps [3,4,5,8,9,10] (.pair (.box ag) (.pair (.box ab) (.pair (.box aH) (.pair (.box (.pair (.int .i64) (.pair (.pair (.int .i64) (.pair (.int .i64) (.pair ab (.pair (.own 2 (.int .i64)) .unit)))) .unit))) (.pair (.box ab) (.pair (.int .i64) .unit)))))) x) (pr cy Tryz.f5.ntmps 1000009 [] .unit [6] (.pair .bool .unit))=aV x:=by kernel_rfl
theorem tR(x):dl aS E0 cy fg Tryz.f5.ntmps (A6 Tryz.f5 13) (dA Tryz.f5.ntmps [3,4,5,8,9,10,11,12,13,14,15] (.pair (.box ag) (.pair (.box ab) (.pair (.box aH) (.pair (.box (.pair (.int .i64) (.pair (.pair (.int .i64) (.pair (.int .i64) (.pair ab (.pair (.own 2 (.int .i64)) .unit)))) .unit))) (.pair (.box ab) (.pair (.int .i64) (.pair (.box (.pair (.int .i64) (.pair (.own 143 aj) (.pair (.own 145 (.pair (.int .i64) (.pair (.int .i64) (.pair (.own 2 (.int .i64)) .unit)))) (.pair (.own 148 ae) .unit))))) (.pair (.box (.pair (.int .i64) (.pair (.int .i64) (.pair (.own 105 al) (.pair (.own 105 al) .unit))))) (.pair (.box (.pair (.int .i64) (.pair (.pair (.int .i64) (.pair (.int .i64) (.pair ab (.pair (.own 2 (.int .i64)) .unit)))) .unit))) (.pair (.box ab) (.pair (.int .i64) .unit))))))))))) x) (pr cy Tryz.f5.ntmps 1000012 [] .unit [6] (.pair .bool .unit))=cm x:=by kernel_rfl
theorem tS(x):dl aS E0 cy fg Tryz.f5.ntmps (A6 Tryz.f5 39) (dA Tryz.f5.ntmps [8,9,10,13,17,19,20,21] (.pair (.box (.pair (.int .i64) (.pair (.pair (.int .i64) (.pair (.int .i64) (.pair ab (.pair (.own 2 (.int .i64)) .unit)))) .unit))) (.pair (.box ab) (.pair (.int .i64) (.pair (.box (.pair (.int .i64) (.pair (.pair (.int .i64) (.pair (.int .i64) (.pair ab (.pair (.own 2 (.int .i64)) .unit)))) .unit))) (.pair (.int .i64) (.pair (.box (.pair (.int .i64) (.pair (.pair (.int .i64) (.pair (.int .i64) (.pair ab (.pair (.own 2 (.int .i64)) .unit)))) .unit))) (.pair (.box ab) (.pair (.int .i64) .unit)))))))) x) (pr cy Tryz.f5.ntmps 1000032 [] .unit [6] (.pair .bool .unit))=aR x:=by kernel_rfl
theorem yA:FnOK G0 Tryz.prog 5 oW:=TF (Λ:=fg) ah vM Tryz.func5 (by kernel_rfl) (show Tryz.f5.body=some (eK Tryz.f5) by kernel_rfl) [] mq rfl (by kernel_rfl) (by exact trivial) (by exact⟨trivial,trivial,trivial,trivial,trivial,trivial,trivial,trivial,trivial,trivial,vY uk,trivial,trivial,vY tR,trivial,trivial,trivial,trivial,trivial,trivial,trivial,trivial,trivial,trivial,trivial,trivial,trivial,trivial,trivial,trivial,trivial,trivial,trivial,trivial,trivial,trivial,trivial,trivial,trivial,vY tS,trivial,trivial,trivial,trivial,trivial,trivial,trivial,trivial,trivial,trivial,trivial,trivial,trivial⟩) (by kernel_rfl)
 fun x y h=>(show pF aS E0 cy fg Tryz.f5 oW x=fy x by kernel_rfl).trans h
end Go.Proofs.YthfgmmmeplanbaaGreatDoor
