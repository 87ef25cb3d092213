import Derived.Test.YtckljdhdadiphaaGreatDoorGB
namespace Go.Proofs.YtckljdhdadiphaaGreatDoor
open Go.RowKit
set_option linter.unusedVariables false
noncomputable def td(x:Ty.T kh):Option (Ty.T PH):=
match((x.1.length:Int)==(0:Int))with
|true=>
 some (((0:Int),(0:Int),((0:Int),(0:Int),(0:Int),(0:Int),(0:Int),()),[],()),false,())
|false=>
 ab (au x.1 (0:Int)) fun v1=>
 ab (au x.1 (0:Int)) fun v2=>
 ai (
  ab (aK x.1.length (some (.dat (.int .i64) (1:Int))) none) fun v3=>
  match cU ((IntKind.i64.wrap (Int.tdiv v1 (64:Int))),())with
  |none=>none
  |some v4=>
  match v4.1 with
  |true=>
   match(decide (((List.drop v3.1 (List.take v3.2 x.1)).length:Int)<(8:Int)))with
   |true=>
    some (((0:Int),(0:Int),((0:Int),(0:Int),(0:Int),(0:Int),(0:Int),()),[],()),false,())
   |false=>
    ab (aK (List.drop v3.1 (List.take v3.2 x.1)).length none (some (.dat (.int .i64) (8:Int)))) fun v5=>
    match jL ((List.drop v5.1 (List.take v5.2 (List.drop v3.1 (List.take v3.2 x.1)))),())with
    |none=>none
    |some v6=>
    match tc (v6.1,())with
    |none=>none
    |some v7=>
    ab (aK (List.drop v3.1 (List.take v3.2 x.1)).length (some (.dat (.int .i64) (8:Int))) none) fun v8=>
    match eP ((IntKind.i64.wrap (Int.tdiv v1 (64:Int))),())with
    |none=>none
    |some v9=>
    match v9.1 with
    |true=>
     match(((List.drop v8.1 (List.take v8.2 (List.drop v3.1 (List.take v3.2 x.1)))).length:Int)==(0:Int))with
     |true=>
      some (((0:Int),(0:Int),((0:Int),(0:Int),(0:Int),(0:Int),(0:Int),()),[],()),false,())
     |false=>
      ab (aK (List.drop v8.1 (List.take v8.2 (List.drop v3.1 (List.take v3.2 x.1)))).length (some (.dat (.int .i64) (1:Int))) none) fun v10=>
      match uB ((List.drop v10.1 (List.take v10.2 (List.drop v8.1 (List.take v8.2 (List.drop v3.1 (List.take v3.2 x.1)))))),())with
      |none=>none
      |some v11=>
      ag (
       match cD (((IntKind.i64.wrap (Int.tdiv v1 (64:Int))),(Int.tmod (IntKind.i64.wrap (Int.tdiv v2 (8:Int))) (8:Int)),(v7.1.1,v7.1.2.1,v7.1.2.2.1,v7.1.2.2.2.1,v7.1.2.2.2.2.1,()),v11.1,()),())with
       |none=>none
       |some v12=>
       match v12.1 with
       |true=>
        match bG (((IntKind.i64.wrap (Int.tdiv v1 (64:Int))),(Int.tmod (IntKind.i64.wrap (Int.tdiv v2 (8:Int))) (8:Int)),(v7.1.1,v7.1.2.1,v7.1.2.2.1,v7.1.2.2.2.1,v7.1.2.2.2.2.1,()),v11.1,()),())with
        |none=>none
        |some v13=>
        match bX (v13.1,x.1,())with
        |none=>none
        |some v14=>
        some (((IntKind.i64.wrap (Int.tdiv v1 (64:Int))),(Int.tmod (IntKind.i64.wrap (Int.tdiv v2 (8:Int))) (8:Int)),(v7.1.1,v7.1.2.1,v7.1.2.2.1,v7.1.2.2.2.1,v7.1.2.2.2.2.1,()),v11.1,()),v14.1,())
       |false=>
        some (((IntKind.i64.wrap (Int.tdiv v1 (64:Int))),(Int.tmod (IntKind.i64.wrap (Int.tdiv v2 (8:Int))) (8:Int)),(v7.1.1,v7.1.2.1,v7.1.2.2.1,v7.1.2.2.2.1,v7.1.2.2.2.2.1,()),v11.1,()),false,())) (
       ag (
        match cD (((IntKind.i64.wrap (Int.tdiv v1 (64:Int))),(Int.tmod (IntKind.i64.wrap (Int.tdiv v2 (8:Int))) (8:Int)),(v7.1.1,v7.1.2.1,v7.1.2.2.1,v7.1.2.2.2.1,v7.1.2.2.2.2.1,()),v11.1,()),())with
        |none=>none
        |some v12=>
        match v12.1 with
        |true=>
         match bG (((IntKind.i64.wrap (Int.tdiv v1 (64:Int))),(Int.tmod (IntKind.i64.wrap (Int.tdiv v2 (8:Int))) (8:Int)),(v7.1.1,v7.1.2.1,v7.1.2.2.1,v7.1.2.2.2.1,v7.1.2.2.2.2.1,()),v11.1,()),())with
         |none=>none
         |some v13=>
         match bX (v13.1,x.1,())with
         |none=>none
         |some v14=>
         some (((IntKind.i64.wrap (Int.tdiv v1 (64:Int))),(Int.tmod (IntKind.i64.wrap (Int.tdiv v2 (8:Int))) (8:Int)),(v7.1.1,v7.1.2.1,v7.1.2.2.1,v7.1.2.2.2.1,v7.1.2.2.2.2.1,()),v11.1,()),v14.1,())
        |false=>
         some (((IntKind.i64.wrap (Int.tdiv v1 (64:Int))),(Int.tmod (IntKind.i64.wrap (Int.tdiv v2 (8:Int))) (8:Int)),(v7.1.1,v7.1.2.1,v7.1.2.2.1,v7.1.2.2.2.1,v7.1.2.2.2.2.1,()),v11.1,()),false,())) (
        match cD (((IntKind.i64.wrap (Int.tdiv v1 (64:Int))),(Int.tmod (IntKind.i64.wrap (Int.tdiv v2 (8:Int))) (8:Int)),(v7.1.1,v7.1.2.1,v7.1.2.2.1,v7.1.2.2.2.1,v7.1.2.2.2.2.1,()),v11.1,()),())with
        |none=>none
        |some v12=>
        match v12.1 with
        |true=>
         ag (
          match bG (((IntKind.i64.wrap (Int.tdiv v1 (64:Int))),(Int.tmod (IntKind.i64.wrap (Int.tdiv v2 (8:Int))) (8:Int)),(v7.1.1,v7.1.2.1,v7.1.2.2.1,v7.1.2.2.2.1,v7.1.2.2.2.2.1,()),v11.1,()),())with
          |none=>none
          |some v13=>
          match bX (v13.1,x.1,())with
          |none=>none
          |some v14=>
          some (((IntKind.i64.wrap (Int.tdiv v1 (64:Int))),(Int.tmod (IntKind.i64.wrap (Int.tdiv v2 (8:Int))) (8:Int)),(v7.1.1,v7.1.2.1,v7.1.2.2.1,v7.1.2.2.2.1,v7.1.2.2.2.2.1,()),v11.1,()),v14.1,())) (
          ag (
           match bG (((IntKind.i64.wrap (Int.tdiv v1 (64:Int))),(Int.tmod (IntKind.i64.wrap (Int.tdiv v2 (8:Int))) (8:Int)),(v7.1.1,v7.1.2.1,v7.1.2.2.1,v7.1.2.2.2.1,v7.1.2.2.2.2.1,()),v11.1,()),())with
           |none=>none
           |some v13=>
           match bX (v13.1,x.1,())with
           |none=>none
           |some v14=>
           some (((IntKind.i64.wrap (Int.tdiv v1 (64:Int))),(Int.tmod (IntKind.i64.wrap (Int.tdiv v2 (8:Int))) (8:Int)),(v7.1.1,v7.1.2.1,v7.1.2.2.1,v7.1.2.2.2.1,v7.1.2.2.2.2.1,()),v11.1,()),v14.1,())) (
           match bG (((IntKind.i64.wrap (Int.tdiv v1 (64:Int))),(Int.tmod (IntKind.i64.wrap (Int.tdiv v2 (8:Int))) (8:Int)),(v7.1.1,v7.1.2.1,v7.1.2.2.1,v7.1.2.2.2.1,v7.1.2.2.2.2.1,()),v11.1,()),())with
           |none=>none
           |some v13=>
           ai (
            match bX (v13.1,x.1,())with
            |none=>none
            |some v14=>
            some (((IntKind.i64.wrap (Int.tdiv v1 (64:Int))),(Int.tmod (IntKind.i64.wrap (Int.tdiv v2 (8:Int))) (8:Int)),(v7.1.1,v7.1.2.1,v7.1.2.2.1,v7.1.2.2.2.1,v7.1.2.2.2.2.1,()),v11.1,()),v14.1,()))))
        |false=>
         ag (
          some (((IntKind.i64.wrap (Int.tdiv v1 (64:Int))),(Int.tmod (IntKind.i64.wrap (Int.tdiv v2 (8:Int))) (8:Int)),(v7.1.1,v7.1.2.1,v7.1.2.2.1,v7.1.2.2.2.1,v7.1.2.2.2.2.1,()),v11.1,()),false,())) (
          ag (
           some (((IntKind.i64.wrap (Int.tdiv v1 (64:Int))),(Int.tmod (IntKind.i64.wrap (Int.tdiv v2 (8:Int))) (8:Int)),(v7.1.1,v7.1.2.1,v7.1.2.2.1,v7.1.2.2.2.1,v7.1.2.2.2.2.1,()),v11.1,()),false,())) (
           ai (
            some (((IntKind.i64.wrap (Int.tdiv v1 (64:Int))),(Int.tmod (IntKind.i64.wrap (Int.tdiv v2 (8:Int))) (8:Int)),(v7.1.1,v7.1.2.1,v7.1.2.2.1,v7.1.2.2.2.1,v7.1.2.2.2.2.1,()),v11.1,()),false,()))))))
    |false=>
     ag (
      match cD (((IntKind.i64.wrap (Int.tdiv v1 (64:Int))),(Int.tmod (IntKind.i64.wrap (Int.tdiv v2 (8:Int))) (8:Int)),(v7.1.1,v7.1.2.1,v7.1.2.2.1,v7.1.2.2.2.1,v7.1.2.2.2.2.1,()),[],()),())with
      |none=>none
      |some v15=>
      match v15.1 with
      |true=>
       match bG (((IntKind.i64.wrap (Int.tdiv v1 (64:Int))),(Int.tmod (IntKind.i64.wrap (Int.tdiv v2 (8:Int))) (8:Int)),(v7.1.1,v7.1.2.1,v7.1.2.2.1,v7.1.2.2.2.1,v7.1.2.2.2.2.1,()),[],()),())with
       |none=>none
       |some v16=>
       match bX (v16.1,x.1,())with
       |none=>none
       |some v17=>
       some (((IntKind.i64.wrap (Int.tdiv v1 (64:Int))),(Int.tmod (IntKind.i64.wrap (Int.tdiv v2 (8:Int))) (8:Int)),(v7.1.1,v7.1.2.1,v7.1.2.2.1,v7.1.2.2.2.1,v7.1.2.2.2.2.1,()),[],()),v17.1,())
      |false=>
       some (((IntKind.i64.wrap (Int.tdiv v1 (64:Int))),(Int.tmod (IntKind.i64.wrap (Int.tdiv v2 (8:Int))) (8:Int)),(v7.1.1,v7.1.2.1,v7.1.2.2.1,v7.1.2.2.2.1,v7.1.2.2.2.2.1,()),[],()),false,())) (
      ag (
       match cD (((IntKind.i64.wrap (Int.tdiv v1 (64:Int))),(Int.tmod (IntKind.i64.wrap (Int.tdiv v2 (8:Int))) (8:Int)),(v7.1.1,v7.1.2.1,v7.1.2.2.1,v7.1.2.2.2.1,v7.1.2.2.2.2.1,()),[],()),())with
       |none=>none
       |some v15=>
       match v15.1 with
       |true=>
        match bG (((IntKind.i64.wrap (Int.tdiv v1 (64:Int))),(Int.tmod (IntKind.i64.wrap (Int.tdiv v2 (8:Int))) (8:Int)),(v7.1.1,v7.1.2.1,v7.1.2.2.1,v7.1.2.2.2.1,v7.1.2.2.2.2.1,()),[],()),())with
        |none=>none
        |some v16=>
        match bX (v16.1,x.1,())with
        |none=>none
        |some v17=>
        some (((IntKind.i64.wrap (Int.tdiv v1 (64:Int))),(Int.tmod (IntKind.i64.wrap (Int.tdiv v2 (8:Int))) (8:Int)),(v7.1.1,v7.1.2.1,v7.1.2.2.1,v7.1.2.2.2.1,v7.1.2.2.2.2.1,()),[],()),v17.1,())
       |false=>
        some (((IntKind.i64.wrap (Int.tdiv v1 (64:Int))),(Int.tmod (IntKind.i64.wrap (Int.tdiv v2 (8:Int))) (8:Int)),(v7.1.1,v7.1.2.1,v7.1.2.2.1,v7.1.2.2.2.1,v7.1.2.2.2.2.1,()),[],()),false,())) (
       match cD (((IntKind.i64.wrap (Int.tdiv v1 (64:Int))),(Int.tmod (IntKind.i64.wrap (Int.tdiv v2 (8:Int))) (8:Int)),(v7.1.1,v7.1.2.1,v7.1.2.2.1,v7.1.2.2.2.1,v7.1.2.2.2.2.1,()),[],()),())with
       |none=>none
       |some v15=>
       match v15.1 with
       |true=>
        ag (
         match bG (((IntKind.i64.wrap (Int.tdiv v1 (64:Int))),(Int.tmod (IntKind.i64.wrap (Int.tdiv v2 (8:Int))) (8:Int)),(v7.1.1,v7.1.2.1,v7.1.2.2.1,v7.1.2.2.2.1,v7.1.2.2.2.2.1,()),[],()),())with
         |none=>none
         |some v16=>
         match bX (v16.1,x.1,())with
         |none=>none
         |some v17=>
         some (((IntKind.i64.wrap (Int.tdiv v1 (64:Int))),(Int.tmod (IntKind.i64.wrap (Int.tdiv v2 (8:Int))) (8:Int)),(v7.1.1,v7.1.2.1,v7.1.2.2.1,v7.1.2.2.2.1,v7.1.2.2.2.2.1,()),[],()),v17.1,())) (
         ag (
          match bG (((IntKind.i64.wrap (Int.tdiv v1 (64:Int))),(Int.tmod (IntKind.i64.wrap (Int.tdiv v2 (8:Int))) (8:Int)),(v7.1.1,v7.1.2.1,v7.1.2.2.1,v7.1.2.2.2.1,v7.1.2.2.2.2.1,()),[],()),())with
          |none=>none
          |some v16=>
          match bX (v16.1,x.1,())with
          |none=>none
          |some v17=>
          some (((IntKind.i64.wrap (Int.tdiv v1 (64:Int))),(Int.tmod (IntKind.i64.wrap (Int.tdiv v2 (8:Int))) (8:Int)),(v7.1.1,v7.1.2.1,v7.1.2.2.1,v7.1.2.2.2.1,v7.1.2.2.2.2.1,()),[],()),v17.1,())) (
          match bG (((IntKind.i64.wrap (Int.tdiv v1 (64:Int))),(Int.tmod (IntKind.i64.wrap (Int.tdiv v2 (8:Int))) (8:Int)),(v7.1.1,v7.1.2.1,v7.1.2.2.1,v7.1.2.2.2.1,v7.1.2.2.2.2.1,()),[],()),())with
          |none=>none
          |some v16=>
          ai (
           match bX (v16.1,x.1,())with
           |none=>none
           |some v17=>
           some (((IntKind.i64.wrap (Int.tdiv v1 (64:Int))),(Int.tmod (IntKind.i64.wrap (Int.tdiv v2 (8:Int))) (8:Int)),(v7.1.1,v7.1.2.1,v7.1.2.2.1,v7.1.2.2.2.1,v7.1.2.2.2.2.1,()),[],()),v17.1,()))))
       |false=>
        ag (
         some (((IntKind.i64.wrap (Int.tdiv v1 (64:Int))),(Int.tmod (IntKind.i64.wrap (Int.tdiv v2 (8:Int))) (8:Int)),(v7.1.1,v7.1.2.1,v7.1.2.2.1,v7.1.2.2.2.1,v7.1.2.2.2.2.1,()),[],()),false,())) (
         ag (
          some (((IntKind.i64.wrap (Int.tdiv v1 (64:Int))),(Int.tmod (IntKind.i64.wrap (Int.tdiv v2 (8:Int))) (8:Int)),(v7.1.1,v7.1.2.1,v7.1.2.2.1,v7.1.2.2.2.1,v7.1.2.2.2.2.1,()),[],()),false,())) (
          ai (
           some (((IntKind.i64.wrap (Int.tdiv v1 (64:Int))),(Int.tmod (IntKind.i64.wrap (Int.tdiv v2 (8:Int))) (8:Int)),(v7.1.1,v7.1.2.1,v7.1.2.2.1,v7.1.2.2.2.1,v7.1.2.2.2.2.1,()),[],()),false,()))))))
  |false=>
   match eP ((IntKind.i64.wrap (Int.tdiv v1 (64:Int))),())with
   |none=>none
   |some v18=>
   match v18.1 with
   |true=>
    match(((List.drop v3.1 (List.take v3.2 x.1)).length:Int)==(0:Int))with
    |true=>
     some (((0:Int),(0:Int),((0:Int),(0:Int),(0:Int),(0:Int),(0:Int),()),[],()),false,())
    |false=>
     ab (aK (List.drop v3.1 (List.take v3.2 x.1)).length (some (.dat (.int .i64) (1:Int))) none) fun v19=>
     match uB ((List.drop v19.1 (List.take v19.2 (List.drop v3.1 (List.take v3.2 x.1)))),())with
     |none=>none
     |some v20=>
     ag (
      match cD (((IntKind.i64.wrap (Int.tdiv v1 (64:Int))),(Int.tmod (IntKind.i64.wrap (Int.tdiv v2 (8:Int))) (8:Int)),((0:Int),(0:Int),(0:Int),(0:Int),(0:Int),()),v20.1,()),())with
      |none=>none
      |some v21=>
      match v21.1 with
      |true=>
       match bG (((IntKind.i64.wrap (Int.tdiv v1 (64:Int))),(Int.tmod (IntKind.i64.wrap (Int.tdiv v2 (8:Int))) (8:Int)),((0:Int),(0:Int),(0:Int),(0:Int),(0:Int),()),v20.1,()),())with
       |none=>none
       |some v22=>
       match bX (v22.1,x.1,())with
       |none=>none
       |some v23=>
       some (((IntKind.i64.wrap (Int.tdiv v1 (64:Int))),(Int.tmod (IntKind.i64.wrap (Int.tdiv v2 (8:Int))) (8:Int)),((0:Int),(0:Int),(0:Int),(0:Int),(0:Int),()),v20.1,()),v23.1,())
      |false=>
       some (((IntKind.i64.wrap (Int.tdiv v1 (64:Int))),(Int.tmod (IntKind.i64.wrap (Int.tdiv v2 (8:Int))) (8:Int)),((0:Int),(0:Int),(0:Int),(0:Int),(0:Int),()),v20.1,()),false,())) (
      ag (
       match cD (((IntKind.i64.wrap (Int.tdiv v1 (64:Int))),(Int.tmod (IntKind.i64.wrap (Int.tdiv v2 (8:Int))) (8:Int)),((0:Int),(0:Int),(0:Int),(0:Int),(0:Int),()),v20.1,()),())with
       |none=>none
       |some v21=>
       match v21.1 with
       |true=>
        match bG (((IntKind.i64.wrap (Int.tdiv v1 (64:Int))),(Int.tmod (IntKind.i64.wrap (Int.tdiv v2 (8:Int))) (8:Int)),((0:Int),(0:Int),(0:Int),(0:Int),(0:Int),()),v20.1,()),())with
        |none=>none
        |some v22=>
        match bX (v22.1,x.1,())with
        |none=>none
        |some v23=>
        some (((IntKind.i64.wrap (Int.tdiv v1 (64:Int))),(Int.tmod (IntKind.i64.wrap (Int.tdiv v2 (8:Int))) (8:Int)),((0:Int),(0:Int),(0:Int),(0:Int),(0:Int),()),v20.1,()),v23.1,())
       |false=>
        some (((IntKind.i64.wrap (Int.tdiv v1 (64:Int))),(Int.tmod (IntKind.i64.wrap (Int.tdiv v2 (8:Int))) (8:Int)),((0:Int),(0:Int),(0:Int),(0:Int),(0:Int),()),v20.1,()),false,())) (
       match cD (((IntKind.i64.wrap (Int.tdiv v1 (64:Int))),(Int.tmod (IntKind.i64.wrap (Int.tdiv v2 (8:Int))) (8:Int)),((0:Int),(0:Int),(0:Int),(0:Int),(0:Int),()),v20.1,()),())with
       |none=>none
       |some v21=>
       match v21.1 with
       |true=>
        ag (
         match bG (((IntKind.i64.wrap (Int.tdiv v1 (64:Int))),(Int.tmod (IntKind.i64.wrap (Int.tdiv v2 (8:Int))) (8:Int)),((0:Int),(0:Int),(0:Int),(0:Int),(0:Int),()),v20.1,()),())with
         |none=>none
         |some v22=>
         match bX (v22.1,x.1,())with
         |none=>none
         |some v23=>
         some (((IntKind.i64.wrap (Int.tdiv v1 (64:Int))),(Int.tmod (IntKind.i64.wrap (Int.tdiv v2 (8:Int))) (8:Int)),((0:Int),(0:Int),(0:Int),(0:Int),(0:Int),()),v20.1,()),v23.1,())) (
         ag (
          match bG (((IntKind.i64.wrap (Int.tdiv v1 (64:Int))),(Int.tmod (IntKind.i64.wrap (Int.tdiv v2 (8:Int))) (8:Int)),((0:Int),(0:Int),(0:Int),(0:Int),(0:Int),()),v20.1,()),())with
          |none=>none
          |some v22=>
          match bX (v22.1,x.1,())with
          |none=>none
          |some v23=>
          some (((IntKind.i64.wrap (Int.tdiv v1 (64:Int))),(Int.tmod (IntKind.i64.wrap (Int.tdiv v2 (8:Int))) (8:Int)),((0:Int),(0:Int),(0:Int),(0:Int),(0:Int),()),v20.1,()),v23.1,())) (
          match bG (((IntKind.i64.wrap (Int.tdiv v1 (64:Int))),(Int.tmod (IntKind.i64.wrap (Int.tdiv v2 (8:Int))) (8:Int)),((0:Int),(0:Int),(0:Int),(0:Int),(0:Int),()),v20.1,()),())with
          |none=>none
          |some v22=>
          ai (
           match bX (v22.1,x.1,())with
           |none=>none
           |some v23=>
           some (((IntKind.i64.wrap (Int.tdiv v1 (64:Int))),(Int.tmod (IntKind.i64.wrap (Int.tdiv v2 (8:Int))) (8:Int)),((0:Int),(0:Int),(0:Int),(0:Int),(0:Int),()),v20.1,()),v23.1,()))))
       |false=>
        ag (
         some (((IntKind.i64.wrap (Int.tdiv v1 (64:Int))),(Int.tmod (IntKind.i64.wrap (Int.tdiv v2 (8:Int))) (8:Int)),((0:Int),(0:Int),(0:Int),(0:Int),(0:Int),()),v20.1,()),false,())) (
         ag (
          some (((IntKind.i64.wrap (Int.tdiv v1 (64:Int))),(Int.tmod (IntKind.i64.wrap (Int.tdiv v2 (8:Int))) (8:Int)),((0:Int),(0:Int),(0:Int),(0:Int),(0:Int),()),v20.1,()),false,())) (
          ai (
           some (((IntKind.i64.wrap (Int.tdiv v1 (64:Int))),(Int.tmod (IntKind.i64.wrap (Int.tdiv v2 (8:Int))) (8:Int)),((0:Int),(0:Int),(0:Int),(0:Int),(0:Int),()),v20.1,()),false,()))))))
   |false=>
    ag (
     match cD (((IntKind.i64.wrap (Int.tdiv v1 (64:Int))),(Int.tmod (IntKind.i64.wrap (Int.tdiv v2 (8:Int))) (8:Int)),((0:Int),(0:Int),(0:Int),(0:Int),(0:Int),()),[],()),())with
     |none=>none
     |some v24=>
     match v24.1 with
     |true=>
      match bG (((IntKind.i64.wrap (Int.tdiv v1 (64:Int))),(Int.tmod (IntKind.i64.wrap (Int.tdiv v2 (8:Int))) (8:Int)),((0:Int),(0:Int),(0:Int),(0:Int),(0:Int),()),[],()),())with
      |none=>none
      |some v25=>
      match bX (v25.1,x.1,())with
      |none=>none
      |some v26=>
      some (((IntKind.i64.wrap (Int.tdiv v1 (64:Int))),(Int.tmod (IntKind.i64.wrap (Int.tdiv v2 (8:Int))) (8:Int)),((0:Int),(0:Int),(0:Int),(0:Int),(0:Int),()),[],()),v26.1,())
     |false=>
      some (((IntKind.i64.wrap (Int.tdiv v1 (64:Int))),(Int.tmod (IntKind.i64.wrap (Int.tdiv v2 (8:Int))) (8:Int)),((0:Int),(0:Int),(0:Int),(0:Int),(0:Int),()),[],()),false,())) (
     ag (
      match cD (((IntKind.i64.wrap (Int.tdiv v1 (64:Int))),(Int.tmod (IntKind.i64.wrap (Int.tdiv v2 (8:Int))) (8:Int)),((0:Int),(0:Int),(0:Int),(0:Int),(0:Int),()),[],()),())with
      |none=>none
      |some v24=>
      match v24.1 with
      |true=>
       match bG (((IntKind.i64.wrap (Int.tdiv v1 (64:Int))),(Int.tmod (IntKind.i64.wrap (Int.tdiv v2 (8:Int))) (8:Int)),((0:Int),(0:Int),(0:Int),(0:Int),(0:Int),()),[],()),())with
       |none=>none
       |some v25=>
       match bX (v25.1,x.1,())with
       |none=>none
       |some v26=>
       some (((IntKind.i64.wrap (Int.tdiv v1 (64:Int))),(Int.tmod (IntKind.i64.wrap (Int.tdiv v2 (8:Int))) (8:Int)),((0:Int),(0:Int),(0:Int),(0:Int),(0:Int),()),[],()),v26.1,())
      |false=>
       some (((IntKind.i64.wrap (Int.tdiv v1 (64:Int))),(Int.tmod (IntKind.i64.wrap (Int.tdiv v2 (8:Int))) (8:Int)),((0:Int),(0:Int),(0:Int),(0:Int),(0:Int),()),[],()),false,())) (
      match cD (((IntKind.i64.wrap (Int.tdiv v1 (64:Int))),(Int.tmod (IntKind.i64.wrap (Int.tdiv v2 (8:Int))) (8:Int)),((0:Int),(0:Int),(0:Int),(0:Int),(0:Int),()),[],()),())with
      |none=>none
      |some v24=>
      match v24.1 with
      |true=>
       ag (
        match bG (((IntKind.i64.wrap (Int.tdiv v1 (64:Int))),(Int.tmod (IntKind.i64.wrap (Int.tdiv v2 (8:Int))) (8:Int)),((0:Int),(0:Int),(0:Int),(0:Int),(0:Int),()),[],()),())with
        |none=>none
        |some v25=>
        match bX (v25.1,x.1,())with
        |none=>none
        |some v26=>
        some (((IntKind.i64.wrap (Int.tdiv v1 (64:Int))),(Int.tmod (IntKind.i64.wrap (Int.tdiv v2 (8:Int))) (8:Int)),((0:Int),(0:Int),(0:Int),(0:Int),(0:Int),()),[],()),v26.1,())) (
        ag (
         match bG (((IntKind.i64.wrap (Int.tdiv v1 (64:Int))),(Int.tmod (IntKind.i64.wrap (Int.tdiv v2 (8:Int))) (8:Int)),((0:Int),(0:Int),(0:Int),(0:Int),(0:Int),()),[],()),())with
         |none=>none
         |some v25=>
         match bX (v25.1,x.1,())with
         |none=>none
         |some v26=>
         some (((IntKind.i64.wrap (Int.tdiv v1 (64:Int))),(Int.tmod (IntKind.i64.wrap (Int.tdiv v2 (8:Int))) (8:Int)),((0:Int),(0:Int),(0:Int),(0:Int),(0:Int),()),[],()),v26.1,())) (
         match bG (((IntKind.i64.wrap (Int.tdiv v1 (64:Int))),(Int.tmod (IntKind.i64.wrap (Int.tdiv v2 (8:Int))) (8:Int)),((0:Int),(0:Int),(0:Int),(0:Int),(0:Int),()),[],()),())with
         |none=>none
         |some v25=>
         ai (
          match bX (v25.1,x.1,())with
          |none=>none
          |some v26=>
          some (((IntKind.i64.wrap (Int.tdiv v1 (64:Int))),(Int.tmod (IntKind.i64.wrap (Int.tdiv v2 (8:Int))) (8:Int)),((0:Int),(0:Int),(0:Int),(0:Int),(0:Int),()),[],()),v26.1,()))))
      |false=>
       ag (
        some (((IntKind.i64.wrap (Int.tdiv v1 (64:Int))),(Int.tmod (IntKind.i64.wrap (Int.tdiv v2 (8:Int))) (8:Int)),((0:Int),(0:Int),(0:Int),(0:Int),(0:Int),()),[],()),false,())) (
        ag (
         some (((IntKind.i64.wrap (Int.tdiv v1 (64:Int))),(Int.tmod (IntKind.i64.wrap (Int.tdiv v2 (8:Int))) (8:Int)),((0:Int),(0:Int),(0:Int),(0:Int),(0:Int),()),[],()),false,())) (
         ai (
          some (((IntKind.i64.wrap (Int.tdiv v1 (64:Int))),(Int.tmod (IntKind.i64.wrap (Int.tdiv v2 (8:Int))) (8:Int)),((0:Int),(0:Int),(0:Int),(0:Int),(0:Int),()),[],()),false,())))))))
noncomputable def Mm:ae:=⟨_,PH,.unit,rfl,td⟩
theorem KY:FnOK G0 Tryz.prog 159 Mm:=an ao (sg Be (sg gz (sg kL (sg tP (sg BH (sg NU (sg Mk (sg KX (aR))))))))) Tryz.func159
noncomputable def nZ(x:Ty.T UD):Option (Ty.T PI):=
match(decide ((IntKind.i64.wrap ((x.1.length:Int)-(3:Int)))<(1:Int)))with
|true=>
 some (((0:Int),(0:Int),((0:Int),(0:Int),(0:Int),(0:Int),(0:Int),()),[],()),(6:Int),())
|false=>
 ab (au x.1 (IntKind.i64.wrap ((x.1.length:Int)-(3:Int)))) fun v1=>
 ab (au x.1 (IntKind.i64.wrap ((IntKind.i64.wrap ((x.1.length:Int)-(3:Int)))+(1:Int)))) fun v2=>
 ab (au x.1 (IntKind.i64.wrap ((IntKind.i64.wrap ((x.1.length:Int)-(3:Int)))+(2:Int)))) fun v3=>
 ab (au x.1 (0:Int)) fun v4=>
 ab (aK x.1.length none (some (.dat (.int .i64) (IntKind.i64.wrap ((x.1.length:Int)-(3:Int)))))) fun v5=>
 match i9 ((IntKind.i64.wrap (Int.tdiv v4 (64:Int))),(List.drop v5.1 (List.take v5.2 x.1)),x.2.1,(x.2.2.1.1,x.2.2.1.2.1,x.2.2.1.2.2.1,x.2.2.1.2.2.2.1,x.2.2.1.2.2.2.2.1,()),())with
 |none=>none
 |some v6=>
 match(v6.1 != (IntKind.i64.wrap ((IntKind.i64.wrap ((IntKind.i64.wrap (v1*(65536:Int)))+(IntKind.i64.wrap (v2*(256:Int)))))+v3)))with
 |true=>
  some (((0:Int),(0:Int),((0:Int),(0:Int),(0:Int),(0:Int),(0:Int),()),[],()),(7:Int),())
 |false=>
  ab (aK x.1.length none (some (.dat (.int .i64) (IntKind.i64.wrap ((x.1.length:Int)-(3:Int)))))) fun v7=>
  match td ((List.drop v7.1 (List.take v7.2 x.1)),())with
  |none=>none
  |some v8=>
  match(!v8.2.1)with
  |true=>
   some (((0:Int),(0:Int),((0:Int),(0:Int),(0:Int),(0:Int),(0:Int),()),[],()),(6:Int),())
  |false=>
   match cU (v8.1.1,())with
   |none=>none
   |some v9=>
   match v9.1 with
   |true=>
    match(!(dE ak (v8.1.2.2.1.1,v8.1.2.2.1.2.1,v8.1.2.2.1.2.2.1,v8.1.2.2.1.2.2.2.1,v8.1.2.2.1.2.2.2.2.1,()) (x.2.2.1.1,x.2.2.1.2.1,x.2.2.1.2.2.1,x.2.2.1.2.2.2.1,x.2.2.1.2.2.2.2.1,())))with
    |true=>
     some (((0:Int),(0:Int),((0:Int),(0:Int),(0:Int),(0:Int),(0:Int),()),[],()),(5:Int),())
    |false=>
     some ((v8.1.1,v8.1.2.1,(v8.1.2.2.1.1,v8.1.2.2.1.2.1,v8.1.2.2.1.2.2.1,v8.1.2.2.1.2.2.2.1,v8.1.2.2.1.2.2.2.2.1,()),v8.1.2.2.2.1,()),(0:Int),())
   |false=>
    some ((v8.1.1,v8.1.2.1,(v8.1.2.2.1.1,v8.1.2.2.1.2.1,v8.1.2.2.1.2.2.1,v8.1.2.2.1.2.2.2.1,v8.1.2.2.1.2.2.2.2.1,()),v8.1.2.2.2.1,()),(0:Int),())
noncomputable def NW:ae:=⟨_,PI,.unit,rfl,nZ⟩
theorem Mn:FnOK G0 Tryz.prog 101 NW:=an ao (sg wL (sg gz (sg KY (aR)))) Tryz.func101
noncomputable def jV(x:Ty.T Io):Option (Ty.T Bb):=
match nZ (x.2.2.1,x.1.1,(x.2.1.1,x.2.1.2.1,x.2.1.2.2.1,x.2.1.2.2.2.1,x.2.1.2.2.2.2.1,()),())with
|none=>none
|some v1=>
match(v1.2.1==(0:Int))with
|true=>
 match ge ((x.1.1,x.1.2.1,x.1.2.2.1,x.1.2.2.2.1,()),(x.2.1.1,x.2.1.2.1,x.2.1.2.2.1,x.2.1.2.2.2.1,x.2.1.2.2.2.2.1,()),())with
 |none=>none
 |some v2=>
 match dg (v2.1,(v1.1.1,v1.1.2.1,(v1.1.2.2.1.1,v1.1.2.2.1.2.1,v1.1.2.2.1.2.2.1,v1.1.2.2.1.2.2.2.1,v1.1.2.2.1.2.2.2.2.1,()),v1.1.2.2.2.1,()),())with
 |none=>none
 |some v3=>
 match(!v3.1)with
 |true=>
  match((5:Int) != (0:Int))with
  |true=>
   some (((2:Int),((0:Int),(0:Int),((0:Int),(0:Int),(0:Int),(0:Int),(0:Int),()),[],()),()),(5:Int),())
  |false=>
   some (((3:Int),(v1.1.1,v1.1.2.1,(v1.1.2.2.1.1,v1.1.2.2.1.2.1,v1.1.2.2.1.2.2.1,v1.1.2.2.1.2.2.2.1,v1.1.2.2.1.2.2.2.2.1,()),v1.1.2.2.2.1,()),()),(0:Int),())
 |false=>
  match(v1.2.1 != (0:Int))with
  |true=>
   some (((2:Int),((0:Int),(0:Int),((0:Int),(0:Int),(0:Int),(0:Int),(0:Int),()),[],()),()),v1.2.1,())
  |false=>
   some (((3:Int),(v1.1.1,v1.1.2.1,(v1.1.2.2.1.1,v1.1.2.2.1.2.1,v1.1.2.2.1.2.2.1,v1.1.2.2.1.2.2.2.1,v1.1.2.2.1.2.2.2.2.1,()),v1.1.2.2.2.1,()),()),(0:Int),())
|false=>
 match(v1.2.1 != (0:Int))with
 |true=>
  some (((2:Int),((0:Int),(0:Int),((0:Int),(0:Int),(0:Int),(0:Int),(0:Int),()),[],()),()),v1.2.1,())
 |false=>
  some (((3:Int),(v1.1.1,v1.1.2.1,(v1.1.2.2.1.1,v1.1.2.2.1.2.1,v1.1.2.2.1.2.2.1,v1.1.2.2.1.2.2.2.1,v1.1.2.2.1.2.2.2.2.1,()),v1.1.2.2.2.1,()),()),(0:Int),())
noncomputable def Mo:ae:=⟨_,Bb,.unit,rfl,jV⟩
theorem KZ:FnOK G0 Tryz.prog 50 Mo:=an ao (sg kS (sg Mn (sg pt (aR)))) Tryz.func50
noncomputable def jD(x:Ty.T Io):Option (Ty.T PD):=
match jN ((x.1.1,x.1.2.1,x.1.2.2.1,x.1.2.2.2.1,()),(x.2.1.1,x.2.1.2.1,x.2.1.2.2.1,x.2.1.2.2.2.1,x.2.1.2.2.2.2.1,()),())with
|none=>none
|some v1=>
match(v1.1==(0:Int))with
|true=>
 match kT (x.2.2.1,())with
 |none=>none
 |some v2=>
 match(!v2.1)with
 |true=>
  match((2:Int) != (0:Int))with
  |true=>
   some (((0:Int),((0:Int),(0:Int),((0:Int),(0:Int),(0:Int),(0:Int),(0:Int),()),[],()),()),(2:Int),())
  |false=>
   match jV ((x.1.1,x.1.2.1,x.1.2.2.1,x.1.2.2.2.1,()),(x.2.1.1,x.2.1.2.1,x.2.1.2.2.1,x.2.1.2.2.2.1,x.2.1.2.2.2.2.1,()),x.2.2.1,())with
   |none=>none
   |some v3=>
   some ((v3.1.1,(v3.1.2.1.1,v3.1.2.1.2.1,(v3.1.2.1.2.2.1.1,v3.1.2.1.2.2.1.2.1,v3.1.2.1.2.2.1.2.2.1,v3.1.2.1.2.2.1.2.2.2.1,v3.1.2.1.2.2.1.2.2.2.2.1,()),v3.1.2.1.2.2.2.1,()),()),(0:Int),())
 |false=>
  match(v1.1 != (0:Int))with
  |true=>
   some (((0:Int),((0:Int),(0:Int),((0:Int),(0:Int),(0:Int),(0:Int),(0:Int),()),[],()),()),v1.1,())
  |false=>
   match jV ((x.1.1,x.1.2.1,x.1.2.2.1,x.1.2.2.2.1,()),(x.2.1.1,x.2.1.2.1,x.2.1.2.2.1,x.2.1.2.2.2.1,x.2.1.2.2.2.2.1,()),x.2.2.1,())with
   |none=>none
   |some v4=>
   some ((v4.1.1,(v4.1.2.1.1,v4.1.2.1.2.1,(v4.1.2.1.2.2.1.1,v4.1.2.1.2.2.1.2.1,v4.1.2.1.2.2.1.2.2.1,v4.1.2.1.2.2.1.2.2.2.1,v4.1.2.1.2.2.1.2.2.2.2.1,()),v4.1.2.1.2.2.2.1,()),()),(0:Int),())
|false=>
 match(v1.1 != (0:Int))with
 |true=>
  some (((0:Int),((0:Int),(0:Int),((0:Int),(0:Int),(0:Int),(0:Int),(0:Int),()),[],()),()),v1.1,())
 |false=>
  match jV ((x.1.1,x.1.2.1,x.1.2.2.1,x.1.2.2.2.1,()),(x.2.1.1,x.2.1.2.1,x.2.1.2.2.1,x.2.1.2.2.2.1,x.2.1.2.2.2.2.1,()),x.2.2.1,())with
  |none=>none
  |some v5=>
  some ((v5.1.1,(v5.1.2.1.1,v5.1.2.1.2.1,(v5.1.2.1.2.2.1.1,v5.1.2.1.2.2.1.2.1,v5.1.2.1.2.2.1.2.2.1,v5.1.2.1.2.2.1.2.2.2.1,v5.1.2.1.2.2.1.2.2.2.2.1,()),v5.1.2.1.2.2.2.1,()),()),(0:Int),())
noncomputable def Fs:ae:=⟨_,PD,.unit,rfl,jD⟩
theorem Dy:FnOK G0 Tryz.prog 10 Fs:=an ao (sg BE (sg BG (sg KZ (aR)))) Tryz.func10
abbrev pT:Ty:=UG
noncomputable def fS(x:(Ty.T pT)):Option ((Ty.T pT) ⊕ ((Ty.T .unit) ⊕ (Ty.T ax))):=
match(decide (x.2.2.1<(x.1.length:Int)))with
|true=>
 ab (au x.1 x.2.2.1) fun v1=>
 ab (au x.2.1 x.2.2.1) fun v2=>
 match(v1 != v2)with
 |true=>
  some (.inr (.inr (false,())))
 |false=>
  some (.inl (x.1,x.2.1,(IntKind.i64.wrap (x.2.2.1+(1:Int))),()))
|false=>
 some (.inr (.inl (())))
noncomputable def fu(x:Ty.T PF):Option (Ty.T ax):=
match((x.1.length:Int) != (x.2.1.length:Int))with
|true=>
 some (false,())
|false=>
 match ac fS (x.1,x.2.1,(0:Int),())with
 |none=>none
 |some (.inl v3)=>
  some (true,())
 |some (.inr v4)=>
  some (v4.1,())
noncomputable def Mp:ae:=⟨_,ax,.unit,rfl,fu⟩
noncomputable def z8:FuncId→Option ae:=bU []
theorem He:∀f s,z8 f=some s→FnOK G0 Tryz.prog f s:=aM trivial
def xB:aX:=⟨[0,1,5],pT,0,[],.unit,[4],ax⟩
noncomputable def Aa:List aJ:=[xB.spec fS]
theorem Ft:bq bI E0 z8 (bo Tryz.f21 Aa) Tryz.f21 0 xB fS:=fun x=>by kernel_rfl
theorem Ab:FnOK G0 Tryz.prog 21 Mp:=aP ao He Tryz.func21 Aa (by kernel_rfl) (by exact⟨(Ft).lok,trivial⟩) fun x=>by kernel_rfl
noncomputable def jE(x:Ty.T Uk):Option (Ty.T ax):=
match(x.1.1==x.2.1.1)with
|true=>
 match(x.1.2.1==x.2.1.2.1)with
 |true=>
  match(dE ak x.1.2.2.1 x.2.1.2.2.1)with
  |true=>
   match fu (x.1.2.2.2.1,x.2.1.2.2.2.1,())with
   |none=>none
   |some v1=>
   some (v1.1,())
  |false=>
   some (false,())
 |false=>
  some (false,())
|false=>
 some (false,())
noncomputable def I6:ae:=⟨_,ax,.unit,rfl,jE⟩
theorem vF:FnOK G0 Tryz.prog 27 I6:=an ao (sg Ab (aR)) Tryz.func27
noncomputable def jF(x:Ty.T Um):Option (Ty.T ax):=
match(x.1.1==x.2.1.1)with
|true=>
 match jE (x.1.2.1,x.2.1.2.1,())with
 |none=>none
 |some v1=>
 some (v1.1,())
|false=>
 some (false,())
noncomputable def Fu:ae:=⟨_,ax,.unit,rfl,jF⟩
theorem Dz:FnOK G0 Tryz.prog 11 Fu:=an ao (sg vF (aR)) Tryz.func11
noncomputable def fv(x:Ty.T aO):Option (Ty.T ax):=
match cA (x.1,(3:Int),(15:Int),())with
|none=>none
|some v1=>
some (v1.1,())
noncomputable def xC:ae:=⟨_,ax,.unit,rfl,fv⟩
theorem pd:FnOK G0 Tryz.prog 51 xC:=an ao (sg dt (aR)) Tryz.func51
noncomputable def iQ(x:Ty.T bE):Option (Ty.T aO):=
some ((IntKind.i64.wrap ((IntKind.i64.wrap (x.2.1+(3:Int)))+(IntKind.i64.wrap ((10:Int)*x.1)))),())
noncomputable def yE:ae:=⟨_,aO,.unit,rfl,iQ⟩
theorem xD:FnOK G0 Tryz.prog 52 yE:=an ao aR Tryz.func52
abbrev rO:Ty:=Sc
noncomputable def gM(x:(Ty.T rO)):Option ((Ty.T rO) ⊕ ((Ty.T br) ⊕ (Ty.T .unit))):=
match(decide (x.2.2.2.1<x.2.2.1))with
|true=>
 ab (au x.2.1 x.2.2.2.1) fun v1=>
 aD (x.1.length+ [(1:Int),(0:Int)].length) (
  match bH ((x.1++ [(1:Int),(0:Int)]),v1,(8:Int),())with
  |none=>none
  |some v2=>
  some (.inl (v2.1,x.2.1,x.2.2.1,(IntKind.i64.wrap (x.2.2.2.1+(1:Int))),())))
|false=>
 some (.inr (.inl (x.1,())))
noncomputable def lm(x:Ty.T oE):Option (Ty.T br):=
if 0≤x.2.1∧x.2.1≤x.2.1 then
 aD (x.2.1.toNat) (
  aD ((List.replicate x.2.1.toNat (0:Int)).length+ [(1:Int)].length) (
   match ac gM (((List.replicate x.2.1.toNat (0:Int))++ [(1:Int)]),x.1,(x.1.length:Int),(0:Int),())with
   |none=>none
   |some (.inl v3)=>
    aD (v3.1.length+ [(0:Int),(1:Int)].length) (
     some ((v3.1++ [(0:Int),(1:Int)]),()))
   |some (.inr v5)=>
    none))
else none
noncomputable def Ee:ae:=⟨_,br,.unit,rfl,lm⟩
noncomputable def Cf:FuncId→Option ae:=bU [(103,nq)]
theorem I7:∀f s,Cf f=some s→FnOK G0 Tryz.prog f s:=aM ⟨mr,trivial⟩
def Ac:aX:=⟨[5,12,13,14],rO,0,[5],br,[],.unit⟩
noncomputable def Cg:List aJ:=[Ac.spec gM]
theorem Hf:bq bI E0 Cf (bo Tryz.f53 Cg) Tryz.f53 0 Ac gM:=fun x=>by kernel_rfl
theorem uC:FnOK G0 Tryz.prog 53 Ee:=aP ao I7 Tryz.func53 Cg (by kernel_rfl) (by exact⟨(Hf).lok,trivial⟩) fun x=>by kernel_rfl
noncomputable def qR(x:Ty.T oE):Option (Ty.T jt):=
match gi (x.1,())with
|none=>none
|some v1=>
match(!v1.1)with
|true=>
 some ([],(1:Int),())
|false=>
 match fv (x.2.1,())with
 |none=>none
 |some v2=>
 match(!v2.1)with
 |true=>
  some ([],(2:Int),())
 |false=>
  match iQ ((x.1.length:Int),x.2.1,())with
  |none=>none
  |some v3=>
  match(decide (v3.1>(8192:Int)))with
  |true=>
   some ([],(3:Int),())
  |false=>
   match lm (x.1,x.2.1,())with
   |none=>none
   |some v4=>
   some (v4.1,(0:Int),())
noncomputable def NX:ae:=⟨_,jt,.unit,rfl,qR⟩
theorem Mq:FnOK G0 Tryz.prog 12 NX:=an ao (sg pb (sg pd (sg xD (sg uC (aR))))) Tryz.func12
noncomputable def jf(x:Ty.T kh):Option (Ty.T ax):=
match(decide ((x.1.length:Int)≤(8192:Int)))with
|true=>
 match jc (x.1,(0:Int),(1:Int),())with
 |none=>none
 |some v1=>
 some (v1.1,())
|false=>
 some (false,())
noncomputable def Hg:ae:=⟨_,ax,.unit,rfl,jf⟩
theorem mI:FnOK G0 Tryz.prog 54 Hg:=an ao (sg xw (aR)) Tryz.func54
abbrev uD:Ty:=(.pair (.own 2 (.int .i64)) (.pair (.int .i64) bE))
noncomputable def im(x:(Ty.T uD)):Option ((Ty.T uD) ⊕ ((Ty.T br) ⊕ (Ty.T .unit))):=
match(decide (x.2.2.2.1<x.2.2.1))with
|true=>
 aD (x.1.length+ [x.2.1].length) (
  some (.inl ((x.1++ [x.2.1]),x.2.1,x.2.2.1,(IntKind.i64.wrap (x.2.2.2.1+(1:Int))),())))
|false=>
 some (.inr (.inl (x.1,())))
noncomputable def uE(x:Ty.T LZ):Option (Ty.T br):=
match ac im (x.1,x.2.1,x.2.2.1,(0:Int),())with
|none=>none
|some (.inl v1)=>
 some (v1.1,())
|some (.inr v3)=>
 none
noncomputable def Hh:ae:=⟨_,br,.unit,rfl,uE⟩
noncomputable def Ef:FuncId→Option ae:=bU []
theorem K0:∀f s,Ef f=some s→FnOK G0 Tryz.prog f s:=aM trivial
def Ci:aX:=⟨[0,1,7,8],uD,0,[0],br,[],.unit⟩
noncomputable def Eg:List aJ:=[Ci.spec im]
theorem I8:bq bI E0 Ef (bo Tryz.f55 Eg) Tryz.f55 0 Ci im:=fun x=>by kernel_rfl
theorem NY:FnOK G0 Tryz.prog 55 Hh:=aP ao K0 Tryz.func55 Eg (by kernel_rfl) (by exact⟨(I8).lok,trivial⟩) fun x=>by kernel_rfl
abbrev jW:Ty:=Sc
noncomputable def di(x:(Ty.T jW)):Option ((Ty.T jW) ⊕ ((Ty.T br) ⊕ (Ty.T .unit))):=
match(decide (x.2.2.2.1<x.2.2.1))with
|true=>
 ab (au x.2.1 x.2.2.2.1) fun v2=>
 match uE (x.1,v2,(8:Int),())with
 |none=>none
 |some v3=>
 some (.inl (v3.1,x.2.1,x.2.2.1,(IntKind.i64.wrap (x.2.2.2.1+(1:Int))),()))
|false=>
 some (.inr (.inl (x.1,())))
noncomputable def eJ(x:Ty.T kh):Option (Ty.T jt):=
match jf (x.1,())with
|none=>none
|some v1=>
match(!v1.1)with
|true=>
 some ([],(1:Int),())
|false=>
 match(decide ((IntKind.i64.wrap ((x.1.length:Int)*(8:Int)))>(8192:Int)))with
 |true=>
  some ([],(3:Int),())
 |false=>
  match ac di ([],x.1,(x.1.length:Int),(0:Int),())with
  |none=>none
  |some (.inl v4)=>
   some (v4.1,(0:Int),())
  |some (.inr v6)=>
   none
noncomputable def Cj:ae:=⟨_,jt,.unit,rfl,eJ⟩
noncomputable def pu:FuncId→Option ae:=bU [(54,Hg),(55,Hh)]
theorem xE:∀f s,pu f=some s→FnOK G0 Tryz.prog f s:=aM ⟨mI,NY,trivial⟩
def pe:aX:=⟨[4,15,16,17],jW,0,[4],br,[],.unit⟩
noncomputable def pv:List aJ:=[pe.spec di]
theorem wc:bq bI E0 pu (bo Tryz.f13 pv) Tryz.f13 0 pe di:=fun x=>by kernel_rfl
theorem pw:FnOK G0 Tryz.prog 13 Cj:=aP ao xE Tryz.func13 pv (by kernel_rfl) (by exact⟨(wc).lok,trivial⟩) fun x=>by kernel_rfl
noncomputable def I9(x:Ty.T ax):Option (Ty.T aO):=
match x.1 with
|true=>
 some ((1:Int),())
|false=>
 some ((0:Int),())
noncomputable def J2:ae:=⟨_,aO,.unit,rfl,I9⟩
theorem PT:FnOK G0 Tryz.prog 179 J2:=an ao aR Tryz.func179
abbrev ln:Ty:=Sb
noncomputable def cu(x:(Ty.T ln)):Option ((Ty.T ln) ⊕ ((Ty.T aO) ⊕ (Ty.T .unit))):=
match(decide (x.2.2.2.1≤x.2.1))with
|true=>
 match(decide (x.2.2.2.1<(0:Int)))with
 |true=>
  some (.inl (x.1,x.2.1,(IntKind.i64.wrap (x.2.2.1+(1:Int))),(IntKind.i64.wrap (x.2.2.2.1+(1:Int))),()))
 |false=>
  ab (au x.1 x.2.2.2.1) fun v1=>
  match(v1==(1:Int))with
  |true=>
   some (.inl (x.1,x.2.1,(IntKind.i64.wrap (x.2.2.1+(1:Int))),(IntKind.i64.wrap (x.2.2.2.1+(1:Int))),()))
  |false=>
   some (.inl (x.1,x.2.1,x.2.2.1,(IntKind.i64.wrap (x.2.2.2.1+(1:Int))),()))
|false=>
 some (.inr (.inl (x.2.2.1,())))
noncomputable def lO(x:Ty.T oE):Option (Ty.T aO):=
match ac cu (x.1,x.2.1,(0:Int),(IntKind.i64.wrap ((IntKind.i64.wrap (x.2.1-(5:Int)))+(1:Int))),())with
|none=>none
|some (.inl v2)=>
 some (v2.1,())
|some (.inr v4)=>
 none
noncomputable def uF:ae:=⟨_,aO,.unit,rfl,lO⟩
noncomputable def sN:FuncId→Option ae:=bU []
theorem AG:∀f s,sN f=some s→FnOK G0 Tryz.prog f s:=aM trivial
def qS:aX:=⟨[0,1,5,6],ln,0,[5],aO,[],.unit⟩
noncomputable def sO:List aJ:=[qS.spec cu]
theorem yF:bq bI E0 sN (bo Tryz.f180 sO) Tryz.f180 0 qS cu:=fun x=>by kernel_rfl
theorem DA:FnOK G0 Tryz.prog 180 uF:=aP ao AG Tryz.func180 sO (by kernel_rfl) (by exact⟨(yF).lok,trivial⟩) fun x=>by kernel_rfl
abbrev yG:Ty:=UA
noncomputable def jX(x:(Ty.T yG)):Option ((Ty.T yG) ⊕ ((Ty.T br) ⊕ (Ty.T .unit))):=
match(decide (x.2.2.2.1<x.2.2.1))with
|true=>
 match lO (x.1,x.2.2.2.1,())with
 |none=>none
 |some v1=>
 match I9 ((decide ((IntKind.i64.wrap ((2:Int)*v1.1))>(5:Int))),())with
 |none=>none
 |some v2=>
 aD (x.2.1.length+ [v2.1].length) (
  some (.inl (x.1,(x.2.1++ [v2.1]),x.2.2.1,(IntKind.i64.wrap (x.2.2.2.1+(1:Int))),())))
|false=>
 some (.inr (.inl (x.2.1,())))
noncomputable def Hi(x:Ty.T kh):Option (Ty.T br):=
match ac jX (x.1,[],(x.1.length:Int),(0:Int),())with
|none=>none
|some (.inl v3)=>
 some (v3.1,())
|some (.inr v5)=>
 none
noncomputable def Sk:ae:=⟨_,br,.unit,rfl,Hi⟩
noncomputable def J3:FuncId→Option ae:=bU [(179,J2),(180,uF)]
theorem NZ:∀f s,J3 f=some s→FnOK G0 Tryz.prog f s:=aM ⟨PT,DA,trivial⟩
def Hj:aX:=⟨[0,3,7,8],yG,0,[3],br,[],.unit⟩
noncomputable def J4:List aJ:=[Hj.spec jX]
theorem Mr:bq bI E0 J3 (bo Tryz.f126 J4) Tryz.f126 0 Hj jX:=fun x=>by kernel_rfl
theorem QV:FnOK G0 Tryz.prog 126 Sk:=aP ao NZ Tryz.func126 J4 (by kernel_rfl) (by exact⟨(Mr).lok,trivial⟩) fun x=>by kernel_rfl
noncomputable def nc(x:Ty.T kh):Option (Ty.T jt):=
match jf (x.1,())with
|none=>none
|some v1=>
match(!v1.1)with
|true=>
 some ([],(1:Int),())
|false=>
 match Hi (x.1,())with
 |none=>none
 |some v2=>
 some (v2.1,(0:Int),())
noncomputable def Hk:ae:=⟨_,jt,.unit,rfl,nc⟩
theorem Fv:FnOK G0 Tryz.prog 75 Hk:=an ao (sg mI (sg QV (aR))) Tryz.func75
noncomputable def cb(x:(Ty.T PA)):Option ((Ty.T PA) ⊕ ((Ty.T bE) ⊕ (Ty.T aO))):=
match(decide (x.2.1<(x.1.1.length:Int)))with
|true=>
 ab (au x.1.1 x.2.1) fun v1=>
 match(v1==x.2.2.1)with
 |true=>
  some (.inr (.inr (x.2.1,())))
 |false=>
  some (.inl (x.1,(IntKind.i64.wrap (x.2.1+(1:Int))),x.2.2.1,()))
|false=>
 some (.inr (.inl (x.2.1,x.2.2.1,())))
noncomputable def bB(x:Ty.T PA):Option (Ty.T aO):=
match ac cb (x.1,(IntKind.i64.wrap (x.2.1+(1:Int))),x.2.2.1,())with
|none=>none
|some (.inl v2)=>
 match(v2.2.1==(1:Int))with
 |true=>
  some (v2.1,())
 |false=>
  some ((-1:Int),())
|some (.inr v3)=>
 some (v3.1,())
noncomputable def mJ:ae:=⟨_,aO,.unit,rfl,bB⟩
noncomputable def lW:FuncId→Option ae:=bU []
theorem tf:∀f s,lW f=some s→FnOK G0 Tryz.prog f s:=aM trivial
def lq:aX:=⟨[0,1,2],PA,0,[1,2],bE,[6],aO⟩
noncomputable def lX:List aJ:=[lq.spec cb]
theorem rP:bq bI E0 lW (bo Tryz.f231 lX) Tryz.f231 0 lq cb:=fun x=>by kernel_rfl
theorem lY:FnOK G0 Tryz.prog 231 mJ:=aP ao tf Tryz.func231 lX (by kernel_rfl) (by exact⟨(rP).lok,trivial⟩) fun x=>by kernel_rfl
noncomputable def uG(x:Ty.T aO):Option (Ty.T aO):=
some ((IntKind.i64.wrap (Int.tdiv (IntKind.i64.wrap (x.1+(4:Int))) (8:Int))),())
noncomputable def Ja:ae:=⟨_,aO,.unit,rfl,uG⟩
theorem Hl:FnOK G0 Tryz.prog 232 Ja:=an ao aR Tryz.func232
noncomputable def fK(x:Ty.T Sa):Option (Ty.T aO):=
ab x.1 fun v1=>
match(decide (x.2.1≥(v1.1.length:Int)))with
|true=>
 some ((1:Int),())
|false=>
 ab x.1 fun v2=>
 ab (au v2.1 x.2.1) fun v3=>
 some (v3,())
noncomputable def jG:ae:=⟨_,aO,.unit,rfl,fK⟩
theorem mK:FnOK G0 Tryz.prog 129 jG:=an ao aR Tryz.func129
abbrev dK:Ty:=UO
noncomputable def bi(x:(Ty.T dK)):Option ((Ty.T dK) ⊕ ((Ty.T .unit) ⊕ (Ty.T dK))):=
aD (x.1.2.2.1.length+ [x.2.1].length) (
 match fK ((some (x.1.1,x.1.2.1,(x.1.2.2.1++ [x.2.1]),())),(IntKind.i64.wrap (x.2.1+(76:Int))),())with
 |none=>none
 |some v1=>
 match(v1.1==(0:Int))with
 |true=>
  some (.inr (.inr ((x.1.1,x.1.2.1,(x.1.2.2.1++ [x.2.1]),()),(IntKind.i64.wrap (x.2.1+(72:Int))),())))
 |false=>
  match bB ((x.1.1,x.1.2.1,(x.1.2.2.1++ [x.2.1]),()),(IntKind.i64.wrap (x.2.1+(76:Int))),(0:Int),())with
  |none=>none
  |some v2=>
  match(decide (v2.1<(0:Int)))with
  |true=>
   some (.inr (.inr ((x.1.1,x.1.2.1,(x.1.2.2.1++ [x.2.1]),()),(-1:Int),())))
  |false=>
   match(decide (v2.1>(IntKind.i64.wrap ((IntKind.i64.wrap (x.2.1+(76:Int)))+(8:Int)))))with
   |true=>
    some (.inr (.inr ((x.1.1,x.1.2.1,(x.1.2.2.1++ [x.2.1]),()),(-1:Int),())))
   |false=>
    some (.inl ((x.1.1,x.1.2.1,(x.1.2.2.1++ [x.2.1]),()),v2.1,())))
noncomputable def cL(x:Ty.T UO):Option (Ty.T UP):=
match ac bi ((x.1.1,x.1.2.1,x.1.2.2.1,()),x.2.1,())with
|none=>none
|some (.inl v3)=>
 none
|some (.inr v4)=>
 some (v4.2.1,(v4.1.1,v4.1.2.1,v4.1.2.2.1,()),())
noncomputable def wd:ae:=⟨_,aO,Se,rfl,cL⟩
noncomputable def lZ:FuncId→Option ae:=bU [(129,jG),(231,mJ)]
theorem tg:∀f s,lZ f=some s→FnOK G0 Tryz.prog f s:=aM ⟨mK,lY,trivial⟩
def lr:aX:=⟨[0,1],dK,999999,[],.unit,[0,4],dK⟩
noncomputable def l0:List aJ:=[lr.spec bi]
theorem rQ:bq bI E0 lZ (bo Tryz.f233 l0) Tryz.f233 0 lr bi:=fun x=>by kernel_rfl
theorem uZ:FnOK G0 Tryz.prog 233 wd:=aP ao tg Tryz.func233 l0 (by kernel_rfl) (by exact⟨(rQ).lok,trivial⟩) fun x=>by kernel_rfl
noncomputable def jp(x:Ty.T Se):Option (Ty.T UP):=
match bB ((x.1.1,x.1.2.1,x.1.2.2.1,()),(-1:Int),(0:Int),())with
|none=>none
|some v1=>
match(decide (v1.1<(0:Int)))with
|true=>
 some ((4:Int),(x.1.1,x.1.2.1,x.1.2.2.1,()),())
|false=>
 match bB ((x.1.1,x.1.2.1,x.1.2.2.1,()),v1.1,(1:Int),())with
 |none=>none
 |some v2=>
 match uG ((IntKind.i64.wrap (v2.1-v1.1)),())with
 |none=>none
 |some v3=>
 match fv (v3.1,())with
 |none=>none
 |some v4=>
 match(!v4.1)with
 |true=>
  some ((6:Int),(x.1.1,v3.1,x.1.2.2.1,()),())
 |false=>
  match bB ((x.1.1,v3.1,x.1.2.2.1,()),v2.1,(0:Int),())with
  |none=>none
  |some v5=>
  match(decide (v5.1<(0:Int)))with
  |true=>
   some ((6:Int),(x.1.1,v3.1,x.1.2.2.1,()),())
  |false=>
   match(decide ((IntKind.i64.wrap (v5.1-v2.1))>(19:Int)))with
   |true=>
    some ((6:Int),(x.1.1,v3.1,x.1.2.2.1,()),())
   |false=>
    match(decide ((IntKind.i64.wrap (v5.1-v2.1))<(5:Int)))with
    |true=>
     some ((6:Int),(x.1.1,v3.1,x.1.2.2.1,()),())
    |false=>
     match((IntKind.i64.wrap (v5.1-v2.1))==(12:Int))with
     |true=>
      some ((6:Int),(x.1.1,v3.1,x.1.2.2.1,()),())
     |false=>
      match(decide ((IntKind.i64.wrap (v5.1-v2.1))≥(13:Int)))with
      |true=>
       match cL ((x.1.1,v3.1,x.1.2.2.1,()),v5.1,())with
       |none=>none
       |some v6=>
       match(decide (v6.1<(0:Int)))with
       |true=>
        some ((6:Int),(v6.2.1.1,v6.2.1.2.1,v6.2.1.2.2.1,()),())
       |false=>
        match bB ((v6.2.1.1,v6.2.1.2.1,v6.2.1.2.2.1,()),(IntKind.i64.wrap (v6.1+(11:Int))),(0:Int),())with
        |none=>none
        |some v7=>
        match(decide (v7.1≥(0:Int)))with
        |true=>
         some ((6:Int),(v6.2.1.1,v6.2.1.2.1,v6.2.1.2.2.1,()),())
        |false=>
         some ((0:Int),(v6.2.1.1,v6.2.1.2.1,v6.2.1.2.2.1,()),())
      |false=>
       match bB ((x.1.1,v3.1,x.1.2.2.1,()),(IntKind.i64.wrap (v5.1+(11:Int))),(0:Int),())with
       |none=>none
       |some v8=>
       match(decide (v8.1≥(0:Int)))with
       |true=>
        some ((6:Int),(x.1.1,v3.1,x.1.2.2.1,()),())
       |false=>
        some ((0:Int),(x.1.1,v3.1,x.1.2.2.1,()),())
noncomputable def AH:ae:=⟨_,aO,Se,rfl,jp⟩
theorem yH:FnOK G0 Tryz.prog 181 AH:=an ao (sg pd (sg lY (sg Hl (sg uZ (aR))))) Tryz.func181
noncomputable def nd(x:Ty.T kh):Option (Ty.T Sa):=
match jf (x.1,())with
|none=>none
|some v1=>
match(!v1.1)with
|true=>
 some (none,(1:Int),())
|false=>
 match jp ((x.1,(0:Int),[],()),())with
 |none=>none
 |some v2=>
 match(v2.1 != (0:Int))with
 |true=>
  some (none,v2.1,())
 |false=>
  some ((some (v2.2.1.1,v2.2.1.2.1,v2.2.1.2.2.1,())),(0:Int),())
noncomputable def vG:ae:=⟨_,Sa,.unit,rfl,nd⟩
theorem Fw:FnOK G0 Tryz.prog 127 vG:=an ao (sg mI (sg yH (aR))) Tryz.func127
abbrev rR:Ty:=Sd
noncomputable def iE(x:(Ty.T rR)):Option ((Ty.T rR) ⊕ ((Ty.T br) ⊕ (Ty.T .unit))):=
match(decide (x.2.2.1<(9:Int)))with
|true=>
 aD (x.2.1.length+ [(IntKind.i64.wrap ((IntKind.i64.wrap (x.1+(IntKind.i64.wrap ((8:Int)*x.2.2.1))))+(12:Int)))].length) (
  some (.inl (x.1,(x.2.1++ [(IntKind.i64.wrap ((IntKind.i64.wrap (x.1+(IntKind.i64.wrap ((8:Int)*x.2.2.1))))+(12:Int)))]),(IntKind.i64.wrap (x.2.2.1+(1:Int))),())))
|false=>
 some (.inr (.inl (x.2.1,())))
noncomputable def vH(x:Ty.T aO):Option (Ty.T br):=
match ac iE (x.1,[],(0:Int),())with
|none=>none
|some (.inl v1)=>
 some (v1.1,())
|some (.inr v3)=>
 none
noncomputable def Eh:ae:=⟨_,br,.unit,rfl,vH⟩
noncomputable def Ck:FuncId→Option ae:=bU []
theorem Jb:∀f s,Ck f=some s→FnOK G0 Tryz.prog f s:=aM trivial
def Ad:aX:=⟨[0,3,6],rR,0,[3],br,[],.unit⟩
noncomputable def Cl:List aJ:=[Ad.spec iE]
theorem Hm:bq bI E0 Ck (bo Tryz.f128 Cl) Tryz.f128 0 Ad iE:=fun x=>by kernel_rfl
theorem Ms:FnOK G0 Tryz.prog 128 Eh:=aP ao Jb Tryz.func128 Cl (by kernel_rfl) (by exact⟨(Hm).lok,trivial⟩) fun x=>by kernel_rfl
abbrev lu:Ty:=(.pair (.nptr nQ) (.pair (.own 2 (.int .i64)) (.pair (.int .i64) (.pair (.list (.int .i64)) (.pair (.int .i64) (.pair (.int .i64) (.pair (.own 2 (.int .i64)) bE)))))))
abbrev qT:Ty:=(.pair (.nptr nQ) (.pair (.own 2 (.int .i64)) (.pair (.int .i64) (.pair (.list (.int .i64)) bE))))
noncomputable def dL(x:(Ty.T lu)):Option ((Ty.T lu) ⊕ ((Ty.T qT) ⊕ (Ty.T .unit))):=
match(decide (x.2.2.2.2.2.2.2.2.1<x.2.2.2.2.2.2.2.1))with
|true=>
 ab (au x.2.2.2.2.2.2.1 x.2.2.2.2.2.2.2.2.1) fun _=>
 match x.2.2.2.2.2.2.1[x.2.2.2.2.2.2.2.2.1.toNat]? with
 |none=>none
 |some v7=>
 match fK (x.1,v7,())with
 |none=>none
 |some v8=>
 some (.inl (x.1,x.2.1,(IntKind.i64.wrap ((IntKind.i64.wrap ((2:Int)*x.2.2.1))+v8.1)),x.2.2.2.1,x.2.2.2.2.1,x.2.2.2.2.2.1,x.2.2.2.2.2.2.1,x.2.2.2.2.2.2.2.1,(IntKind.i64.wrap (x.2.2.2.2.2.2.2.2.1+(1:Int))),()))
|false=>
 some (.inr (.inl (x.1,x.2.1,x.2.2.1,x.2.2.2.1,x.2.2.2.2.1,x.2.2.2.2.2.1,())))
abbrev mu:Ty:=(.pair (.nptr nQ) (.pair (.own 2 (.int .i64)) (.pair (.list (.int .i64)) bE)))
noncomputable def eo(x:(Ty.T mu)):Option ((Ty.T mu) ⊕ ((Ty.T br) ⊕ (Ty.T .unit))):=
match(decide (x.2.2.2.2.1<x.2.2.2.1))with
|true=>
 ab (au x.2.2.1 x.2.2.2.2.1) fun v3=>
 match vH (v3,())with
 |none=>none
 |some v4=>
 ab (aK v4.1.length none (some (.dat (.int .i64) (8:Int)))) fun v5=>
 match ac dL (x.1,x.2.1,(0:Int),x.2.2.1,x.2.2.2.1,x.2.2.2.2.1,(List.take v5.2 v4.1),((List.take v5.2 v4.1).length:Int),(0:Int),())with
 |none=>none
 |some (.inl v6)=>
  aD (v6.2.1.length+ [v6.2.2.1].length) (
   some (.inl (v6.1,(v6.2.1++ [v6.2.2.1]),v6.2.2.2.1,v6.2.2.2.2.1,(IntKind.i64.wrap (v6.2.2.2.2.2.1+(1:Int))),())))
 |some (.inr v8)=>
  some (.inr (.inr (())))
|false=>
 some (.inr (.inl (x.2.1,())))
noncomputable def nf(x:Ty.T kh):Option (Ty.T jt):=
match nd (x.1,())with
|none=>none
|some v1=>
match(v1.2.1 != (0:Int))with
|true=>
 some ([],v1.2.1,())
|false=>
 ab v1.1 fun v2=>
 match ac eo (v1.1,[],v2.2.2.1,(v2.2.2.1.length:Int),(0:Int),())with
 |none=>none
 |some (.inl v9)=>
  some (v9.1,(0:Int),())
 |some (.inr v11)=>
  none
noncomputable def Hn:ae:=⟨_,jt,.unit,rfl,nf⟩
noncomputable def ns:FuncId→Option ae:=bU [(127,vG),(128,Eh),(129,jG)]
theorem Cm:∀f s,ns f=some s→FnOK G0 Tryz.prog f s:=aM ⟨Fw,Ms,mK,trivial⟩
def sP:aX:=⟨[4,6,24,25,26],mu,0,[6],br,[],.unit⟩
def qU:aX:=⟨[4,6,9,24,25,26,32,33,34],lu,2,[4,6,9,24,25,26],qT,[],.unit⟩
noncomputable def nt:List aJ:=[sP.spec eo,qU.spec dL]
theorem AI:bq bI E0 ns (bo Tryz.f76 nt) Tryz.f76 0 sP eo:=fun x=>by kernel_rfl
theorem yI:bq bI E0 ns (bo Tryz.f76 nt) Tryz.f76 1 qU dL:=fun x=>by kernel_rfl
theorem Fx:FnOK G0 Tryz.prog 76 Hn:=aP ao Cm Tryz.func76 nt (by kernel_rfl) (by exact⟨(AI).lok,(yI).lok,trivial⟩) fun x=>by kernel_rfl
noncomputable def kD(x:Ty.T kh):Option (Ty.T jt):=
match nc (x.1,())with
|none=>none
|some v1=>
match(v1.2.1 != (0:Int))with
|true=>
 some ([],v1.2.1,())
|false=>
 match nf (v1.1,())with
 |none=>none
 |some v2=>
 some (v2.1,v2.2.1,())
noncomputable def DB:ae:=⟨_,jt,.unit,rfl,kD⟩
theorem Cn:FnOK G0 Tryz.prog 33 DB:=an ao (sg Fv (sg Fx (aR))) Tryz.func33
noncomputable def qV(x:Ty.T Io):Option (Ty.T Bb):=
match kD (x.2.2.1,())with
|none=>none
|some v1=>
match(v1.2.1==(0:Int))with
|true=>
 match pS ((x.1.1,x.1.2.1,x.1.2.2.1,x.1.2.2.2.1,()),(x.2.1.1,x.2.1.2.1,x.2.1.2.2.1,x.2.1.2.2.2.1,x.2.1.2.2.2.2.1,()),v1.1,())with
 |none=>none
 |some v2=>
 some ((v2.1.1,(v2.1.2.1.1,v2.1.2.1.2.1,(v2.1.2.1.2.2.1.1,v2.1.2.1.2.2.1.2.1,v2.1.2.1.2.2.1.2.2.1,v2.1.2.1.2.2.1.2.2.2.1,v2.1.2.1.2.2.1.2.2.2.2.1,()),v2.1.2.1.2.2.2.1,()),()),v2.2.1,())
|false=>
 match(v1.2.1==(4:Int))with
 |true=>
  some (((0:Int),((0:Int),(0:Int),((0:Int),(0:Int),(0:Int),(0:Int),(0:Int),()),[],()),()),v1.2.1,())
 |false=>
  some (((1:Int),((0:Int),(0:Int),((0:Int),(0:Int),(0:Int),(0:Int),(0:Int),()),[],()),()),v1.2.1,())
noncomputable def N0:ae:=⟨_,Bb,.unit,rfl,qV⟩
theorem Mu:FnOK G0 Tryz.prog 56 N0:=an ao (sg Cn (sg Hb (aR))) Tryz.func56
noncomputable def eK(x:Ty.T Io):Option (Ty.T Bb):=
match jf (x.2.2.1,())with
|none=>none
|some v1=>
match ko ((x.1.1,x.1.2.1,x.1.2.2.1,x.1.2.2.2.1,()),(x.2.1.1,x.2.1.2.1,x.2.1.2.2.1,x.2.1.2.2.2.1,x.2.1.2.2.2.2.1,()),v1.1,())with
|none=>none
|some v2=>
match(v2.1 != (0:Int))with
|true=>
 some (((0:Int),((0:Int),(0:Int),((0:Int),(0:Int),(0:Int),(0:Int),(0:Int),()),[],()),()),v2.1,())
|false=>
 match qV ((x.1.1,x.1.2.1,x.1.2.2.1,x.1.2.2.2.1,()),(x.2.1.1,x.2.1.2.1,x.2.1.2.2.1,x.2.1.2.2.2.1,x.2.1.2.2.2.2.1,()),x.2.2.1,())with
 |none=>none
 |some v3=>
 some ((v3.1.1,(v3.1.2.1.1,v3.1.2.1.2.1,(v3.1.2.1.2.2.1.1,v3.1.2.1.2.2.1.2.1,v3.1.2.1.2.2.1.2.2.1,v3.1.2.1.2.2.1.2.2.2.1,v3.1.2.1.2.2.1.2.2.2.2.1,()),v3.1.2.1.2.2.2.1,()),()),(0:Int),())
noncomputable def Co:ae:=⟨_,Bb,.unit,rfl,eK⟩
theorem pz:FnOK G0 Tryz.prog 14 Co:=an ao (sg uv (sg mI (sg Mu (aR)))) Tryz.func14
noncomputable def mL(x:Ty.T Uk):Option (Ty.T ax):=
match(x.1.1==x.2.1.1)with
|true=>
 match(x.1.2.1==x.2.1.2.1)with
 |true=>
  match(dE ak (x.1.2.2.1.1,x.1.2.2.1.2.1,x.1.2.2.1.2.2.1,x.1.2.2.1.2.2.2.1,x.1.2.2.1.2.2.2.2.1,()) (x.2.1.2.2.1.1,x.2.1.2.2.1.2.1,x.2.1.2.2.1.2.2.1,x.2.1.2.2.1.2.2.2.1,x.2.1.2.2.1.2.2.2.2.1,()))with
  |true=>
   match bb (x.1.2.2.2.1,x.2.1.2.2.2.1,())with
   |none=>none
   |some v1=>
   some (v1.1,())
  |false=>
   some (false,())
 |false=>
  some (false,())
|false=>
 some (false,())
noncomputable def K1:ae:=⟨_,ax,.unit,rfl,mL⟩
theorem Jc:FnOK G0 Tryz.prog 57 K1:=an ao (sg gt (aR)) Tryz.func57
noncomputable def gN(x:Ty.T Um):Option (Ty.T ax):=
match(x.1.1==x.2.1.1)with
|true=>
 match mL ((x.1.2.1.1,x.1.2.1.2.1,(x.1.2.1.2.2.1.1,x.1.2.1.2.2.1.2.1,x.1.2.1.2.2.1.2.2.1,x.1.2.1.2.2.1.2.2.2.1,x.1.2.1.2.2.1.2.2.2.2.1,()),x.1.2.1.2.2.2.1,()),(x.2.1.2.1.1,x.2.1.2.1.2.1,(x.2.1.2.1.2.2.1.1,x.2.1.2.1.2.2.1.2.1,x.2.1.2.1.2.2.1.2.2.1,x.2.1.2.1.2.2.1.2.2.2.1,x.2.1.2.1.2.2.1.2.2.2.2.1,()),x.2.1.2.1.2.2.2.1,()),())with
 |none=>none
 |some v1=>
 some (v1.1,())
|false=>
 some (false,())
noncomputable def Ho:ae:=⟨_,ax,.unit,rfl,gN⟩
theorem Fy:FnOK G0 Tryz.prog 15 Ho:=an ao (sg Jc (aR)) Tryz.func15
noncomputable def ep(x:Ty.T Im):Option (Ty.T ax):=
match qg (x.1,())with
|none=>none
|some v1=>
match v1.1 with
|true=>
 some (true,())
|false=>
 match gg (x.1,())with
 |none=>none
 |some v2=>
 match jC v2 with
 |none=>none
 |some v3=>
 match jD v2 with
 |none=>none
 |some v4=>
 match(v3.2.1 != v4.2.1)with
 |true=>
  some (false,())
 |false=>
  match jF (v3.1,v4.1,())with
  |none=>none
  |some v5=>
  match(!v5.1)with
  |true=>
   some (false,())
  |false=>
   match(v3.2.1 != (0:Int))with
   |true=>
    some (true,())
   |false=>
    match(decide ((v2.2.2.1.length:Int)>(80:Int)))with
    |true=>
     some (true,())
    |false=>
     match qR (v2.2.2.1,(8:Int),())with
     |none=>none
     |some v6=>
     match eJ (v6.1,())with
     |none=>none
     |some v7=>
     match eK (v2.1,v2.2.1,v7.1,())with
     |none=>none
     |some v8=>
     match(v6.2.1==(0:Int))with
     |true=>
      match(v7.2.1==(0:Int))with
      |true=>
       match(v8.2.1==(0:Int))with
       |true=>
        match gN (v3.1,v8.1,())with
        |none=>none
        |some v9=>
        some (v9.1,())
       |false=>
        some (false,())
      |false=>
       some (false,())
     |false=>
      some (false,())
noncomputable def AJ:ae:=⟨_,ax,.unit,rfl,ep⟩
theorem yJ:FnOK G0 Tryz.prog 3 AJ:=an ao (sg L0 (sg xl (sg Dx (sg Dy (sg Dz (sg Mq (sg pw (sg pz (sg Fy (aR)))))))))) Tryz.func3
noncomputable def gR(x:Ty.T Im):Option (Ty.T tM):=
match qG (x.1,())with
|none=>none
|some v1=>
match kZ ((v1.1.1,v1.1.2.1,v1.1.2.2.1,()),())with
|none=>none
|some v2=>
some ((v2.1.1,v2.1.2.1,v2.1.2.2.1,v2.1.2.2.2.1,()),(v2.2.1.1,v2.2.1.2.1,v2.2.1.2.2.1,v2.2.1.2.2.2.1,v2.2.1.2.2.2.2.1,()),(v2.2.2.1.1,v2.2.2.1.2.1,(v2.2.2.1.2.2.1.1,v2.2.2.1.2.2.1.2.1,v2.2.2.1.2.2.1.2.2.1,v2.2.2.1.2.2.1.2.2.2.1,v2.2.2.1.2.2.1.2.2.2.2.1,()),v2.2.2.1.2.2.2.1,()),())
noncomputable def AK:ae:=⟨_,tM,.unit,rfl,gR⟩
theorem yK:FnOK G0 Tryz.prog 16 AK:=an ao (sg BL (sg BW (aR))) Tryz.func16
noncomputable def io(x:Ty.T R8):Option (Ty.T ax):=
match eX ((x.1.1,x.1.2.1,x.1.2.2.1,x.1.2.2.2.1,x.1.2.2.2.2.1,()),())with
|none=>none
|some v1=>
match v1.1 with
|true=>
 match ex ((x.2.1.1,x.2.1.2.1,(x.2.1.2.2.1.1,x.2.1.2.2.1.2.1,x.2.1.2.2.1.2.2.1,x.2.1.2.2.1.2.2.2.1,x.2.1.2.2.1.2.2.2.2.1,()),x.2.1.2.2.2.1,()),())with
 |none=>none
 |some v2=>
 match v2.1 with
 |true=>
  match uw ((x.1.1,x.1.2.1,x.1.2.2.1,x.1.2.2.2.1,x.1.2.2.2.2.1,()),(x.2.1.1,x.2.1.2.1,(x.2.1.2.2.1.1,x.2.1.2.2.1.2.1,x.2.1.2.2.1.2.2.1,x.2.1.2.2.1.2.2.2.1,x.2.1.2.2.1.2.2.2.2.1,()),x.2.1.2.2.2.1,()),())with
  |none=>none
  |some v3=>
  some (v3.1,())
 |false=>
  some (false,())
|false=>
 some (false,())
noncomputable def Cp:ae:=⟨_,ax,.unit,rfl,io⟩
theorem AL:FnOK G0 Tryz.prog 34 Cp:=an ao (sg Ca (sg sG (sg J1 (aR)))) Tryz.func34
noncomputable def ip(x:Ty.T tM):Option (Ty.T ax):=
match cK ((x.1.1,x.1.2.1,x.1.2.2.1,x.1.2.2.2.1,()),(x.2.1.1,x.2.1.2.1,x.2.1.2.2.1,x.2.1.2.2.2.1,x.2.1.2.2.2.2.1,()),())with
|none=>none
|some v1=>
match io (v1.1,(x.2.2.1.1,x.2.2.1.2.1,(x.2.2.1.2.2.1.1,x.2.2.1.2.2.1.2.1,x.2.2.1.2.2.1.2.2.1,x.2.2.1.2.2.1.2.2.2.1,x.2.2.1.2.2.1.2.2.2.2.1,()),x.2.2.1.2.2.2.1,()),())with
|none=>none
|some v2=>
match v2.1 with
|true=>
 match fY (x.2.2.1.1,())with
 |none=>none
 |some v3=>
 match(!v3.1)with
 |true=>
  some (true,())
 |false=>
  some ((dE ak (x.2.2.1.2.2.1.1,x.2.2.1.2.2.1.2.1,x.2.2.1.2.2.1.2.2.1,x.2.2.1.2.2.1.2.2.2.1,x.2.2.1.2.2.1.2.2.2.2.1,()) (x.2.1.1,x.2.1.2.1,x.2.1.2.2.1,x.2.1.2.2.2.1,x.2.1.2.2.2.2.1,())),())
|false=>
 some (false,())
noncomputable def Jd:ae:=⟨_,ax,.unit,rfl,ip⟩
theorem vI:FnOK G0 Tryz.prog 67 Jd:=an ao (sg AL (sg iP (sg kl (aR)))) Tryz.func67
noncomputable def jY(x:Ty.T tM):Option (Ty.T aO):=
match fp ((x.1.1,x.1.2.1,x.1.2.2.1,x.1.2.2.2.1,()),(x.2.1.1,x.2.1.2.1,x.2.1.2.2.1,x.2.1.2.2.2.1,x.2.1.2.2.2.2.1,()),())with
|none=>none
|some v1=>
match(v1.1 != (0:Int))with
|true=>
 some (v1.1,())
|false=>
 match ip ((x.1.1,x.1.2.1,x.1.2.2.1,x.1.2.2.2.1,()),(x.2.1.1,x.2.1.2.1,x.2.1.2.2.1,x.2.1.2.2.2.1,x.2.1.2.2.2.2.1,()),(x.2.2.1.1,x.2.2.1.2.1,(x.2.2.1.2.2.1.1,x.2.2.1.2.2.1.2.1,x.2.2.1.2.2.1.2.2.1,x.2.2.1.2.2.1.2.2.2.1,x.2.2.1.2.2.1.2.2.2.2.1,()),x.2.2.1.2.2.2.1,()),())with
 |none=>none
 |some v2=>
 match(!v2.1)with
 |true=>
  some ((5:Int),())
 |false=>
  some ((0:Int),())
noncomputable def Mv:ae:=⟨_,aO,.unit,rfl,jY⟩
theorem Ae:FnOK G0 Tryz.prog 61 Mv:=an ao (sg vI (sg rL (aR))) Tryz.func61
noncomputable def jq(x:Ty.T (.pair .nil (.pair (.int .i64) .unit))):Option (Ty.T br):=
match(decide (x.2.1<(0:Int)))with
|true=>
 none
|false=>
 match(decide ((IntKind.i64.wrap (x.2.1-(IntKind.i64.wrap ((0:Int)-(0:Int)))))>(0:Int)))with
 |true=>
  ab (aK 0 none (some (.dat (.int .i64) (0:Int)))) fun v1=>
  if 0≤(IntKind.i64.wrap (x.2.1-(IntKind.i64.wrap ((0:Int)-(0:Int)))))then
   aD ((IntKind.i64.wrap (x.2.1-(IntKind.i64.wrap ((0:Int)-(0:Int))))).toNat) (
    ab (aK (List.replicate (IntKind.i64.wrap (x.2.1-(IntKind.i64.wrap ((0:Int)-(0:Int))))).toNat (0:Int)).length none (some (.dat (.int .i64) (0:Int)))) fun v2=>
    some ((List.take v2.2 (List.replicate (IntKind.i64.wrap (x.2.1-(IntKind.i64.wrap ((0:Int)-(0:Int))))).toNat (0:Int))),()))
  else none
 |false=>
  some ([],())
noncomputable def pA:ae:=⟨_,br,.unit,rfl,jq⟩
theorem yL:FnOK G0 Tryz.prog 108 pA:=an ao aR Tryz.func108
abbrev iz:Ty:=(.pair (.list (.list (.int .i64))) (.pair (.int .i64) (.pair (.list (.list (.int .i64))) bE)))
abbrev l6:Ty:=(.pair (.list (.list (.int .i64))) (.pair (.int .i64) .unit))
noncomputable def cj(x:(Ty.T iz)):Option ((Ty.T iz) ⊕ ((Ty.T l6) ⊕ (Ty.T .unit))):=
match(decide (x.2.2.2.2.1<x.2.2.2.1))with
|true=>
 ab (au x.2.2.1 x.2.2.2.2.1) fun v1=>
 match(decide ((IntKind.i64.wrap (x.2.1+(v1.length:Int)))<(0:Int)))with
 |true=>
  none
 |false=>
  some (.inl (x.1,(IntKind.i64.wrap (x.2.1+(v1.length:Int))),x.2.2.1,x.2.2.2.1,(IntKind.i64.wrap (x.2.2.2.2.1+(1:Int))),()))
|false=>
 some (.inr (.inl (x.1,x.2.1,())))
abbrev iq:Ty:=(.pair (.own 2 (.int .i64)) (.pair (.list (.list (.int .i64))) bE))
noncomputable def cd(x:(Ty.T iq)):Option ((Ty.T iq) ⊕ ((Ty.T br) ⊕ (Ty.T .unit))):=
match(decide (x.2.2.2.1<x.2.2.1))with
|true=>
 ab (au x.2.1 x.2.2.2.1) fun v5=>
 aD (x.1.length+v5.length) (
  some (.inl ((x.1++v5),x.2.1,x.2.2.1,(IntKind.i64.wrap (x.2.2.2.1+(1:Int))),())))
|false=>
 some (.inr (.inl (x.1,())))
noncomputable def fL(x:Ty.T (.pair (.list (.list (.int .i64))) .unit)):Option (Ty.T br):=
match ac cj (x.1,(0:Int),x.1,(x.1.length:Int),(0:Int),())with
|none=>none
|some (.inl v2)=>
 match jq ((),v2.2.1,())with
 |none=>none
 |some v4=>
 match ac cd (v4.1,v2.1,(v2.1.length:Int),(0:Int),())with
 |none=>none
 |some (.inl v6)=>
  some (v6.1,())
 |some (.inr v8)=>
  none
|some (.inr v9)=>
 none
noncomputable def xF:ae:=⟨_,br,.unit,rfl,fL⟩
noncomputable def jg:FuncId→Option ae:=bU [(108,pA)]
theorem uH:∀f s,jg f=some s→FnOK G0 Tryz.prog f s:=aM ⟨yL,trivial⟩
def l7:aX:=⟨[0,3,9,10,11],iz,0,[0,3],l6,[],.unit⟩
def lv:aX:=⟨[6,25,26,27],iq,2,[6],br,[],.unit⟩
noncomputable def jh:List aJ:=[l7.spec cj,lv.spec cd]
theorem th:bq bI E0 jg (bo Tryz.f62 jh) Tryz.f62 0 l7 cj:=fun x=>by kernel_rfl
theorem rS:bq bI E0 jg (bo Tryz.f62 jh) Tryz.f62 1 lv cd:=fun x=>by kernel_rfl
theorem we:FnOK G0 Tryz.prog 62 xF:=aP ao uH Tryz.func62 jh (by kernel_rfl) (by exact⟨(th).lok,(rS).lok,trivial⟩) fun x=>by kernel_rfl
noncomputable def dy(x:Ty.T oE):Option (Ty.T br):=ab (EI x.1 x.2.1) fun s=>some (s,())
noncomputable def oa:ae:=⟨oE,br,.unit,rfl,dy⟩
theorem mM:FnOK G0 Tryz.prog 109 oa:=QR (oC Tryz.func109 (by kernel_rfl) (show Tryz.f109.body=some (gQ Tryz.f109) by kernel_rfl))
noncomputable def ob(x:Ty.T aO):Option (Ty.T br):=
match dy ([(1:Int)],x.1,())with
|none=>none
|some v1=>
some (v1.1,())
noncomputable def QW:ae:=⟨_,br,.unit,rfl,ob⟩
theorem PU:FnOK G0 Tryz.prog 63 QW:=an ao (sg mM (aR)) Tryz.func63
noncomputable def qW(x:Ty.T Uy):Option (Ty.T br):=
match fq ((x.1.1,x.1.2.1,(x.1.2.2.1.1,x.1.2.2.1.2.1,x.1.2.2.1.2.2.1,x.1.2.2.1.2.2.2.1,x.1.2.2.1.2.2.2.2.1,()),x.1.2.2.2.1,()),())with
|none=>none
|some v1=>
match gK (x.1.1,v1.1,x.2.1,(x.2.2.1.1,x.2.2.1.2.1,x.2.2.1.2.2.1,x.2.2.1.2.2.2.1,x.2.2.1.2.2.2.2.1,()),())with
|none=>none
|some v2=>
match jB (v2.1,())with
|none=>none
|some v3=>
aD (v1.1.length+v3.1.length) (
 some ((v1.1++v3.1),()))
noncomputable def Sl:ae:=⟨_,br,.unit,rfl,qW⟩
theorem J5:FnOK G0 Tryz.prog 64 Sl:=an ao (sg Ed (sg vE (sg uA (aR)))) Tryz.func64
noncomputable def ji(x:Ty.T tM):Option (Ty.T jt):=
match jY ((x.1.1,x.1.2.1,x.1.2.2.1,x.1.2.2.2.1,()),(x.2.1.1,x.2.1.2.1,x.2.1.2.2.1,x.2.1.2.2.2.1,x.2.1.2.2.2.2.1,()),(x.2.2.1.1,x.2.2.1.2.1,(x.2.2.1.2.2.1.1,x.2.2.1.2.2.1.2.1,x.2.2.1.2.2.1.2.2.1,x.2.2.1.2.2.1.2.2.2.1,x.2.2.1.2.2.1.2.2.2.2.1,()),x.2.2.1.2.2.2.1,()),())with
|none=>none
|some v1=>
match(v1.1 != (0:Int))with
|true=>
 some ([],v1.1,())
|false=>
 match ob ((8:Int),())with
 |none=>none
 |some v2=>
 match qW ((x.2.2.1.1,x.2.2.1.2.1,(x.2.2.1.2.2.1.1,x.2.2.1.2.2.1.2.1,x.2.2.1.2.2.1.2.2.1,x.2.2.1.2.2.1.2.2.2.1,x.2.2.1.2.2.1.2.2.2.2.1,()),x.2.2.1.2.2.2.1,()),x.1.1,(x.2.1.1,x.2.1.2.1,x.2.1.2.2.1,x.2.1.2.2.2.1,x.2.1.2.2.2.2.1,()),())with
 |none=>none
 |some v3=>
 match lm (v3.1,(8:Int),())with
 |none=>none
 |some v4=>
 match fL ([v2.1,v4.1],())with
 |none=>none
 |some v5=>
 match cK ((x.1.1,x.1.2.1,x.1.2.2.1,x.1.2.2.2.1,()),(x.2.1.1,x.2.1.2.1,x.2.1.2.2.1,x.2.1.2.2.2.1,x.2.1.2.2.2.2.1,()),())with
 |none=>none
 |some v6=>
 match ob ((IntKind.i64.wrap (v6.1.2.2.2.1-(v5.1.length:Int))),())with
 |none=>none
 |some v7=>
 aD (v5.1.length+v7.1.length) (
  some ((v5.1++v7.1),(0:Int),()))
noncomputable def K2:ae:=⟨_,jt,.unit,rfl,ji⟩
theorem xG:FnOK G0 Tryz.prog 19 K2:=an ao (sg uC (sg Ae (sg we (sg PU (sg J5 (sg iP (aR))))))) Tryz.func19
noncomputable def kq(x:Ty.T tM):Option (Ty.T jt):=
match ji ((x.1.1,x.1.2.1,x.1.2.2.1,x.1.2.2.2.1,()),(x.2.1.1,x.2.1.2.1,x.2.1.2.2.1,x.2.1.2.2.2.1,x.2.1.2.2.2.2.1,()),(x.2.2.1.1,x.2.2.1.2.1,(x.2.2.1.2.2.1.1,x.2.2.1.2.2.1.2.1,x.2.2.1.2.2.1.2.2.1,x.2.2.1.2.2.1.2.2.2.1,x.2.2.1.2.2.1.2.2.2.2.1,()),x.2.2.1.2.2.2.1,()),())with
|none=>none
|some v1=>
match(v1.2.1 != (0:Int))with
|true=>
 some ([],v1.2.1,())
|false=>
 match eJ (v1.1,())with
 |none=>none
 |some v2=>
 some (v2.1,v2.2.1,())
noncomputable def Hp:ae:=⟨_,jt,.unit,rfl,kq⟩
theorem Fz:FnOK G0 Tryz.prog 17 Hp:=an ao (sg pw (sg xG (aR))) Tryz.func17
abbrev nu:Ty:=(.pair (.list (.int .i64)) (.pair (.list (.int .i64)) (.pair (.own 2 (.int .i64)) bE)))
abbrev uI:Ty:=UN
noncomputable def eL(x:(Ty.T nu)):Option ((Ty.T nu) ⊕ ((Ty.T uI) ⊕ (Ty.T .unit))):=
ab (au x.2.1 x.2.2.2.1) fun v1=>
match(decide (x.2.2.2.2.1<v1))with
|true=>
 ab (au x.1 x.2.2.2.1) fun v2=>
 aD (x.2.2.1.length+ [v2].length) (
  some (.inl (x.1,x.2.1,(x.2.2.1++ [v2]),x.2.2.2.1,(IntKind.i64.wrap (x.2.2.2.2.1+(1:Int))),())))
|false=>
 some (.inr (.inl (x.1,x.2.1,x.2.2.1,x.2.2.2.1,())))
abbrev nv:Ty:=UN
noncomputable def eM(x:(Ty.T nv)):Option ((Ty.T nv) ⊕ ((Ty.T br) ⊕ (Ty.T .unit))):=
match(decide (x.2.2.2.1<(x.1.length:Int)))with
|true=>
 match ac eL (x.1,x.2.1,x.2.2.1,x.2.2.2.1,(0:Int),())with
 |none=>none
 |some (.inl v1)=>
  some (.inl (v1.1,v1.2.1,v1.2.2.1,(IntKind.i64.wrap (v1.2.2.2.1+(1:Int))),()))
 |some (.inr v3)=>
  some (.inr (.inr (())))
|false=>
 some (.inr (.inl (x.2.2.1,())))
noncomputable def uJ(x:Ty.T PF):Option (Ty.T br):=
match ac eM (x.1,x.2.1,[],(0:Int),())with
|none=>none
|some (.inl v4)=>
 some (v4.1,())
|some (.inr v6)=>
 none
noncomputable def Je:ae:=⟨_,br,.unit,rfl,uJ⟩
noncomputable def pf:FuncId→Option ae:=bU []
theorem DC:∀f s,pf f=some s→FnOK G0 Tryz.prog f s:=aM trivial
def uK:aX:=⟨[0,1,5,6],nv,0,[5],br,[],.unit⟩
def uL:aX:=⟨[0,1,5,6,7],nu,2,[0,1,5,6],uI,[],.unit⟩
noncomputable def pg:List aJ:=[uK.spec eM,uL.spec eL]
theorem Cq:bq bI E0 pf (bo Tryz.f106 pg) Tryz.f106 0 uK eM:=fun x=>by kernel_rfl
theorem Cr:bq bI E0 pf (bo Tryz.f106 pg) Tryz.f106 1 uL eL:=fun x=>by kernel_rfl
theorem Hq:FnOK G0 Tryz.prog 106 Je:=aP ao DC Tryz.func106 pg (by kernel_rfl) (by exact⟨(Cq).lok,(Cr).lok,trivial⟩) fun x=>by kernel_rfl
noncomputable def lw(x:Ty.T kh):Option (Ty.T br):=
match eG ((x.1.length:Int),(8:Int),())with
|none=>none
|some v1=>
match uJ (x.1,v1.1,())with
|none=>none
|some v2=>
some (v2.1,())
noncomputable def Jf:ae:=⟨_,br,.unit,rfl,lw⟩
theorem Hr:FnOK G0 Tryz.prog 59 Jf:=an ao (sg rH (sg Hq (aR))) Tryz.func59
abbrev pU:Ty:=PG
noncomputable def fT(x:(Ty.T pU)):Option ((Ty.T pU) ⊕ ((Ty.T br) ⊕ (Ty.T .unit))):=
match(decide (x.2.2.1<(x.1.length:Int)))with
|true=>
 aD (x.2.1.length+ [(1:Int),(0:Int)].length) (
  ab (aK x.1.length (some (.dat (.int .i64) x.2.2.1)) (some (.dat (.int .i64) (IntKind.i64.wrap (x.2.2.1+(1:Int)))))) fun v1=>
  match jL ((List.drop v1.1 (List.take v1.2 x.1)),())with
  |none=>none
  |some v2=>
  aD ((x.2.1++ [(1:Int),(0:Int)]).length+v2.1.length) (
   some (.inl (x.1,((x.2.1++ [(1:Int),(0:Int)])++v2.1),(IntKind.i64.wrap (x.2.2.1+(1:Int))),()))))
|false=>
 some (.inr (.inl (x.2.1,())))
noncomputable def ph(x:Ty.T oE):Option (Ty.T br):=
if 0≤x.2.1∧x.2.1≤x.2.1 then
 aD (x.2.1.toNat) (
  aD ((List.replicate x.2.1.toNat (0:Int)).length+ [(1:Int)].length) (
   match ac fT (x.1,((List.replicate x.2.1.toNat (0:Int))++ [(1:Int)]),(0:Int),())with
   |none=>none
   |some (.inl v3)=>
    aD (v3.1.length+ [(0:Int),(1:Int)].length) (
     some ((v3.1++ [(0:Int),(1:Int)]),()))
   |some (.inr v5)=>
    none))
else none
noncomputable def Mw:ae:=⟨_,br,.unit,rfl,ph⟩
noncomputable def Af:FuncId→Option ae:=bU [(152,DT)]
theorem Hs:∀f s,Af f=some s→FnOK G0 Tryz.prog f s:=aM ⟨tP,trivial⟩
def xH:aX:=⟨[0,5,6],pU,0,[5],br,[],.unit⟩
noncomputable def Ag:List aJ:=[xH.spec fT]
theorem FA:bq bI E0 Af (bo Tryz.f107 Ag) Tryz.f107 0 xH fT:=fun x=>by kernel_rfl
theorem K3:FnOK G0 Tryz.prog 107 Mw:=aP ao Hs Tryz.func107 Ag (by kernel_rfl) (by exact⟨(FA).lok,trivial⟩) fun x=>by kernel_rfl
noncomputable def jZ(x:Ty.T tM):Option (Ty.T br):=
ai (
 match eG ((8:Int),(1:Int),())with
 |none=>none
 |some v1=>
 match gY ((x.2.2.1.1,x.2.2.1.2.1,(x.2.2.1.2.2.1.1,x.2.2.1.2.2.1.2.1,x.2.2.1.2.2.1.2.2.1,x.2.2.1.2.2.1.2.2.2.1,x.2.2.1.2.2.1.2.2.2.2.1,()),x.2.2.1.2.2.2.1,()),x.1.1,(x.2.1.1,x.2.1.2.1,x.2.1.2.2.1,x.2.1.2.2.2.1,x.2.1.2.2.2.2.1,()),())with
 |none=>none
 |some v2=>
 match ph (v2.1,(8:Int),())with
 |none=>none
 |some v3=>
 aD (v1.1.length+v3.1.length) (
  match ge ((x.1.1,x.1.2.1,x.1.2.2.1,x.1.2.2.2.1,()),(x.2.1.1,x.2.1.2.1,x.2.1.2.2.1,x.2.1.2.2.2.1,x.2.1.2.2.2.2.1,()),())with
  |none=>none
  |some v4=>
  match eG ((IntKind.i64.wrap (v4.1.2.2.2.1-((v1.1++v3.1).length:Int))),(1:Int),())with
  |none=>none
  |some v5=>
  aD ((v1.1++v3.1).length+v5.1.length) (
   some (((v1.1++v3.1)++v5.1),()))))
noncomputable def Mx:ae:=⟨_,br,.unit,rfl,jZ⟩
theorem Ah:FnOK G0 Tryz.prog 60 Mx:=an ao (sg tQ (sg rH (sg kS (sg K3 (aR))))) Tryz.func60
noncomputable def kr(x:Ty.T tM):Option (Ty.T jt):=
match iI ((x.1.1,x.1.2.1,x.1.2.2.1,x.1.2.2.2.1,()),(x.2.1.1,x.2.1.2.1,x.2.1.2.2.1,x.2.1.2.2.2.1,x.2.1.2.2.2.2.1,()),(x.2.2.1.1,x.2.2.1.2.1,(x.2.2.1.2.2.1.1,x.2.2.1.2.2.1.2.1,x.2.2.1.2.2.1.2.2.1,x.2.2.1.2.2.1.2.2.2.1,x.2.2.1.2.2.1.2.2.2.2.1,()),x.2.2.1.2.2.2.1,()),())with
|none=>none
|some v1=>
match(v1.1 != (0:Int))with
|true=>
 some ([],v1.1,())
|false=>
 match jZ ((x.1.1,x.1.2.1,x.1.2.2.1,x.1.2.2.2.1,()),(x.2.1.1,x.2.1.2.1,x.2.1.2.2.1,x.2.1.2.2.2.1,x.2.1.2.2.2.2.1,()),(x.2.2.1.1,x.2.2.1.2.1,(x.2.2.1.2.2.1.1,x.2.2.1.2.2.1.2.1,x.2.2.1.2.2.1.2.2.1,x.2.2.1.2.2.1.2.2.2.1,x.2.2.1.2.2.1.2.2.2.2.1,()),x.2.2.1.2.2.2.1,()),())with
 |none=>none
 |some v2=>
 match lw (v2.1,())with
 |none=>none
 |some v3=>
 some (v3.1,(0:Int),())
noncomputable def Ht:ae:=⟨_,jt,.unit,rfl,kr⟩
theorem FB:FnOK G0 Tryz.prog 18 Ht:=an ao (sg t6 (sg Hr (sg Ah (aR)))) Tryz.func18
noncomputable def mN(x:Ty.T tM):Option (Ty.T jt):=
match iI ((x.1.1,x.1.2.1,x.1.2.2.1,x.1.2.2.2.1,()),(x.2.1.1,x.2.1.2.1,x.2.1.2.2.1,x.2.1.2.2.2.1,x.2.1.2.2.2.2.1,()),(x.2.2.1.1,x.2.2.1.2.1,(x.2.2.1.2.2.1.1,x.2.2.1.2.2.1.2.1,x.2.2.1.2.2.1.2.2.1,x.2.2.1.2.2.1.2.2.2.1,x.2.2.1.2.2.1.2.2.2.2.1,()),x.2.2.1.2.2.2.1,()),())with
|none=>none
|some v1=>
match(v1.1 != (0:Int))with
|true=>
 some ([],v1.1,())
|false=>
 match jZ ((x.1.1,x.1.2.1,x.1.2.2.1,x.1.2.2.2.1,()),(x.2.1.1,x.2.1.2.1,x.2.1.2.2.1,x.2.1.2.2.2.1,x.2.1.2.2.2.2.1,()),(x.2.2.1.1,x.2.2.1.2.1,(x.2.2.1.2.2.1.1,x.2.2.1.2.2.1.2.1,x.2.2.1.2.2.1.2.2.1,x.2.2.1.2.2.1.2.2.2.1,x.2.2.1.2.2.1.2.2.2.2.1,()),x.2.2.1.2.2.2.1,()),())with
 |none=>none
 |some v2=>
 some (v2.1,(0:Int),())
noncomputable def K4:ae:=⟨_,jt,.unit,rfl,mN⟩
theorem Jg:FnOK G0 Tryz.prog 20 K4:=an ao (sg t6 (sg Ah (aR))) Tryz.func20
noncomputable def wg(x:Ty.T vV):Option (Ty.T ax):=
match ik ((x.1.1,x.1.2.1,x.1.2.2.1,x.1.2.2.2.1,()),())with
|none=>none
|some v1=>
match v1.1 with
|true=>
 match iO ((x.1.1,x.1.2.1,x.1.2.2.1,x.1.2.2.2.1,()),(x.2.1.1,x.2.1.2.1,x.2.1.2.2.1,x.2.1.2.2.2.1,x.2.1.2.2.2.2.1,()),())with
 |none=>none
 |some v2=>
 some (v2.1,())
|false=>
 some (false,())
noncomputable def K5:ae:=⟨_,ax,.unit,rfl,wg⟩
theorem Jh:FnOK G0 Tryz.prog 66 K5:=an ao (sg D9 (sg B8 (aR))) Tryz.func66
noncomputable def lx(x:Ty.T tM):Option (Ty.T ax):=
match wg ((x.1.1,x.1.2.1,x.1.2.2.1,x.1.2.2.2.1,()),(x.2.1.1,x.2.1.2.1,x.2.1.2.2.1,x.2.1.2.2.2.1,x.2.1.2.2.2.2.1,()),())with
|none=>none
|some v1=>
match v1.1 with
|true=>
 match ip ((x.1.1,x.1.2.1,x.1.2.2.1,x.1.2.2.2.1,()),(x.2.1.1,x.2.1.2.1,x.2.1.2.2.1,x.2.1.2.2.2.1,x.2.1.2.2.2.2.1,()),(x.2.2.1.1,x.2.2.1.2.1,(x.2.2.1.2.2.1.1,x.2.2.1.2.2.1.2.1,x.2.2.1.2.2.1.2.2.1,x.2.2.1.2.2.1.2.2.2.1,x.2.2.1.2.2.1.2.2.2.2.1,()),x.2.2.1.2.2.2.1,()),())with
 |none=>none
 |some v2=>
 some (v2.1,())
|false=>
 some (false,())
noncomputable def Ji:ae:=⟨_,ax,.unit,rfl,lx⟩
theorem Hu:FnOK G0 Tryz.prog 22 Ji:=an ao (sg Jh (sg vI (aR))) Tryz.func22
noncomputable def iR(x:Ty.T vV):Option (Ty.T Uo):=
match fp ((x.1.1,x.1.2.1,x.1.2.2.1,x.1.2.2.2.1,()),(x.2.1.1,x.2.1.2.1,x.2.1.2.2.1,x.2.1.2.2.2.1,x.2.1.2.2.2.2.1,()),())with
|none=>none
|some v1=>
match(v1.1 != (0:Int))with
|true=>
 some (((0:Int),(0:Int),(0:Int),(0:Int),false,()),v1.1,())
|false=>
 match cK ((x.1.1,x.1.2.1,x.1.2.2.1,x.1.2.2.2.1,()),(x.2.1.1,x.2.1.2.1,x.2.1.2.2.1,x.2.1.2.2.2.1,x.2.1.2.2.2.2.1,()),())with
 |none=>none
 |some v2=>
 some ((v2.1.1,v2.1.2.1,v2.1.2.2.1,v2.1.2.2.2.1,v2.1.2.2.2.2.1,()),(0:Int),())
noncomputable def DD:ae:=⟨_,Uo,.unit,rfl,iR⟩
theorem Cs:FnOK G0 Tryz.prog 23 DD:=an ao (sg iP (sg rL (aR))) Tryz.func23
abbrev wh:Ty:=Sb
noncomputable def jj(x:(Ty.T wh)):Option ((Ty.T wh) ⊕ ((Ty.T aO) ⊕ (Ty.T .unit))):=
match(decide ((IntKind.i64.wrap (x.2.1+x.2.2.2.1))<(x.1.length:Int)))with
|true=>
 ab (au x.1 (IntKind.i64.wrap (x.2.1+x.2.2.2.1))) fun v1=>
 match(v1==x.2.2.1)with
 |true=>
  some (.inl (x.1,x.2.1,x.2.2.1,(IntKind.i64.wrap (x.2.2.2.1+(1:Int))),()))
 |false=>
  some (.inr (.inl (x.2.2.2.1,())))
|false=>
 some (.inr (.inl (x.2.2.2.1,())))
noncomputable def pV(x:Ty.T qx):Option (Ty.T aO):=
match ac jj (x.1,x.2.1,x.2.2.1,(0:Int),())with
|none=>none
|some (.inl v2)=>
 some (v2.1,())
|some (.inr v4)=>
 none
noncomputable def J6:ae:=⟨_,aO,.unit,rfl,pV⟩
noncomputable def Hv:FuncId→Option ae:=bU []
theorem My:∀f s,Hv f=some s→FnOK G0 Tryz.prog f s:=aM trivial
def Ei:aX:=⟨[0,1,2,7],wh,0,[7],aO,[],.unit⟩
noncomputable def Hw:List aJ:=[Ei.spec jj]
theorem K6:bq bI E0 Hv (bo Tryz.f117 Hw) Tryz.f117 0 Ei jj:=fun x=>by kernel_rfl
theorem PV:FnOK G0 Tryz.prog 117 J6:=aP ao My Tryz.func117 Hw (by kernel_rfl) (by exact⟨(K6).lok,trivial⟩) fun x=>by kernel_rfl
abbrev pW:Ty:=(.pair (.list (.int .i64)) (.pair (.int .i64) (.pair (.int .i64) (.pair (.own 2 (.int .i64)) (.pair (.int .i64) .unit)))))
abbrev xI:Ty:=(.pair (.list (.int .i64)) (.pair (.int .i64) (.pair (.int .i64) (.pair (.own 2 (.int .i64)) .unit))))
noncomputable def fU(x:(Ty.T pW)):Option ((Ty.T pW) ⊕ ((Ty.T xI) ⊕ (Ty.T .unit))):=
match(decide ((IntKind.i64.wrap (x.2.2.2.2.1+(10:Int)))≤(x.1.length:Int)))with
|true=>
 ab (au x.1 x.2.2.2.2.1) fun v4=>
 match(v4==(1:Int))with
 |true=>
  ab (au x.1 (IntKind.i64.wrap (x.2.2.2.2.1+(1:Int)))) fun v5=>
  match(v5==(0:Int))with
  |true=>
   ab (aK x.1.length (some (.dat (.int .i64) (IntKind.i64.wrap (x.2.2.2.2.1+(2:Int))))) (some (.dat (.int .i64) (IntKind.i64.wrap (x.2.2.2.2.1+(10:Int)))))) fun v6=>
   match cC ((List.drop v6.1 (List.take v6.2 x.1)),())with
   |none=>none
   |some v7=>
   aD (x.2.2.2.1.length+ [v7.1].length) (
    some (.inl (x.1,x.2.1,x.2.2.1,(x.2.2.2.1++ [v7.1]),(IntKind.i64.wrap (x.2.2.2.2.1+(10:Int))),())))
  |false=>
   some (.inr (.inl (x.1,x.2.1,x.2.2.1,x.2.2.2.1,())))
 |false=>
  some (.inr (.inl (x.1,x.2.1,x.2.2.1,x.2.2.2.1,())))
|false=>
 some (.inr (.inl (x.1,x.2.1,x.2.2.1,x.2.2.2.1,())))
noncomputable def pi(x:Ty.T kh):Option (Ty.T UI):=
match pV (x.1,(0:Int),(1:Int),())with
|none=>none
|some v1=>
match pV (x.1,v1.1,(0:Int),())with
|none=>none
|some v2=>
match fv (v2.1,())with
|none=>none
|some v3=>
match(!v3.1)with
|true=>
 some ([],(0:Int),(0:Int),false,())
|false=>
 match ac fU (x.1,v1.1,v2.1,[],(IntKind.i64.wrap ((IntKind.i64.wrap (v1.1+v2.1))+(1:Int))),())with
 |none=>none
 |some (.inl v8)=>
  match dy ([(1:Int)],v8.2.1,())with
  |none=>none
  |some v10=>
  match lm (v8.2.2.2.1,v8.2.2.1,())with
  |none=>none
  |some v11=>
  aD (v10.1.length+v11.1.length) (
   match(decide (((v10.1++v11.1).length:Int)>(v8.1.length:Int)))with
   |true=>
    some ([],(0:Int),(0:Int),false,())
   |false=>
    ab (aK v8.1.length none (some (.dat (.int .i64) ((v10.1++v11.1).length:Int)))) fun v12=>
    match bb ((v10.1++v11.1),(List.drop v12.1 (List.take v12.2 v8.1)),())with
    |none=>none
    |some v13=>
    match(!v13.1)with
    |true=>
     some ([],(0:Int),(0:Int),false,())
    |false=>
     ab (aK v8.1.length (some (.dat (.int .i64) ((v10.1++v11.1).length:Int))) none) fun v14=>
     match eW ((List.drop v14.1 (List.take v14.2 v8.1)),(0:Int),())with
     |none=>none
     |some v15=>
     match v15.1 with
     |true=>
      some ([],(0:Int),(0:Int),false,())
     |false=>
      some (v8.2.2.2.1,v8.2.1,v8.2.2.1,true,()))
 |some (.inr v16)=>
  none
noncomputable def Mz:ae:=⟨_,UI,.unit,rfl,pi⟩
noncomputable def Ai:FuncId→Option ae:=bU [(51,xC),(53,Ee),(104,pc),(109,oa),(117,J6),(118,Cb),(119,iy)]
theorem Hx:∀f s,Ai f=some s→FnOK G0 Tryz.prog f s:=aM ⟨pd,uC,gt,mM,PV,rM,lf,trivial⟩
def xJ:aX:=⟨[0,6,7,8,9],pW,0,[0,6,7,8],xI,[],.unit⟩
noncomputable def Aj:List aJ:=[xJ.spec fU]
theorem FC:bq bI E0 Ai (bo Tryz.f69 Aj) Tryz.f69 0 xJ fU:=fun x=>by kernel_rfl
theorem K7:FnOK G0 Tryz.prog 69 Mz:=aP ao Hx Tryz.func69 Aj (by kernel_rfl) (by exact⟨(FC).lok,trivial⟩) fun x=>by kernel_rfl
noncomputable def iG(x:Ty.T kh):Option (Ty.T jt):=
match jf (x.1,())with
|none=>none
|some v1=>
match(!v1.1)with
|true=>
 some ([],(1:Int),())
|false=>
 match pi (x.1,())with
 |none=>none
 |some v2=>
 match(!v2.2.2.2.1)with
 |true=>
  some ([],(6:Int),())
 |false=>
  some (v2.1,(0:Int),())
noncomputable def Hy:ae:=⟨_,jt,.unit,rfl,iG⟩
theorem FD:FnOK G0 Tryz.prog 24 Hy:=an ao (sg mI (sg K7 (aR))) Tryz.func24
noncomputable def ly(x:Ty.T tM):Option (Ty.T jt):=
match jY ((x.1.1,x.1.2.1,x.1.2.2.1,x.1.2.2.2.1,()),(x.2.1.1,x.2.1.2.1,x.2.1.2.2.1,x.2.1.2.2.2.1,x.2.1.2.2.2.2.1,()),(x.2.2.1.1,x.2.2.1.2.1,(x.2.2.1.2.2.1.1,x.2.2.1.2.2.1.2.1,x.2.2.1.2.2.1.2.2.1,x.2.2.1.2.2.1.2.2.2.1,x.2.2.1.2.2.1.2.2.2.2.1,()),x.2.2.1.2.2.2.1,()),())with
|none=>none
|some v1=>
match(v1.1 != (0:Int))with
|true=>
 some ([],v1.1,())
|false=>
 match qW ((x.2.2.1.1,x.2.2.1.2.1,(x.2.2.1.2.2.1.1,x.2.2.1.2.2.1.2.1,x.2.2.1.2.2.1.2.2.1,x.2.2.1.2.2.1.2.2.2.1,x.2.2.1.2.2.1.2.2.2.2.1,()),x.2.2.1.2.2.2.1,()),x.1.1,(x.2.1.1,x.2.1.2.1,x.2.1.2.2.1,x.2.1.2.2.2.1,x.2.1.2.2.2.2.1,()),())with
 |none=>none
 |some v2=>
 some (v2.1,(0:Int),())
noncomputable def Jj:ae:=⟨_,jt,.unit,rfl,ly⟩
theorem Hz:FnOK G0 Tryz.prog 25 Jj:=an ao (sg Ae (sg J5 (aR))) Tryz.func25
noncomputable def gu(x:Ty.T Im):Option (Ty.T ax):=
match qg (x.1,())with
|none=>none
|some v1=>
match v1.1 with
|true=>
 some (true,())
|false=>
 match gR (x.1,())with
 |none=>none
 |some v2=>
 match kq v2 with
 |none=>none
 |some v3=>
 match kr v2 with
 |none=>none
 |some v4=>
 match ji v2 with
 |none=>none
 |some v5=>
 match mN v2 with
 |none=>none
 |some v6=>
 match(v3.2.1 != v4.2.1)with
 |true=>
  some (false,())
 |false=>
  match fu (v3.1,v4.1,())with
  |none=>none
  |some v7=>
  match(!v7.1)with
  |true=>
   some (false,())
  |false=>
   match(v5.2.1 != v6.2.1)with
   |true=>
    some (false,())
   |false=>
    match fu (v5.1,v6.1,())with
    |none=>none
    |some v8=>
    match(!v8.1)with
    |true=>
     some (false,())
    |false=>
     match lx v2 with
     |none=>none
     |some v9=>
     match(v9.1 != (v4.2.1==(0:Int)))with
     |true=>
      some (false,())
     |false=>
      match(v3.2.1 != (0:Int))with
      |true=>
       some (true,())
      |false=>
       match iR (v2.1,v2.2.1,())with
       |none=>none
       |some v10=>
       match eK (v2.1,v2.2.1,v3.1,())with
       |none=>none
       |some v11=>
       match iG (v5.1,())with
       |none=>none
       |some v12=>
       match ly v2 with
       |none=>none
       |some v13=>
       match ii v2 with
       |none=>none
       |some v14=>
       match(v10.2.1==(0:Int))with
       |true=>
        match(v11.2.1==(0:Int))with
        |true=>
         match(v12.2.1==(0:Int))with
         |true=>
          match(v13.2.1==(0:Int))with
          |true=>
           match((v5.1.length:Int)==v10.1.2.2.2.1)with
           |true=>
            match((v3.1.length:Int)==(IntKind.i64.wrap ((8:Int)*v10.1.2.2.2.1)))with
            |true=>
             ab (au v4.1 (0:Int)) fun _=>
             match v4.1[(0:Int).toNat]? with
             |none=>none
             |some v16=>
             match(v16==(1:Int))with
             |true=>
              ab (au v4.1 (IntKind.i64.wrap ((v4.1.length:Int)-(1:Int)))) fun _=>
              match v4.1[(IntKind.i64.wrap ((v4.1.length:Int)-(1:Int))).toNat]? with
              |none=>none
              |some v18=>
              match(v18==(1:Int))with
              |true=>
               match(v11.1.1==(3:Int))with
               |true=>
                match jE (v11.1.2.1,v2.2.2.1,())with
                |none=>none
                |some v19=>
                match v19.1 with
                |true=>
                 match fu (v12.1,v13.1,())with
                 |none=>none
                 |some v20=>
                 match v20.1 with
                 |true=>
                  match fu (v13.1,v14.1,())with
                  |none=>none
                  |some v21=>
                  some (v21.1,())
                 |false=>
                  some (false,())
                |false=>
                 some (false,())
               |false=>
                some (false,())
              |false=>
               some (false,())
             |false=>
              some (false,())
            |false=>
             some (false,())
           |false=>
            some (false,())
          |false=>
           some (false,())
         |false=>
          some (false,())
        |false=>
         some (false,())
       |false=>
        some (false,())
noncomputable def DE:ae:=⟨_,ax,.unit,rfl,gu⟩
theorem Ct:FnOK G0 Tryz.prog 4 DE:=an ao (sg L0 (sg pz (sg yK (sg Fz (sg FB (sg xG (sg Jg (sg Ab (sg Hu (sg Cs (sg FD (sg Hz (sg vw (sg vF (aR))))))))))))))) Tryz.func4
noncomputable def hZ(x:(Ty.T qx)):Option ((Ty.T qx) ⊕ ((Ty.T .unit) ⊕ (Ty.T aO))):=
match(decide (x.2.2.1<(x.1.length:Int)))with
|true=>
 ab (au x.1 x.2.2.1) fun v1=>
 match(v1==x.2.1)with
 |true=>
  some (.inr (.inr (x.2.2.1,())))
 |false=>
  some (.inl (x.1,x.2.1,(IntKind.i64.wrap (x.2.2.1+(1:Int))),()))
|false=>
 some (.inr (.inl (())))
noncomputable def ti(x:Ty.T qx):Option (Ty.T aO):=
match ac hZ (x.1,x.2.2.1,(IntKind.i64.wrap (x.2.1+(1:Int))),())with
|none=>none
|some (.inl v2)=>
 some ((-1:Int),())
|some (.inr v3)=>
 some (v3.1,())
noncomputable def Cu(x:Ty.T oE):Option (Ty.T aO):=
match ti (x.1,(IntKind.i64.wrap (x.2.1+(11:Int))),(0:Int),())with
|none=>none
|some v1=>
match(decide (v1.1≥(0:Int)))with
|true=>
 some ((6:Int),())
|false=>
 some ((0:Int),())
noncomputable def Jk(x:Ty.T oE):Option (Ty.T aO):=
match(decide (x.2.1≥(x.1.length:Int)))with
|true=>
 some ((1:Int),())
|false=>
 ab (au x.1 x.2.1) fun v1=>
 some (v1,())
abbrev xK:Ty:=(.pair (.list (.int .i64)) (.pair (.int .i64) (.pair (.own 2 (.int .i64)) .unit)))
noncomputable def eZ(x:(Ty.T xK)):Option ((Ty.T xK) ⊕ ((Ty.T .unit) ⊕ (Ty.T jt))):=
aD (x.2.2.1.length+ [x.2.1].length) (
 match Jk (x.1,(IntKind.i64.wrap (x.2.1+(76:Int))),())with
 |none=>none
 |some v1=>
 match(v1.1==(0:Int))with
 |true=>
  match Cu (x.1,(IntKind.i64.wrap (x.2.1+(72:Int))),())with
  |none=>none
  |some v2=>
  some (.inr (.inr ((x.2.2.1++ [x.2.1]),v2.1,())))
 |false=>
  match ti (x.1,(IntKind.i64.wrap (x.2.1+(76:Int))),(0:Int),())with
  |none=>none
  |some v3=>
  match(decide (v3.1<(0:Int)))with
  |true=>
   some (.inr (.inr ([],(6:Int),())))
  |false=>
   match(decide (v3.1>(IntKind.i64.wrap (x.2.1+(84:Int)))))with
   |true=>
    some (.inr (.inr ([],(6:Int),())))
   |false=>
    some (.inl (x.1,v3.1,(x.2.2.1++ [x.2.1]),())))
end Go.Proofs.YtckljdhdadiphaaGreatDoor
