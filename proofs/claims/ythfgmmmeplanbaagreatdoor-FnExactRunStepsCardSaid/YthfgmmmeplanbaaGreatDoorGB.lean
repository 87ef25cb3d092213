import Derived.Test.YthfgmmmeplanbaaGreatDoorGA
namespace Go.Proofs.YthfgmmmeplanbaaGreatDoor
open Go.RowKit
set_option linter.unusedVariables false
noncomputable def sW(x:Ty.T (.pair (.list (.int .i64)) .unit)):Option (Ty.T (.pair (.pair (.int .i64) (.pair (.int .i64) (.pair ab (.pair (.own 2 (.int .i64)) .unit)))) (.pair .bool .unit))):=
match((x.1.length:Int)==(0:Int))with
|true=>
 some (((0:Int),(0:Int),((0:Int),(0:Int),(0:Int),(0:Int),(0:Int),()),[],()),false,())
|false=>
 aa (au x.1 (0:Int)) fun v1=>
 aa (au x.1 (0:Int)) fun v2=>
 ba (
  aa (aH x.1.length (some (.dat (.int .i64) (1:Int))) none) fun v3=>
  match dS ((IntKind.i64.wrap (Int.tdiv v1 (64:Int))),())with
  |none=>none
  |some v4=>
  match v4.1 with
  |true=>
   match(decide (((List.drop v3.1 (List.take v3.2 x.1)).length:Int)<(8:Int)))with
   |true=>
    some (((0:Int),(0:Int),((0:Int),(0:Int),(0:Int),(0:Int),(0:Int),()),[],()),false,())
   |false=>
    aa (aH (List.drop v3.1 (List.take v3.2 x.1)).length none (some (.dat (.int .i64) (8:Int)))) fun v5=>
    match jY ((List.drop v5.1 (List.take v5.2 (List.drop v3.1 (List.take v3.2 x.1)))),())with
    |none=>none
    |some v6=>
    match sV (v6.1,())with
    |none=>none
    |some v7=>
    aa (aH (List.drop v3.1 (List.take v3.2 x.1)).length (some (.dat (.int .i64) (8:Int))) none) fun v8=>
    match jW ((IntKind.i64.wrap (Int.tdiv v1 (64:Int))),())with
    |none=>none
    |some v9=>
    match v9.1 with
    |true=>
     match(((List.drop v8.1 (List.take v8.2 (List.drop v3.1 (List.take v3.2 x.1)))).length:Int)==(0:Int))with
     |true=>
      some (((0:Int),(0:Int),((0:Int),(0:Int),(0:Int),(0:Int),(0:Int),()),[],()),false,())
     |false=>
      aa (aH (List.drop v8.1 (List.take v8.2 (List.drop v3.1 (List.take v3.2 x.1)))).length (some (.dat (.int .i64) (1:Int))) none) fun v10=>
      match jm ((List.drop v10.1 (List.take v10.2 (List.drop v8.1 (List.take v8.2 (List.drop v3.1 (List.take v3.2 x.1)))))),())with
      |none=>none
      |some v11=>
      bf (
       match cu (((IntKind.i64.wrap (Int.tdiv v1 (64:Int))),(Int.tmod (IntKind.i64.wrap (Int.tdiv v2 (8:Int))) (8:Int)),(v7.1.1,v7.1.2.1,v7.1.2.2.1,v7.1.2.2.2.1,v7.1.2.2.2.2.1,()),v11.1,()),())with
       |none=>none
       |some v12=>
       match v12.1 with
       |true=>
        match bv (((IntKind.i64.wrap (Int.tdiv v1 (64:Int))),(Int.tmod (IntKind.i64.wrap (Int.tdiv v2 (8:Int))) (8:Int)),(v7.1.1,v7.1.2.1,v7.1.2.2.1,v7.1.2.2.2.1,v7.1.2.2.2.2.1,()),v11.1,()),())with
        |none=>none
        |some v13=>
        match bu (v13.1,x.1,())with
        |none=>none
        |some v14=>
        some (((IntKind.i64.wrap (Int.tdiv v1 (64:Int))),(Int.tmod (IntKind.i64.wrap (Int.tdiv v2 (8:Int))) (8:Int)),(v7.1.1,v7.1.2.1,v7.1.2.2.1,v7.1.2.2.2.1,v7.1.2.2.2.2.1,()),v11.1,()),v14.1,())
       |false=>
        some (((IntKind.i64.wrap (Int.tdiv v1 (64:Int))),(Int.tmod (IntKind.i64.wrap (Int.tdiv v2 (8:Int))) (8:Int)),(v7.1.1,v7.1.2.1,v7.1.2.2.1,v7.1.2.2.2.1,v7.1.2.2.2.2.1,()),v11.1,()),false,())) (
       bf (
        match cu (((IntKind.i64.wrap (Int.tdiv v1 (64:Int))),(Int.tmod (IntKind.i64.wrap (Int.tdiv v2 (8:Int))) (8:Int)),(v7.1.1,v7.1.2.1,v7.1.2.2.1,v7.1.2.2.2.1,v7.1.2.2.2.2.1,()),v11.1,()),())with
        |none=>none
        |some v12=>
        match v12.1 with
        |true=>
         match bv (((IntKind.i64.wrap (Int.tdiv v1 (64:Int))),(Int.tmod (IntKind.i64.wrap (Int.tdiv v2 (8:Int))) (8:Int)),(v7.1.1,v7.1.2.1,v7.1.2.2.1,v7.1.2.2.2.1,v7.1.2.2.2.2.1,()),v11.1,()),())with
         |none=>none
         |some v13=>
         match bu (v13.1,x.1,())with
         |none=>none
         |some v14=>
         some (((IntKind.i64.wrap (Int.tdiv v1 (64:Int))),(Int.tmod (IntKind.i64.wrap (Int.tdiv v2 (8:Int))) (8:Int)),(v7.1.1,v7.1.2.1,v7.1.2.2.1,v7.1.2.2.2.1,v7.1.2.2.2.2.1,()),v11.1,()),v14.1,())
        |false=>
         some (((IntKind.i64.wrap (Int.tdiv v1 (64:Int))),(Int.tmod (IntKind.i64.wrap (Int.tdiv v2 (8:Int))) (8:Int)),(v7.1.1,v7.1.2.1,v7.1.2.2.1,v7.1.2.2.2.1,v7.1.2.2.2.2.1,()),v11.1,()),false,())) (
        match cu (((IntKind.i64.wrap (Int.tdiv v1 (64:Int))),(Int.tmod (IntKind.i64.wrap (Int.tdiv v2 (8:Int))) (8:Int)),(v7.1.1,v7.1.2.1,v7.1.2.2.1,v7.1.2.2.2.1,v7.1.2.2.2.2.1,()),v11.1,()),())with
        |none=>none
        |some v12=>
        match v12.1 with
        |true=>
         bf (
          match bv (((IntKind.i64.wrap (Int.tdiv v1 (64:Int))),(Int.tmod (IntKind.i64.wrap (Int.tdiv v2 (8:Int))) (8:Int)),(v7.1.1,v7.1.2.1,v7.1.2.2.1,v7.1.2.2.2.1,v7.1.2.2.2.2.1,()),v11.1,()),())with
          |none=>none
          |some v13=>
          match bu (v13.1,x.1,())with
          |none=>none
          |some v14=>
          some (((IntKind.i64.wrap (Int.tdiv v1 (64:Int))),(Int.tmod (IntKind.i64.wrap (Int.tdiv v2 (8:Int))) (8:Int)),(v7.1.1,v7.1.2.1,v7.1.2.2.1,v7.1.2.2.2.1,v7.1.2.2.2.2.1,()),v11.1,()),v14.1,())) (
          bf (
           match bv (((IntKind.i64.wrap (Int.tdiv v1 (64:Int))),(Int.tmod (IntKind.i64.wrap (Int.tdiv v2 (8:Int))) (8:Int)),(v7.1.1,v7.1.2.1,v7.1.2.2.1,v7.1.2.2.2.1,v7.1.2.2.2.2.1,()),v11.1,()),())with
           |none=>none
           |some v13=>
           match bu (v13.1,x.1,())with
           |none=>none
           |some v14=>
           some (((IntKind.i64.wrap (Int.tdiv v1 (64:Int))),(Int.tmod (IntKind.i64.wrap (Int.tdiv v2 (8:Int))) (8:Int)),(v7.1.1,v7.1.2.1,v7.1.2.2.1,v7.1.2.2.2.1,v7.1.2.2.2.2.1,()),v11.1,()),v14.1,())) (
           match bv (((IntKind.i64.wrap (Int.tdiv v1 (64:Int))),(Int.tmod (IntKind.i64.wrap (Int.tdiv v2 (8:Int))) (8:Int)),(v7.1.1,v7.1.2.1,v7.1.2.2.1,v7.1.2.2.2.1,v7.1.2.2.2.2.1,()),v11.1,()),())with
           |none=>none
           |some v13=>
           ba (
            match bu (v13.1,x.1,())with
            |none=>none
            |some v14=>
            some (((IntKind.i64.wrap (Int.tdiv v1 (64:Int))),(Int.tmod (IntKind.i64.wrap (Int.tdiv v2 (8:Int))) (8:Int)),(v7.1.1,v7.1.2.1,v7.1.2.2.1,v7.1.2.2.2.1,v7.1.2.2.2.2.1,()),v11.1,()),v14.1,()))))
        |false=>
         bf (
          some (((IntKind.i64.wrap (Int.tdiv v1 (64:Int))),(Int.tmod (IntKind.i64.wrap (Int.tdiv v2 (8:Int))) (8:Int)),(v7.1.1,v7.1.2.1,v7.1.2.2.1,v7.1.2.2.2.1,v7.1.2.2.2.2.1,()),v11.1,()),false,())) (
          bf (
           some (((IntKind.i64.wrap (Int.tdiv v1 (64:Int))),(Int.tmod (IntKind.i64.wrap (Int.tdiv v2 (8:Int))) (8:Int)),(v7.1.1,v7.1.2.1,v7.1.2.2.1,v7.1.2.2.2.1,v7.1.2.2.2.2.1,()),v11.1,()),false,())) (
           ba (
            some (((IntKind.i64.wrap (Int.tdiv v1 (64:Int))),(Int.tmod (IntKind.i64.wrap (Int.tdiv v2 (8:Int))) (8:Int)),(v7.1.1,v7.1.2.1,v7.1.2.2.1,v7.1.2.2.2.1,v7.1.2.2.2.2.1,()),v11.1,()),false,()))))))
    |false=>
     bf (
      match cu (((IntKind.i64.wrap (Int.tdiv v1 (64:Int))),(Int.tmod (IntKind.i64.wrap (Int.tdiv v2 (8:Int))) (8:Int)),(v7.1.1,v7.1.2.1,v7.1.2.2.1,v7.1.2.2.2.1,v7.1.2.2.2.2.1,()),[],()),())with
      |none=>none
      |some v15=>
      match v15.1 with
      |true=>
       match bv (((IntKind.i64.wrap (Int.tdiv v1 (64:Int))),(Int.tmod (IntKind.i64.wrap (Int.tdiv v2 (8:Int))) (8:Int)),(v7.1.1,v7.1.2.1,v7.1.2.2.1,v7.1.2.2.2.1,v7.1.2.2.2.2.1,()),[],()),())with
       |none=>none
       |some v16=>
       match bu (v16.1,x.1,())with
       |none=>none
       |some v17=>
       some (((IntKind.i64.wrap (Int.tdiv v1 (64:Int))),(Int.tmod (IntKind.i64.wrap (Int.tdiv v2 (8:Int))) (8:Int)),(v7.1.1,v7.1.2.1,v7.1.2.2.1,v7.1.2.2.2.1,v7.1.2.2.2.2.1,()),[],()),v17.1,())
      |false=>
       some (((IntKind.i64.wrap (Int.tdiv v1 (64:Int))),(Int.tmod (IntKind.i64.wrap (Int.tdiv v2 (8:Int))) (8:Int)),(v7.1.1,v7.1.2.1,v7.1.2.2.1,v7.1.2.2.2.1,v7.1.2.2.2.2.1,()),[],()),false,())) (
      bf (
       match cu (((IntKind.i64.wrap (Int.tdiv v1 (64:Int))),(Int.tmod (IntKind.i64.wrap (Int.tdiv v2 (8:Int))) (8:Int)),(v7.1.1,v7.1.2.1,v7.1.2.2.1,v7.1.2.2.2.1,v7.1.2.2.2.2.1,()),[],()),())with
       |none=>none
       |some v15=>
       match v15.1 with
       |true=>
        match bv (((IntKind.i64.wrap (Int.tdiv v1 (64:Int))),(Int.tmod (IntKind.i64.wrap (Int.tdiv v2 (8:Int))) (8:Int)),(v7.1.1,v7.1.2.1,v7.1.2.2.1,v7.1.2.2.2.1,v7.1.2.2.2.2.1,()),[],()),())with
        |none=>none
        |some v16=>
        match bu (v16.1,x.1,())with
        |none=>none
        |some v17=>
        some (((IntKind.i64.wrap (Int.tdiv v1 (64:Int))),(Int.tmod (IntKind.i64.wrap (Int.tdiv v2 (8:Int))) (8:Int)),(v7.1.1,v7.1.2.1,v7.1.2.2.1,v7.1.2.2.2.1,v7.1.2.2.2.2.1,()),[],()),v17.1,())
       |false=>
        some (((IntKind.i64.wrap (Int.tdiv v1 (64:Int))),(Int.tmod (IntKind.i64.wrap (Int.tdiv v2 (8:Int))) (8:Int)),(v7.1.1,v7.1.2.1,v7.1.2.2.1,v7.1.2.2.2.1,v7.1.2.2.2.2.1,()),[],()),false,())) (
       match cu (((IntKind.i64.wrap (Int.tdiv v1 (64:Int))),(Int.tmod (IntKind.i64.wrap (Int.tdiv v2 (8:Int))) (8:Int)),(v7.1.1,v7.1.2.1,v7.1.2.2.1,v7.1.2.2.2.1,v7.1.2.2.2.2.1,()),[],()),())with
       |none=>none
       |some v15=>
       match v15.1 with
       |true=>
        bf (
         match bv (((IntKind.i64.wrap (Int.tdiv v1 (64:Int))),(Int.tmod (IntKind.i64.wrap (Int.tdiv v2 (8:Int))) (8:Int)),(v7.1.1,v7.1.2.1,v7.1.2.2.1,v7.1.2.2.2.1,v7.1.2.2.2.2.1,()),[],()),())with
         |none=>none
         |some v16=>
         match bu (v16.1,x.1,())with
         |none=>none
         |some v17=>
         some (((IntKind.i64.wrap (Int.tdiv v1 (64:Int))),(Int.tmod (IntKind.i64.wrap (Int.tdiv v2 (8:Int))) (8:Int)),(v7.1.1,v7.1.2.1,v7.1.2.2.1,v7.1.2.2.2.1,v7.1.2.2.2.2.1,()),[],()),v17.1,())) (
         bf (
          match bv (((IntKind.i64.wrap (Int.tdiv v1 (64:Int))),(Int.tmod (IntKind.i64.wrap (Int.tdiv v2 (8:Int))) (8:Int)),(v7.1.1,v7.1.2.1,v7.1.2.2.1,v7.1.2.2.2.1,v7.1.2.2.2.2.1,()),[],()),())with
          |none=>none
          |some v16=>
          match bu (v16.1,x.1,())with
          |none=>none
          |some v17=>
          some (((IntKind.i64.wrap (Int.tdiv v1 (64:Int))),(Int.tmod (IntKind.i64.wrap (Int.tdiv v2 (8:Int))) (8:Int)),(v7.1.1,v7.1.2.1,v7.1.2.2.1,v7.1.2.2.2.1,v7.1.2.2.2.2.1,()),[],()),v17.1,())) (
          match bv (((IntKind.i64.wrap (Int.tdiv v1 (64:Int))),(Int.tmod (IntKind.i64.wrap (Int.tdiv v2 (8:Int))) (8:Int)),(v7.1.1,v7.1.2.1,v7.1.2.2.1,v7.1.2.2.2.1,v7.1.2.2.2.2.1,()),[],()),())with
          |none=>none
          |some v16=>
          ba (
           match bu (v16.1,x.1,())with
           |none=>none
           |some v17=>
           some (((IntKind.i64.wrap (Int.tdiv v1 (64:Int))),(Int.tmod (IntKind.i64.wrap (Int.tdiv v2 (8:Int))) (8:Int)),(v7.1.1,v7.1.2.1,v7.1.2.2.1,v7.1.2.2.2.1,v7.1.2.2.2.2.1,()),[],()),v17.1,()))))
       |false=>
        bf (
         some (((IntKind.i64.wrap (Int.tdiv v1 (64:Int))),(Int.tmod (IntKind.i64.wrap (Int.tdiv v2 (8:Int))) (8:Int)),(v7.1.1,v7.1.2.1,v7.1.2.2.1,v7.1.2.2.2.1,v7.1.2.2.2.2.1,()),[],()),false,())) (
         bf (
          some (((IntKind.i64.wrap (Int.tdiv v1 (64:Int))),(Int.tmod (IntKind.i64.wrap (Int.tdiv v2 (8:Int))) (8:Int)),(v7.1.1,v7.1.2.1,v7.1.2.2.1,v7.1.2.2.2.1,v7.1.2.2.2.2.1,()),[],()),false,())) (
          ba (
           some (((IntKind.i64.wrap (Int.tdiv v1 (64:Int))),(Int.tmod (IntKind.i64.wrap (Int.tdiv v2 (8:Int))) (8:Int)),(v7.1.1,v7.1.2.1,v7.1.2.2.1,v7.1.2.2.2.1,v7.1.2.2.2.2.1,()),[],()),false,()))))))
  |false=>
   match jW ((IntKind.i64.wrap (Int.tdiv v1 (64:Int))),())with
   |none=>none
   |some v18=>
   match v18.1 with
   |true=>
    match(((List.drop v3.1 (List.take v3.2 x.1)).length:Int)==(0:Int))with
    |true=>
     some (((0:Int),(0:Int),((0:Int),(0:Int),(0:Int),(0:Int),(0:Int),()),[],()),false,())
    |false=>
     aa (aH (List.drop v3.1 (List.take v3.2 x.1)).length (some (.dat (.int .i64) (1:Int))) none) fun v19=>
     match jm ((List.drop v19.1 (List.take v19.2 (List.drop v3.1 (List.take v3.2 x.1)))),())with
     |none=>none
     |some v20=>
     bf (
      match cu (((IntKind.i64.wrap (Int.tdiv v1 (64:Int))),(Int.tmod (IntKind.i64.wrap (Int.tdiv v2 (8:Int))) (8:Int)),((0:Int),(0:Int),(0:Int),(0:Int),(0:Int),()),v20.1,()),())with
      |none=>none
      |some v21=>
      match v21.1 with
      |true=>
       match bv (((IntKind.i64.wrap (Int.tdiv v1 (64:Int))),(Int.tmod (IntKind.i64.wrap (Int.tdiv v2 (8:Int))) (8:Int)),((0:Int),(0:Int),(0:Int),(0:Int),(0:Int),()),v20.1,()),())with
       |none=>none
       |some v22=>
       match bu (v22.1,x.1,())with
       |none=>none
       |some v23=>
       some (((IntKind.i64.wrap (Int.tdiv v1 (64:Int))),(Int.tmod (IntKind.i64.wrap (Int.tdiv v2 (8:Int))) (8:Int)),((0:Int),(0:Int),(0:Int),(0:Int),(0:Int),()),v20.1,()),v23.1,())
      |false=>
       some (((IntKind.i64.wrap (Int.tdiv v1 (64:Int))),(Int.tmod (IntKind.i64.wrap (Int.tdiv v2 (8:Int))) (8:Int)),((0:Int),(0:Int),(0:Int),(0:Int),(0:Int),()),v20.1,()),false,())) (
      bf (
       match cu (((IntKind.i64.wrap (Int.tdiv v1 (64:Int))),(Int.tmod (IntKind.i64.wrap (Int.tdiv v2 (8:Int))) (8:Int)),((0:Int),(0:Int),(0:Int),(0:Int),(0:Int),()),v20.1,()),())with
       |none=>none
       |some v21=>
       match v21.1 with
       |true=>
        match bv (((IntKind.i64.wrap (Int.tdiv v1 (64:Int))),(Int.tmod (IntKind.i64.wrap (Int.tdiv v2 (8:Int))) (8:Int)),((0:Int),(0:Int),(0:Int),(0:Int),(0:Int),()),v20.1,()),())with
        |none=>none
        |some v22=>
        match bu (v22.1,x.1,())with
        |none=>none
        |some v23=>
        some (((IntKind.i64.wrap (Int.tdiv v1 (64:Int))),(Int.tmod (IntKind.i64.wrap (Int.tdiv v2 (8:Int))) (8:Int)),((0:Int),(0:Int),(0:Int),(0:Int),(0:Int),()),v20.1,()),v23.1,())
       |false=>
        some (((IntKind.i64.wrap (Int.tdiv v1 (64:Int))),(Int.tmod (IntKind.i64.wrap (Int.tdiv v2 (8:Int))) (8:Int)),((0:Int),(0:Int),(0:Int),(0:Int),(0:Int),()),v20.1,()),false,())) (
       match cu (((IntKind.i64.wrap (Int.tdiv v1 (64:Int))),(Int.tmod (IntKind.i64.wrap (Int.tdiv v2 (8:Int))) (8:Int)),((0:Int),(0:Int),(0:Int),(0:Int),(0:Int),()),v20.1,()),())with
       |none=>none
       |some v21=>
       match v21.1 with
       |true=>
        bf (
         match bv (((IntKind.i64.wrap (Int.tdiv v1 (64:Int))),(Int.tmod (IntKind.i64.wrap (Int.tdiv v2 (8:Int))) (8:Int)),((0:Int),(0:Int),(0:Int),(0:Int),(0:Int),()),v20.1,()),())with
         |none=>none
         |some v22=>
         match bu (v22.1,x.1,())with
         |none=>none
         |some v23=>
         some (((IntKind.i64.wrap (Int.tdiv v1 (64:Int))),(Int.tmod (IntKind.i64.wrap (Int.tdiv v2 (8:Int))) (8:Int)),((0:Int),(0:Int),(0:Int),(0:Int),(0:Int),()),v20.1,()),v23.1,())) (
         bf (
          match bv (((IntKind.i64.wrap (Int.tdiv v1 (64:Int))),(Int.tmod (IntKind.i64.wrap (Int.tdiv v2 (8:Int))) (8:Int)),((0:Int),(0:Int),(0:Int),(0:Int),(0:Int),()),v20.1,()),())with
          |none=>none
          |some v22=>
          match bu (v22.1,x.1,())with
          |none=>none
          |some v23=>
          some (((IntKind.i64.wrap (Int.tdiv v1 (64:Int))),(Int.tmod (IntKind.i64.wrap (Int.tdiv v2 (8:Int))) (8:Int)),((0:Int),(0:Int),(0:Int),(0:Int),(0:Int),()),v20.1,()),v23.1,())) (
          match bv (((IntKind.i64.wrap (Int.tdiv v1 (64:Int))),(Int.tmod (IntKind.i64.wrap (Int.tdiv v2 (8:Int))) (8:Int)),((0:Int),(0:Int),(0:Int),(0:Int),(0:Int),()),v20.1,()),())with
          |none=>none
          |some v22=>
          ba (
           match bu (v22.1,x.1,())with
           |none=>none
           |some v23=>
           some (((IntKind.i64.wrap (Int.tdiv v1 (64:Int))),(Int.tmod (IntKind.i64.wrap (Int.tdiv v2 (8:Int))) (8:Int)),((0:Int),(0:Int),(0:Int),(0:Int),(0:Int),()),v20.1,()),v23.1,()))))
       |false=>
        bf (
         some (((IntKind.i64.wrap (Int.tdiv v1 (64:Int))),(Int.tmod (IntKind.i64.wrap (Int.tdiv v2 (8:Int))) (8:Int)),((0:Int),(0:Int),(0:Int),(0:Int),(0:Int),()),v20.1,()),false,())) (
         bf (
          some (((IntKind.i64.wrap (Int.tdiv v1 (64:Int))),(Int.tmod (IntKind.i64.wrap (Int.tdiv v2 (8:Int))) (8:Int)),((0:Int),(0:Int),(0:Int),(0:Int),(0:Int),()),v20.1,()),false,())) (
          ba (
           some (((IntKind.i64.wrap (Int.tdiv v1 (64:Int))),(Int.tmod (IntKind.i64.wrap (Int.tdiv v2 (8:Int))) (8:Int)),((0:Int),(0:Int),(0:Int),(0:Int),(0:Int),()),v20.1,()),false,()))))))
   |false=>
    bf (
     match cu (((IntKind.i64.wrap (Int.tdiv v1 (64:Int))),(Int.tmod (IntKind.i64.wrap (Int.tdiv v2 (8:Int))) (8:Int)),((0:Int),(0:Int),(0:Int),(0:Int),(0:Int),()),[],()),())with
     |none=>none
     |some v24=>
     match v24.1 with
     |true=>
      match bv (((IntKind.i64.wrap (Int.tdiv v1 (64:Int))),(Int.tmod (IntKind.i64.wrap (Int.tdiv v2 (8:Int))) (8:Int)),((0:Int),(0:Int),(0:Int),(0:Int),(0:Int),()),[],()),())with
      |none=>none
      |some v25=>
      match bu (v25.1,x.1,())with
      |none=>none
      |some v26=>
      some (((IntKind.i64.wrap (Int.tdiv v1 (64:Int))),(Int.tmod (IntKind.i64.wrap (Int.tdiv v2 (8:Int))) (8:Int)),((0:Int),(0:Int),(0:Int),(0:Int),(0:Int),()),[],()),v26.1,())
     |false=>
      some (((IntKind.i64.wrap (Int.tdiv v1 (64:Int))),(Int.tmod (IntKind.i64.wrap (Int.tdiv v2 (8:Int))) (8:Int)),((0:Int),(0:Int),(0:Int),(0:Int),(0:Int),()),[],()),false,())) (
     bf (
      match cu (((IntKind.i64.wrap (Int.tdiv v1 (64:Int))),(Int.tmod (IntKind.i64.wrap (Int.tdiv v2 (8:Int))) (8:Int)),((0:Int),(0:Int),(0:Int),(0:Int),(0:Int),()),[],()),())with
      |none=>none
      |some v24=>
      match v24.1 with
      |true=>
       match bv (((IntKind.i64.wrap (Int.tdiv v1 (64:Int))),(Int.tmod (IntKind.i64.wrap (Int.tdiv v2 (8:Int))) (8:Int)),((0:Int),(0:Int),(0:Int),(0:Int),(0:Int),()),[],()),())with
       |none=>none
       |some v25=>
       match bu (v25.1,x.1,())with
       |none=>none
       |some v26=>
       some (((IntKind.i64.wrap (Int.tdiv v1 (64:Int))),(Int.tmod (IntKind.i64.wrap (Int.tdiv v2 (8:Int))) (8:Int)),((0:Int),(0:Int),(0:Int),(0:Int),(0:Int),()),[],()),v26.1,())
      |false=>
       some (((IntKind.i64.wrap (Int.tdiv v1 (64:Int))),(Int.tmod (IntKind.i64.wrap (Int.tdiv v2 (8:Int))) (8:Int)),((0:Int),(0:Int),(0:Int),(0:Int),(0:Int),()),[],()),false,())) (
      match cu (((IntKind.i64.wrap (Int.tdiv v1 (64:Int))),(Int.tmod (IntKind.i64.wrap (Int.tdiv v2 (8:Int))) (8:Int)),((0:Int),(0:Int),(0:Int),(0:Int),(0:Int),()),[],()),())with
      |none=>none
      |some v24=>
      match v24.1 with
      |true=>
       bf (
        match bv (((IntKind.i64.wrap (Int.tdiv v1 (64:Int))),(Int.tmod (IntKind.i64.wrap (Int.tdiv v2 (8:Int))) (8:Int)),((0:Int),(0:Int),(0:Int),(0:Int),(0:Int),()),[],()),())with
        |none=>none
        |some v25=>
        match bu (v25.1,x.1,())with
        |none=>none
        |some v26=>
        some (((IntKind.i64.wrap (Int.tdiv v1 (64:Int))),(Int.tmod (IntKind.i64.wrap (Int.tdiv v2 (8:Int))) (8:Int)),((0:Int),(0:Int),(0:Int),(0:Int),(0:Int),()),[],()),v26.1,())) (
        bf (
         match bv (((IntKind.i64.wrap (Int.tdiv v1 (64:Int))),(Int.tmod (IntKind.i64.wrap (Int.tdiv v2 (8:Int))) (8:Int)),((0:Int),(0:Int),(0:Int),(0:Int),(0:Int),()),[],()),())with
         |none=>none
         |some v25=>
         match bu (v25.1,x.1,())with
         |none=>none
         |some v26=>
         some (((IntKind.i64.wrap (Int.tdiv v1 (64:Int))),(Int.tmod (IntKind.i64.wrap (Int.tdiv v2 (8:Int))) (8:Int)),((0:Int),(0:Int),(0:Int),(0:Int),(0:Int),()),[],()),v26.1,())) (
         match bv (((IntKind.i64.wrap (Int.tdiv v1 (64:Int))),(Int.tmod (IntKind.i64.wrap (Int.tdiv v2 (8:Int))) (8:Int)),((0:Int),(0:Int),(0:Int),(0:Int),(0:Int),()),[],()),())with
         |none=>none
         |some v25=>
         ba (
          match bu (v25.1,x.1,())with
          |none=>none
          |some v26=>
          some (((IntKind.i64.wrap (Int.tdiv v1 (64:Int))),(Int.tmod (IntKind.i64.wrap (Int.tdiv v2 (8:Int))) (8:Int)),((0:Int),(0:Int),(0:Int),(0:Int),(0:Int),()),[],()),v26.1,()))))
      |false=>
       bf (
        some (((IntKind.i64.wrap (Int.tdiv v1 (64:Int))),(Int.tmod (IntKind.i64.wrap (Int.tdiv v2 (8:Int))) (8:Int)),((0:Int),(0:Int),(0:Int),(0:Int),(0:Int),()),[],()),false,())) (
        bf (
         some (((IntKind.i64.wrap (Int.tdiv v1 (64:Int))),(Int.tmod (IntKind.i64.wrap (Int.tdiv v2 (8:Int))) (8:Int)),((0:Int),(0:Int),(0:Int),(0:Int),(0:Int),()),[],()),false,())) (
         ba (
          some (((IntKind.i64.wrap (Int.tdiv v1 (64:Int))),(Int.tmod (IntKind.i64.wrap (Int.tdiv v2 (8:Int))) (8:Int)),((0:Int),(0:Int),(0:Int),(0:Int),(0:Int),()),[],()),false,())))))))
noncomputable def Qv:Spec:=⟨_,(.pair (.pair (.int .i64) (.pair (.int .i64) (.pair ab (.pair (.own 2 (.int .i64)) .unit)))) (.pair .bool .unit)),.unit,rfl,sW⟩
theorem Ov:FnOK G0 Tryz.prog 237 Qv:=aj ai (sg w9 (sg Df (sg iX (sg uu (sg Dj (sg Dq (sg uf (sg Ou (aC))))))))) Tryz.func237
noncomputable def oe(x:Ty.T (.pair (.list (.int .i64)) (.pair (.int .i64) (.pair ab .unit)))):Option (Ty.T (.pair (.pair (.int .i64) (.pair (.int .i64) (.pair ab (.pair (.own 2 (.int .i64)) .unit)))) (.pair (.int .i64) .unit))):=
match(decide ((IntKind.i64.wrap ((x.1.length:Int)-(3:Int)))<(1:Int)))with
|true=>
 some (((0:Int),(0:Int),((0:Int),(0:Int),(0:Int),(0:Int),(0:Int),()),[],()),(6:Int),())
|false=>
 aa (au x.1 (IntKind.i64.wrap ((x.1.length:Int)-(3:Int)))) fun v1=>
 aa (au x.1 (IntKind.i64.wrap ((IntKind.i64.wrap ((x.1.length:Int)-(3:Int)))+(1:Int)))) fun v2=>
 aa (au x.1 (IntKind.i64.wrap ((IntKind.i64.wrap ((x.1.length:Int)-(3:Int)))+(2:Int)))) fun v3=>
 aa (au x.1 (0:Int)) fun v4=>
 aa (aH x.1.length none (some (.dat (.int .i64) (IntKind.i64.wrap ((x.1.length:Int)-(3:Int)))))) fun v5=>
 match jn ((IntKind.i64.wrap (Int.tdiv v4 (64:Int))),(List.drop v5.1 (List.take v5.2 x.1)),x.2.1,(x.2.2.1.1,x.2.2.1.2.1,x.2.2.1.2.2.1,x.2.2.1.2.2.2.1,x.2.2.1.2.2.2.2.1,()),())with
 |none=>none
 |some v6=>
 match(v6.1 != (IntKind.i64.wrap ((IntKind.i64.wrap ((IntKind.i64.wrap (v1*(65536:Int)))+(IntKind.i64.wrap (v2*(256:Int)))))+v3)))with
 |true=>
  some (((0:Int),(0:Int),((0:Int),(0:Int),(0:Int),(0:Int),(0:Int),()),[],()),(7:Int),())
 |false=>
  aa (aH x.1.length none (some (.dat (.int .i64) (IntKind.i64.wrap ((x.1.length:Int)-(3:Int)))))) fun v7=>
  match sW ((List.drop v7.1 (List.take v7.2 x.1)),())with
  |none=>none
  |some v8=>
  match(!v8.2.1)with
  |true=>
   some (((0:Int),(0:Int),((0:Int),(0:Int),(0:Int),(0:Int),(0:Int),()),[],()),(6:Int),())
  |false=>
   match dS (v8.1.1,())with
   |none=>none
   |some v9=>
   match v9.1 with
   |true=>
    match(!(dC ab (v8.1.2.2.1.1,v8.1.2.2.1.2.1,v8.1.2.2.1.2.2.1,v8.1.2.2.1.2.2.2.1,v8.1.2.2.1.2.2.2.2.1,()) (x.2.2.1.1,x.2.2.1.2.1,x.2.2.1.2.2.1,x.2.2.1.2.2.2.1,x.2.2.1.2.2.2.2.1,())))with
    |true=>
     some (((0:Int),(0:Int),((0:Int),(0:Int),(0:Int),(0:Int),(0:Int),()),[],()),(5:Int),())
    |false=>
     some ((v8.1.1,v8.1.2.1,(v8.1.2.2.1.1,v8.1.2.2.1.2.1,v8.1.2.2.1.2.2.1,v8.1.2.2.1.2.2.2.1,v8.1.2.2.1.2.2.2.2.1,()),v8.1.2.2.2.1,()),(0:Int),())
   |false=>
    some ((v8.1.1,v8.1.2.1,(v8.1.2.2.1.1,v8.1.2.2.1.2.1,v8.1.2.2.1.2.2.1,v8.1.2.2.1.2.2.2.1,v8.1.2.2.1.2.2.2.2.1,()),v8.1.2.2.2.1,()),(0:Int),())
noncomputable def SE:Spec:=⟨_,(.pair (.pair (.int .i64) (.pair (.int .i64) (.pair ab (.pair (.own 2 (.int .i64)) .unit)))) (.pair (.int .i64) .unit)),.unit,rfl,oe⟩
theorem Qw:FnOK G0 Tryz.prog 199 SE:=aj ai (sg iX (sg xZ (sg Ov (aC)))) Tryz.func199
noncomputable def pc(x:Ty.T (.pair ae (.pair ab (.pair (.list (.int .i64)) .unit)))):Option (Ty.T (.pair (.pair (.int .i64) (.pair (.pair (.int .i64) (.pair (.int .i64) (.pair ab (.pair (.own 2 (.int .i64)) .unit)))) .unit)) (.pair (.int .i64) .unit))):=
match oe (x.2.2.1,x.1.1,(x.2.1.1,x.2.1.2.1,x.2.1.2.2.1,x.2.1.2.2.2.1,x.2.1.2.2.2.2.1,()),())with
|none=>none
|some v1=>
match(v1.2.1==(0:Int))with
|true=>
 match cn ((x.1.1,x.1.2.1,x.1.2.2.1,x.1.2.2.2.1,()),(x.2.1.1,x.2.1.2.1,x.2.1.2.2.1,x.2.1.2.2.2.1,x.2.1.2.2.2.2.1,()),())with
 |none=>none
 |some v2=>
 match c8 (v2.1,(v1.1.1,v1.1.2.1,(v1.1.2.2.1.1,v1.1.2.2.1.2.1,v1.1.2.2.1.2.2.1,v1.1.2.2.1.2.2.2.1,v1.1.2.2.1.2.2.2.2.1,()),v1.1.2.2.2.1,()),())with
 |none=>none
 |some v3=>
 match(!v3.1)with
 |true=>
  match((5:Int) != (0:Int))with
  |true=>
   some (((2:Int),((0:Int),(0:Int),((0:Int),(0:Int),(0:Int),(0:Int),(0:Int),()),[],()),()),(5:Int),())
  |false=>
   some (((3:Int),(v1.1.1,v1.1.2.1,(v1.1.2.2.1.1,v1.1.2.2.1.2.1,v1.1.2.2.1.2.2.1,v1.1.2.2.1.2.2.2.1,v1.1.2.2.1.2.2.2.2.1,()),v1.1.2.2.2.1,()),()),(0:Int),())
 |false=>
  match(v1.2.1 != (0:Int))with
  |true=>
   some (((2:Int),((0:Int),(0:Int),((0:Int),(0:Int),(0:Int),(0:Int),(0:Int),()),[],()),()),v1.2.1,())
  |false=>
   some (((3:Int),(v1.1.1,v1.1.2.1,(v1.1.2.2.1.1,v1.1.2.2.1.2.1,v1.1.2.2.1.2.2.1,v1.1.2.2.1.2.2.2.1,v1.1.2.2.1.2.2.2.2.1,()),v1.1.2.2.2.1,()),()),(0:Int),())
|false=>
 match(v1.2.1 != (0:Int))with
 |true=>
  some (((2:Int),((0:Int),(0:Int),((0:Int),(0:Int),(0:Int),(0:Int),(0:Int),()),[],()),()),v1.2.1,())
 |false=>
  some (((3:Int),(v1.1.1,v1.1.2.1,(v1.1.2.2.1.1,v1.1.2.2.1.2.1,v1.1.2.2.1.2.2.1,v1.1.2.2.1.2.2.2.1,v1.1.2.2.1.2.2.2.2.1,()),v1.1.2.2.2.1,()),()),(0:Int),())
noncomputable def Qx:Spec:=⟨_,(.pair (.pair (.int .i64) (.pair (.pair (.int .i64) (.pair (.int .i64) (.pair ab (.pair (.own 2 (.int .i64)) .unit)))) .unit)) (.pair (.int .i64) .unit)),.unit,rfl,pc⟩
theorem Ow:FnOK G0 Tryz.prog 149 Qx:=aj ai (sg gx (sg pM (sg Qw (aC)))) Tryz.func149
noncomputable def fp(x:Ty.T (.pair ae (.pair ab (.pair (.list (.int .i64)) .unit)))):Option (Ty.T (.pair (.pair (.int .i64) (.pair (.pair (.int .i64) (.pair (.int .i64) (.pair ab (.pair (.own 2 (.int .i64)) .unit)))) .unit)) (.pair (.int .i64) .unit))):=
match kW (x.2.2.1,())with
|none=>none
|some v1=>
match(v1.2.1==(0:Int))with
|true=>
 match pc ((x.1.1,x.1.2.1,x.1.2.2.1,x.1.2.2.2.1,()),(x.2.1.1,x.2.1.2.1,x.2.1.2.2.1,x.2.1.2.2.2.1,x.2.1.2.2.2.2.1,()),v1.1,())with
 |none=>none
 |some v2=>
 some ((v2.1.1,(v2.1.2.1.1,v2.1.2.1.2.1,(v2.1.2.1.2.2.1.1,v2.1.2.1.2.2.1.2.1,v2.1.2.1.2.2.1.2.2.1,v2.1.2.1.2.2.1.2.2.2.1,v2.1.2.1.2.2.1.2.2.2.2.1,()),v2.1.2.1.2.2.2.1,()),()),v2.2.1,())
|false=>
 match(v1.2.1==(4:Int))with
 |true=>
  some (((0:Int),((0:Int),(0:Int),((0:Int),(0:Int),(0:Int),(0:Int),(0:Int),()),[],()),()),v1.2.1,())
 |false=>
  some (((1:Int),((0:Int),(0:Int),((0:Int),(0:Int),(0:Int),(0:Int),(0:Int),()),[],()),()),v1.2.1,())
noncomputable def Mb:Spec:=⟨_,(.pair (.pair (.int .i64) (.pair (.pair (.int .i64) (.pair (.int .i64) (.pair ab (.pair (.own 2 (.int .i64)) .unit)))) .unit)) (.pair (.int .i64) .unit)),.unit,rfl,fp⟩
theorem Kb:FnOK G0 Tryz.prog 108 Mb:=aj ai (sg DA (sg Ow (aC))) Tryz.func108
noncomputable def lD(x:Ty.T (.pair ab (.pair (.int .i64) ah))):Option (Ty.T (.pair ab .unit)):=
match((IntKind.i64.wrap (x.1.2.2.2.1+(1:Int)))==x.2.2.1)with
|true=>
 if x.2.2.2.1=0 then none else
 some (((Int.tmod (IntKind.i64.wrap (x.1.1+x.2.1)) (65536:Int)),x.1.2.1,(Int.tmod (IntKind.i64.wrap (x.1.2.2.1+(1:Int))) x.2.2.2.1),(0:Int),x.1.2.2.2.2.1,()),())
|false=>
 some (((Int.tmod (IntKind.i64.wrap (x.1.1+x.2.1)) (65536:Int)),x.1.2.1,x.1.2.2.1,(IntKind.i64.wrap (x.1.2.2.2.1+(1:Int))),x.1.2.2.2.2.1,()),())
noncomputable def Mc:Spec:=⟨_,(.pair ab .unit),.unit,rfl,lD⟩
theorem Kc:FnOK G0 Tryz.prog 151 Mc:=aj ai aC Tryz.func151
noncomputable def jZ(x:Ty.T (.pair ae (.pair ab .unit))):Option (Ty.T (.pair ab .unit)):=
aa (au x.1.2.2.1 x.2.1.2.1) fun v1=>
aa (au x.1.2.2.1 x.2.1.2.1) fun v2=>
match cn ((x.1.1,x.1.2.1,x.1.2.2.1,x.1.2.2.2.1,()),(x.2.1.1,x.2.1.2.1,x.2.1.2.2.1,x.2.1.2.2.2.1,x.2.1.2.2.2.2.1,()),())with
|none=>none
|some v3=>
match lD ((x.2.1.1,x.2.1.2.1,x.2.1.2.2.1,x.2.1.2.2.2.1,x.2.1.2.2.2.2.1,()),v3.1.2.2.2.1,v1.2.1,v2.1,())with
|none=>none
|some v4=>
some ((v4.1.1,v4.1.2.1,v4.1.2.2.1,v4.1.2.2.2.1,v4.1.2.2.2.2.1,()),())
noncomputable def SF:Spec:=⟨_,(.pair ab .unit),.unit,rfl,jZ⟩
theorem Qy:FnOK G0 Tryz.prog 110 SF:=aj ai (sg gx (sg Kc (aC))) Tryz.func110
noncomputable def qQ(x:Ty.T (.pair ae (.pair ab (.pair ar .unit)))):Option (Ty.T (.pair (.pair (.int .i64) (.pair (.pair (.int .i64) (.pair (.int .i64) (.pair ab (.pair (.own 2 (.int .i64)) .unit)))) .unit)) (.pair ab .unit))):=
match o7 x with
|none=>none
|some v1=>
bf (
 match g8 (v1.1,x.2.2.1.2.2.1,())with
 |none=>none
 |some v2=>
 ba (
  match fp (x.1,x.2.1,v2.1,())with
  |none=>none
  |some v3=>
  bf (
   match g8 (v1.1,x.2.2.1.2.2.2.1,())with
   |none=>none
   |some v4=>
   ba (
    match fp (x.1,x.2.1,v4.1,())with
    |none=>none
    |some v5=>
    match kl (v3.1,v5.1,())with
    |none=>none
    |some v6=>
    ba (
     match cn (x.1,x.2.1,())with
     |none=>none
     |some v7=>
     match ix (x.2.1.2.2.2.2.1,v7.1.1,(v6.1.1==(3:Int)),())with
     |none=>none
     |some v8=>
     ba (
      match jZ (x.1,(x.2.1.1,x.2.1.2.1,x.2.1.2.2.1,x.2.1.2.2.2.1,v8.1,()),())with
      |none=>none
      |some v9=>
      some (v6.1,v9.1,()))))) (
   match g8 (v1.1,x.2.2.1.2.2.2.1,())with
   |none=>none
   |some v4=>
   match fp (x.1,x.2.1,v4.1,())with
   |none=>none
   |some v5=>
   match kl (v3.1,v5.1,())with
   |none=>none
   |some v6=>
   ba (
    match cn (x.1,x.2.1,())with
    |none=>none
    |some v7=>
    match ix (x.2.1.2.2.2.2.1,v7.1.1,(v6.1.1==(3:Int)),())with
    |none=>none
    |some v8=>
    ba (
     match jZ (x.1,(x.2.1.1,x.2.1.2.1,x.2.1.2.2.1,x.2.1.2.2.2.1,v8.1,()),())with
     |none=>none
     |some v9=>
     some (v6.1,v9.1,())))))) (
 match g8 (v1.1,x.2.2.1.2.2.1,())with
 |none=>none
 |some v2=>
 match fp (x.1,x.2.1,v2.1,())with
 |none=>none
 |some v3=>
 bf (
  match g8 (v1.1,x.2.2.1.2.2.2.1,())with
  |none=>none
  |some v4=>
  ba (
   match fp (x.1,x.2.1,v4.1,())with
   |none=>none
   |some v5=>
   match kl (v3.1,v5.1,())with
   |none=>none
   |some v6=>
   ba (
    match cn (x.1,x.2.1,())with
    |none=>none
    |some v7=>
    match ix (x.2.1.2.2.2.2.1,v7.1.1,(v6.1.1==(3:Int)),())with
    |none=>none
    |some v8=>
    ba (
     match jZ (x.1,(x.2.1.1,x.2.1.2.1,x.2.1.2.2.1,x.2.1.2.2.2.1,v8.1,()),())with
     |none=>none
     |some v9=>
     some (v6.1,v9.1,()))))) (
  match g8 (v1.1,x.2.2.1.2.2.2.1,())with
  |none=>none
  |some v4=>
  match fp (x.1,x.2.1,v4.1,())with
  |none=>none
  |some v5=>
  match kl (v3.1,v5.1,())with
  |none=>none
  |some v6=>
  ba (
   match cn (x.1,x.2.1,())with
   |none=>none
   |some v7=>
   match ix (x.2.1.2.2.2.2.1,v7.1.1,(v6.1.1==(3:Int)),())with
   |none=>none
   |some v8=>
   ba (
    match jZ (x.1,(x.2.1.1,x.2.1.2.1,x.2.1.2.2.1,x.2.1.2.2.2.1,v8.1,()),())with
    |none=>none
    |some v9=>
    some (v6.1,v9.1,())))))
noncomputable def Gt:Spec:=⟨_,(.pair (.pair (.int .i64) (.pair (.pair (.int .i64) (.pair (.int .i64) (.pair ab (.pair (.own 2 (.int .i64)) .unit)))) .unit)) (.pair ab .unit)),.unit,rfl,qQ⟩
theorem Qz:FnOK G0 Tryz.prog 76 Gt:=aj ai (sg gx (sg Od (sg Oe (sg J2 (sg Kb (sg wX (sg Qy (aC)))))))) Tryz.func76
noncomputable def gy(x:(Ty.T (.pair (.list ar) (.pair (.box ae) (.pair (.box ab) (.pair (.box ab) (.pair (.own 40 (.pair (.int .i64) (.pair (.pair (.int .i64) (.pair (.int .i64) (.pair ab (.pair (.own 2 (.int .i64)) .unit)))) .unit))) ah))))))):Option ((Ty.T (.pair (.list ar) (.pair (.box ae) (.pair (.box ab) (.pair (.box ab) (.pair (.own 40 (.pair (.int .i64) (.pair (.pair (.int .i64) (.pair (.int .i64) (.pair ab (.pair (.own 2 (.int .i64)) .unit)))) .unit))) ah)))))) ⊕ ((Ty.T (.pair (.box ab) (.pair (.box ab) (.pair (.own 40 (.pair (.int .i64) (.pair (.pair (.int .i64) (.pair (.int .i64) (.pair ab (.pair (.own 2 (.int .i64)) .unit)))) .unit))) .unit)))) ⊕ (Ty.T .unit))):=
match(decide (x.2.2.2.2.2.2.1<(x.1.length:Int)))with
|true=>
 aa (au x.1 x.2.2.2.2.2.2.1) fun v1=>
 bf (
  match qQ (x.2.1,x.2.2.1,v1,())with
  |none=>none
  |some v2=>
  ba (
   aM (x.2.2.2.2.1.length+ [v2.1].length) (
    match(v2.1.1==(3:Int))with
    |true=>
     match(decide (v2.1.2.1.2.1≥(1:Int)))with
     |true=>
      aa (au x.2.1.2.2.1 x.2.2.1.2.1) fun v3=>
      match nG (v3.2.2.1,(IntKind.i64.wrap (v2.1.2.1.2.1-(1:Int))),())with
      |none=>none
      |some v4=>
      match v4.1 with
      |true=>
       match(decide ((IntKind.i64.wrap (v2.1.2.1.2.1-(1:Int)))≥(0:Int)))with
       |true=>
        match(v2.2.1.2.2.1==(0:Int))with
        |true=>
         match(v2.2.1.2.2.2.1==(0:Int))with
         |true=>
          some (.inl (x.1,x.2.1,(v2.2.1.1,(IntKind.i64.wrap (v2.1.2.1.2.1-(1:Int))),v2.2.1.2.2.1,v2.2.1.2.2.2.1,v2.2.1.2.2.2.2.1,()),x.2.2.2.1,(x.2.2.2.2.1++ [v2.1]),(-1:Int),(IntKind.i64.wrap (x.2.2.2.2.2.2.1+(1:Int))),()))
         |false=>
          some (.inl (x.1,x.2.1,v2.2.1,x.2.2.2.1,(x.2.2.2.2.1++ [v2.1]),(IntKind.i64.wrap (v2.1.2.1.2.1-(1:Int))),(IntKind.i64.wrap (x.2.2.2.2.2.2.1+(1:Int))),()))
        |false=>
         some (.inl (x.1,x.2.1,v2.2.1,x.2.2.2.1,(x.2.2.2.2.1++ [v2.1]),(IntKind.i64.wrap (v2.1.2.1.2.1-(1:Int))),(IntKind.i64.wrap (x.2.2.2.2.2.2.1+(1:Int))),()))
       |false=>
        some (.inl (x.1,x.2.1,v2.2.1,x.2.2.2.1,(x.2.2.2.2.1++ [v2.1]),(IntKind.i64.wrap (v2.1.2.1.2.1-(1:Int))),(IntKind.i64.wrap (x.2.2.2.2.2.2.1+(1:Int))),()))
      |false=>
       match(decide (x.2.2.2.2.2.1≥(0:Int)))with
       |true=>
        match(v2.2.1.2.2.1==(0:Int))with
        |true=>
         match(v2.2.1.2.2.2.1==(0:Int))with
         |true=>
          some (.inl (x.1,x.2.1,(v2.2.1.1,x.2.2.2.2.2.1,v2.2.1.2.2.1,v2.2.1.2.2.2.1,v2.2.1.2.2.2.2.1,()),x.2.2.2.1,(x.2.2.2.2.1++ [v2.1]),(-1:Int),(IntKind.i64.wrap (x.2.2.2.2.2.2.1+(1:Int))),()))
         |false=>
          some (.inl (x.1,x.2.1,v2.2.1,x.2.2.2.1,(x.2.2.2.2.1++ [v2.1]),x.2.2.2.2.2.1,(IntKind.i64.wrap (x.2.2.2.2.2.2.1+(1:Int))),()))
        |false=>
         some (.inl (x.1,x.2.1,v2.2.1,x.2.2.2.1,(x.2.2.2.2.1++ [v2.1]),x.2.2.2.2.2.1,(IntKind.i64.wrap (x.2.2.2.2.2.2.1+(1:Int))),()))
       |false=>
        some (.inl (x.1,x.2.1,v2.2.1,x.2.2.2.1,(x.2.2.2.2.1++ [v2.1]),x.2.2.2.2.2.1,(IntKind.i64.wrap (x.2.2.2.2.2.2.1+(1:Int))),()))
     |false=>
      match(decide (x.2.2.2.2.2.1≥(0:Int)))with
      |true=>
       match(v2.2.1.2.2.1==(0:Int))with
       |true=>
        match(v2.2.1.2.2.2.1==(0:Int))with
        |true=>
         some (.inl (x.1,x.2.1,(v2.2.1.1,x.2.2.2.2.2.1,v2.2.1.2.2.1,v2.2.1.2.2.2.1,v2.2.1.2.2.2.2.1,()),x.2.2.2.1,(x.2.2.2.2.1++ [v2.1]),(-1:Int),(IntKind.i64.wrap (x.2.2.2.2.2.2.1+(1:Int))),()))
        |false=>
         some (.inl (x.1,x.2.1,v2.2.1,x.2.2.2.1,(x.2.2.2.2.1++ [v2.1]),x.2.2.2.2.2.1,(IntKind.i64.wrap (x.2.2.2.2.2.2.1+(1:Int))),()))
       |false=>
        some (.inl (x.1,x.2.1,v2.2.1,x.2.2.2.1,(x.2.2.2.2.1++ [v2.1]),x.2.2.2.2.2.1,(IntKind.i64.wrap (x.2.2.2.2.2.2.1+(1:Int))),()))
      |false=>
       some (.inl (x.1,x.2.1,v2.2.1,x.2.2.2.1,(x.2.2.2.2.1++ [v2.1]),x.2.2.2.2.2.1,(IntKind.i64.wrap (x.2.2.2.2.2.2.1+(1:Int))),()))
    |false=>
     match(decide (x.2.2.2.2.2.1≥(0:Int)))with
     |true=>
      match(v2.2.1.2.2.1==(0:Int))with
      |true=>
       match(v2.2.1.2.2.2.1==(0:Int))with
       |true=>
        some (.inl (x.1,x.2.1,(v2.2.1.1,x.2.2.2.2.2.1,v2.2.1.2.2.1,v2.2.1.2.2.2.1,v2.2.1.2.2.2.2.1,()),x.2.2.2.1,(x.2.2.2.2.1++ [v2.1]),(-1:Int),(IntKind.i64.wrap (x.2.2.2.2.2.2.1+(1:Int))),()))
       |false=>
        some (.inl (x.1,x.2.1,v2.2.1,x.2.2.2.1,(x.2.2.2.2.1++ [v2.1]),x.2.2.2.2.2.1,(IntKind.i64.wrap (x.2.2.2.2.2.2.1+(1:Int))),()))
      |false=>
       some (.inl (x.1,x.2.1,v2.2.1,x.2.2.2.1,(x.2.2.2.2.1++ [v2.1]),x.2.2.2.2.2.1,(IntKind.i64.wrap (x.2.2.2.2.2.2.1+(1:Int))),()))
     |false=>
      some (.inl (x.1,x.2.1,v2.2.1,x.2.2.2.1,(x.2.2.2.2.1++ [v2.1]),x.2.2.2.2.2.1,(IntKind.i64.wrap (x.2.2.2.2.2.2.1+(1:Int))),()))))) (
  ba (
   ba (
    match qQ (x.2.1,x.2.2.1,v1,())with
    |none=>none
    |some v2=>
    aM (x.2.2.2.2.1.length+ [v2.1].length) (
     match(v2.1.1==(3:Int))with
     |true=>
      match(decide (v2.1.2.1.2.1≥(1:Int)))with
      |true=>
       aa (au x.2.1.2.2.1 x.2.2.1.2.1) fun v3=>
       match nG (v3.2.2.1,(IntKind.i64.wrap (v2.1.2.1.2.1-(1:Int))),())with
       |none=>none
       |some v4=>
       match v4.1 with
       |true=>
        match(decide ((IntKind.i64.wrap (v2.1.2.1.2.1-(1:Int)))≥(0:Int)))with
        |true=>
         match(v2.2.1.2.2.1==(0:Int))with
         |true=>
          match(v2.2.1.2.2.2.1==(0:Int))with
          |true=>
           some (.inl (x.1,x.2.1,(v2.2.1.1,(IntKind.i64.wrap (v2.1.2.1.2.1-(1:Int))),v2.2.1.2.2.1,v2.2.1.2.2.2.1,v2.2.1.2.2.2.2.1,()),x.2.2.2.1,(x.2.2.2.2.1++ [v2.1]),(-1:Int),(IntKind.i64.wrap (x.2.2.2.2.2.2.1+(1:Int))),()))
          |false=>
           some (.inl (x.1,x.2.1,v2.2.1,x.2.2.2.1,(x.2.2.2.2.1++ [v2.1]),(IntKind.i64.wrap (v2.1.2.1.2.1-(1:Int))),(IntKind.i64.wrap (x.2.2.2.2.2.2.1+(1:Int))),()))
         |false=>
          some (.inl (x.1,x.2.1,v2.2.1,x.2.2.2.1,(x.2.2.2.2.1++ [v2.1]),(IntKind.i64.wrap (v2.1.2.1.2.1-(1:Int))),(IntKind.i64.wrap (x.2.2.2.2.2.2.1+(1:Int))),()))
        |false=>
         some (.inl (x.1,x.2.1,v2.2.1,x.2.2.2.1,(x.2.2.2.2.1++ [v2.1]),(IntKind.i64.wrap (v2.1.2.1.2.1-(1:Int))),(IntKind.i64.wrap (x.2.2.2.2.2.2.1+(1:Int))),()))
       |false=>
        match(decide (x.2.2.2.2.2.1≥(0:Int)))with
        |true=>
         match(v2.2.1.2.2.1==(0:Int))with
         |true=>
          match(v2.2.1.2.2.2.1==(0:Int))with
          |true=>
           some (.inl (x.1,x.2.1,(v2.2.1.1,x.2.2.2.2.2.1,v2.2.1.2.2.1,v2.2.1.2.2.2.1,v2.2.1.2.2.2.2.1,()),x.2.2.2.1,(x.2.2.2.2.1++ [v2.1]),(-1:Int),(IntKind.i64.wrap (x.2.2.2.2.2.2.1+(1:Int))),()))
          |false=>
           some (.inl (x.1,x.2.1,v2.2.1,x.2.2.2.1,(x.2.2.2.2.1++ [v2.1]),x.2.2.2.2.2.1,(IntKind.i64.wrap (x.2.2.2.2.2.2.1+(1:Int))),()))
         |false=>
          some (.inl (x.1,x.2.1,v2.2.1,x.2.2.2.1,(x.2.2.2.2.1++ [v2.1]),x.2.2.2.2.2.1,(IntKind.i64.wrap (x.2.2.2.2.2.2.1+(1:Int))),()))
        |false=>
         some (.inl (x.1,x.2.1,v2.2.1,x.2.2.2.1,(x.2.2.2.2.1++ [v2.1]),x.2.2.2.2.2.1,(IntKind.i64.wrap (x.2.2.2.2.2.2.1+(1:Int))),()))
      |false=>
       match(decide (x.2.2.2.2.2.1≥(0:Int)))with
       |true=>
        match(v2.2.1.2.2.1==(0:Int))with
        |true=>
         match(v2.2.1.2.2.2.1==(0:Int))with
         |true=>
          some (.inl (x.1,x.2.1,(v2.2.1.1,x.2.2.2.2.2.1,v2.2.1.2.2.1,v2.2.1.2.2.2.1,v2.2.1.2.2.2.2.1,()),x.2.2.2.1,(x.2.2.2.2.1++ [v2.1]),(-1:Int),(IntKind.i64.wrap (x.2.2.2.2.2.2.1+(1:Int))),()))
         |false=>
          some (.inl (x.1,x.2.1,v2.2.1,x.2.2.2.1,(x.2.2.2.2.1++ [v2.1]),x.2.2.2.2.2.1,(IntKind.i64.wrap (x.2.2.2.2.2.2.1+(1:Int))),()))
        |false=>
         some (.inl (x.1,x.2.1,v2.2.1,x.2.2.2.1,(x.2.2.2.2.1++ [v2.1]),x.2.2.2.2.2.1,(IntKind.i64.wrap (x.2.2.2.2.2.2.1+(1:Int))),()))
       |false=>
        some (.inl (x.1,x.2.1,v2.2.1,x.2.2.2.1,(x.2.2.2.2.1++ [v2.1]),x.2.2.2.2.2.1,(IntKind.i64.wrap (x.2.2.2.2.2.2.1+(1:Int))),()))
     |false=>
      match(decide (x.2.2.2.2.2.1≥(0:Int)))with
      |true=>
       match(v2.2.1.2.2.1==(0:Int))with
       |true=>
        match(v2.2.1.2.2.2.1==(0:Int))with
        |true=>
         some (.inl (x.1,x.2.1,(v2.2.1.1,x.2.2.2.2.2.1,v2.2.1.2.2.1,v2.2.1.2.2.2.1,v2.2.1.2.2.2.2.1,()),x.2.2.2.1,(x.2.2.2.2.1++ [v2.1]),(-1:Int),(IntKind.i64.wrap (x.2.2.2.2.2.2.1+(1:Int))),()))
        |false=>
         some (.inl (x.1,x.2.1,v2.2.1,x.2.2.2.1,(x.2.2.2.2.1++ [v2.1]),x.2.2.2.2.2.1,(IntKind.i64.wrap (x.2.2.2.2.2.2.1+(1:Int))),()))
       |false=>
        some (.inl (x.1,x.2.1,v2.2.1,x.2.2.2.1,(x.2.2.2.2.1++ [v2.1]),x.2.2.2.2.2.1,(IntKind.i64.wrap (x.2.2.2.2.2.2.1+(1:Int))),()))
      |false=>
       some (.inl (x.1,x.2.1,v2.2.1,x.2.2.2.1,(x.2.2.2.2.1++ [v2.1]),x.2.2.2.2.2.1,(IntKind.i64.wrap (x.2.2.2.2.2.2.1+(1:Int))),()))))))
|false=>
 some (.inr (.inl (x.2.2.1,x.2.2.2.1,x.2.2.2.2.1,())))
noncomputable def lE(x:Ty.T (.pair ae (.pair ab (.pair (.list ar) .unit)))):Option (Ty.T (.pair (.own 40 (.pair (.int .i64) (.pair (.pair (.int .i64) (.pair (.int .i64) (.pair ab (.pair (.own 2 (.int .i64)) .unit)))) .unit))) (.pair ab .unit))):=
match ac gy (x.2.2.1,x.1,x.2.1,((0:Int),(0:Int),(0:Int),(0:Int),(0:Int),()),[],(-1:Int),(0:Int),())with
|none=>none
|some (.inl v5)=>
 some (v5.2.2.1,v5.1,())
|some (.inr v7)=>
 none
noncomputable def zI:Spec:=⟨_,(.pair (.own 40 (.pair (.int .i64) (.pair (.pair (.int .i64) (.pair (.int .i64) (.pair ab (.pair (.own 2 (.int .i64)) .unit)))) .unit))) (.pair ab .unit)),.unit,rfl,lE⟩
noncomputable def Gu:FuncId→Option Spec:=aX [(76,Gt),(105,zz)]
theorem Ox:∀f s,Gu f=some s→FnOK G0 Tryz.prog f s:=aw ⟨Qz,Gf,trivial⟩
def DB:aG:=⟨[2,3,4,7,8,9,10],(.pair (.list ar) (.pair (.box ae) (.pair (.box ab) (.pair (.box ab) (.pair (.own 40 (.pair (.int .i64) (.pair (.pair (.int .i64) (.pair (.int .i64) (.pair ab (.pair (.own 2 (.int .i64)) .unit)))) .unit))) ah))))),0,[4,7,8],(.pair (.box ab) (.pair (.box ab) (.pair (.own 40 (.pair (.int .i64) (.pair (.pair (.int .i64) (.pair (.int .i64) (.pair ab (.pair (.own 2 (.int .i64)) .unit)))) .unit))) .unit))),[],.unit⟩
noncomputable def Gv:List a9z:=[DB.spec gy]
theorem Md:aU eU E3 Gu (aR Tryz.f73 Gv) Tryz.f73 0 DB gy:=fun x=>by kernel_rfl
theorem xa:FnOK G0 Tryz.prog 73 zI:=ax ab6 Ox Tryz.func73 Gv (by kernel_rfl) (by exact⟨(Md).lok,trivial⟩) fun x=>by kernel_rfl
noncomputable def pB(x:Ty.T (.pair ae (.pair ab (.pair (.list ar) .unit)))):Option (Ty.T (.pair (.own 40 (.pair (.int .i64) (.pair (.pair (.int .i64) (.pair (.int .i64) (.pair ab (.pair (.own 2 (.int .i64)) .unit)))) .unit))) (.pair ab (.pair (.int .i64) .unit)))):=
match n9 x with
|none=>none
|some v1=>
match(v1.1 != (0:Int))with
|true=>
 some ([],((0:Int),(0:Int),(0:Int),(0:Int),(0:Int),()),v1.1,())
|false=>
 match lE x with
 |none=>none
 |some v2=>
 some (v2.1,v2.2.1,(0:Int),())
noncomputable def Em:Spec:=⟨_,(.pair (.own 40 (.pair (.int .i64) (.pair (.pair (.int .i64) (.pair (.int .i64) (.pair ab (.pair (.own 2 (.int .i64)) .unit)))) .unit))) (.pair ab (.pair (.int .i64) .unit))),.unit,rfl,pB⟩
theorem O3:FnOK G0 Tryz.prog 44 Em:=aj ab6 (sg Dc (sg xa (aC))) Tryz.func44
noncomputable def bb(x:Ty.T (.pair (.int .i64) ah)):Option (Ty.T (.pair .bool .unit)):=
match(decide (x.1≥x.2.1))with
|true=>
 some ((decide (x.1≤x.2.2.1)),())
|false=>
 some (false,())
noncomputable def zL:Spec:=⟨_,(.pair .bool .unit),.unit,rfl,bb⟩
theorem co:FnOK G0 Tryz.prog 155 zL:=aj ai aC Tryz.func155
noncomputable def cD(x:(Ty.T (.pair (.list (.int .i64)) (.pair (.int .i64) ah)))):Option ((Ty.T (.pair (.list (.int .i64)) (.pair (.int .i64) ah))) ⊕ ((Ty.T .unit) ⊕ (Ty.T (.pair (.int .i64) .unit)))):=
match(decide (x.2.2.2.1<x.2.2.1))with
|true=>
 aa (au x.1 x.2.2.2.1) fun v1=>
 match(x.2.1==v1)with
 |true=>
  some (.inr (.inr (x.2.2.2.1,())))
 |false=>
  some (.inl (x.1,x.2.1,x.2.2.1,(IntKind.i64.wrap (x.2.2.2.1+(1:Int))),()))
|false=>
 some (.inr (.inl (())))
noncomputable def lF(x:Ty.T (.pair (.list (.int .i64)) (.pair (.int .i64) .unit))):Option (Ty.T (.pair (.int .i64) .unit)):=
match ac cD (x.1,x.2.1,(x.1.length:Int),(0:Int),())with
|none=>none
|some (.inl v2)=>
 some ((-1:Int),())
|some (.inr v3)=>
 some (v3.1,())
noncomputable def zM:Spec:=⟨_,(.pair (.int .i64) .unit),.unit,rfl,lF⟩
noncomputable def og:FuncId→Option Spec:=aX []
theorem vu:∀f s,og f=some s→FnOK G0 Tryz.prog f s:=aw trivial
def mY:aG:=⟨[0,1,7,8],(.pair (.list (.int .i64)) (.pair (.int .i64) ah)),0,[],.unit,[4],(.pair (.int .i64) .unit)⟩
noncomputable def oh:List a9z:=[mY.spec cD]
theorem ux:aU aV E0 og (aR Tryz.f206 oh) Tryz.f206 0 mY cD:=fun x=>by kernel_rfl
theorem yg:FnOK G0 Tryz.prog 206 zM:=ax ai vu Tryz.func206 oh (by kernel_rfl) (by exact⟨(ux).lok,trivial⟩) fun x=>by kernel_rfl
noncomputable def eY(x:Ty.T (.pair (.list (.int .i64)) (.pair (.int .i64) .unit))):Option (Ty.T (.pair .bool .unit)):=
match lF (x.1,x.2.1,())with
|none=>none
|some v1=>
some ((decide (v1.1≥(0:Int))),())
noncomputable def mz:Spec:=⟨_,(.pair .bool .unit),.unit,rfl,eY⟩
theorem lG:FnOK G0 Tryz.prog 163 mz:=aj ai (sg yg (aC)) Tryz.func163
noncomputable def gc(x:(Ty.T (.pair (.list (.int .i64)) (.pair (.int .i64) (.pair (.list (.int .i64)) ah))))):Option ((Ty.T (.pair (.list (.int .i64)) (.pair (.int .i64) (.pair (.list (.int .i64)) ah)))) ⊕ ((Ty.T .unit) ⊕ (Ty.T (.pair .bool .unit)))):=
match(decide (x.2.2.2.2.1<x.2.2.2.1))with
|true=>
 aa (au x.2.2.1 x.2.2.2.2.1) fun v1=>
 match(decide (v1<(0:Int)))with
 |true=>
  some (.inr (.inr (false,())))
 |false=>
  match(decide (v1≥x.2.1))with
  |true=>
   some (.inr (.inr (false,())))
  |false=>
   match(decide (x.2.2.2.2.1>(0:Int)))with
   |true=>
    aa (au x.1 (IntKind.i64.wrap (x.2.2.2.2.1-(1:Int)))) fun v2=>
    match(decide (v2≥v1))with
    |true=>
     some (.inr (.inr (false,())))
    |false=>
     some (.inl (x.1,x.2.1,x.2.2.1,x.2.2.2.1,(IntKind.i64.wrap (x.2.2.2.2.1+(1:Int))),()))
   |false=>
    some (.inl (x.1,x.2.1,x.2.2.1,x.2.2.2.1,(IntKind.i64.wrap (x.2.2.2.2.1+(1:Int))),()))
|false=>
 some (.inr (.inl (())))
noncomputable def sX(x:Ty.T (.pair (.list (.int .i64)) (.pair (.int .i64) .unit))):Option (Ty.T (.pair .bool .unit)):=
match ac gc (x.1,x.2.1,x.1,(x.1.length:Int),(0:Int),())with
|none=>none
|some (.inl v3)=>
 some (true,())
|some (.inr v4)=>
 some (v4.1,())
noncomputable def DH:Spec:=⟨_,(.pair .bool .unit),.unit,rfl,sX⟩
noncomputable def Ba:FuncId→Option Spec:=aX []
theorem Kg:∀f s,Ba f=some s→FnOK G0 Tryz.prog f s:=aw trivial
def yh:aG:=⟨[0,1,7,8,9],(.pair (.list (.int .i64)) (.pair (.int .i64) (.pair (.list (.int .i64)) ah))),0,[],.unit,[4],(.pair .bool .unit)⟩
noncomputable def Bb:List a9z:=[yh.spec gc]
theorem HY:aU aV E0 Ba (aR Tryz.f250 Bb) Tryz.f250 0 yh gc:=fun x=>by kernel_rfl
theorem Oz:FnOK G0 Tryz.prog 250 DH:=ax ai Kg Tryz.func250 Bb (by kernel_rfl) (by exact⟨(HY).lok,trivial⟩) fun x=>by kernel_rfl
noncomputable def ej(x:(Ty.T (.pair (.list ao) (.pair (.list ao) ah)))):Option ((Ty.T (.pair (.list ao) (.pair (.list ao) ah))) ⊕ ((Ty.T (.pair (.list ao) .unit)) ⊕ (Ty.T (.pair .bool .unit)))):=
match(decide (x.2.2.2.1<x.2.2.1))with
|true=>
 aa (au x.2.1 x.2.2.2.1) fun v1=>
 match bb (v1.1,(1:Int),(8:Int),())with
 |none=>none
 |some v2=>
 match(!v2.1)with
 |true=>
  some (.inr (.inr (false,())))
 |false=>
  match bb (v1.2.1,(1:Int),(16:Int),())with
  |none=>none
  |some v3=>
  match(!v3.1)with
  |true=>
   some (.inr (.inr (false,())))
  |false=>
   match sX (v1.2.2.1,(x.1.length:Int),())with
   |none=>none
   |some v4=>
   match(!v4.1)with
   |true=>
    some (.inr (.inr (false,())))
   |false=>
    match eY (v1.2.2.1,x.2.2.2.1,())with
    |none=>none
    |some v5=>
    match v5.1 with
    |true=>
     some (.inr (.inr (false,())))
    |false=>
     some (.inl (x.1,x.2.1,x.2.2.1,(IntKind.i64.wrap (x.2.2.2.1+(1:Int))),()))
|false=>
 some (.inr (.inl (x.1,())))
noncomputable def kG(x:Ty.T (.pair (.list ao) .unit)):Option (Ty.T (.pair .bool .unit)):=
match ac ej (x.1,x.1,(x.1.length:Int),(0:Int),())with
|none=>none
|some (.inl v6)=>
 match(decide ((v6.1.length:Int)≥(1:Int)))with
 |true=>
  some ((decide ((v6.1.length:Int)≤(16:Int))),())
 |false=>
  some (false,())
|some (.inr v7)=>
 some (v7.1,())
noncomputable def Kh:Spec:=⟨_,(.pair .bool .unit),.unit,rfl,kG⟩
noncomputable def uy:FuncId→Option Spec:=aX [(155,zL),(163,mz),(250,DH)]
theorem DI:∀f s,uy f=some s→FnOK G0 Tryz.prog f s:=aw ⟨co,lG,Oz,trivial⟩
def sk:aG:=⟨[0,5,6,7],(.pair (.list ao) (.pair (.list ao) ah)),0,[0],(.pair (.list ao) .unit),[2],(.pair .bool .unit)⟩
noncomputable def uA:List a9z:=[sk.spec ej]
theorem B5:aU aV E0 uy (aR Tryz.f205 uA) Tryz.f205 0 sk ej:=fun x=>by kernel_rfl
theorem uB:FnOK G0 Tryz.prog 205 Kh:=ax ai DI Tryz.func205 uA (by kernel_rfl) (by exact⟨(B5).lok,trivial⟩) fun x=>by kernel_rfl
noncomputable def dG(x:(Ty.T (.pair (.int .i64) (.pair (.list ak) ah)))):Option ((Ty.T (.pair (.int .i64) (.pair (.list ak) ah))) ⊕ ((Ty.T (.pair (.int .i64) .unit)) ⊕ (Ty.T .unit))):=
match(decide (x.2.2.2.1<x.2.2.1))with
|true=>
 aa (au x.2.1 x.2.2.2.1) fun v1=>
 match(!v1.2.2.2.1)with
 |true=>
  if v1.1<0 then none else
  some (.inl ((bits BinOp.or .i64 x.1 (IntKind.i64.wrap ((1:Int)*2^min v1.1.toNat IntKind.i64.bits))),x.2.1,x.2.2.1,(IntKind.i64.wrap (x.2.2.2.1+(1:Int))),()))
 |false=>
  some (.inl (x.1,x.2.1,x.2.2.1,(IntKind.i64.wrap (x.2.2.2.1+(1:Int))),()))
|false=>
 some (.inr (.inl (x.1,())))
noncomputable def il(x:Ty.T (.pair (.list ak) .unit)):Option (Ty.T (.pair (.int .i64) .unit)):=
match ac dG ((0:Int),x.1,(x.1.length:Int),(0:Int),())with
|none=>none
|some (.inl v2)=>
 some (v2.1,())
|some (.inr v4)=>
 none
noncomputable def uC:Spec:=⟨_,(.pair (.int .i64) .unit),.unit,rfl,il⟩
noncomputable def sn:FuncId→Option Spec:=aX []
theorem B6:∀f s,sn f=some s→FnOK G0 Tryz.prog f s:=aw trivial
def qT:aG:=⟨[3,6,7,8],(.pair (.int .i64) (.pair (.list ak) ah)),0,[3],(.pair (.int .i64) .unit),[],.unit⟩
noncomputable def so:List a9z:=[qT.spec dG]
theorem zN:aU aV E0 sn (aR Tryz.f202 so) Tryz.f202 0 qT dG:=fun x=>by kernel_rfl
theorem mJ:FnOK G0 Tryz.prog 202 uC:=ax ai B6 Tryz.func202 so (by kernel_rfl) (by exact⟨(zN).lok,trivial⟩) fun x=>by kernel_rfl
noncomputable def Pg(x:Ty.T ah):Option (Ty.T (.pair .bool .unit)):=
if x.2.1<0 then none else
some (((bits BinOp.and .i64 (Int.fdiv x.1 (2^min x.2.1.toNat IntKind.i64.bits)) (1:Int))==(1:Int)),())
noncomputable def Yz:Spec:=⟨_,(.pair .bool .unit),.unit,rfl,Pg⟩
theorem XB:FnOK G0 Tryz.prog 239 Yz:=aj ai aC Tryz.func239
noncomputable def mi(x:Ty.T (.pair ag (.pair (.ptr ae) .unit))):Option (Ty.T (.pair .bool .unit)):=
match il (x.2.1.2.1,())with
|none=>none
|some v1=>
match Pg (v1.1,x.1.2.2.2.1.1,())with
|none=>none
|some v2=>
some ((!v2.1),())
noncomputable def HZ:Spec:=⟨_,(.pair .bool .unit),.unit,rfl,mi⟩
theorem FB:FnOK G0 Tryz.prog 238 HZ:=aj ai (sg mJ (sg XB (aC))) Tryz.func238
noncomputable def mj(x:Ty.T (.pair ag .unit)):Option (Ty.T (.pair .bool .unit)):=
match(x.1.2.2.2.1.2.1==(3:Int))with
|true=>
 some ((x.1.1 != (0:Int)),())
|false=>
 some (false,())
noncomputable def H0:Spec:=⟨_,(.pair .bool .unit),.unit,rfl,mj⟩
theorem FC:FnOK G0 Tryz.prog 240 H0:=aj ai aC Tryz.func240
noncomputable def nH(x:Ty.T (.pair (.int .i64) .unit)):Option (Ty.T (.pair .bool .unit)):=
match bb (x.1,(0:Int),(31:Int),())with
|none=>none
|some v1=>
some (v1.1,())
noncomputable def U1:Spec:=⟨_,(.pair .bool .unit),.unit,rfl,nH⟩
theorem xb:FnOK G0 Tryz.prog 159 U1:=aj ai (sg co (aC)) Tryz.func159
noncomputable def uD(x:Ty.T (.pair .str (.pair .str .unit))):Option (Ty.T (.pair .str .unit)):=aa (Je x.1 x.2.1) fun s=>some (s,())
noncomputable def Mf:Spec:=⟨(.pair .str (.pair .str .unit)),(.pair .str .unit),.unit,rfl,uD⟩
theorem Ki:FnOK G0 Tryz.prog 312 Mf:=FnOK.str2_str (ki Tryz.func312 (by kernel_rfl) (show Tryz.f312.body=some (fS Tryz.f312) by kernel_rfl)) (fun w s t y _ hy=>UN w s t y hy)
noncomputable def lH(x:Ty.T (.pair ak .unit)):Option (Ty.T (.pair .bool .unit)):=
match(decide ((x.1.2.1.length:Int)≥(1:Int)))with
|true=>
 match(decide ((x.1.2.1.length:Int)≤(6:Int)))with
 |true=>
  match uD (x.1.2.1,([97,98,99,100,101,102,103,104,105,106,107,108,109,110,111,112,113,114,115,116,117,118,119,120,121,122,48,49,50,51,52,53,54,55,56,57]:List UInt8),())with
  |none=>none
  |some v1=>
  match(v1.1== [])with
  |true=>
   match nH (x.1.1,())with
   |none=>none
   |some v2=>
   match v2.1 with
   |true=>
    match bb (x.1.2.2.1,(0:Int),(1000:Int),())with
    |none=>none
    |some v3=>
    some (v3.1,())
   |false=>
    some (false,())
  |false=>
   some (false,())
 |false=>
  some (false,())
|false=>
 some (false,())
noncomputable def yi:Spec:=⟨_,(.pair .bool .unit),.unit,rfl,lH⟩
theorem Kj:FnOK G0 Tryz.prog 284 yi:=aj ai (sg co (sg xb (sg Ki (aC)))) Tryz.func284
noncomputable def bI(x:(Ty.T (.pair (.list ak) (.pair (.fn (.pair ak .unit) (.pair .bool .unit)) ah)))):Option ((Ty.T (.pair (.list ak) (.pair (.fn (.pair ak .unit) (.pair .bool .unit)) ah))) ⊕ ((Ty.T .unit) ⊕ (Ty.T (.pair (.int .i64) .unit)))):=
match(decide (x.2.2.2.1<x.2.2.1))with
|true=>
 aa (au x.1 x.2.2.2.1) fun v1=>
 match x.2.1 (v1,())with
 |none=>none
 |some v2=>
 match v2.1 with
 |true=>
  some (.inr (.inr (x.2.2.2.1,())))
 |false=>
  some (.inl (x.1,x.2.1,x.2.2.1,(IntKind.i64.wrap (x.2.2.2.1+(1:Int))),()))
|false=>
 some (.inr (.inl (())))
noncomputable def dv(x:Ty.T (.pair (.list ak) (.pair (.fn (.pair ak .unit) (.pair .bool .unit)) .unit))):Option (Ty.T (.pair (.int .i64) .unit)):=
match ac bI (x.1,x.2.1,(x.1.length:Int),(0:Int),())with
|none=>none
|some (.inl v3)=>
 some ((-1:Int),())
|some (.inr v4)=>
 some (v4.1,())
noncomputable def qU:Spec:=⟨_,(.pair (.int .i64) .unit),.unit,rfl,dv⟩
noncomputable def jH:FuncId→Option Spec:=aX []
theorem pd:∀f s,jH f=some s→FnOK G0 Tryz.prog f s:=aw trivial
def jt:aG:=⟨[0,1,7,8],(.pair (.list ak) (.pair (.fn (.pair ak .unit) (.pair .bool .unit)) ah)),0,[],.unit,[4],(.pair (.int .i64) .unit)⟩
noncomputable def jI:List a9z:=[jt.spec bI]
theorem oz:aU aV E0 jH (aR Tryz.f313 jI) Tryz.f313 0 jt bI:=fun x=>by kernel_rfl
theorem p7:FnOK G0 Tryz.prog 313 qU:=ax ai pd Tryz.func313 jI (by kernel_rfl) (by exact⟨(oz).lok,trivial⟩) fun x=>by kernel_rfl
noncomputable def cq(x:Ty.T (.pair (.list ak) (.pair (.fn (.pair ak .unit) (.pair .bool .unit)) .unit))):Option (Ty.T (.pair .bool .unit)):=
match dv (x.1,x.2.1,())with
|none=>none
|some v1=>
some ((decide (v1.1≥(0:Int))),())
noncomputable def jc:Spec:=⟨_,(.pair .bool .unit),.unit,rfl,cq⟩
theorem oA:FnOK G0 Tryz.prog 285 jc:=aj ai (sg p7 (aC)) Tryz.func285
noncomputable def jd(x:Ty.T (.pair ak (.pair (.ptr ak) .unit))):Option (Ty.T (.pair .bool .unit)):=
some ((x.1.2.1==x.2.1.2.1),())
noncomputable def sp:Spec:=⟨_,(.pair .bool .unit),.unit,rfl,jd⟩
theorem DJ:FnOK G0 Tryz.prog 286 sp:=aj ai aC Tryz.func286
noncomputable def el(x:(Ty.T (.pair (.list ak) (.pair (.list ak) ah)))):Option ((Ty.T (.pair (.list ak) (.pair (.list ak) ah))) ⊕ ((Ty.T (.pair (.list ak) .unit)) ⊕ (Ty.T (.pair .bool .unit)))):=
match(decide (x.2.2.2.1<x.2.2.1))with
|true=>
 aa (au x.2.1 x.2.2.2.1) fun v1=>
 match lH ((v1.1,v1.2.1,v1.2.2.1,v1.2.2.2.1,()),())with
 |none=>none
 |some v2=>
 match(!v2.1)with
 |true=>
  some (.inr (.inr (false,())))
 |false=>
  match(decide (x.2.2.2.1>(0:Int)))with
  |true=>
   aa (au x.1 (IntKind.i64.wrap (x.2.2.2.1-(1:Int)))) fun v3=>
   match(decide (v3.1≥v1.1))with
   |true=>
    some (.inr (.inr (false,())))
   |false=>
    aa (aH x.1.length none (some (.dat (.int .i64) x.2.2.2.1))) fun v4=>
    match cq ((List.drop v4.1 (List.take v4.2 x.1)),(fun z=>jd (z.1,(v1.1,v1.2.1,v1.2.2.1,v1.2.2.2.1,()),())),())with
    |none=>none
    |some v5=>
    match v5.1 with
    |true=>
     some (.inr (.inr (false,())))
    |false=>
     some (.inl (x.1,x.2.1,x.2.2.1,(IntKind.i64.wrap (x.2.2.2.1+(1:Int))),()))
  |false=>
   aa (aH x.1.length none (some (.dat (.int .i64) x.2.2.2.1))) fun v6=>
   match cq ((List.drop v6.1 (List.take v6.2 x.1)),(fun z=>jd (z.1,(v1.1,v1.2.1,v1.2.2.1,v1.2.2.2.1,()),())),())with
   |none=>none
   |some v7=>
   match v7.1 with
   |true=>
    some (.inr (.inr (false,())))
   |false=>
    some (.inl (x.1,x.2.1,x.2.2.1,(IntKind.i64.wrap (x.2.2.2.1+(1:Int))),()))
|false=>
 some (.inr (.inl (x.1,())))
noncomputable def ns(x:Ty.T (.pair (.list ak) .unit)):Option (Ty.T (.pair .bool .unit)):=
match ac el (x.1,x.1,(x.1.length:Int),(0:Int),())with
|none=>none
|some (.inl v8)=>
 match(decide ((v8.1.length:Int)≥(1:Int)))with
 |true=>
  some ((decide ((v8.1.length:Int)≤(32:Int))),())
 |false=>
  some (false,())
|some (.inr v9)=>
 some (v9.1,())
noncomputable def Kk:Spec:=⟨_,(.pair .bool .unit),.unit,rfl,ns⟩
noncomputable def uE:FuncId→Option Spec:=aX [(284,yi),(285,jc),(286,sp)]
theorem DK:∀f s,uE f=some s→FnOK G0 Tryz.prog f s:=aw ⟨Kj,oA,DJ,trivial⟩
def sq:aG:=⟨[0,5,6,7],(.pair (.list ak) (.pair (.list ak) ah)),0,[0],(.pair (.list ak) .unit),[2],(.pair .bool .unit)⟩
noncomputable def uF:List a9z:=[sq.spec el]
theorem B7:aU aV E0 uE (aR Tryz.f241 uF) Tryz.f241 0 sq el:=fun x=>by kernel_rfl
theorem H1:FnOK G0 Tryz.prog 241 Kk:=ax ai DK Tryz.func241 uF (by kernel_rfl) (by exact⟨(B7).lok,trivial⟩) fun x=>by kernel_rfl
noncomputable def uG(x:Ty.T (.pair (.int .i64) .unit)):Option (Ty.T (.pair .bool .unit)):=
match bb (x.1,(0:Int),(3:Int),())with
|none=>none
|some v1=>
some (v1.1,())
noncomputable def U2:Spec:=⟨_,(.pair .bool .unit),.unit,rfl,uG⟩
theorem Gx:FnOK G0 Tryz.prog 315 U2:=aj ai (sg co (aC)) Tryz.func315
noncomputable def lI(x:Ty.T ah):Option (Ty.T (.pair .bool .unit)):=
match(x.1==(0:Int))with
|true=>
 match bb (x.2.1,(0:Int),(32:Int),())with
 |none=>none
 |some v1=>
 some (v1.1,())
|false=>
 match(x.1==(2:Int))with
 |true=>
  match bb (x.2.1,(1:Int),(32:Int),())with
  |none=>none
  |some v2=>
  some (v2.1,())
 |false=>
  some ((x.2.1==(0:Int)),())
noncomputable def Mg:Spec:=⟨_,(.pair .bool .unit),.unit,rfl,lI⟩
theorem wd:FnOK G0 Tryz.prog 316 Mg:=aj ai (sg co (aC)) Tryz.func316
noncomputable def dV(x:Ty.T (.pair (.int .i64) .unit)):Option (Ty.T (.pair .bool .unit)):=
some ((x.1 != (0:Int)),())
noncomputable def QC:Spec:=⟨_,(.pair .bool .unit),.unit,rfl,dV⟩
theorem iY:FnOK G0 Tryz.prog 248 QC:=aj ai aC Tryz.func248
noncomputable def je(x:Ty.T (.pair (.int .i64) .unit)):Option (Ty.T (.pair .bool .unit)):=
match(x.1==(0:Int))with
|true=>
 some (true,())
|false=>
 some ((x.1==(2:Int)),())
noncomputable def SI:Spec:=⟨_,(.pair .bool .unit),.unit,rfl,je⟩
theorem uH:FnOK G0 Tryz.prog 259 SI:=aj ai aC Tryz.func259
noncomputable def sY(x:Ty.T ah):Option (Ty.T (.pair (.int .i64) .unit)):=
match dV (x.1,())with
|none=>none
|some v1=>
match v1.1 with
|true=>
 match je (x.1,())with
 |none=>none
 |some v2=>
 match v2.1 with
 |true=>
  some ((IntKind.i64.wrap ((IntKind.i64.wrap ((1:Int)+(8:Int)))+(IntKind.i64.wrap ((1:Int)+x.2.1)))),())
 |false=>
  some ((IntKind.i64.wrap ((1:Int)+(8:Int))),())
|false=>
 match je (x.1,())with
 |none=>none
 |some v3=>
 match v3.1 with
 |true=>
  some ((IntKind.i64.wrap ((1:Int)+(IntKind.i64.wrap ((1:Int)+x.2.1)))),())
 |false=>
  some ((1:Int),())
noncomputable def QD:Spec:=⟨_,(.pair (.int .i64) .unit),.unit,rfl,sY⟩
theorem OB:FnOK G0 Tryz.prog 330 QD:=aj ai (sg iY (sg uH (aC))) Tryz.func330
noncomputable def kH(x:Ty.T ah):Option (Ty.T (.pair (.int .i64) .unit)):=
match sY (x.1,x.2.1,())with
|none=>none
|some v1=>
some ((IntKind.i64.wrap ((11:Int)+(IntKind.i64.wrap ((10:Int)*(IntKind.i64.wrap (v1.1+(3:Int))))))),())
noncomputable def Kl:Spec:=⟨_,(.pair (.int .i64) .unit),.unit,rfl,kH⟩
theorem H2:FnOK G0 Tryz.prog 317 Kl:=aj ai (sg OB (aC)) Tryz.func317
noncomputable def eZ(x:Ty.T (.pair a7 .unit)):Option (Ty.T (.pair .bool .unit)):=
match nH (x.1.1,())with
|none=>none
|some v1=>
match(!v1.1)with
|true=>
 some (false,())
|false=>
 match uG (x.1.2.1,())with
 |none=>none
 |some v2=>
 match(!v2.1)with
 |true=>
  some (false,())
 |false=>
  match lI (x.1.2.1,x.1.2.2.1,())with
  |none=>none
  |some v3=>
  match(!v3.1)with
  |true=>
   some (false,())
  |false=>
   match x.1.2.2.2.2.1 with
   |true=>
    match(x.1.2.1==(3:Int))with
    |true=>
     some (false,())
    |false=>
     match kH (x.1.2.1,x.1.2.2.1,())with
     |none=>none
     |some v4=>
     match bb (x.1.2.2.2.1,(IntKind.i64.wrap (v4.1+(20:Int))),(1000:Int),())with
     |none=>none
     |some v5=>
     some (v5.1,())
   |false=>
    match kH (x.1.2.1,x.1.2.2.1,())with
    |none=>none
    |some v6=>
    match bb (x.1.2.2.2.1,(IntKind.i64.wrap (v6.1+(20:Int))),(1000:Int),())with
    |none=>none
    |some v7=>
    some (v7.1,())
noncomputable def H3:Spec:=⟨_,(.pair .bool .unit),.unit,rfl,eZ⟩
theorem su:FnOK G0 Tryz.prog 291 H3:=aj ai (sg co (sg xb (sg Gx (sg wd (sg H2 (aC)))))) Tryz.func291
noncomputable def lJ(x:Ty.T (.pair ag .unit)):Option (Ty.T (.pair .bool .unit)):=
match bb (x.1.1,(0:Int),(15:Int),())with
|none=>none
|some v1=>
match v1.1 with
|true=>
 match bb (x.1.2.1,(0:Int),(7:Int),())with
 |none=>none
 |some v2=>
 match v2.1 with
 |true=>
  match bb (x.1.2.2.1,(0:Int),(15:Int),())with
  |none=>none
  |some v3=>
  match v3.1 with
  |true=>
   match eZ ((x.1.2.2.2.1.1,x.1.2.2.2.1.2.1,x.1.2.2.2.1.2.2.1,x.1.2.2.2.1.2.2.2.1,x.1.2.2.2.1.2.2.2.2.1,()),())with
   |none=>none
   |some v4=>
   some (v4.1,())
  |false=>
   some (false,())
 |false=>
  some (false,())
|false=>
 some (false,())
noncomputable def yj:Spec:=⟨_,(.pair .bool .unit),.unit,rfl,lJ⟩
theorem Km:FnOK G0 Tryz.prog 287 yj:=aj ai (sg co (sg su (aC))) Tryz.func287
noncomputable def ol(x:Ty.T ah):Option (Ty.T (.pair (.int .i64) .unit)):=
match(decide (x.1<x.2.1))with
|true=>
 some ((-1:Int),())
|false=>
 match(decide (x.1>x.2.1))with
 |true=>
  some ((1:Int),())
 |false=>
  some ((0:Int),())
noncomputable def SJ:Spec:=⟨_,(.pair (.int .i64) .unit),.unit,rfl,ol⟩
theorem QE:FnOK G0 Tryz.prog 314 SJ:=aj ai aC Tryz.func314
noncomputable def im(x:Ty.T (.pair ag (.pair ag .unit))):Option (Ty.T (.pair (.int .i64) .unit)):=
match(x.1.1 != x.2.1.1)with
|true=>
 match ol (x.1.1,x.2.1.1,())with
 |none=>none
 |some v1=>
 some (v1.1,())
|false=>
 match(x.1.2.1 != x.2.1.2.1)with
 |true=>
  match ol (x.1.2.1,x.2.1.2.1,())with
  |none=>none
  |some v2=>
  some (v2.1,())
 |false=>
  match ol (x.1.2.2.1,x.2.1.2.2.1,())with
  |none=>none
  |some v3=>
  some (v3.1,())
noncomputable def nI:Spec:=⟨_,(.pair (.int .i64) .unit),.unit,rfl,im⟩
theorem sv:FnOK G0 Tryz.prog 288 nI:=aj ai (sg QE (aC)) Tryz.func288
noncomputable def eo(x:(Ty.T (.pair (.list ag) (.pair (.list ag) ah)))):Option ((Ty.T (.pair (.list ag) (.pair (.list ag) ah))) ⊕ ((Ty.T (.pair (.list ag) .unit)) ⊕ (Ty.T (.pair .bool .unit)))):=
match(decide (x.2.2.2.1<x.2.2.1))with
|true=>
 aa (au x.2.1 x.2.2.2.1) fun v1=>
 match lJ ((v1.1,v1.2.1,v1.2.2.1,(v1.2.2.2.1.1,v1.2.2.2.1.2.1,v1.2.2.2.1.2.2.1,v1.2.2.2.1.2.2.2.1,v1.2.2.2.1.2.2.2.2.1,()),()),())with
 |none=>none
 |some v2=>
 match(!v2.1)with
 |true=>
  some (.inr (.inr (false,())))
 |false=>
  match(decide (x.2.2.2.1>(0:Int)))with
  |true=>
   aa (au x.1 (IntKind.i64.wrap (x.2.2.2.1-(1:Int)))) fun v3=>
   match im (v3,(v1.1,v1.2.1,v1.2.2.1,(v1.2.2.2.1.1,v1.2.2.2.1.2.1,v1.2.2.2.1.2.2.1,v1.2.2.2.1.2.2.2.1,v1.2.2.2.1.2.2.2.2.1,()),()),())with
   |none=>none
   |some v4=>
   match(decide (v4.1≥(0:Int)))with
   |true=>
    some (.inr (.inr (false,())))
   |false=>
    some (.inl (x.1,x.2.1,x.2.2.1,(IntKind.i64.wrap (x.2.2.2.1+(1:Int))),()))
  |false=>
   some (.inl (x.1,x.2.1,x.2.2.1,(IntKind.i64.wrap (x.2.2.2.1+(1:Int))),()))
|false=>
 some (.inr (.inl (x.1,())))
noncomputable def nt(x:Ty.T (.pair (.list ag) .unit)):Option (Ty.T (.pair .bool .unit)):=
match ac eo (x.1,x.1,(x.1.length:Int),(0:Int),())with
|none=>none
|some (.inl v5)=>
 some ((decide ((v5.1.length:Int)≤(120:Int))),())
|some (.inr v6)=>
 some (v6.1,())
noncomputable def Kn:Spec:=⟨_,(.pair .bool .unit),.unit,rfl,nt⟩
noncomputable def uI:FuncId→Option Spec:=aX [(287,yj),(288,nI)]
theorem DL:∀f s,uI f=some s→FnOK G0 Tryz.prog f s:=aw ⟨Km,sv,trivial⟩
def sx:aG:=⟨[0,5,6,7],(.pair (.list ag) (.pair (.list ag) ah)),0,[0],(.pair (.list ag) .unit),[2],(.pair .bool .unit)⟩
noncomputable def uJ:List a9z:=[sx.spec eo]
theorem B8:aU aV E0 uI (aR Tryz.f242 uJ) Tryz.f242 0 sx eo:=fun x=>by kernel_rfl
theorem H4:FnOK G0 Tryz.prog 242 Kn:=ax ai DL Tryz.func242 uJ (by kernel_rfl) (by exact⟨(B8).lok,trivial⟩) fun x=>by kernel_rfl
noncomputable def dH(x:(Ty.T (.pair (.box ae) (.pair (.int .i64) (.pair (.int .i64) (.pair (.box ao) (.pair (.list ao) al))))))):Option ((Ty.T (.pair (.box ae) (.pair (.int .i64) (.pair (.int .i64) (.pair (.box ao) (.pair (.list ao) al)))))) ⊕ ((Ty.T (.pair (.box ae) (.pair (.int .i64) (.pair (.list ao) ah)))) ⊕ (Ty.T (.pair .bool .unit)))):=
match(decide (x.2.2.2.2.2.2.2.2.1<x.2.2.2.2.2.2.2.1))with
|true=>
 match(x.2.1==(x.1.2.2.2.1.length:Int))with
 |true=>
  some (.inr (.inr (false,())))
 |false=>
  aa (au x.1.2.2.2.1 x.2.1) fun v2=>
  if x.2.2.2.1.2.1=0 then none else
  if x.2.2.2.1.2.1=0 then none else
  match im (v2,(x.2.2.1,(IntKind.i64.wrap (Int.tdiv x.2.2.2.2.2.2.2.2.1 x.2.2.2.1.2.1)),(Int.tmod x.2.2.2.2.2.2.2.2.1 x.2.2.2.1.2.1),((0:Int),(0:Int),(0:Int),(0:Int),false,()),()),())with
  |none=>none
  |some v3=>
  match(v3.1 != (0:Int))with
  |true=>
   some (.inr (.inr (false,())))
  |false=>
   some (.inl ((x.1.1,x.1.2.1,x.1.2.2.1,x.1.2.2.2.1,()),(IntKind.i64.wrap (x.2.1+(1:Int))),x.2.2.1,(x.2.2.2.1.1,x.2.2.2.1.2.1,x.2.2.2.1.2.2.1,()),x.2.2.2.2.1,x.2.2.2.2.2.1,x.2.2.2.2.2.2.1,x.2.2.2.2.2.2.2.1,(IntKind.i64.wrap (x.2.2.2.2.2.2.2.2.1+(1:Int))),()))
|false=>
 some (.inr (.inl ((x.1.1,x.1.2.1,x.1.2.2.1,x.1.2.2.2.1,()),x.2.1,x.2.2.2.2.1,x.2.2.2.2.2.1,x.2.2.2.2.2.2.1,())))
noncomputable def dd(x:(Ty.T (.pair (.box ae) (.pair (.int .i64) (.pair (.list ao) ah))))):Option ((Ty.T (.pair (.box ae) (.pair (.int .i64) (.pair (.list ao) ah)))) ⊕ ((Ty.T (.pair (.box ae) (.pair (.int .i64) .unit))) ⊕ (Ty.T (.pair .bool .unit)))):=
match(decide (x.2.2.2.2.1<x.2.2.2.1))with
|true=>
 aa (au x.2.2.1 x.2.2.2.2.1) fun v1=>
 match ac dH ((x.1.1,x.1.2.1,x.1.2.2.1,x.1.2.2.2.1,()),x.2.1,x.2.2.2.2.1,(v1.1,v1.2.1,v1.2.2.1,()),x.2.2.1,x.2.2.2.1,x.2.2.2.2.1,(IntKind.i64.wrap (v1.1*v1.2.1)),(0:Int),())with
 |none=>none
 |some (.inl v2)=>
  some (.inl ((v2.1.1,v2.1.2.1,v2.1.2.2.1,v2.1.2.2.2.1,()),v2.2.1,v2.2.2.1,v2.2.2.2.1,(IntKind.i64.wrap (v2.2.2.2.2.1+(1:Int))),()))
 |some (.inr v3)=>
  some (.inr (.inr (v3.1,())))
|false=>
 some (.inr (.inl ((x.1.1,x.1.2.1,x.1.2.2.1,x.1.2.2.2.1,()),x.2.1,())))
noncomputable def lK(x:Ty.T (.pair ae .unit)):Option (Ty.T (.pair .bool .unit)):=
match ac dd ((x.1.1,x.1.2.1,x.1.2.2.1,x.1.2.2.2.1,()),(0:Int),x.1.2.2.1,(x.1.2.2.1.length:Int),(0:Int),())with
|none=>none
|some (.inl v4)=>
 some ((v4.2.1==(v4.1.2.2.2.1.length:Int)),())
|some (.inr v5)=>
 some (v5.1,())
noncomputable def Mh:Spec:=⟨_,(.pair .bool .unit),.unit,rfl,lK⟩
noncomputable def pe:FuncId→Option Spec:=aX [(288,nI)]
theorem FD:∀f s,pe f=some s→FnOK G0 Tryz.prog f s:=aw ⟨sv,trivial⟩
def uK:aG:=⟨[1,3,8,9,10],(.pair (.box ae) (.pair (.int .i64) (.pair (.list ao) ah))),0,[1,3],(.pair (.box ae) (.pair (.int .i64) .unit)),[2],(.pair .bool .unit)⟩
def uL:aG:=⟨[1,3,4,5,8,9,10,19,20],(.pair (.box ae) (.pair (.int .i64) (.pair (.int .i64) (.pair (.box ao) (.pair (.list ao) al))))),2,[1,3,8,9,10],(.pair (.box ae) (.pair (.int .i64) (.pair (.list ao) ah))),[2],(.pair .bool .unit)⟩
noncomputable def pf:List a9z:=[uK.spec dd,uL.spec dH]
theorem DM:aU aV E0 pe (aR Tryz.f243 pf) Tryz.f243 0 uK dd:=fun x=>by kernel_rfl
theorem DN:aU aV E0 pe (aR Tryz.f243 pf) Tryz.f243 1 uL dH:=fun x=>by kernel_rfl
theorem Ko:FnOK G0 Tryz.prog 243 Mh:=ax ai FD Tryz.func243 pf (by kernel_rfl) (by exact⟨(DM).lok,(DN).lok,trivial⟩) fun x=>by kernel_rfl
noncomputable def bJ(x:(Ty.T (.pair (.list ag) (.pair (.fn (.pair ag .unit) (.pair .bool .unit)) ah)))):Option ((Ty.T (.pair (.list ag) (.pair (.fn (.pair ag .unit) (.pair .bool .unit)) ah))) ⊕ ((Ty.T .unit) ⊕ (Ty.T (.pair (.int .i64) .unit)))):=
match(decide (x.2.2.2.1<x.2.2.1))with
|true=>
 aa (au x.1 x.2.2.2.1) fun v1=>
 match x.2.1 (v1,())with
 |none=>none
 |some v2=>
 match v2.1 with
 |true=>
  some (.inr (.inr (x.2.2.2.1,())))
 |false=>
  some (.inl (x.1,x.2.1,x.2.2.1,(IntKind.i64.wrap (x.2.2.2.1+(1:Int))),()))
|false=>
 some (.inr (.inl (())))
noncomputable def cG(x:Ty.T (.pair (.list ag) (.pair (.fn (.pair ag .unit) (.pair .bool .unit)) .unit))):Option (Ty.T (.pair (.int .i64) .unit)):=
match ac bJ (x.1,x.2.1,(x.1.length:Int),(0:Int),())with
|none=>none
|some (.inl v3)=>
 some ((-1:Int),())
|some (.inr v4)=>
 some (v4.1,())
noncomputable def qV:Spec:=⟨_,(.pair (.int .i64) .unit),.unit,rfl,cG⟩
noncomputable def jJ:FuncId→Option Spec:=aX []
theorem pg:∀f s,jJ f=some s→FnOK G0 Tryz.prog f s:=aw trivial
def ju:aG:=⟨[0,1,7,8],(.pair (.list ag) (.pair (.fn (.pair ag .unit) (.pair .bool .unit)) ah)),0,[],.unit,[4],(.pair (.int .i64) .unit)⟩
noncomputable def jK:List a9z:=[ju.spec bJ]
theorem oB:aU aV E0 jJ (aR Tryz.f164 jK) Tryz.f164 0 ju bJ:=fun x=>by kernel_rfl
theorem jL:FnOK G0 Tryz.prog 164 qV:=ax ai pg Tryz.func164 jK (by kernel_rfl) (by exact⟨(oB).lok,trivial⟩) fun x=>by kernel_rfl
noncomputable def bP(x:Ty.T (.pair (.list ag) (.pair (.fn (.pair ag .unit) (.pair .bool .unit)) .unit))):Option (Ty.T (.pair .bool .unit)):=
match cG (x.1,x.2.1,())with
|none=>none
|some v1=>
some ((decide (v1.1≥(0:Int))),())
noncomputable def ph:Spec:=⟨_,(.pair .bool .unit),.unit,rfl,bP⟩
theorem oC:FnOK G0 Tryz.prog 244 ph:=aj ai (sg jL (aC)) Tryz.func244
noncomputable def pi(x:Ty.T (.pair ag (.pair (.ptr (.int .i64)) (.pair (.ptr (.int .i64)) (.pair (.ptr (.int .i64)) .unit))))):Option (Ty.T (.pair .bool .unit)):=
match(x.1.1==x.2.1)with
|true=>
 match(x.1.2.1==x.2.2.1)with
 |true=>
  some ((x.1.2.2.1==x.2.2.2.1),())
 |false=>
  some (false,())
|false=>
 some (false,())
noncomputable def Mi:Spec:=⟨_,(.pair .bool .unit),.unit,rfl,pi⟩
theorem Kq:FnOK G0 Tryz.prog 165 Mi:=aj ai aC Tryz.func165
noncomputable def mk(x:Ty.T (.pair (.list ag) (.pair (.int .i64) ah))):Option (Ty.T (.pair (.int .i64) .unit)):=
match cG (x.1,(fun z=>pi (z.1,x.2.1,x.2.2.1,x.2.2.2.1,())),())with
|none=>none
|some v1=>
some (v1.1,())
noncomputable def DP:Spec:=⟨_,(.pair (.int .i64) .unit),.unit,rfl,mk⟩
theorem Bc:FnOK G0 Tryz.prog 120 DP:=aj ai (sg jL (sg Kq (aC))) Tryz.func120
noncomputable def gd(x:(Ty.T (.pair (.box ae) (.pair (.list ag) ah)))):Option ((Ty.T (.pair (.box ae) (.pair (.list ag) ah))) ⊕ ((Ty.T .unit) ⊕ (Ty.T (.pair .bool .unit)))):=
match(decide (x.2.2.2.1<x.2.2.1))with
|true=>
 aa (au x.2.1 x.2.2.2.1) fun v1=>
 ba (
  match mk (x.1.2.2.2.1,v1.1,(0:Int),v1.2.2.1,())with
  |none=>none
  |some v2=>
  aa (au x.1.2.2.2.1 v2.1) fun v3=>
  match(v1.2.2.2.1.2.2.2.1 != v3.2.2.2.1.2.2.2.1)with
  |true=>
   some (.inr (.inr (false,())))
  |false=>
   some (.inl ((x.1.1,x.1.2.1,x.1.2.2.1,x.1.2.2.2.1,()),x.2.1,x.2.2.1,(IntKind.i64.wrap (x.2.2.2.1+(1:Int))),())))
|false=>
 some (.inr (.inl (())))
noncomputable def pj(x:Ty.T (.pair ae .unit)):Option (Ty.T (.pair .bool .unit)):=
match ac gd ((x.1.1,x.1.2.1,x.1.2.2.1,x.1.2.2.2.1,()),x.1.2.2.2.1,(x.1.2.2.2.1.length:Int),(0:Int),())with
|none=>none
|some (.inl v4)=>
 some (true,())
|some (.inr v5)=>
 some (v5.1,())
noncomputable def QF:Spec:=⟨_,(.pair .bool .unit),.unit,rfl,pj⟩
noncomputable def Bd:FuncId→Option Spec:=aX [(120,DP)]
theorem Kr:∀f s,Bd f=some s→FnOK G0 Tryz.prog f s:=aw ⟨Bc,trivial⟩
def yk:aG:=⟨[1,7,8,9],(.pair (.box ae) (.pair (.list ag) ah)),0,[],.unit,[2],(.pair .bool .unit)⟩
noncomputable def Be:List a9z:=[yk.spec gd]
theorem H5:aU aV E0 Bd (aR Tryz.f245 Be) Tryz.f245 0 yk gd:=fun x=>by kernel_rfl
theorem OC:FnOK G0 Tryz.prog 245 QF:=ax ai Kr Tryz.func245 Be (by kernel_rfl) (by exact⟨(H5).lok,trivial⟩) fun x=>by kernel_rfl
noncomputable def dI(x:(Ty.T (.pair (.int .i64) (.pair (.list ag) ah)))):Option ((Ty.T (.pair (.int .i64) (.pair (.list ag) ah))) ⊕ ((Ty.T (.pair (.int .i64) .unit)) ⊕ (Ty.T .unit))):=
match(decide (x.2.2.2.1<x.2.2.1))with
|true=>
 aa (au x.2.1 x.2.2.2.1) fun v1=>
 some (.inl ((IntKind.i64.wrap (x.1+v1.2.2.2.1.2.2.2.1)),x.2.1,x.2.2.1,(IntKind.i64.wrap (x.2.2.2.1+(1:Int))),()))
|false=>
 some (.inr (.inl (x.1,())))
noncomputable def dn(x:Ty.T (.pair (.list ag) .unit)):Option (Ty.T (.pair (.int .i64) .unit)):=
match ac dI ((0:Int),x.1,(x.1.length:Int),(0:Int),())with
|none=>none
|some (.inl v2)=>
 some (v2.1,())
|some (.inr v4)=>
 none
noncomputable def uM:Spec:=⟨_,(.pair (.int .i64) .unit),.unit,rfl,dn⟩
noncomputable def sy:FuncId→Option Spec:=aX []
theorem B9:∀f s,sy f=some s→FnOK G0 Tryz.prog f s:=aw trivial
def qW:aG:=⟨[3,6,7,8],(.pair (.int .i64) (.pair (.list ag) ah)),0,[3],(.pair (.int .i64) .unit),[],.unit⟩
noncomputable def sz:List a9z:=[qW.spec dI]
theorem zO:aU aV E0 sy (aR Tryz.f289 sz) Tryz.f289 0 qW dI:=fun x=>by kernel_rfl
theorem FE:FnOK G0 Tryz.prog 289 uM:=ax ai B9 Tryz.func289 sz (by kernel_rfl) (by exact⟨(zO).lok,trivial⟩) fun x=>by kernel_rfl
noncomputable def fq(x:(Ty.T (.pair (.int .i64) (.pair (.own 148 ag) (.pair (.list ag) ah))))):Option ((Ty.T (.pair (.int .i64) (.pair (.own 148 ag) (.pair (.list ag) ah)))) ⊕ ((Ty.T (.pair (.own 148 ag) .unit)) ⊕ (Ty.T .unit))):=
match(decide (x.2.2.2.2.1<x.2.2.2.1))with
|true=>
 aa (au x.2.2.1 x.2.2.2.2.1) fun v1=>
 match(v1.1==x.1)with
 |true=>
  aM (x.2.1.length+ [(v1.1,v1.2.1,v1.2.2.1,(v1.2.2.2.1.1,v1.2.2.2.1.2.1,v1.2.2.2.1.2.2.1,v1.2.2.2.1.2.2.2.1,v1.2.2.2.1.2.2.2.2.1,()),())].length) (
   some (.inl (x.1,(x.2.1++ [(v1.1,v1.2.1,v1.2.2.1,(v1.2.2.2.1.1,v1.2.2.2.1.2.1,v1.2.2.2.1.2.2.1,v1.2.2.2.1.2.2.2.1,v1.2.2.2.1.2.2.2.2.1,()),())]),x.2.2.1,x.2.2.2.1,(IntKind.i64.wrap (x.2.2.2.2.1+(1:Int))),())))
 |false=>
  some (.inl (x.1,x.2.1,x.2.2.1,x.2.2.2.1,(IntKind.i64.wrap (x.2.2.2.2.1+(1:Int))),()))
|false=>
 some (.inr (.inl (x.2.1,())))
noncomputable def mZ(x:Ty.T (.pair ae (.pair (.int .i64) .unit))):Option (Ty.T (.pair (.own 148 ag) .unit)):=
match ac fq (x.2.1,[],x.1.2.2.2.1,(x.1.2.2.2.1.length:Int),(0:Int),())with
|none=>none
|some (.inl v2)=>
 some (v2.1,())
|some (.inr v4)=>
 none
noncomputable def Bf:Spec:=⟨_,(.pair (.own 148 ag) .unit),.unit,rfl,mZ⟩
noncomputable def yl:FuncId→Option Spec:=aX []
theorem H6:∀f s,yl f=some s→FnOK G0 Tryz.prog f s:=aw trivial
def we:aG:=⟨[1,5,10,11,12],(.pair (.int .i64) (.pair (.own 148 ag) (.pair (.list ag) ah))),0,[5],(.pair (.own 148 ag) .unit),[],.unit⟩
noncomputable def yn:List a9z:=[we.spec fq]
theorem FF:aU aV E0 yl (aR Tryz.f290 yn) Tryz.f290 0 we fq:=fun x=>by kernel_rfl
theorem Mj:FnOK G0 Tryz.prog 290 Bf:=ax ai H6 Tryz.func290 yn (by kernel_rfl) (by exact⟨(FF).lok,trivial⟩) fun x=>by kernel_rfl
noncomputable def gS(x:(Ty.T (.pair (.box ae) ah))):Option ((Ty.T (.pair (.box ae) ah)) ⊕ ((Ty.T .unit) ⊕ (Ty.T (.pair .bool .unit)))):=
match(decide (x.2.2.1<x.2.1))with
|true=>
 match mZ ((x.1.1,x.1.2.1,x.1.2.2.1,x.1.2.2.2.1,()),x.2.2.1,())with
 |none=>none
 |some v1=>
 match dn (v1.1,())with
 |none=>none
 |some v2=>
 match(decide (v2.1>(32000:Int)))with
 |true=>
  some (.inr (.inr (false,())))
 |false=>
  some (.inl ((x.1.1,x.1.2.1,x.1.2.2.1,x.1.2.2.2.1,()),x.2.1,(IntKind.i64.wrap (x.2.2.1+(1:Int))),()))
|false=>
 some (.inr (.inl (())))
noncomputable def qX(x:Ty.T (.pair ae .unit)):Option (Ty.T (.pair .bool .unit)):=
match ac gS ((x.1.1,x.1.2.1,x.1.2.2.1,x.1.2.2.2.1,()),(x.1.2.2.1.length:Int),(0:Int),())with
|none=>none
|some (.inl v3)=>
 some (true,())
|some (.inr v4)=>
 some (v4.1,())
noncomputable def SK:Spec:=⟨_,(.pair .bool .unit),.unit,rfl,qX⟩
noncomputable def DQ:FuncId→Option Spec:=aX [(289,uM),(290,Bf)]
theorem Mk:∀f s,DQ f=some s→FnOK G0 Tryz.prog f s:=aw ⟨FE,Mj,trivial⟩
def Bg:aG:=⟨[1,6,7],(.pair (.box ae) ah),0,[],.unit,[2],(.pair .bool .unit)⟩
noncomputable def DR:List a9z:=[Bg.spec gS]
theorem Ks:aU aV E0 DQ (aR Tryz.f246 DR) Tryz.f246 0 Bg gS:=fun x=>by kernel_rfl
theorem QG:FnOK G0 Tryz.prog 246 SK:=ax ai Mk Tryz.func246 DR (by kernel_rfl) (by exact⟨(Ks).lok,trivial⟩) fun x=>by kernel_rfl
noncomputable def eM(x:(Ty.T (.pair (.box ae) (.pair (.int .i64) (.pair (.int .i64) (.pair (.int .i64) (.pair (.list ao) (.pair (.int .i64) (.pair (.int .i64) (.pair (.int .i64) (.pair (.int .i64) (.pair (.list ag) ah)))))))))))):Option ((Ty.T (.pair (.box ae) (.pair (.int .i64) (.pair (.int .i64) (.pair (.int .i64) (.pair (.list ao) (.pair (.int .i64) (.pair (.int .i64) (.pair (.int .i64) (.pair (.int .i64) (.pair (.list ag) ah))))))))))) ⊕ ((Ty.T (.pair (.box ae) (.pair (.int .i64) (.pair (.int .i64) (.pair (.list ao) al))))) ⊕ (Ty.T .unit))):=
match(decide (x.2.2.2.2.2.2.2.2.2.2.2.1<x.2.2.2.2.2.2.2.2.2.2.1))with
|true=>
 aa (au x.2.2.2.2.2.2.2.2.2.1 x.2.2.2.2.2.2.2.2.2.2.2.1) fun v2=>
 match(v2.1==x.2.1)with
 |true=>
  match(v2.2.1==x.2.2.1)with
  |true=>
   if v2.2.2.2.1.1<0 then none else
   some (.inl ((x.1.1,x.1.2.1,x.1.2.2.1,x.1.2.2.2.1,()),x.2.1,x.2.2.1,(bits BinOp.or .i64 x.2.2.2.1 (IntKind.i64.wrap ((1:Int)*2^min v2.2.2.2.1.1.toNat IntKind.i64.bits))),x.2.2.2.2.1,x.2.2.2.2.2.1,x.2.2.2.2.2.2.1,x.2.2.2.2.2.2.2.1,x.2.2.2.2.2.2.2.2.1,x.2.2.2.2.2.2.2.2.2.1,x.2.2.2.2.2.2.2.2.2.2.1,(IntKind.i64.wrap (x.2.2.2.2.2.2.2.2.2.2.2.1+(1:Int))),()))
  |false=>
   some (.inl ((x.1.1,x.1.2.1,x.1.2.2.1,x.1.2.2.2.1,()),x.2.1,x.2.2.1,x.2.2.2.1,x.2.2.2.2.1,x.2.2.2.2.2.1,x.2.2.2.2.2.2.1,x.2.2.2.2.2.2.2.1,x.2.2.2.2.2.2.2.2.1,x.2.2.2.2.2.2.2.2.2.1,x.2.2.2.2.2.2.2.2.2.2.1,(IntKind.i64.wrap (x.2.2.2.2.2.2.2.2.2.2.2.1+(1:Int))),()))
 |false=>
  some (.inl ((x.1.1,x.1.2.1,x.1.2.2.1,x.1.2.2.2.1,()),x.2.1,x.2.2.1,x.2.2.2.1,x.2.2.2.2.1,x.2.2.2.2.2.1,x.2.2.2.2.2.2.1,x.2.2.2.2.2.2.2.1,x.2.2.2.2.2.2.2.2.1,x.2.2.2.2.2.2.2.2.2.1,x.2.2.2.2.2.2.2.2.2.2.1,(IntKind.i64.wrap (x.2.2.2.2.2.2.2.2.2.2.2.1+(1:Int))),()))
|false=>
 some (.inr (.inl ((x.1.1,x.1.2.1,x.1.2.2.1,x.1.2.2.2.1,()),x.2.1,x.2.2.2.1,x.2.2.2.2.1,x.2.2.2.2.2.1,x.2.2.2.2.2.2.1,x.2.2.2.2.2.2.2.1,x.2.2.2.2.2.2.2.2.1,())))
noncomputable def fO(x:(Ty.T (.pair (.box ae) (.pair (.int .i64) (.pair (.list ao) al))))):Option ((Ty.T (.pair (.box ae) (.pair (.int .i64) (.pair (.list ao) al)))) ⊕ ((Ty.T (.pair (.box ae) (.pair (.list ao) ah))) ⊕ (Ty.T (.pair .bool .unit)))):=
match(decide (x.2.2.2.2.2.2.1<x.2.2.2.2.2.1))with
|true=>
 match ac eM ((x.1.1,x.1.2.1,x.1.2.2.1,x.1.2.2.2.1,()),x.2.1,x.2.2.2.2.2.2.1,(0:Int),x.2.2.1,x.2.2.2.1,x.2.2.2.2.1,x.2.2.2.2.2.1,x.2.2.2.2.2.2.1,x.1.2.2.2.1,(x.1.2.2.2.1.length:Int),(0:Int),())with
 |none=>none
 |some (.inl v2)=>
  match il (v2.1.2.1,())with
  |none=>none
  |some v4=>
  match((bits BinOp.andNot .i64 v4.1 v2.2.2.1) != (0:Int))with
  |true=>
   some (.inr (.inr (false,())))
  |false=>
   some (.inl ((v2.1.1,v2.1.2.1,v2.1.2.2.1,v2.1.2.2.2.1,()),v2.2.1,v2.2.2.2.1,v2.2.2.2.2.1,v2.2.2.2.2.2.1,v2.2.2.2.2.2.2.1,(IntKind.i64.wrap (v2.2.2.2.2.2.2.2.1+(1:Int))),()))
 |some (.inr v5)=>
  none
|false=>
 some (.inr (.inl ((x.1.1,x.1.2.1,x.1.2.2.1,x.1.2.2.2.1,()),x.2.2.1,x.2.2.2.1,x.2.2.2.2.1,())))
noncomputable def gT(x:(Ty.T (.pair (.box ae) (.pair (.list ao) ah)))):Option ((Ty.T (.pair (.box ae) (.pair (.list ao) ah))) ⊕ ((Ty.T .unit) ⊕ (Ty.T (.pair .bool .unit)))):=
match(decide (x.2.2.2.1<x.2.2.1))with
|true=>
 aa (au x.2.1 x.2.2.2.1) fun v1=>
 match ac fO ((x.1.1,x.1.2.1,x.1.2.2.1,x.1.2.2.2.1,()),x.2.2.2.1,x.2.1,x.2.2.1,x.2.2.2.1,v1.1,(0:Int),())with
 |none=>none
 |some (.inl v2)=>
  some (.inl ((v2.1.1,v2.1.2.1,v2.1.2.2.1,v2.1.2.2.2.1,()),v2.2.1,v2.2.2.1,(IntKind.i64.wrap (v2.2.2.2.1+(1:Int))),()))
 |some (.inr v3)=>
  some (.inr (.inr (v3.1,())))
|false=>
 some (.inr (.inl (())))
noncomputable def qY(x:Ty.T (.pair ae .unit)):Option (Ty.T (.pair .bool .unit)):=
match ac gT ((x.1.1,x.1.2.1,x.1.2.2.1,x.1.2.2.2.1,()),x.1.2.2.1,(x.1.2.2.1.length:Int),(0:Int),())with
|none=>none
|some (.inl v4)=>
 some (true,())
|some (.inr v5)=>
 some (v5.1,())
noncomputable def SL:Spec:=⟨_,(.pair .bool .unit),.unit,rfl,qY⟩
noncomputable def pk:FuncId→Option Spec:=aX [(202,uC)]
theorem Ml:∀f s,pk f=some s→FnOK G0 Tryz.prog f s:=aw ⟨mJ,trivial⟩
def Bh:aG:=⟨[1,10,11,12],(.pair (.box ae) (.pair (.list ao) ah)),0,[],.unit,[2],(.pair .bool .unit)⟩
def Bi:aG:=⟨[1,3,10,11,12,18,19],(.pair (.box ae) (.pair (.int .i64) (.pair (.list ao) al))),2,[1,10,11,12],(.pair (.box ae) (.pair (.list ao) ah)),[2],(.pair .bool .unit)⟩
def Bj:aG:=⟨[1,3,5,6,10,11,12,18,19,23,24,25],(.pair (.box ae) (.pair (.int .i64) (.pair (.int .i64) (.pair (.int .i64) (.pair (.list ao) (.pair (.int .i64) (.pair (.int .i64) (.pair (.int .i64) (.pair (.int .i64) (.pair (.list ag) ah)))))))))),4,[1,3,6,10,11,12,18,19],(.pair (.box ae) (.pair (.int .i64) (.pair (.int .i64) (.pair (.list ao) al)))),[],.unit⟩
noncomputable def pl:List a9z:=[Bh.spec gT,Bi.spec fO,Bj.spec eM]
theorem Kt:aU aV E0 pk (aR Tryz.f247 pl) Tryz.f247 0 Bh gT:=fun x=>by kernel_rfl
theorem Ku:aU aV E0 pk (aR Tryz.f247 pl) Tryz.f247 1 Bi fO:=fun x=>by kernel_rfl
theorem Kv:aU aV E0 pk (aR Tryz.f247 pl) Tryz.f247 2 Bj eM:=fun x=>by kernel_rfl
theorem QH:FnOK G0 Tryz.prog 247 SL:=ax ai Ml Tryz.func247 pl (by kernel_rfl) (by exact⟨(Kt).lok,(Ku).lok,(Kv).lok,trivial⟩) fun x=>by kernel_rfl
noncomputable def lL(x:Ty.T (.pair ae .unit)):Option (Ty.T (.pair (.int .i64) .unit)):=
match bb (x.1.1,(1:Int),(16777215:Int),())with
|none=>none
|some v1=>
match(!v1.1)with
|true=>
 some ((1:Int),())
|false=>
 match ns (x.1.2.1,())with
 |none=>none
 |some v2=>
 match(!v2.1)with
 |true=>
  some ((2:Int),())
 |false=>
  match kG (x.1.2.2.1,())with
  |none=>none
  |some v3=>
  match(!v3.1)with
  |true=>
   some ((3:Int),())
  |false=>
   match nt (x.1.2.2.2.1,())with
   |none=>none
   |some v4=>
   match(!v4.1)with
   |true=>
    some ((4:Int),())
   |false=>
    match lK ((x.1.1,x.1.2.1,x.1.2.2.1,x.1.2.2.2.1,()),())with
    |none=>none
    |some v5=>
    match(!v5.1)with
    |true=>
     some ((5:Int),())
    |false=>
     match bP (x.1.2.2.2.1,(fun z=>mi (z.1,(x.1.1,x.1.2.1,x.1.2.2.1,x.1.2.2.2.1,()),())),())with
     |none=>none
     |some v6=>
     match v6.1 with
     |true=>
      some ((6:Int),())
     |false=>
      match pj ((x.1.1,x.1.2.1,x.1.2.2.1,x.1.2.2.2.1,()),())with
      |none=>none
      |some v7=>
      match(!v7.1)with
      |true=>
       some ((7:Int),())
      |false=>
       match qX ((x.1.1,x.1.2.1,x.1.2.2.1,x.1.2.2.2.1,()),())with
       |none=>none
       |some v8=>
       match(!v8.1)with
       |true=>
        some ((8:Int),())
       |false=>
        match qY ((x.1.1,x.1.2.1,x.1.2.2.1,x.1.2.2.2.1,()),())with
        |none=>none
        |some v9=>
        match(!v9.1)with
        |true=>
         some ((9:Int),())
        |false=>
         match bP (x.1.2.2.2.1,mj,())with
         |none=>none
         |some v10=>
         match v10.1 with
         |true=>
          some ((10:Int),())
         |false=>
          some ((0:Int),())
noncomputable def Mm:Spec:=⟨_,(.pair (.int .i64) .unit),.unit,rfl,lL⟩
theorem Kw:FnOK G0 Tryz.prog 200 Mm:=aj ai (sg co (sg uB (sg FB (sg FC (sg H1 (sg H4 (sg Ko (sg oC (sg OC (sg QG (sg QH (aC)))))))))))) Tryz.func200
noncomputable def km(x:Ty.T (.pair ae .unit)):Option (Ty.T (.pair .bool .unit)):=
match lL ((x.1.1,x.1.2.1,x.1.2.2.1,x.1.2.2.2.1,()),())with
|none=>none
|some v1=>
some ((v1.1==(0:Int)),())
noncomputable def U3:Spec:=⟨_,(.pair .bool .unit),.unit,rfl,km⟩
theorem SM:FnOK G0 Tryz.prog 152 U3:=aj ai (sg Kw (aC)) Tryz.func152
noncomputable def pm(x:Ty.T (.pair (.int .i64) .unit)):Option (Ty.T (.pair .bool .unit)):=
match bb (x.1,(0:Int),(4294967295:Int),())with
|none=>none
|some v1=>
some (v1.1,())
noncomputable def QI:Spec:=⟨_,(.pair .bool .unit),.unit,rfl,pm⟩
theorem Bk:FnOK G0 Tryz.prog 158 QI:=aj ai (sg co (aC)) Tryz.func158
noncomputable def e6(x:Ty.T (.pair ab .unit)):Option (Ty.T (.pair .bool .unit)):=
match bb (x.1.1,(0:Int),(65535:Int),())with
|none=>none
|some v1=>
match v1.1 with
|true=>
 match bb (x.1.2.1,(0:Int),(15:Int),())with
 |none=>none
 |some v2=>
 match v2.1 with
 |true=>
  match bb (x.1.2.2.1,(0:Int),(15:Int),())with
  |none=>none
  |some v3=>
  match v3.1 with
  |true=>
   match bb (x.1.2.2.2.1,(0:Int),(255:Int),())with
   |none=>none
   |some v4=>
   match v4.1 with
   |true=>
    match pm (x.1.2.2.2.2.1,())with
    |none=>none
    |some v5=>
    some (v5.1,())
   |false=>
    some (false,())
  |false=>
   some (false,())
 |false=>
  some (false,())
|false=>
 some (false,())
noncomputable def SN:Spec:=⟨_,(.pair .bool .unit),.unit,rfl,e6⟩
theorem pn:FnOK G0 Tryz.prog 201 SN:=aj ai (sg co (sg Bk (aC))) Tryz.func201
noncomputable def lM(x:Ty.T (.pair ae (.pair ab .unit))):Option (Ty.T (.pair .bool .unit)):=
match e6 ((x.2.1.1,x.2.1.2.1,x.2.1.2.2.1,x.2.1.2.2.2.1,x.2.1.2.2.2.2.1,()),())with
|none=>none
|some v1=>
match(!v1.1)with
|true=>
 some (false,())
|false=>
 match(decide (x.2.1.2.1≥(x.1.2.2.1.length:Int)))with
 |true=>
  some (false,())
 |false=>
  aa (au x.1.2.2.1 x.2.1.2.1) fun v2=>
  match(decide (x.2.1.2.2.1<v2.1))with
  |true=>
   match(decide (x.2.1.2.2.2.1<v2.2.1))with
   |true=>
    match il (x.1.2.1,())with
    |none=>none
    |some v3=>
    some (((bits BinOp.andNot .i64 x.2.1.2.2.2.2.1 v3.1)==(0:Int)),())
   |false=>
    some (false,())
  |false=>
   some (false,())
noncomputable def SO:Spec:=⟨_,(.pair .bool .unit),.unit,rfl,lM⟩
theorem QJ:FnOK G0 Tryz.prog 153 SO:=aj ai (sg pn (sg mJ (aC))) Tryz.func153
noncomputable def dW(x:Ty.T (.pair ae (.pair ab .unit))):Option (Ty.T (.pair (.int .i64) .unit)):=
match km ((x.1.1,x.1.2.1,x.1.2.2.1,x.1.2.2.2.1,()),())with
|none=>none
|some v1=>
match(!v1.1)with
|true=>
 some ((1:Int),())
|false=>
 match lM ((x.1.1,x.1.2.1,x.1.2.2.1,x.1.2.2.2.1,()),(x.2.1.1,x.2.1.2.1,x.2.1.2.2.1,x.2.1.2.2.2.1,x.2.1.2.2.2.2.1,()),())with
 |none=>none
 |some v2=>
 match(!v2.1)with
 |true=>
  some ((2:Int),())
 |false=>
  some ((0:Int),())
noncomputable def DS:Spec:=⟨_,(.pair (.int .i64) .unit),.unit,rfl,dW⟩
theorem kI:FnOK G0 Tryz.prog 111 DS:=aj ai (sg SM (sg QJ (aC))) Tryz.func111
noncomputable def cm(x:(Ty.T (.pair (.list ar) (.pair (.fn (.pair ar .unit) (.pair .bool .unit)) ah)))):Option ((Ty.T (.pair (.list ar) (.pair (.fn (.pair ar .unit) (.pair .bool .unit)) ah))) ⊕ ((Ty.T .unit) ⊕ (Ty.T (.pair (.int .i64) .unit)))):=
match(decide (x.2.2.2.1<x.2.2.1))with
|true=>
 aa (au x.1 x.2.2.2.1) fun v1=>
 match x.2.1 (v1,())with
 |none=>none
 |some v2=>
 match v2.1 with
 |true=>
  some (.inr (.inr (x.2.2.2.1,())))
 |false=>
  some (.inl (x.1,x.2.1,x.2.2.1,(IntKind.i64.wrap (x.2.2.2.1+(1:Int))),()))
|false=>
 some (.inr (.inl (())))
noncomputable def e7(x:Ty.T (.pair (.list ar) (.pair (.fn (.pair ar .unit) (.pair .bool .unit)) .unit))):Option (Ty.T (.pair (.int .i64) .unit)):=
match ac cm (x.1,x.2.1,(x.1.length:Int),(0:Int),())with
|none=>none
|some (.inl v3)=>
 some ((-1:Int),())
|some (.inr v4)=>
 some (v4.1,())
noncomputable def vv:Spec:=⟨_,(.pair (.int .i64) .unit),.unit,rfl,e7⟩
noncomputable def lN:FuncId→Option Spec:=aX []
theorem rI:∀f s,lN f=some s→FnOK G0 Tryz.prog f s:=aw trivial
def kY:aG:=⟨[0,1,7,8],(.pair (.list ar) (.pair (.fn (.pair ar .unit) (.pair .bool .unit)) ah)),0,[],.unit,[4],(.pair (.int .i64) .unit)⟩
noncomputable def lO:List a9z:=[kY.spec cm]
theorem qZ:aU aV E0 lN (aR Tryz.f154 lO) Tryz.f154 0 kY cm:=fun x=>by kernel_rfl
theorem uN:FnOK G0 Tryz.prog 154 vv:=ax ai rI Tryz.func154 lO (by kernel_rfl) (by exact⟨(qZ).lok,trivial⟩) fun x=>by kernel_rfl
noncomputable def fu(x:Ty.T (.pair (.list ar) (.pair (.fn (.pair ar .unit) (.pair .bool .unit)) .unit))):Option (Ty.T (.pair .bool .unit)):=
match e7 (x.1,x.2.1,())with
|none=>none
|some v1=>
some ((decide (v1.1≥(0:Int))),())
noncomputable def rJ:Spec:=⟨_,(.pair .bool .unit),.unit,rfl,fu⟩
theorem q6:FnOK G0 Tryz.prog 112 rJ:=aj ai (sg uN (aC)) Tryz.func112
noncomputable def ce(x:(Ty.T (.pair (.list al) (.pair (.fn (.pair al .unit) (.pair .bool .unit)) ah)))):Option ((Ty.T (.pair (.list al) (.pair (.fn (.pair al .unit) (.pair .bool .unit)) ah))) ⊕ ((Ty.T .unit) ⊕ (Ty.T (.pair (.int .i64) .unit)))):=
match(decide (x.2.2.2.1<x.2.2.1))with
|true=>
 aa (au x.1 x.2.2.2.1) fun v1=>
 match x.2.1 (v1,())with
 |none=>none
 |some v2=>
 match v2.1 with
 |true=>
  some (.inr (.inr (x.2.2.2.1,())))
 |false=>
  some (.inl (x.1,x.2.1,x.2.2.1,(IntKind.i64.wrap (x.2.2.2.1+(1:Int))),()))
|false=>
 some (.inr (.inl (())))
noncomputable def eE(x:Ty.T (.pair (.list al) (.pair (.fn (.pair al .unit) (.pair .bool .unit)) .unit))):Option (Ty.T (.pair (.int .i64) .unit)):=
match ac ce (x.1,x.2.1,(x.1.length:Int),(0:Int),())with
|none=>none
|some (.inl v3)=>
 some ((-1:Int),())
|some (.inr v4)=>
 some (v4.1,())
noncomputable def uO:Spec:=⟨_,(.pair (.int .i64) .unit),.unit,rfl,eE⟩
noncomputable def kZ:FuncId→Option Spec:=aX []
theorem q8:∀f s,kZ f=some s→FnOK G0 Tryz.prog f s:=aw trivial
def kJ:aG:=⟨[0,1,7,8],(.pair (.list al) (.pair (.fn (.pair al .unit) (.pair .bool .unit)) ah)),0,[],.unit,[4],(.pair (.int .i64) .unit)⟩
noncomputable def lc:List a9z:=[kJ.spec ce]
theorem p8:aU aV E0 kZ (aR Tryz.f178 lc) Tryz.f178 0 kJ ce:=fun x=>by kernel_rfl
theorem sZ:FnOK G0 Tryz.prog 178 uO:=ax ai q8 Tryz.func178 lc (by kernel_rfl) (by exact⟨(p8).lok,trivial⟩) fun x=>by kernel_rfl
noncomputable def dw(x:Ty.T (.pair (.list al) (.pair (.fn (.pair al .unit) (.pair .bool .unit)) .unit))):Option (Ty.T (.pair .bool .unit)):=
match eE (x.1,x.2.1,())with
|none=>none
|some v1=>
some ((decide (v1.1≥(0:Int))),())
noncomputable def q9:Spec:=⟨_,(.pair .bool .unit),.unit,rfl,dw⟩
theorem p9:FnOK G0 Tryz.prog 132 q9:=aj ai (sg sZ (aC)) Tryz.func132
noncomputable def qq(x:Ty.T (.pair (.int .i64) .unit)):Option (Ty.T (.pair .bool .unit)):=
match(x.1 != (1:Int))with
|true=>
 some ((x.1 != (5:Int)),())
|false=>
 some (false,())
noncomputable def OD:Spec:=⟨_,(.pair .bool .unit),.unit,rfl,qq⟩
theorem Mn:FnOK G0 Tryz.prog 179 OD:=aj ai aC Tryz.func179
noncomputable def po(x:Ty.T (.pair (.int .i64) .unit)):Option (Ty.T (.pair .bool .unit)):=
match(x.1==(4:Int))with
|true=>
 some (true,())
|false=>
 some ((x.1==(6:Int)),())
noncomputable def QK:Spec:=⟨_,(.pair .bool .unit),.unit,rfl,po⟩
theorem OE:FnOK G0 Tryz.prog 180 QK:=aj ai aC Tryz.func180
noncomputable def om(x:Ty.T (.pair al .unit)):Option (Ty.T (.pair .bool .unit)):=
match bb (x.1.1,(1:Int),(6:Int),())with
|none=>none
|some v1=>
match(!v1.1)with
|true=>
 some (false,())
|false=>
 match bb (x.1.2.1,(0:Int),(8192:Int),())with
 |none=>none
 |some v2=>
 match(!v2.1)with
 |true=>
  some (false,())
 |false=>
  match qq (x.1.1,())with
  |none=>none
  |some v3=>
  match v3.1 with
  |true=>
   match bb (x.1.2.2.1,(1:Int),(8192:Int),())with
   |none=>none
   |some v4=>
   match po (x.1.1,())with
   |none=>none
   |some v5=>
   match v5.1 with
   |true=>
    match bb (x.1.2.2.2.1,(0:Int),(1:Int),())with
    |none=>none
    |some v6=>
    match v4.1 with
    |true=>
     some (v6.1,())
    |false=>
     some (false,())
   |false=>
    match v4.1 with
    |true=>
     some ((x.1.2.2.2.1==(0:Int)),())
    |false=>
     some (false,())
  |false=>
   match po (x.1.1,())with
   |none=>none
   |some v7=>
   match v7.1 with
   |true=>
    match bb (x.1.2.2.2.1,(0:Int),(1:Int),())with
    |none=>none
    |some v8=>
    match(x.1.2.2.1==(0:Int))with
    |true=>
     some (v8.1,())
    |false=>
     some (false,())
   |false=>
    match(x.1.2.2.1==(0:Int))with
    |true=>
     some ((x.1.2.2.2.1==(0:Int)),())
    |false=>
     some (false,())
noncomputable def SP:Spec:=⟨_,(.pair .bool .unit),.unit,rfl,om⟩
theorem QL:FnOK G0 Tryz.prog 134 SP:=aj ai (sg co (sg Mn (sg OE (aC)))) Tryz.func134
noncomputable def lP(x:Ty.T (.pair al .unit)):Option (Ty.T (.pair .bool .unit)):=
match om ((x.1.1,x.1.2.1,x.1.2.2.1,x.1.2.2.2.1,()),())with
|none=>none
|some v1=>
some ((!v1.1),())
noncomputable def Mo:Spec:=⟨_,(.pair .bool .unit),.unit,rfl,lP⟩
theorem Kx:FnOK G0 Tryz.prog 133 Mo:=aj ai (sg QL (aC)) Tryz.func133
noncomputable def pq(x:Ty.T (.pair (.list al) .unit)):Option (Ty.T (.pair .bool .unit)):=
match(decide ((x.1.length:Int)≤(30:Int)))with
|true=>
 match dw (x.1,lP,())with
 |none=>none
 |some v1=>
 some ((!v1.1),())
|false=>
 some (false,())
noncomputable def QM:Spec:=⟨_,(.pair .bool .unit),.unit,rfl,pq⟩
theorem OG:FnOK G0 Tryz.prog 95 QM:=aj ai (sg p9 (sg Kx (aC))) Tryz.func95
noncomputable def uP(x:Ty.T (.pair ar .unit)):Option (Ty.T (.pair .bool .unit)):=
match bb (x.1.1,(0:Int),(255:Int),())with
|none=>none
|some v1=>
match v1.1 with
|true=>
 match bb (x.1.2.1,(0:Int),(7:Int),())with
 |none=>none
 |some v2=>
 match v2.1 with
 |true=>
  match pq (x.1.2.2.1,())with
  |none=>none
  |some v3=>
  match v3.1 with
  |true=>
   match pq (x.1.2.2.2.1,())with
   |none=>none
   |some v4=>
   some (v4.1,())
  |false=>
   some (false,())
 |false=>
  some (false,())
|false=>
 some (false,())
noncomputable def U4:Spec:=⟨_,(.pair .bool .unit),.unit,rfl,uP⟩
theorem SQ:FnOK G0 Tryz.prog 114 U4:=aj ai (sg OG (sg co (aC))) Tryz.func114
noncomputable def nu(x:Ty.T (.pair ar .unit)):Option (Ty.T (.pair .bool .unit)):=
match uP ((x.1.1,x.1.2.1,x.1.2.2.1,x.1.2.2.2.1,()),())with
|none=>none
|some v1=>
some ((!v1.1),())
noncomputable def Ky:Spec:=⟨_,(.pair .bool .unit),.unit,rfl,nu⟩
theorem H7:FnOK G0 Tryz.prog 113 Ky:=aj ai (sg SQ (aC)) Tryz.func113
noncomputable def kR(x:Ty.T (.pair ae (.pair ab (.pair (.list ar) .unit)))):Option (Ty.T (.pair (.int .i64) .unit)):=
match dW (x.1,x.2.1,())with
|none=>none
|some v1=>
match(v1.1 != (0:Int))with
|true=>
 some (v1.1,())
|false=>
 match(decide ((x.2.2.1.length:Int)>(40:Int)))with
 |true=>
  some ((3:Int),())
 |false=>
  match fu (x.2.2.1,nu,())with
  |none=>none
  |some v2=>
  match v2.1 with
  |true=>
   some ((5:Int),())
  |false=>
   some ((0:Int),())
noncomputable def Bl:Spec:=⟨_,(.pair (.int .i64) .unit),.unit,rfl,kR⟩
theorem yo:FnOK G0 Tryz.prog 77 Bl:=aj ai (sg kI (sg q6 (sg H7 (aC)))) Tryz.func77
noncomputable def rK(x:Ty.T (.pair ae (.pair ab (.pair .bool .unit)))):Option (Ty.T (.pair (.int .i64) .unit)):=
match dW ((x.1.1,x.1.2.1,x.1.2.2.1,x.1.2.2.2.1,()),(x.2.1.1,x.2.1.2.1,x.2.1.2.2.1,x.2.1.2.2.2.1,x.2.1.2.2.2.2.1,()),())with
|none=>none
|some v1=>
match(v1.1 != (0:Int))with
|true=>
 some (v1.1,())
|false=>
 match(!x.2.2.1)with
 |true=>
  some ((2:Int),())
 |false=>
  some ((0:Int),())
noncomputable def Kz:Spec:=⟨_,(.pair (.int .i64) .unit),.unit,rfl,rK⟩
theorem H8:FnOK G0 Tryz.prog 137 Kz:=aj ai (sg kI (aC)) Tryz.func137
noncomputable def cw(x:(Ty.T (.pair (.int .i64) (.pair (.int .i64) (.pair (.list (.int .i64)) ah))))):Option ((Ty.T (.pair (.int .i64) (.pair (.int .i64) (.pair (.list (.int .i64)) ah)))) ⊕ ((Ty.T .unit) ⊕ (Ty.T (.pair .bool .unit)))):=
match(decide (x.2.2.2.2.1<x.2.2.2.1))with
|true=>
 aa (au x.2.2.1 x.2.2.2.2.1) fun v1=>
 match(decide (v1<x.1))with
 |true=>
  some (.inr (.inr (false,())))
 |false=>
  match(decide (v1>x.2.1))with
  |true=>
   some (.inr (.inr (false,())))
  |false=>
   some (.inl (x.1,x.2.1,x.2.2.1,x.2.2.2.1,(IntKind.i64.wrap (x.2.2.2.2.1+(1:Int))),()))
|false=>
 some (.inr (.inl (())))
noncomputable def ic(x:Ty.T (.pair (.list (.int .i64)) ah)):Option (Ty.T (.pair .bool .unit)):=
match ac cw (x.2.1,x.2.2.1,x.1,(x.1.length:Int),(0:Int),())with
|none=>none
|some (.inl v2)=>
 some (true,())
|some (.inr v3)=>
 some (v3.1,())
noncomputable def OH:Spec:=⟨_,(.pair .bool .unit),.unit,rfl,ic⟩
noncomputable def yp:FuncId→Option Spec:=aX []
theorem H9:∀f s,yp f=some s→FnOK G0 Tryz.prog f s:=aw trivial
def wg:aG:=⟨[1,2,9,10,11],(.pair (.int .i64) (.pair (.int .i64) (.pair (.list (.int .i64)) ah))),0,[],.unit,[6],(.pair .bool .unit)⟩
noncomputable def yq:List a9z:=[wg.spec cw]
theorem FG:aU aV E0 yp (aR Tryz.f187 yq) Tryz.f187 0 wg cw:=fun x=>by kernel_rfl
theorem qa:FnOK G0 Tryz.prog 187 OH:=ax ai H9 Tryz.func187 yq (by kernel_rfl) (by exact⟨(FG).lok,trivial⟩) fun x=>by kernel_rfl
noncomputable def nJ(x:Ty.T (.pair (.list (.int .i64)) .unit)):Option (Ty.T (.pair .bool .unit)):=
match(decide ((x.1.length:Int)≤(8192:Int)))with
|true=>
 match ic (x.1,(0:Int),(1:Int),())with
 |none=>none
 |some v1=>
 some (v1.1,())
|false=>
 some (false,())
noncomputable def KA:Spec:=⟨_,(.pair .bool .unit),.unit,rfl,nJ⟩
theorem qr:FnOK G0 Tryz.prog 138 KA:=aj ai (sg qa (aC)) Tryz.func138
noncomputable def Mp(x:Ty.T (.pair .bool .unit)):Option (Ty.T (.pair (.int .i64) .unit)):=
match x.1 with
|true=>
 some ((1:Int),())
|false=>
 some ((0:Int),())
noncomputable def NC:Spec:=⟨_,(.pair (.int .i64) .unit),.unit,rfl,Mp⟩
theorem U5:FnOK G0 Tryz.prog 300 NC:=aj ai aC Tryz.func300
noncomputable def cp(x:(Ty.T (.pair (.list (.int .i64)) (.pair (.int .i64) ah)))):Option ((Ty.T (.pair (.list (.int .i64)) (.pair (.int .i64) ah))) ⊕ ((Ty.T (.pair (.int .i64) .unit)) ⊕ (Ty.T .unit))):=
match(decide (x.2.2.2.1≤x.2.1))with
|true=>
 match(decide (x.2.2.2.1<(0:Int)))with
 |true=>
  some (.inl (x.1,x.2.1,(IntKind.i64.wrap (x.2.2.1+(1:Int))),(IntKind.i64.wrap (x.2.2.2.1+(1:Int))),()))
 |false=>
  aa (au x.1 x.2.2.2.1) fun v1=>
  match(v1==(1:Int))with
  |true=>
   some (.inl (x.1,x.2.1,(IntKind.i64.wrap (x.2.2.1+(1:Int))),(IntKind.i64.wrap (x.2.2.2.1+(1:Int))),()))
  |false=>
   some (.inl (x.1,x.2.1,x.2.2.1,(IntKind.i64.wrap (x.2.2.2.1+(1:Int))),()))
|false=>
 some (.inr (.inl (x.2.2.1,())))
noncomputable def mm(x:Ty.T (.pair (.list (.int .i64)) (.pair (.int .i64) .unit))):Option (Ty.T (.pair (.int .i64) .unit)):=
match ac cp (x.1,x.2.1,(0:Int),(IntKind.i64.wrap ((IntKind.i64.wrap (x.2.1-(5:Int)))+(1:Int))),())with
|none=>none
|some (.inl v2)=>
 some (v2.1,())
|some (.inr v4)=>
 none
noncomputable def uQ:Spec:=⟨_,(.pair (.int .i64) .unit),.unit,rfl,mm⟩
noncomputable def sA:FuncId→Option Spec:=aX []
theorem Ca:∀f s,sA f=some s→FnOK G0 Tryz.prog f s:=aw trivial
def ra:aG:=⟨[0,1,5,6],(.pair (.list (.int .i64)) (.pair (.int .i64) ah)),0,[5],(.pair (.int .i64) .unit),[],.unit⟩
noncomputable def sB:List a9z:=[ra.spec cp]
theorem zP:aU aV E0 sA (aR Tryz.f301 sB) Tryz.f301 0 ra cp:=fun x=>by kernel_rfl
theorem FH:FnOK G0 Tryz.prog 301 uQ:=ax ai Ca Tryz.func301 sB (by kernel_rfl) (by exact⟨(zP).lok,trivial⟩) fun x=>by kernel_rfl
noncomputable def ko(x:(Ty.T (.pair (.list (.int .i64)) (.pair (.own 2 (.int .i64)) ah)))):Option ((Ty.T (.pair (.list (.int .i64)) (.pair (.own 2 (.int .i64)) ah))) ⊕ ((Ty.T (.pair (.own 2 (.int .i64)) .unit)) ⊕ (Ty.T .unit))):=
match(decide (x.2.2.2.1<x.2.2.1))with
|true=>
 match mm (x.1,x.2.2.2.1,())with
 |none=>none
 |some v1=>
 match Mp ((decide ((IntKind.i64.wrap ((2:Int)*v1.1))>(5:Int))),())with
 |none=>none
 |some v2=>
 aM (x.2.1.length+ [v2.1].length) (
  some (.inl (x.1,(x.2.1++ [v2.1]),x.2.2.1,(IntKind.i64.wrap (x.2.2.2.1+(1:Int))),())))
|false=>
 some (.inr (.inl (x.2.1,())))
noncomputable def KB(x:Ty.T (.pair (.list (.int .i64)) .unit)):Option (Ty.T (.pair (.own 2 (.int .i64)) .unit)):=
match ac ko (x.1,[],(x.1.length:Int),(0:Int),())with
|none=>none
|some (.inl v3)=>
 some (v3.1,())
|some (.inr v5)=>
 none
noncomputable def XC:Spec:=⟨_,(.pair (.own 2 (.int .i64)) .unit),.unit,rfl,KB⟩
noncomputable def ND:FuncId→Option Spec:=aX [(300,NC),(301,uQ)]
theorem SR:∀f s,ND f=some s→FnOK G0 Tryz.prog f s:=aw ⟨U5,FH,trivial⟩
def KC:aG:=⟨[0,3,7,8],(.pair (.list (.int .i64)) (.pair (.own 2 (.int .i64)) ah)),0,[3],(.pair (.own 2 (.int .i64)) .unit),[],.unit⟩
noncomputable def NF:List a9z:=[KC.spec ko]
theorem QN:aU aV E0 ND (aR Tryz.f264 NF) Tryz.f264 0 KC ko:=fun x=>by kernel_rfl
theorem Wl:FnOK G0 Tryz.prog 264 XC:=ax ai SR Tryz.func264 NF (by kernel_rfl) (by exact⟨(QN).lok,trivial⟩) fun x=>by kernel_rfl
noncomputable def nv(x:Ty.T (.pair (.list (.int .i64)) .unit)):Option (Ty.T (.pair (.own 2 (.int .i64)) (.pair (.int .i64) .unit))):=
match nJ (x.1,())with
|none=>none
|some v1=>
match(!v1.1)with
|true=>
 some ([],(1:Int),())
|false=>
 match KB (x.1,())with
 |none=>none
 |some v2=>
 some (v2.1,(0:Int),())
noncomputable def KD:Spec:=⟨_,(.pair (.own 2 (.int .i64)) (.pair (.int .i64) .unit)),.unit,rfl,nv⟩
theorem Ia:FnOK G0 Tryz.prog 219 KD:=aj ai (sg qr (sg Wl (aC))) Tryz.func219
noncomputable def bV(x:(Ty.T (.pair (.ptr dl) ah))):Option ((Ty.T (.pair (.ptr dl) ah)) ⊕ ((Ty.T ah) ⊕ (Ty.T (.pair (.int .i64) .unit)))):=
match(decide (x.2.1<(x.1.1.length:Int)))with
|true=>
 aa (au x.1.1 x.2.1) fun v1=>
 match(v1==x.2.2.1)with
 |true=>
  some (.inr (.inr (x.2.1,())))
 |false=>
  some (.inl (x.1,(IntKind.i64.wrap (x.2.1+(1:Int))),x.2.2.1,()))
|false=>
 some (.inr (.inl (x.2.1,x.2.2.1,())))
noncomputable def bl(x:Ty.T (.pair (.ptr dl) ah)):Option (Ty.T (.pair (.int .i64) .unit)):=
match ac bV (x.1,(IntKind.i64.wrap (x.2.1+(1:Int))),x.2.2.1,())with
|none=>none
|some (.inl v2)=>
 match(v2.2.1==(1:Int))with
 |true=>
  some (v2.1,())
 |false=>
  some ((-1:Int),())
|some (.inr v3)=>
 some (v3.1,())
noncomputable def m4:Spec:=⟨_,(.pair (.int .i64) .unit),.unit,rfl,bl⟩
noncomputable def mA:FuncId→Option Spec:=aX []
theorem s4:∀f s,mA f=some s→FnOK G0 Tryz.prog f s:=aw trivial
def lQ:aG:=⟨[0,1,2],(.pair (.ptr dl) ah),0,[1,2],ah,[6],(.pair (.int .i64) .unit)⟩
noncomputable def mB:List a9z:=[lQ.spec bV]
theorem rL:aU aV E0 mA (aR Tryz.f319 mB) Tryz.f319 0 lQ bV:=fun x=>by kernel_rfl
theorem mC:FnOK G0 Tryz.prog 319 m4:=ax ai s4 Tryz.func319 mB (by kernel_rfl) (by exact⟨(rL).lok,trivial⟩) fun x=>by kernel_rfl
noncomputable def uR(x:Ty.T (.pair (.int .i64) .unit)):Option (Ty.T (.pair (.int .i64) .unit)):=
some ((IntKind.i64.wrap (Int.tdiv (IntKind.i64.wrap (x.1+(4:Int))) (8:Int))),())
noncomputable def Mq:Spec:=⟨_,(.pair (.int .i64) .unit),.unit,rfl,uR⟩
theorem KE:FnOK G0 Tryz.prog 320 Mq:=aj ai aC Tryz.func320
noncomputable def uS(x:Ty.T (.pair (.int .i64) .unit)):Option (Ty.T (.pair .bool .unit)):=
match bb (x.1,(3:Int),(15:Int),())with
|none=>none
|some v1=>
some (v1.1,())
noncomputable def Mr:Spec:=⟨_,(.pair .bool .unit),.unit,rfl,uS⟩
theorem KF:FnOK G0 Tryz.prog 321 Mr:=aj ai (sg co (aC)) Tryz.func321
noncomputable def fT(x:Ty.T (.pair (.nptr dl) (.pair (.int .i64) .unit))):Option (Ty.T (.pair (.int .i64) .unit)):=
aa x.1 fun v1=>
match(decide (x.2.1≥(v1.1.length:Int)))with
|true=>
 some ((1:Int),())
|false=>
 aa x.1 fun v2=>
 aa (au v2.1 x.2.1) fun v3=>
 some (v3,())
noncomputable def jM:Spec:=⟨_,(.pair (.int .i64) .unit),.unit,rfl,fT⟩
theorem m5:FnOK G0 Tryz.prog 267 jM:=aj ai aC Tryz.func267
noncomputable def bc(x:(Ty.T (.pair (.box (.pair (.list (.int .i64)) (.pair (.int .i64) (.pair (.own 2 (.int .i64)) .unit)))) (.pair (.int .i64) .unit)))):Option ((Ty.T (.pair (.box (.pair (.list (.int .i64)) (.pair (.int .i64) (.pair (.own 2 (.int .i64)) .unit)))) (.pair (.int .i64) .unit))) ⊕ ((Ty.T .unit) ⊕ (Ty.T (.pair (.box (.pair (.list (.int .i64)) (.pair (.int .i64) (.pair (.own 2 (.int .i64)) .unit)))) (.pair (.int .i64) .unit))))):=
aM (x.1.2.2.1.length+ [x.2.1].length) (
 match fT ((some (x.1.1,x.1.2.1,(x.1.2.2.1++ [x.2.1]),())),(IntKind.i64.wrap (x.2.1+(76:Int))),())with
 |none=>none
 |some v1=>
 match(v1.1==(0:Int))with
 |true=>
  some (.inr (.inr ((x.1.1,x.1.2.1,(x.1.2.2.1++ [x.2.1]),()),(IntKind.i64.wrap (x.2.1+(72:Int))),())))
 |false=>
  match bl ((x.1.1,x.1.2.1,(x.1.2.2.1++ [x.2.1]),()),(IntKind.i64.wrap (x.2.1+(76:Int))),(0:Int),())with
  |none=>none
  |some v2=>
  match(decide (v2.1<(0:Int)))with
  |true=>
   some (.inr (.inr ((x.1.1,x.1.2.1,(x.1.2.2.1++ [x.2.1]),()),(-1:Int),())))
  |false=>
   match(decide (v2.1>(IntKind.i64.wrap ((IntKind.i64.wrap (x.2.1+(76:Int)))+(8:Int)))))with
   |true=>
    some (.inr (.inr ((x.1.1,x.1.2.1,(x.1.2.2.1++ [x.2.1]),()),(-1:Int),())))
   |false=>
    some (.inl ((x.1.1,x.1.2.1,(x.1.2.2.1++ [x.2.1]),()),v2.1,())))
noncomputable def cz(x:Ty.T (.pair (.box (.pair (.list (.int .i64)) (.pair (.int .i64) (.pair (.own 2 (.int .i64)) .unit)))) (.pair (.int .i64) .unit))):Option (Ty.T (.pair (.int .i64) (.pair (.box (.pair (.list (.int .i64)) (.pair (.int .i64) (.pair (.own 2 (.int .i64)) .unit)))) .unit))):=
match ac bc ((x.1.1,x.1.2.1,x.1.2.2.1,()),x.2.1,())with
|none=>none
|some (.inl v3)=>
 none
|some (.inr v4)=>
 some (v4.2.1,(v4.1.1,v4.1.2.1,v4.1.2.2.1,()),())
noncomputable def xd:Spec:=⟨_,(.pair (.int .i64) .unit),(.pair (.box (.pair (.list (.int .i64)) (.pair (.int .i64) (.pair (.own 2 (.int .i64)) .unit)))) .unit),rfl,cz⟩
noncomputable def mD:FuncId→Option Spec:=aX [(267,jM),(319,m4)]
theorem s5:∀f s,mD f=some s→FnOK G0 Tryz.prog f s:=aw ⟨m5,mC,trivial⟩
def lR:aG:=⟨[0,1],(.pair (.box (.pair (.list (.int .i64)) (.pair (.int .i64) (.pair (.own 2 (.int .i64)) .unit)))) (.pair (.int .i64) .unit)),999999,[],.unit,[0,4],(.pair (.box (.pair (.list (.int .i64)) (.pair (.int .i64) (.pair (.own 2 (.int .i64)) .unit)))) (.pair (.int .i64) .unit))⟩
noncomputable def mE:List a9z:=[lR.spec bc]
theorem rM:aU aV E0 mD (aR Tryz.f322 mE) Tryz.f322 0 lR bc:=fun x=>by kernel_rfl
theorem vw:FnOK G0 Tryz.prog 322 xd:=ax ai s5 Tryz.func322 mE (by kernel_rfl) (by exact⟨(rM).lok,trivial⟩) fun x=>by kernel_rfl
noncomputable def jy(x:Ty.T (.pair (.box (.pair (.list (.int .i64)) (.pair (.int .i64) (.pair (.own 2 (.int .i64)) .unit)))) .unit)):Option (Ty.T (.pair (.int .i64) (.pair (.box (.pair (.list (.int .i64)) (.pair (.int .i64) (.pair (.own 2 (.int .i64)) .unit)))) .unit))):=
match bl ((x.1.1,x.1.2.1,x.1.2.2.1,()),(-1:Int),(0:Int),())with
|none=>none
|some v1=>
match(decide (v1.1<(0:Int)))with
|true=>
 some ((4:Int),(x.1.1,x.1.2.1,x.1.2.2.1,()),())
|false=>
 match bl ((x.1.1,x.1.2.1,x.1.2.2.1,()),v1.1,(1:Int),())with
 |none=>none
 |some v2=>
 match uR ((IntKind.i64.wrap (v2.1-v1.1)),())with
 |none=>none
 |some v3=>
 match uS (v3.1,())with
 |none=>none
 |some v4=>
 match(!v4.1)with
 |true=>
  some ((6:Int),(x.1.1,v3.1,x.1.2.2.1,()),())
 |false=>
  match bl ((x.1.1,v3.1,x.1.2.2.1,()),v2.1,(0:Int),())with
  |none=>none
  |some v5=>
  match(decide (v5.1<(0:Int)))with
  |true=>
   some ((6:Int),(x.1.1,v3.1,x.1.2.2.1,()),())
  |false=>
   match(decide ((IntKind.i64.wrap (v5.1-v2.1))>(19:Int)))with
   |true=>
    some ((6:Int),(x.1.1,v3.1,x.1.2.2.1,()),())
   |false=>
    match(decide ((IntKind.i64.wrap (v5.1-v2.1))<(5:Int)))with
    |true=>
     some ((6:Int),(x.1.1,v3.1,x.1.2.2.1,()),())
    |false=>
     match((IntKind.i64.wrap (v5.1-v2.1))==(12:Int))with
     |true=>
      some ((6:Int),(x.1.1,v3.1,x.1.2.2.1,()),())
     |false=>
      match(decide ((IntKind.i64.wrap (v5.1-v2.1))≥(13:Int)))with
      |true=>
       match cz ((x.1.1,v3.1,x.1.2.2.1,()),v5.1,())with
       |none=>none
       |some v6=>
       match(decide (v6.1<(0:Int)))with
       |true=>
        some ((6:Int),(v6.2.1.1,v6.2.1.2.1,v6.2.1.2.2.1,()),())
       |false=>
        match bl ((v6.2.1.1,v6.2.1.2.1,v6.2.1.2.2.1,()),(IntKind.i64.wrap (v6.1+(11:Int))),(0:Int),())with
        |none=>none
        |some v7=>
        match(decide (v7.1≥(0:Int)))with
        |true=>
         some ((6:Int),(v6.2.1.1,v6.2.1.2.1,v6.2.1.2.2.1,()),())
        |false=>
         some ((0:Int),(v6.2.1.1,v6.2.1.2.1,v6.2.1.2.2.1,()),())
      |false=>
       match bl ((x.1.1,v3.1,x.1.2.2.1,()),(IntKind.i64.wrap (v5.1+(11:Int))),(0:Int),())with
       |none=>none
       |some v8=>
       match(decide (v8.1≥(0:Int)))with
       |true=>
        some ((6:Int),(x.1.1,v3.1,x.1.2.2.1,()),())
       |false=>
        some ((0:Int),(x.1.1,v3.1,x.1.2.2.1,()),())
noncomputable def Cb:Spec:=⟨_,(.pair (.int .i64) .unit),(.pair (.box (.pair (.list (.int .i64)) (.pair (.int .i64) (.pair (.own 2 (.int .i64)) .unit)))) .unit),rfl,jy⟩
theorem zQ:FnOK G0 Tryz.prog 302 Cb:=aj ai (sg mC (sg KE (sg KF (sg vw (aC))))) Tryz.func302
noncomputable def nw(x:Ty.T (.pair (.list (.int .i64)) .unit)):Option (Ty.T (.pair (.nptr dl) (.pair (.int .i64) .unit))):=
match nJ (x.1,())with
|none=>none
|some v1=>
match(!v1.1)with
|true=>
 some (none,(1:Int),())
|false=>
 match jy ((x.1,(0:Int),[],()),())with
 |none=>none
 |some v2=>
 match(v2.1 != (0:Int))with
 |true=>
  some (none,v2.1,())
 |false=>
  some ((some (v2.2.1.1,v2.2.1.2.1,v2.2.1.2.2.1,())),(0:Int),())
noncomputable def wh:Spec:=⟨_,(.pair (.nptr dl) (.pair (.int .i64) .unit)),.unit,rfl,nw⟩
theorem Ib:FnOK G0 Tryz.prog 265 wh:=aj ai (sg qr (sg zQ (aC))) Tryz.func265
noncomputable def iZ(x:(Ty.T (.pair (.int .i64) (.pair (.own 2 (.int .i64)) (.pair (.int .i64) .unit))))):Option ((Ty.T (.pair (.int .i64) (.pair (.own 2 (.int .i64)) (.pair (.int .i64) .unit)))) ⊕ ((Ty.T (.pair (.own 2 (.int .i64)) .unit)) ⊕ (Ty.T .unit))):=
match(decide (x.2.2.1<(9:Int)))with
|true=>
 aM (x.2.1.length+ [(IntKind.i64.wrap ((IntKind.i64.wrap (x.1+(IntKind.i64.wrap ((8:Int)*x.2.2.1))))+(12:Int)))].length) (
  some (.inl (x.1,(x.2.1++ [(IntKind.i64.wrap ((IntKind.i64.wrap (x.1+(IntKind.i64.wrap ((8:Int)*x.2.2.1))))+(12:Int)))]),(IntKind.i64.wrap (x.2.2.1+(1:Int))),())))
|false=>
 some (.inr (.inl (x.2.1,())))
noncomputable def wi(x:Ty.T (.pair (.int .i64) .unit)):Option (Ty.T (.pair (.own 2 (.int .i64)) .unit)):=
match ac iZ (x.1,[],(0:Int),())with
|none=>none
|some (.inl v1)=>
 some (v1.1,())
|some (.inr v3)=>
 none
noncomputable def Gy:Spec:=⟨_,(.pair (.own 2 (.int .i64)) .unit),.unit,rfl,wi⟩
noncomputable def DT:FuncId→Option Spec:=aX []
theorem Ms:∀f s,DT f=some s→FnOK G0 Tryz.prog f s:=aw trivial
def Bm:aG:=⟨[0,3,6],(.pair (.int .i64) (.pair (.own 2 (.int .i64)) (.pair (.int .i64) .unit))),0,[3],(.pair (.own 2 (.int .i64)) .unit),[],.unit⟩
noncomputable def DU:List a9z:=[Bm.spec iZ]
theorem KG:aU aV E0 DT (aR Tryz.f266 DU) Tryz.f266 0 Bm iZ:=fun x=>by kernel_rfl
theorem QO:FnOK G0 Tryz.prog 266 Gy:=ax ai Ms Tryz.func266 DU (by kernel_rfl) (by exact⟨(KG).lok,trivial⟩) fun x=>by kernel_rfl
noncomputable def dJ(x:(Ty.T (.pair (.nptr dl) (.pair (.own 2 (.int .i64)) (.pair (.int .i64) (.pair (.list (.int .i64)) (.pair (.int .i64) (.pair (.int .i64) (.pair (.own 2 (.int .i64)) ah))))))))):Option ((Ty.T (.pair (.nptr dl) (.pair (.own 2 (.int .i64)) (.pair (.int .i64) (.pair (.list (.int .i64)) (.pair (.int .i64) (.pair (.int .i64) (.pair (.own 2 (.int .i64)) ah)))))))) ⊕ ((Ty.T (.pair (.nptr dl) (.pair (.own 2 (.int .i64)) (.pair (.int .i64) (.pair (.list (.int .i64)) ah))))) ⊕ (Ty.T .unit))):=
match(decide (x.2.2.2.2.2.2.2.2.1<x.2.2.2.2.2.2.2.1))with
|true=>
 aa (au x.2.2.2.2.2.2.1 x.2.2.2.2.2.2.2.2.1) fun _=>
 match x.2.2.2.2.2.2.1[x.2.2.2.2.2.2.2.2.1.toNat]? with
 |none=>none
 |some v7=>
 match fT (x.1,v7,())with
 |none=>none
 |some v8=>
 some (.inl (x.1,x.2.1,(IntKind.i64.wrap ((IntKind.i64.wrap ((2:Int)*x.2.2.1))+v8.1)),x.2.2.2.1,x.2.2.2.2.1,x.2.2.2.2.2.1,x.2.2.2.2.2.2.1,x.2.2.2.2.2.2.2.1,(IntKind.i64.wrap (x.2.2.2.2.2.2.2.2.1+(1:Int))),()))
|false=>
 some (.inr (.inl (x.1,x.2.1,x.2.2.1,x.2.2.2.1,x.2.2.2.2.1,x.2.2.2.2.2.1,())))
noncomputable def ep(x:(Ty.T (.pair (.nptr dl) (.pair (.own 2 (.int .i64)) (.pair (.list (.int .i64)) ah))))):Option ((Ty.T (.pair (.nptr dl) (.pair (.own 2 (.int .i64)) (.pair (.list (.int .i64)) ah)))) ⊕ ((Ty.T (.pair (.own 2 (.int .i64)) .unit)) ⊕ (Ty.T .unit))):=
match(decide (x.2.2.2.2.1<x.2.2.2.1))with
|true=>
 aa (au x.2.2.1 x.2.2.2.2.1) fun v3=>
 match wi (v3,())with
 |none=>none
 |some v4=>
 aa (aH v4.1.length none (some (.dat (.int .i64) (8:Int)))) fun v5=>
 match ac dJ (x.1,x.2.1,(0:Int),x.2.2.1,x.2.2.2.1,x.2.2.2.2.1,(List.take v5.2 v4.1),((List.take v5.2 v4.1).length:Int),(0:Int),())with
 |none=>none
 |some (.inl v6)=>
  aM (v6.2.1.length+ [v6.2.2.1].length) (
   some (.inl (v6.1,(v6.2.1++ [v6.2.2.1]),v6.2.2.2.1,v6.2.2.2.2.1,(IntKind.i64.wrap (v6.2.2.2.2.2.1+(1:Int))),())))
 |some (.inr v8)=>
  some (.inr (.inr (())))
|false=>
 some (.inr (.inl (x.2.1,())))
noncomputable def nz(x:Ty.T (.pair (.list (.int .i64)) .unit)):Option (Ty.T (.pair (.own 2 (.int .i64)) (.pair (.int .i64) .unit))):=
match nw (x.1,())with
|none=>none
|some v1=>
match(v1.2.1 != (0:Int))with
|true=>
 some ([],v1.2.1,())
|false=>
 aa v1.1 fun v2=>
 match ac ep (v1.1,[],v2.2.2.1,(v2.2.2.1.length:Int),(0:Int),())with
 |none=>none
 |some (.inl v9)=>
  some (v9.1,(0:Int),())
 |some (.inr v11)=>
  none
noncomputable def KH:Spec:=⟨_,(.pair (.own 2 (.int .i64)) (.pair (.int .i64) .unit)),.unit,rfl,nz⟩
noncomputable def nK:FuncId→Option Spec:=aX [(265,wh),(266,Gy),(267,jM)]
theorem DV:∀f s,nK f=some s→FnOK G0 Tryz.prog f s:=aw ⟨Ib,QO,m5,trivial⟩
def sC:aG:=⟨[4,6,24,25,26],(.pair (.nptr dl) (.pair (.own 2 (.int .i64)) (.pair (.list (.int .i64)) ah))),0,[6],(.pair (.own 2 (.int .i64)) .unit),[],.unit⟩
def rb:aG:=⟨[4,6,9,24,25,26,32,33,34],(.pair (.nptr dl) (.pair (.own 2 (.int .i64)) (.pair (.int .i64) (.pair (.list (.int .i64)) (.pair (.int .i64) (.pair (.int .i64) (.pair (.own 2 (.int .i64)) ah))))))),2,[4,6,9,24,25,26],(.pair (.nptr dl) (.pair (.own 2 (.int .i64)) (.pair (.int .i64) (.pair (.list (.int .i64)) ah)))),[],.unit⟩
noncomputable def nL:List a9z:=[sC.spec ep,rb.spec dJ]
theorem Cc:aU aV E0 nK (aR Tryz.f220 nL) Tryz.f220 0 sC ep:=fun x=>by kernel_rfl
theorem zR:aU aV E0 nK (aR Tryz.f220 nL) Tryz.f220 1 rb dJ:=fun x=>by kernel_rfl
theorem Ic:FnOK G0 Tryz.prog 220 KH:=ax ai DV Tryz.func220 nL (by kernel_rfl) (by exact⟨(Cc).lok,(zR).lok,trivial⟩) fun x=>by kernel_rfl
noncomputable def ld(x:Ty.T (.pair (.list (.int .i64)) .unit)):Option (Ty.T (.pair (.own 2 (.int .i64)) (.pair (.int .i64) .unit))):=
match nv (x.1,())with
|none=>none
|some v1=>
match(v1.2.1 != (0:Int))with
|true=>
 some ([],v1.2.1,())
|false=>
 match nz (v1.1,())with
 |none=>none
 |some v2=>
 some (v2.1,v2.2.1,())
noncomputable def FI:Spec:=⟨_,(.pair (.own 2 (.int .i64)) (.pair (.int .i64) .unit)),.unit,rfl,ld⟩
theorem DW:FnOK G0 Tryz.prog 188 FI:=aj ai (sg Ia (sg Ic (aC))) Tryz.func188
noncomputable def ay(x:Ty.T (.pair ae (.pair ab .unit))):Option (Ty.T (.pair a7 .unit)):=
match mk (x.1.2.2.2.1,x.2.1.2.1,x.2.1.2.2.1,x.2.1.2.2.2.1,())with
|none=>none
|some v1=>
aa (au x.1.2.2.2.1 v1.1) fun v2=>
some ((v2.2.2.2.1.1,v2.2.2.2.1.2.1,v2.2.2.2.1.2.2.1,v2.2.2.2.1.2.2.2.1,v2.2.2.2.1.2.2.2.2.1,()),())
noncomputable def mK:Spec:=⟨_,(.pair a7 .unit),.unit,rfl,ay⟩
theorem cX:FnOK G0 Tryz.prog 81 mK:=aj ai (sg Bc (aC)) Tryz.func81
noncomputable def jN(x:Ty.T (.pair (.int .i64) .unit)):Option (Ty.T (.pair (.own 2 (.int .i64)) .unit)):=
some ([(Int.fdiv x.1 (2^min (16:Int).toNat IntKind.i64.bits)),(bits BinOp.and .i64 (Int.fdiv x.1 (2^min (8:Int).toNat IntKind.i64.bits)) (255:Int)),(bits BinOp.and .i64 x.1 (255:Int))],())
noncomputable def Mu:Spec:=⟨_,(.pair (.own 2 (.int .i64)) .unit),.unit,rfl,jN⟩
theorem wj:FnOK G0 Tryz.prog 215 Mu:=aj ai aC Tryz.func215
noncomputable def e8(x:(Ty.T (.pair (.own 2 (.int .i64)) ah))):Option ((Ty.T (.pair (.own 2 (.int .i64)) ah)) ⊕ ((Ty.T (.pair (.own 2 (.int .i64)) .unit)) ⊕ (Ty.T .unit))):=
match(decide (x.2.2.1≥(0:Int)))with
|true=>
 if x.2.2.1<0 then none else
 aM (x.1.length+ [(bits BinOp.and .i64 (Int.fdiv x.2.1 (2^min x.2.2.1.toNat IntKind.i64.bits)) (1:Int))].length) (
  some (.inl ((x.1++ [(bits BinOp.and .i64 (Int.fdiv x.2.1 (2^min x.2.2.1.toNat IntKind.i64.bits)) (1:Int))]),x.2.1,(IntKind.i64.wrap (x.2.2.1-(1:Int))),())))
|false=>
 some (.inr (.inl (x.1,())))
noncomputable def bw(x:Ty.T (.pair (.own 2 (.int .i64)) ah)):Option (Ty.T (.pair (.own 2 (.int .i64)) .unit)):=
match ac e8 (x.1,x.2.1,(IntKind.i64.wrap (x.2.2.1-(1:Int))),())with
|none=>none
|some (.inl v1)=>
 some (v1.1,())
|some (.inr v3)=>
 none
noncomputable def nM:Spec:=⟨_,(.pair (.own 2 (.int .i64)) .unit),.unit,rfl,bw⟩
noncomputable def sD:FuncId→Option Spec:=aX []
theorem Cd:∀f s,sD f=some s→FnOK G0 Tryz.prog f s:=aw trivial
def rc:aG:=⟨[0,1,7],(.pair (.own 2 (.int .i64)) ah),0,[0],(.pair (.own 2 (.int .i64)) .unit),[],.unit⟩
noncomputable def sE:List a9z:=[rc.spec e8]
theorem zS:aU aV E0 sD (aR Tryz.f213 sE) Tryz.f213 0 rc e8:=fun x=>by kernel_rfl
theorem mL:FnOK G0 Tryz.prog 213 nM:=ax ai Cd Tryz.func213 sE (by kernel_rfl) (by exact⟨(zS).lok,trivial⟩) fun x=>by kernel_rfl
noncomputable def jo(x:Ty.T (.pair ab .unit)):Option (Ty.T (.pair (.own 2 (.int .i64)) .unit)):=
match bw ([],x.1.1,(16:Int),())with
|none=>none
|some v1=>
match bw (v1.1,x.1.2.1,(4:Int),())with
|none=>none
|some v2=>
match bw (v2.1,x.1.2.2.1,(4:Int),())with
|none=>none
|some v3=>
match bw (v3.1,x.1.2.2.2.1,(8:Int),())with
|none=>none
|some v4=>
match bw (v4.1,x.1.2.2.2.2.1,(32:Int),())with
|none=>none
|some v5=>
some (v5.1,())
noncomputable def OI:Spec:=⟨_,(.pair (.own 2 (.int .i64)) .unit),.unit,rfl,jo⟩
theorem yt:FnOK G0 Tryz.prog 258 OI:=aj ai (sg mL (aC)) Tryz.func258
noncomputable def kK(x:Ty.T .unit):Option (Ty.T (.pair ah .unit)):=
some (((24:Int),(6122955:Int),()),())
noncomputable def KI:Spec:=⟨_,(.pair ah .unit),.unit,rfl,kK⟩
theorem Ie:FnOK G0 Tryz.prog 260 KI:=aj ai aC Tryz.func260
noncomputable def dX(x:(Ty.T (.pair (.int .i64) (.pair (.box ah) (.pair (.list (.int .i64)) ah))))):Option ((Ty.T (.pair (.int .i64) (.pair (.box ah) (.pair (.list (.int .i64)) ah)))) ⊕ ((Ty.T (.pair (.int .i64) .unit)) ⊕ (Ty.T .unit))):=
match(decide (x.2.2.2.2.1<x.2.2.2.1))with
|true=>
 aa (au x.2.2.1 x.2.2.2.2.1) fun v1=>
 if(IntKind.i64.wrap (x.2.1.1-(1:Int)))<0 then none else
 if x.2.1.1<0 then none else
 match((bits BinOp.xor .i64 v1 (Int.fdiv x.1 (2^min (IntKind.i64.wrap (x.2.1.1-(1:Int))).toNat IntKind.i64.bits)))==(1:Int))with
 |true=>
  some (.inl ((bits BinOp.xor .i64 (bits BinOp.and .i64 (IntKind.i64.wrap (x.1*2^min (1:Int).toNat IntKind.i64.bits)) (IntKind.i64.wrap ((IntKind.i64.wrap ((1:Int)*2^min x.2.1.1.toNat IntKind.i64.bits))-(1:Int)))) x.2.1.2.1),(x.2.1.1,x.2.1.2.1,()),x.2.2.1,x.2.2.2.1,(IntKind.i64.wrap (x.2.2.2.2.1+(1:Int))),()))
 |false=>
  some (.inl ((bits BinOp.and .i64 (IntKind.i64.wrap (x.1*2^min (1:Int).toNat IntKind.i64.bits)) (IntKind.i64.wrap ((IntKind.i64.wrap ((1:Int)*2^min x.2.1.1.toNat IntKind.i64.bits))-(1:Int)))),(x.2.1.1,x.2.1.2.1,()),x.2.2.1,x.2.2.2.1,(IntKind.i64.wrap (x.2.2.2.2.1+(1:Int))),()))
|false=>
 some (.inr (.inl (x.1,())))
noncomputable def mn(x:Ty.T (.pair ah (.pair (.int .i64) (.pair (.list (.int .i64)) .unit)))):Option (Ty.T (.pair (.int .i64) .unit)):=
match ac dX (x.2.1,(x.1.1,x.1.2.1,()),x.2.2.1,(x.2.2.1.length:Int),(0:Int),())with
|none=>none
|some (.inl v2)=>
 some (v2.1,())
|some (.inr v4)=>
 none
noncomputable def QP:Spec:=⟨_,(.pair (.int .i64) .unit),.unit,rfl,mn⟩
noncomputable def Bo:FuncId→Option Spec:=aX []
theorem KJ:∀f s,Bo f=some s→FnOK G0 Tryz.prog f s:=aw trivial
def yu:aG:=⟨[1,3,10,11,12],(.pair (.int .i64) (.pair (.box ah) (.pair (.list (.int .i64)) ah))),0,[1],(.pair (.int .i64) .unit),[],.unit⟩
noncomputable def Bp:List a9z:=[yu.spec dX]
theorem Ig:aU aV E0 Bo (aR Tryz.f261 Bp) Tryz.f261 0 yu dX:=fun x=>by kernel_rfl
theorem OJ:FnOK G0 Tryz.prog 261 QP:=ax ai KJ Tryz.func261 Bp (by kernel_rfl) (by exact⟨(Ig).lok,trivial⟩) fun x=>by kernel_rfl
noncomputable def iy(x:(Ty.T (.pair (.own 2 (.int .i64)) (.pair (.list (.int .i64)) ah)))):Option ((Ty.T (.pair (.own 2 (.int .i64)) (.pair (.list (.int .i64)) ah))) ⊕ ((Ty.T (.pair (.own 2 (.int .i64)) .unit)) ⊕ (Ty.T .unit))):=
match(decide (x.2.2.2.1<x.2.2.1))with
|true=>
 aa (au x.2.1 x.2.2.2.1) fun v1=>
 match bw (x.1,v1,(8:Int),())with
 |none=>none
 |some v2=>
 some (.inl (v2.1,x.2.1,x.2.2.1,(IntKind.i64.wrap (x.2.2.2.1+(1:Int))),()))
|false=>
 some (.inr (.inl (x.1,())))
noncomputable def nN(x:Ty.T (.pair (.list (.int .i64)) .unit)):Option (Ty.T (.pair (.own 2 (.int .i64)) .unit)):=
match ac iy ([],x.1,(x.1.length:Int),(0:Int),())with
|none=>none
|some (.inl v3)=>
 some (v3.1,())
|some (.inr v5)=>
 none
noncomputable def U6:Spec:=⟨_,(.pair (.own 2 (.int .i64)) .unit),.unit,rfl,nN⟩
noncomputable def Gz:FuncId→Option Spec:=aX [(213,nM)]
theorem OK:∀f s,Gz f=some s→FnOK G0 Tryz.prog f s:=aw ⟨mL,trivial⟩
def DX:aG:=⟨[3,7,8,9],(.pair (.own 2 (.int .i64)) (.pair (.list (.int .i64)) ah)),0,[3],(.pair (.own 2 (.int .i64)) .unit),[],.unit⟩
noncomputable def GD:List a9z:=[DX.spec iy]
theorem Mv:aU aV E0 Gz (aR Tryz.f262 GD) Tryz.f262 0 DX iy:=fun x=>by kernel_rfl
theorem GE:FnOK G0 Tryz.prog 262 U6:=ax ai OK Tryz.func262 GD (by kernel_rfl) (by exact⟨(Mv).lok,trivial⟩) fun x=>by kernel_rfl
noncomputable def gU(x:Ty.T (.pair (.int .i64) (.pair (.list (.int .i64)) (.pair (.int .i64) (.pair ab .unit))))):Option (Ty.T (.pair (.int .i64) .unit)):=
match(x.1==(0:Int))with
|true=>
 match kK (())with
 |none=>none
 |some v1=>
 match jo ((x.2.2.2.1.1,x.2.2.2.1.2.1,x.2.2.2.1.2.2.1,x.2.2.2.1.2.2.2.1,x.2.2.2.1.2.2.2.2.1,()),())with
 |none=>none
 |some v2=>
 match mn (v1.1,x.2.2.1,v2.1,())with
 |none=>none
 |some v3=>
 match kK (())with
 |none=>none
 |some v4=>
 match nN (x.2.1,())with
 |none=>none
 |some v5=>
 match mn (v4.1,v3.1,v5.1,())with
 |none=>none
 |some v6=>
 some (v6.1,())
|false=>
 match kK (())with
 |none=>none
 |some v7=>
 match nN (x.2.1,())with
 |none=>none
 |some v8=>
 match mn (v7.1,x.2.2.1,v8.1,())with
 |none=>none
 |some v9=>
 some (v9.1,())
noncomputable def KK:Spec:=⟨_,(.pair (.int .i64) .unit),.unit,rfl,gU⟩
theorem uT:FnOK G0 Tryz.prog 216 KK:=aj ai (sg yt (sg Ie (sg OJ (sg GE (aC))))) Tryz.func216
noncomputable def cE(x:(Ty.T (.pair (.list (.int .i64)) (.pair (.list (.int .i64)) ah)))):Option ((Ty.T (.pair (.list (.int .i64)) (.pair (.list (.int .i64)) ah))) ⊕ ((Ty.T .unit) ⊕ (Ty.T (.pair .bool .unit)))):=
match(decide (x.2.2.2.1<x.2.2.1))with
|true=>
 aa (au x.1 x.2.2.2.1) fun v1=>
 aa (au x.2.1 x.2.2.2.1) fun v2=>
 match(v1 != v2)with
 |true=>
  some (.inr (.inr (false,())))
 |false=>
  some (.inl (x.1,x.2.1,x.2.2.1,(IntKind.i64.wrap (x.2.2.2.1+(1:Int))),()))
|false=>
 some (.inr (.inl (())))
noncomputable def bd(x:Ty.T (.pair (.list (.int .i64)) (.pair (.list (.int .i64)) .unit))):Option (Ty.T (.pair .bool .unit)):=
match((x.1.length:Int) != (x.2.1.length:Int))with
|true=>
 some (false,())
|false=>
 match ac cE (x.1,x.2.1,(x.1.length:Int),(0:Int),())with
 |none=>none
 |some (.inl v3)=>
  some (true,())
 |some (.inr v4)=>
  some (v4.1,())
noncomputable def zT:Spec:=⟨_,(.pair .bool .unit),.unit,rfl,bd⟩
noncomputable def oo:FuncId→Option Spec:=aX []
theorem vx:∀f s,oo f=some s→FnOK G0 Tryz.prog f s:=aw trivial
def m6:aG:=⟨[0,1,12,13],(.pair (.list (.int .i64)) (.pair (.list (.int .i64)) ah)),0,[],.unit,[4],(.pair .bool .unit)⟩
noncomputable def oq:List a9z:=[m6.spec cE]
theorem uU:aU aV E0 oo (aR Tryz.f223 oq) Tryz.f223 0 m6 cE:=fun x=>by kernel_rfl
theorem jO:FnOK G0 Tryz.prog 223 zT:=ax ai vx Tryz.func223 oq (by kernel_rfl) (by exact⟨(uU).lok,trivial⟩) fun x=>by kernel_rfl
noncomputable def KL(x:Ty.T (.pair (.int .i64) .unit)):Option (Ty.T (.pair .bool .unit)):=
match bb (x.1,(0:Int),(16777215:Int),())with
|none=>none
|some v1=>
some (v1.1,())
noncomputable def XD:Spec:=⟨_,(.pair .bool .unit),.unit,rfl,KL⟩
theorem Wm:FnOK G0 Tryz.prog 268 XD:=aj ai (sg co (aC)) Tryz.func268
noncomputable def lS(x:Ty.T (.pair (.list (.int .i64)) .unit)):Option (Ty.T (.pair .bool .unit)):=
match(decide ((x.1.length:Int)≤(1024:Int)))with
|true=>
 match ic (x.1,(0:Int),(255:Int),())with
 |none=>none
 |some v1=>
 some (v1.1,())
|false=>
 some (false,())
noncomputable def SS:Spec:=⟨_,(.pair .bool .unit),.unit,rfl,lS⟩
theorem DY:FnOK G0 Tryz.prog 269 SS:=aj ai (sg qa (aC)) Tryz.func269
noncomputable def dK(x:Ty.T (.pair (.list (.int .i64)) .unit)):Option (Ty.T (.pair (.own 2 (.int .i64)) .unit)):=
G1 x.1 fun v1=>
match v1 with
|true=>
 some ([],())
|false=>
 aM (([]:List (Ty.T (.int .i64))).length+x.1.length) (
  some ((([]:List (Ty.T (.int .i64)))++x.1),()))
noncomputable def pr:Spec:=⟨_,(.pair (.own 2 (.int .i64)) .unit),.unit,rfl,dK⟩
theorem jP:FnOK G0 Tryz.prog 135 pr:=aj ai aC Tryz.func135
noncomputable def ge(x:(Ty.T (.pair (.int .i64) (.pair (.list (.int .i64)) ah)))):Option ((Ty.T (.pair (.int .i64) (.pair (.list (.int .i64)) ah))) ⊕ ((Ty.T (.pair (.int .i64) .unit)) ⊕ (Ty.T .unit))):=
match(decide (x.2.2.2.1<x.2.2.1))with
|true=>
 aa (au x.2.1 x.2.2.2.1) fun v1=>
 some (.inl ((IntKind.i64.wrap ((IntKind.i64.wrap ((2:Int)*x.1))+v1)),x.2.1,x.2.2.1,(IntKind.i64.wrap (x.2.2.2.1+(1:Int))),()))
|false=>
 some (.inr (.inl (x.1,())))
noncomputable def cA(x:Ty.T (.pair (.list (.int .i64)) .unit)):Option (Ty.T (.pair (.int .i64) .unit)):=
match ac ge ((0:Int),x.1,(x.1.length:Int),(0:Int),())with
|none=>none
|some (.inl v2)=>
 some (v2.1,())
|some (.inr v4)=>
 none
noncomputable def QQ:Spec:=⟨_,(.pair (.int .i64) .unit),.unit,rfl,cA⟩
noncomputable def Bq:FuncId→Option Spec:=aX []
theorem KM:∀f s,Bq f=some s→FnOK G0 Tryz.prog f s:=aw trivial
def yv:aG:=⟨[3,6,7,8],(.pair (.int .i64) (.pair (.list (.int .i64)) ah)),0,[3],(.pair (.int .i64) .unit),[],.unit⟩
noncomputable def Br:List a9z:=[yv.spec ge]
theorem Ih:aU aV E0 Bq (aR Tryz.f298 Br) Tryz.f298 0 yv ge:=fun x=>by kernel_rfl
theorem Bt:FnOK G0 Tryz.prog 298 QQ:=ax ai KM Tryz.func298 Br (by kernel_rfl) (by exact⟨(Ih).lok,trivial⟩) fun x=>by kernel_rfl
noncomputable def DZ(x:Ty.T (.pair (.list (.int .i64)) .unit)):Option (Ty.T (.pair (.own 2 (.int .i64)) .unit)):=aa (jk cA x.1) fun s=>some (s,())
noncomputable def ST:Spec:=⟨(.pair (.list (.int .i64)) .unit),(.pair (.own 2 (.int .i64)) .unit),.unit,rfl,DZ⟩
theorem QR:FnOK G0 Tryz.prog 257 ST:=UM (ki Tryz.func257 (by kernel_rfl) (show Tryz.f257.body=some (fS Tryz.f257) by kernel_rfl)) Bt
noncomputable def fv(x:Ty.T (.pair aL .unit)):Option (Ty.T (.pair (.own 2 (.int .i64)) .unit)):=
match dV (x.1.1,())with
|none=>none
|some v1=>
match v1.1 with
|true=>
 match jo ((x.1.2.2.1.1,x.1.2.2.1.2.1,x.1.2.2.1.2.2.1,x.1.2.2.1.2.2.2.1,x.1.2.2.1.2.2.2.2.1,()),())with
 |none=>none
 |some v2=>
 match DZ (v2.1,())with
 |none=>none
 |some v3=>
 aM ([(IntKind.i64.wrap ((IntKind.i64.wrap (x.1.1*(64:Int)))+(IntKind.i64.wrap (x.1.2.1*(8:Int)))))].length+v3.1.length) (
  match je (x.1.1,())with
  |none=>none
  |some v4=>
  match v4.1 with
  |true=>
   aM (([(IntKind.i64.wrap ((IntKind.i64.wrap (x.1.1*(64:Int)))+(IntKind.i64.wrap (x.1.2.1*(8:Int)))))]++v3.1).length+ [(x.1.2.2.2.1.length:Int)].length) (
    aM ((([(IntKind.i64.wrap ((IntKind.i64.wrap (x.1.1*(64:Int)))+(IntKind.i64.wrap (x.1.2.1*(8:Int)))))]++v3.1)++ [(x.1.2.2.2.1.length:Int)]).length+x.1.2.2.2.1.length) (
     some (((([(IntKind.i64.wrap ((IntKind.i64.wrap (x.1.1*(64:Int)))+(IntKind.i64.wrap (x.1.2.1*(8:Int)))))]++v3.1)++ [(x.1.2.2.2.1.length:Int)])++x.1.2.2.2.1),())))
  |false=>
   some (([(IntKind.i64.wrap ((IntKind.i64.wrap (x.1.1*(64:Int)))+(IntKind.i64.wrap (x.1.2.1*(8:Int)))))]++v3.1),()))
|false=>
 match je (x.1.1,())with
 |none=>none
 |some v5=>
 match v5.1 with
 |true=>
  aM ([(IntKind.i64.wrap ((IntKind.i64.wrap (x.1.1*(64:Int)))+(IntKind.i64.wrap (x.1.2.1*(8:Int)))))].length+ [(x.1.2.2.2.1.length:Int)].length) (
   aM (([(IntKind.i64.wrap ((IntKind.i64.wrap (x.1.1*(64:Int)))+(IntKind.i64.wrap (x.1.2.1*(8:Int)))))]++ [(x.1.2.2.2.1.length:Int)]).length+x.1.2.2.2.1.length) (
    some ((([(IntKind.i64.wrap ((IntKind.i64.wrap (x.1.1*(64:Int)))+(IntKind.i64.wrap (x.1.2.1*(8:Int)))))]++ [(x.1.2.2.2.1.length:Int)])++x.1.2.2.2.1),())))
 |false=>
  some ([(IntKind.i64.wrap ((IntKind.i64.wrap (x.1.1*(64:Int)))+(IntKind.i64.wrap (x.1.2.1*(8:Int)))))],())
noncomputable def U7:Spec:=⟨_,(.pair (.own 2 (.int .i64)) .unit),.unit,rfl,fv⟩
theorem GF:FnOK G0 Tryz.prog 214 U7:=aj ai (sg iY (sg QR (sg yt (sg uH (aC))))) Tryz.func214
noncomputable def ez(x:Ty.T (.pair aL .unit)):Option (Ty.T (.pair .bool .unit)):=
match uG (x.1.1,())with
|none=>none
|some v1=>
match(!v1.1)with
|true=>
 some (false,())
|false=>
 match bb (x.1.2.1,(0:Int),(7:Int),())with
 |none=>none
 |some v2=>
 match(!v2.1)with
 |true=>
  some (false,())
 |false=>
  match lI (x.1.1,(x.1.2.2.2.1.length:Int),())with
  |none=>none
  |some v3=>
  match(!v3.1)with
  |true=>
   some (false,())
  |false=>
   match lS (x.1.2.2.2.1,())with
   |none=>none
   |some v4=>
   match(!v4.1)with
   |true=>
    some (false,())
   |false=>
    match(x.1.1==(0:Int))with
    |true=>
     some ((dC ab (x.1.2.2.1.1,x.1.2.2.1.2.1,x.1.2.2.1.2.2.1,x.1.2.2.1.2.2.2.1,x.1.2.2.1.2.2.2.2.1,()) ((0:Int),(0:Int),(0:Int),(0:Int),(0:Int),())),())
    |false=>
     match(x.1.1==(3:Int))with
     |true=>
      match e6 ((x.1.2.2.1.1,x.1.2.2.1.2.1,x.1.2.2.1.2.2.1,x.1.2.2.1.2.2.2.1,x.1.2.2.1.2.2.2.2.1,()),())with
      |none=>none
      |some v5=>
      match v5.1 with
      |true=>
       match(x.1.2.2.1.2.1==(0:Int))with
       |true=>
        match(x.1.2.2.1.2.2.2.2.1 != (0:Int))with
        |true=>
         match((bits BinOp.and .i64 x.1.2.2.1.2.2.2.2.1 (IntKind.i64.wrap (x.1.2.2.1.2.2.2.2.1-(1:Int))))==(0:Int))with
         |true=>
          some ((x.1.2.1==(0:Int)),())
         |false=>
          some (false,())
        |false=>
         some (false,())
       |false=>
        some (false,())
      |false=>
       some (false,())
     |false=>
      match e6 ((x.1.2.2.1.1,x.1.2.2.1.2.1,x.1.2.2.1.2.2.1,x.1.2.2.1.2.2.2.1,x.1.2.2.1.2.2.2.2.1,()),())with
      |none=>none
      |some v6=>
      some (v6.1,())
noncomputable def SU:Spec:=⟨_,(.pair .bool .unit),.unit,rfl,ez⟩
theorem D0:FnOK G0 Tryz.prog 292 SU:=aj ai (sg co (sg pn (sg DY (sg Gx (sg wd (aC)))))) Tryz.func292
noncomputable def qs(x:Ty.T (.pair (.list (.int .i64)) .unit)):Option (Ty.T (.pair ab .unit)):=
aa (aH x.1.length none (some (.dat (.int .i64) (16:Int)))) fun v1=>
aa (aH x.1.length (some (.dat (.int .i64) (16:Int))) (some (.dat (.int .i64) (20:Int)))) fun v2=>
aa (aH x.1.length (some (.dat (.int .i64) (20:Int))) (some (.dat (.int .i64) (24:Int)))) fun v3=>
aa (aH x.1.length (some (.dat (.int .i64) (24:Int))) (some (.dat (.int .i64) (32:Int)))) fun v4=>
aa (aH x.1.length (some (.dat (.int .i64) (32:Int))) (some (.dat (.int .i64) (64:Int)))) fun v5=>
match cA ((List.drop v1.1 (List.take v1.2 x.1)),())with
|none=>none
|some v6=>
match cA ((List.drop v2.1 (List.take v2.2 x.1)),())with
|none=>none
|some v7=>
match cA ((List.drop v3.1 (List.take v3.2 x.1)),())with
|none=>none
|some v8=>
match cA ((List.drop v4.1 (List.take v4.2 x.1)),())with
|none=>none
|some v9=>
match cA ((List.drop v5.1 (List.take v5.2 x.1)),())with
|none=>none
|some v10=>
some ((v6.1,v7.1,v8.1,v9.1,v10.1,()),())
noncomputable def OL:Spec:=⟨_,(.pair ab .unit),.unit,rfl,qs⟩
theorem Mw:FnOK G0 Tryz.prog 303 OL:=aj ai (sg Bt (aC)) Tryz.func303
noncomputable def qt(x:Ty.T (.pair (.list (.int .i64)) .unit)):Option (Ty.T (.pair (.pair (.int .i64) (.pair (.int .i64) (.pair ab (.pair (.own 2 (.int .i64)) .unit)))) (.pair .bool .unit))):=
match((x.1.length:Int)==(0:Int))with
|true=>
 some (((0:Int),(0:Int),((0:Int),(0:Int),(0:Int),(0:Int),(0:Int),()),[],()),false,())
|false=>
 aa (au x.1 (0:Int)) fun v1=>
 aa (au x.1 (0:Int)) fun v2=>
 aa (aH x.1.length (some (.dat (.int .i64) (1:Int))) none) fun v3=>
 ba (
  match dV ((IntKind.i64.wrap (Int.tdiv v1 (64:Int))),())with
  |none=>none
  |some v4=>
  match v4.1 with
  |true=>
   match(decide (((List.drop v3.1 (List.take v3.2 x.1)).length:Int)<(8:Int)))with
   |true=>
    some (((0:Int),(0:Int),((0:Int),(0:Int),(0:Int),(0:Int),(0:Int),()),[],()),false,())
   |false=>
    aa (aH (List.drop v3.1 (List.take v3.2 x.1)).length none (some (.dat (.int .i64) (8:Int)))) fun v5=>
    match nN ((List.drop v5.1 (List.take v5.2 (List.drop v3.1 (List.take v3.2 x.1)))),())with
    |none=>none
    |some v6=>
    match qs (v6.1,())with
    |none=>none
    |some v7=>
    aa (aH (List.drop v3.1 (List.take v3.2 x.1)).length (some (.dat (.int .i64) (8:Int))) none) fun v8=>
    match je ((IntKind.i64.wrap (Int.tdiv v1 (64:Int))),())with
    |none=>none
    |some v9=>
    match v9.1 with
    |true=>
     match(decide (((List.drop v8.1 (List.take v8.2 (List.drop v3.1 (List.take v3.2 x.1)))).length:Int)>(0:Int)))with
     |true=>
      aa (aH (List.drop v8.1 (List.take v8.2 (List.drop v3.1 (List.take v3.2 x.1)))).length (some (.dat (.int .i64) (1:Int))) none) fun v10=>
      match dK ((List.drop v10.1 (List.take v10.2 (List.drop v8.1 (List.take v8.2 (List.drop v3.1 (List.take v3.2 x.1)))))),())with
      |none=>none
      |some v11=>
      match ez (((IntKind.i64.wrap (Int.tdiv v1 (64:Int))),(Int.tmod (IntKind.i64.wrap (Int.tdiv v2 (8:Int))) (8:Int)),(v7.1.1,v7.1.2.1,v7.1.2.2.1,v7.1.2.2.2.1,v7.1.2.2.2.2.1,()),v11.1,()),())with
      |none=>none
      |some v12=>
      match(!v12.1)with
      |true=>
       some (((0:Int),(0:Int),((0:Int),(0:Int),(0:Int),(0:Int),(0:Int),()),[],()),false,())
      |false=>
       match fv (((IntKind.i64.wrap (Int.tdiv v1 (64:Int))),(Int.tmod (IntKind.i64.wrap (Int.tdiv v2 (8:Int))) (8:Int)),(v7.1.1,v7.1.2.1,v7.1.2.2.1,v7.1.2.2.2.1,v7.1.2.2.2.2.1,()),v11.1,()),())with
       |none=>none
       |some v13=>
       match bd (v13.1,x.1,())with
       |none=>none
       |some v14=>
       match(!v14.1)with
       |true=>
        some (((0:Int),(0:Int),((0:Int),(0:Int),(0:Int),(0:Int),(0:Int),()),[],()),false,())
       |false=>
        some (((IntKind.i64.wrap (Int.tdiv v1 (64:Int))),(Int.tmod (IntKind.i64.wrap (Int.tdiv v2 (8:Int))) (8:Int)),(v7.1.1,v7.1.2.1,v7.1.2.2.1,v7.1.2.2.2.1,v7.1.2.2.2.2.1,()),v11.1,()),true,())
     |false=>
      match ez (((IntKind.i64.wrap (Int.tdiv v1 (64:Int))),(Int.tmod (IntKind.i64.wrap (Int.tdiv v2 (8:Int))) (8:Int)),(v7.1.1,v7.1.2.1,v7.1.2.2.1,v7.1.2.2.2.1,v7.1.2.2.2.2.1,()),[],()),())with
      |none=>none
      |some v15=>
      match(!v15.1)with
      |true=>
       some (((0:Int),(0:Int),((0:Int),(0:Int),(0:Int),(0:Int),(0:Int),()),[],()),false,())
      |false=>
       match fv (((IntKind.i64.wrap (Int.tdiv v1 (64:Int))),(Int.tmod (IntKind.i64.wrap (Int.tdiv v2 (8:Int))) (8:Int)),(v7.1.1,v7.1.2.1,v7.1.2.2.1,v7.1.2.2.2.1,v7.1.2.2.2.2.1,()),[],()),())with
       |none=>none
       |some v16=>
       match bd (v16.1,x.1,())with
       |none=>none
       |some v17=>
       match(!v17.1)with
       |true=>
        some (((0:Int),(0:Int),((0:Int),(0:Int),(0:Int),(0:Int),(0:Int),()),[],()),false,())
       |false=>
        some (((IntKind.i64.wrap (Int.tdiv v1 (64:Int))),(Int.tmod (IntKind.i64.wrap (Int.tdiv v2 (8:Int))) (8:Int)),(v7.1.1,v7.1.2.1,v7.1.2.2.1,v7.1.2.2.2.1,v7.1.2.2.2.2.1,()),[],()),true,())
    |false=>
     match ez (((IntKind.i64.wrap (Int.tdiv v1 (64:Int))),(Int.tmod (IntKind.i64.wrap (Int.tdiv v2 (8:Int))) (8:Int)),(v7.1.1,v7.1.2.1,v7.1.2.2.1,v7.1.2.2.2.1,v7.1.2.2.2.2.1,()),[],()),())with
     |none=>none
     |some v18=>
     match(!v18.1)with
     |true=>
      some (((0:Int),(0:Int),((0:Int),(0:Int),(0:Int),(0:Int),(0:Int),()),[],()),false,())
     |false=>
      match fv (((IntKind.i64.wrap (Int.tdiv v1 (64:Int))),(Int.tmod (IntKind.i64.wrap (Int.tdiv v2 (8:Int))) (8:Int)),(v7.1.1,v7.1.2.1,v7.1.2.2.1,v7.1.2.2.2.1,v7.1.2.2.2.2.1,()),[],()),())with
      |none=>none
      |some v19=>
      match bd (v19.1,x.1,())with
      |none=>none
      |some v20=>
      match(!v20.1)with
      |true=>
       some (((0:Int),(0:Int),((0:Int),(0:Int),(0:Int),(0:Int),(0:Int),()),[],()),false,())
      |false=>
       some (((IntKind.i64.wrap (Int.tdiv v1 (64:Int))),(Int.tmod (IntKind.i64.wrap (Int.tdiv v2 (8:Int))) (8:Int)),(v7.1.1,v7.1.2.1,v7.1.2.2.1,v7.1.2.2.2.1,v7.1.2.2.2.2.1,()),[],()),true,())
  |false=>
   match je ((IntKind.i64.wrap (Int.tdiv v1 (64:Int))),())with
   |none=>none
   |some v21=>
   match v21.1 with
   |true=>
    match(decide (((List.drop v3.1 (List.take v3.2 x.1)).length:Int)>(0:Int)))with
    |true=>
     aa (aH (List.drop v3.1 (List.take v3.2 x.1)).length (some (.dat (.int .i64) (1:Int))) none) fun v22=>
     match dK ((List.drop v22.1 (List.take v22.2 (List.drop v3.1 (List.take v3.2 x.1)))),())with
     |none=>none
     |some v23=>
     match ez (((IntKind.i64.wrap (Int.tdiv v1 (64:Int))),(Int.tmod (IntKind.i64.wrap (Int.tdiv v2 (8:Int))) (8:Int)),((0:Int),(0:Int),(0:Int),(0:Int),(0:Int),()),v23.1,()),())with
     |none=>none
     |some v24=>
     match(!v24.1)with
     |true=>
      some (((0:Int),(0:Int),((0:Int),(0:Int),(0:Int),(0:Int),(0:Int),()),[],()),false,())
     |false=>
      match fv (((IntKind.i64.wrap (Int.tdiv v1 (64:Int))),(Int.tmod (IntKind.i64.wrap (Int.tdiv v2 (8:Int))) (8:Int)),((0:Int),(0:Int),(0:Int),(0:Int),(0:Int),()),v23.1,()),())with
      |none=>none
      |some v25=>
      match bd (v25.1,x.1,())with
      |none=>none
      |some v26=>
      match(!v26.1)with
      |true=>
       some (((0:Int),(0:Int),((0:Int),(0:Int),(0:Int),(0:Int),(0:Int),()),[],()),false,())
      |false=>
       some (((IntKind.i64.wrap (Int.tdiv v1 (64:Int))),(Int.tmod (IntKind.i64.wrap (Int.tdiv v2 (8:Int))) (8:Int)),((0:Int),(0:Int),(0:Int),(0:Int),(0:Int),()),v23.1,()),true,())
    |false=>
     match ez (((IntKind.i64.wrap (Int.tdiv v1 (64:Int))),(Int.tmod (IntKind.i64.wrap (Int.tdiv v2 (8:Int))) (8:Int)),((0:Int),(0:Int),(0:Int),(0:Int),(0:Int),()),[],()),())with
     |none=>none
     |some v27=>
     match(!v27.1)with
     |true=>
      some (((0:Int),(0:Int),((0:Int),(0:Int),(0:Int),(0:Int),(0:Int),()),[],()),false,())
     |false=>
      match fv (((IntKind.i64.wrap (Int.tdiv v1 (64:Int))),(Int.tmod (IntKind.i64.wrap (Int.tdiv v2 (8:Int))) (8:Int)),((0:Int),(0:Int),(0:Int),(0:Int),(0:Int),()),[],()),())with
      |none=>none
      |some v28=>
      match bd (v28.1,x.1,())with
      |none=>none
      |some v29=>
      match(!v29.1)with
      |true=>
       some (((0:Int),(0:Int),((0:Int),(0:Int),(0:Int),(0:Int),(0:Int),()),[],()),false,())
      |false=>
       some (((IntKind.i64.wrap (Int.tdiv v1 (64:Int))),(Int.tmod (IntKind.i64.wrap (Int.tdiv v2 (8:Int))) (8:Int)),((0:Int),(0:Int),(0:Int),(0:Int),(0:Int),()),[],()),true,())
   |false=>
    match ez (((IntKind.i64.wrap (Int.tdiv v1 (64:Int))),(Int.tmod (IntKind.i64.wrap (Int.tdiv v2 (8:Int))) (8:Int)),((0:Int),(0:Int),(0:Int),(0:Int),(0:Int),()),[],()),())with
    |none=>none
    |some v30=>
    match(!v30.1)with
    |true=>
     some (((0:Int),(0:Int),((0:Int),(0:Int),(0:Int),(0:Int),(0:Int),()),[],()),false,())
    |false=>
     match fv (((IntKind.i64.wrap (Int.tdiv v1 (64:Int))),(Int.tmod (IntKind.i64.wrap (Int.tdiv v2 (8:Int))) (8:Int)),((0:Int),(0:Int),(0:Int),(0:Int),(0:Int),()),[],()),())with
     |none=>none
     |some v31=>
     match bd (v31.1,x.1,())with
     |none=>none
     |some v32=>
     match(!v32.1)with
     |true=>
      some (((0:Int),(0:Int),((0:Int),(0:Int),(0:Int),(0:Int),(0:Int),()),[],()),false,())
     |false=>
      some (((IntKind.i64.wrap (Int.tdiv v1 (64:Int))),(Int.tmod (IntKind.i64.wrap (Int.tdiv v2 (8:Int))) (8:Int)),((0:Int),(0:Int),(0:Int),(0:Int),(0:Int),()),[],()),true,()))
noncomputable def OM:Spec:=⟨_,(.pair (.pair (.int .i64) (.pair (.int .i64) (.pair ab (.pair (.own 2 (.int .i64)) .unit)))) (.pair .bool .unit)),.unit,rfl,qt⟩
theorem Mx:FnOK G0 Tryz.prog 270 OM:=aj ai (sg jP (sg GF (sg jO (sg iY (sg uH (sg GE (sg D0 (sg Mw (aC))))))))) Tryz.func270
noncomputable def m7(x:Ty.T (.pair (.list (.int .i64)) (.pair (.int .i64) (.pair ab .unit)))):Option (Ty.T (.pair (.pair (.int .i64) (.pair (.int .i64) (.pair ab (.pair (.own 2 (.int .i64)) .unit)))) (.pair (.int .i64) .unit))):=
match e6 ((x.2.2.1.1,x.2.2.1.2.1,x.2.2.1.2.2.1,x.2.2.1.2.2.2.1,x.2.2.1.2.2.2.2.1,()),())with
|none=>none
|some v1=>
match(!v1.1)with
|true=>
 some (((0:Int),(0:Int),((0:Int),(0:Int),(0:Int),(0:Int),(0:Int),()),[],()),(1:Int),())
|false=>
 match KL (x.2.1,())with
 |none=>none
 |some v2=>
 match(!v2.1)with
 |true=>
  some (((0:Int),(0:Int),((0:Int),(0:Int),(0:Int),(0:Int),(0:Int),()),[],()),(2:Int),())
 |false=>
  match lS (x.1,())with
  |none=>none
  |some v3=>
  match(!v3.1)with
  |true=>
   some (((0:Int),(0:Int),((0:Int),(0:Int),(0:Int),(0:Int),(0:Int),()),[],()),(2:Int),())
  |false=>
   match(decide ((IntKind.i64.wrap ((x.1.length:Int)-(3:Int)))<(1:Int)))with
   |true=>
    some (((0:Int),(0:Int),((0:Int),(0:Int),(0:Int),(0:Int),(0:Int),()),[],()),(6:Int),())
   |false=>
    aa (au x.1 (0:Int)) fun v4=>
    aa (aH x.1.length none (some (.dat (.int .i64) (IntKind.i64.wrap ((x.1.length:Int)-(3:Int)))))) fun v5=>
    aa (aH x.1.length (some (.dat (.int .i64) (IntKind.i64.wrap ((x.1.length:Int)-(3:Int))))) none) fun v6=>
    match gU ((IntKind.i64.wrap (Int.tdiv v4 (64:Int))),(List.drop v5.1 (List.take v5.2 x.1)),x.2.1,(x.2.2.1.1,x.2.2.1.2.1,x.2.2.1.2.2.1,x.2.2.1.2.2.2.1,x.2.2.1.2.2.2.2.1,()),())with
    |none=>none
    |some v7=>
    match jN (v7.1,())with
    |none=>none
    |some v8=>
    match bd (v8.1,(List.drop v6.1 (List.take v6.2 x.1)),())with
    |none=>none
    |some v9=>
    match(!v9.1)with
    |true=>
     some (((0:Int),(0:Int),((0:Int),(0:Int),(0:Int),(0:Int),(0:Int),()),[],()),(7:Int),())
    |false=>
     aa (aH x.1.length none (some (.dat (.int .i64) (IntKind.i64.wrap ((x.1.length:Int)-(3:Int)))))) fun v10=>
     match qt ((List.drop v10.1 (List.take v10.2 x.1)),())with
     |none=>none
     |some v11=>
     match(!v11.2.1)with
     |true=>
      some (((0:Int),(0:Int),((0:Int),(0:Int),(0:Int),(0:Int),(0:Int),()),[],()),(6:Int),())
     |false=>
      match dV (v11.1.1,())with
      |none=>none
      |some v12=>
      match v12.1 with
      |true=>
       match(!(dC ab (v11.1.2.2.1.1,v11.1.2.2.1.2.1,v11.1.2.2.1.2.2.1,v11.1.2.2.1.2.2.2.1,v11.1.2.2.1.2.2.2.2.1,()) (x.2.2.1.1,x.2.2.1.2.1,x.2.2.1.2.2.1,x.2.2.1.2.2.2.1,x.2.2.1.2.2.2.2.1,())))with
       |true=>
        some (((0:Int),(0:Int),((0:Int),(0:Int),(0:Int),(0:Int),(0:Int),()),[],()),(5:Int),())
       |false=>
        some ((v11.1.1,v11.1.2.1,(v11.1.2.2.1.1,v11.1.2.2.1.2.1,v11.1.2.2.1.2.2.1,v11.1.2.2.1.2.2.2.1,v11.1.2.2.1.2.2.2.2.1,()),v11.1.2.2.2.1,()),(0:Int),())
      |false=>
       some ((v11.1.1,v11.1.2.1,(v11.1.2.2.1.1,v11.1.2.2.1.2.1,v11.1.2.2.1.2.2.1,v11.1.2.2.1.2.2.2.1,v11.1.2.2.1.2.2.2.2.1,()),v11.1.2.2.2.1,()),(0:Int),())
noncomputable def ON:Spec:=⟨_,(.pair (.pair (.int .i64) (.pair (.int .i64) (.pair ab (.pair (.own 2 (.int .i64)) .unit)))) (.pair (.int .i64) .unit)),.unit,rfl,m7⟩
theorem My:FnOK G0 Tryz.prog 221 ON:=aj ai (sg pn (sg wj (sg uT (sg jO (sg iY (sg Wm (sg DY (sg Mx (aC))))))))) Tryz.func221
noncomputable def uV(x:Ty.T (.pair a7 (.pair aL .unit))):Option (Ty.T (.pair .bool .unit)):=
match(x.2.1.1==x.1.2.1)with
|true=>
 match((x.2.1.2.2.2.1.length:Int)==x.1.2.2.1)with
 |true=>
  match(x.2.1.2.1==(0:Int))with
  |true=>
   some (true,())
  |false=>
   some (x.1.2.2.2.2.1,())
 |false=>
  some (false,())
|false=>
 some (false,())
noncomputable def XE:Spec:=⟨_,(.pair .bool .unit),.unit,rfl,uV⟩
theorem NG:FnOK G0 Tryz.prog 222 XE:=aj ai aC Tryz.func222
noncomputable def yw(x:Ty.T (.pair ae (.pair ab (.pair (.list (.int .i64)) .unit)))):Option (Ty.T (.pair (.pair (.int .i64) (.pair (.pair (.int .i64) (.pair (.int .i64) (.pair ab (.pair (.own 2 (.int .i64)) .unit)))) .unit)) (.pair (.int .i64) .unit))):=
match m7 (x.2.2.1,x.1.1,(x.2.1.1,x.2.1.2.1,x.2.1.2.2.1,x.2.1.2.2.2.1,x.2.1.2.2.2.2.1,()),())with
|none=>none
|some v1=>
match(v1.2.1==(0:Int))with
|true=>
 match ay ((x.1.1,x.1.2.1,x.1.2.2.1,x.1.2.2.2.1,()),(x.2.1.1,x.2.1.2.1,x.2.1.2.2.1,x.2.1.2.2.2.1,x.2.1.2.2.2.2.1,()),())with
 |none=>none
 |some v2=>
 match uV (v2.1,(v1.1.1,v1.1.2.1,(v1.1.2.2.1.1,v1.1.2.2.1.2.1,v1.1.2.2.1.2.2.1,v1.1.2.2.1.2.2.2.1,v1.1.2.2.1.2.2.2.2.1,()),v1.1.2.2.2.1,()),())with
 |none=>none
 |some v3=>
 match(!v3.1)with
 |true=>
  match((5:Int) != (0:Int))with
  |true=>
   some (((2:Int),((0:Int),(0:Int),((0:Int),(0:Int),(0:Int),(0:Int),(0:Int),()),[],()),()),(5:Int),())
  |false=>
   some (((3:Int),(v1.1.1,v1.1.2.1,(v1.1.2.2.1.1,v1.1.2.2.1.2.1,v1.1.2.2.1.2.2.1,v1.1.2.2.1.2.2.2.1,v1.1.2.2.1.2.2.2.2.1,()),v1.1.2.2.2.1,()),()),(0:Int),())
 |false=>
  match(v1.2.1 != (0:Int))with
  |true=>
   some (((2:Int),((0:Int),(0:Int),((0:Int),(0:Int),(0:Int),(0:Int),(0:Int),()),[],()),()),v1.2.1,())
  |false=>
   some (((3:Int),(v1.1.1,v1.1.2.1,(v1.1.2.2.1.1,v1.1.2.2.1.2.1,v1.1.2.2.1.2.2.1,v1.1.2.2.1.2.2.2.1,v1.1.2.2.1.2.2.2.2.1,()),v1.1.2.2.2.1,()),()),(0:Int),())
|false=>
 match(v1.2.1 != (0:Int))with
 |true=>
  some (((2:Int),((0:Int),(0:Int),((0:Int),(0:Int),(0:Int),(0:Int),(0:Int),()),[],()),()),v1.2.1,())
 |false=>
  some (((3:Int),(v1.1.1,v1.1.2.1,(v1.1.2.2.1.1,v1.1.2.2.1.2.1,v1.1.2.2.1.2.2.1,v1.1.2.2.1.2.2.2.1,v1.1.2.2.1.2.2.2.2.1,()),v1.1.2.2.2.1,()),()),(0:Int),())
noncomputable def Wn:Spec:=⟨_,(.pair (.pair (.int .i64) (.pair (.pair (.int .i64) (.pair (.int .i64) (.pair ab (.pair (.own 2 (.int .i64)) .unit)))) .unit)) (.pair (.int .i64) .unit)),.unit,rfl,yw⟩
theorem U8:FnOK G0 Tryz.prog 189 Wn:=aj ai (sg cX (sg My (sg NG (aC)))) Tryz.func189
noncomputable def rd(x:Ty.T (.pair ae (.pair ab (.pair (.list (.int .i64)) .unit)))):Option (Ty.T (.pair (.pair (.int .i64) (.pair (.pair (.int .i64) (.pair (.int .i64) (.pair ab (.pair (.own 2 (.int .i64)) .unit)))) .unit)) (.pair (.int .i64) .unit))):=
match ld (x.2.2.1,())with
|none=>none
|some v1=>
match(v1.2.1==(0:Int))with
|true=>
 match yw ((x.1.1,x.1.2.1,x.1.2.2.1,x.1.2.2.2.1,()),(x.2.1.1,x.2.1.2.1,x.2.1.2.2.1,x.2.1.2.2.2.1,x.2.1.2.2.2.2.1,()),v1.1,())with
 |none=>none
 |some v2=>
 some ((v2.1.1,(v2.1.2.1.1,v2.1.2.1.2.1,(v2.1.2.1.2.2.1.1,v2.1.2.1.2.2.1.2.1,v2.1.2.1.2.2.1.2.2.1,v2.1.2.1.2.2.1.2.2.2.1,v2.1.2.1.2.2.1.2.2.2.2.1,()),v2.1.2.1.2.2.2.1,()),()),v2.2.1,())
|false=>
 match(v1.2.1==(4:Int))with
 |true=>
  some (((0:Int),((0:Int),(0:Int),((0:Int),(0:Int),(0:Int),(0:Int),(0:Int),()),[],()),()),v1.2.1,())
 |false=>
  some (((1:Int),((0:Int),(0:Int),((0:Int),(0:Int),(0:Int),(0:Int),(0:Int),()),[],()),()),v1.2.1,())
noncomputable def SV:Spec:=⟨_,(.pair (.pair (.int .i64) (.pair (.pair (.int .i64) (.pair (.int .i64) (.pair ab (.pair (.own 2 (.int .i64)) .unit)))) .unit)) (.pair (.int .i64) .unit)),.unit,rfl,rd⟩
theorem QS:FnOK G0 Tryz.prog 139 SV:=aj ai (sg DW (sg U8 (aC))) Tryz.func139
noncomputable def eT(x:Ty.T (.pair ae (.pair ab (.pair (.list (.int .i64)) .unit)))):Option (Ty.T (.pair (.pair (.int .i64) (.pair (.pair (.int .i64) (.pair (.int .i64) (.pair ab (.pair (.own 2 (.int .i64)) .unit)))) .unit)) (.pair (.int .i64) .unit))):=
match nJ (x.2.2.1,())with
|none=>none
|some v1=>
match rK ((x.1.1,x.1.2.1,x.1.2.2.1,x.1.2.2.2.1,()),(x.2.1.1,x.2.1.2.1,x.2.1.2.2.1,x.2.1.2.2.2.1,x.2.1.2.2.2.2.1,()),v1.1,())with
|none=>none
|some v2=>
match(v2.1 != (0:Int))with
|true=>
 some (((0:Int),((0:Int),(0:Int),((0:Int),(0:Int),(0:Int),(0:Int),(0:Int),()),[],()),()),v2.1,())
|false=>
 match rd ((x.1.1,x.1.2.1,x.1.2.2.1,x.1.2.2.2.1,()),(x.2.1.1,x.2.1.2.1,x.2.1.2.2.1,x.2.1.2.2.2.1,x.2.1.2.2.2.2.1,()),x.2.2.1,())with
 |none=>none
 |some v3=>
 some ((v3.1.1,(v3.1.2.1.1,v3.1.2.1.2.1,(v3.1.2.1.2.2.1.1,v3.1.2.1.2.2.1.2.1,v3.1.2.1.2.2.1.2.2.1,v3.1.2.1.2.2.1.2.2.2.1,v3.1.2.1.2.2.1.2.2.2.2.1,()),v3.1.2.1.2.2.2.1,()),()),(0:Int),())
noncomputable def D1:Spec:=⟨_,(.pair (.pair (.int .i64) (.pair (.pair (.int .i64) (.pair (.int .i64) (.pair ab (.pair (.own 2 (.int .i64)) .unit)))) .unit)) (.pair (.int .i64) .unit)),.unit,rfl,eT⟩
theorem Ce:FnOK G0 Tryz.prog 97 D1:=aj ai (sg H8 (sg qr (sg QS (aC)))) Tryz.func97
noncomputable def m8(x:Ty.T (.pair aL (.pair aL .unit))):Option (Ty.T (.pair .bool .unit)):=
match(x.1.1==x.2.1.1)with
|true=>
 match(x.1.2.1==x.2.1.2.1)with
 |true=>
  match(dC ab (x.1.2.2.1.1,x.1.2.2.1.2.1,x.1.2.2.1.2.2.1,x.1.2.2.1.2.2.2.1,x.1.2.2.1.2.2.2.2.1,()) (x.2.1.2.2.1.1,x.2.1.2.2.1.2.1,x.2.1.2.2.1.2.2.1,x.2.1.2.2.1.2.2.2.1,x.2.1.2.2.1.2.2.2.2.1,()))with
  |true=>
   match bd (x.1.2.2.2.1,x.2.1.2.2.2.1,())with
   |none=>none
   |some v1=>
   some (v1.1,())
  |false=>
   some (false,())
 |false=>
  some (false,())
|false=>
 some (false,())
noncomputable def OO:Spec:=⟨_,(.pair .bool .unit),.unit,rfl,m8⟩
theorem Mz:FnOK G0 Tryz.prog 190 OO:=aj ai (sg jO (aC)) Tryz.func190
noncomputable def kL(x:Ty.T (.pair az (.pair az .unit))):Option (Ty.T (.pair .bool .unit)):=
match(x.1.1==x.2.1.1)with
|true=>
 match m8 ((x.1.2.1.1,x.1.2.1.2.1,(x.1.2.1.2.2.1.1,x.1.2.1.2.2.1.2.1,x.1.2.1.2.2.1.2.2.1,x.1.2.1.2.2.1.2.2.2.1,x.1.2.1.2.2.1.2.2.2.2.1,()),x.1.2.1.2.2.2.1,()),(x.2.1.2.1.1,x.2.1.2.1.2.1,(x.2.1.2.1.2.2.1.1,x.2.1.2.1.2.2.1.2.1,x.2.1.2.1.2.2.1.2.2.1,x.2.1.2.1.2.2.1.2.2.2.1,x.2.1.2.1.2.2.1.2.2.2.2.1,()),x.2.1.2.1.2.2.2.1,()),())with
 |none=>none
 |some v1=>
 some (v1.1,())
|false=>
 some (false,())
noncomputable def KN:Spec:=⟨_,(.pair .bool .unit),.unit,rfl,kL⟩
theorem Ii:FnOK G0 Tryz.prog 140 KN:=aj ai (sg Mz (aC)) Tryz.func140
noncomputable def EX(x:Ty.T (.pair (.pair (.int .i64) (.pair (.pair (.int .i64) (.pair (.int .i64) (.pair ab (.pair (.own 2 (.int .i64)) .unit)))) .unit)) (.pair (.pair (.int .i64) (.pair (.pair (.int .i64) (.pair (.int .i64) (.pair ab (.pair (.own 2 (.int .i64)) .unit)))) .unit)) .unit))):Option (Ty.T (.pair (.pair (.int .i64) (.pair (.pair (.int .i64) (.pair (.int .i64) (.pair ab (.pair (.own 2 (.int .i64)) .unit)))) .unit)) .unit)):=
match(x.1.1==(3:Int))with
|true=>
 match kL ((x.1.1,(x.1.2.1.1,x.1.2.1.2.1,(x.1.2.1.2.2.1.1,x.1.2.1.2.2.1.2.1,x.1.2.1.2.2.1.2.2.1,x.1.2.1.2.2.1.2.2.2.1,x.1.2.1.2.2.1.2.2.2.2.1,()),x.1.2.1.2.2.2.1,()),()),(x.2.1.1,(x.2.1.2.1.1,x.2.1.2.1.2.1,(x.2.1.2.1.2.2.1.1,x.2.1.2.1.2.2.1.2.1,x.2.1.2.1.2.2.1.2.2.1,x.2.1.2.1.2.2.1.2.2.2.1,x.2.1.2.1.2.2.1.2.2.2.2.1,()),x.2.1.2.1.2.2.2.1,()),()),())with
 |none=>none
 |some v1=>
 match v1.1 with
 |true=>
  some ((x.1.1,(x.1.2.1.1,x.1.2.1.2.1,(x.1.2.1.2.2.1.1,x.1.2.1.2.2.1.2.1,x.1.2.1.2.2.1.2.2.1,x.1.2.1.2.2.1.2.2.2.1,x.1.2.1.2.2.1.2.2.2.2.1,()),x.1.2.1.2.2.2.1,()),()),())
 |false=>
  match(x.1.1==(3:Int))with
  |true=>
   match(x.2.1.1==(3:Int))with
   |true=>
    some (((4:Int),((0:Int),(0:Int),((0:Int),(0:Int),(0:Int),(0:Int),(0:Int),()),[],()),()),())
   |false=>
    match(x.1.1==(4:Int))with
    |true=>
     some (((4:Int),((0:Int),(0:Int),((0:Int),(0:Int),(0:Int),(0:Int),(0:Int),()),[],()),()),())
    |false=>
     match(x.2.1.1==(4:Int))with
     |true=>
      some (((4:Int),((0:Int),(0:Int),((0:Int),(0:Int),(0:Int),(0:Int),(0:Int),()),[],()),()),())
     |false=>
      match(decide (x.1.1≥x.2.1.1))with
      |true=>
       some ((x.1.1,(x.1.2.1.1,x.1.2.1.2.1,(x.1.2.1.2.2.1.1,x.1.2.1.2.2.1.2.1,x.1.2.1.2.2.1.2.2.1,x.1.2.1.2.2.1.2.2.2.1,x.1.2.1.2.2.1.2.2.2.2.1,()),x.1.2.1.2.2.2.1,()),()),())
      |false=>
       some ((x.2.1.1,(x.2.1.2.1.1,x.2.1.2.1.2.1,(x.2.1.2.1.2.2.1.1,x.2.1.2.1.2.2.1.2.1,x.2.1.2.1.2.2.1.2.2.1,x.2.1.2.1.2.2.1.2.2.2.1,x.2.1.2.1.2.2.1.2.2.2.2.1,()),x.2.1.2.1.2.2.2.1,()),()),())
  |false=>
   match(x.1.1==(4:Int))with
   |true=>
    some (((4:Int),((0:Int),(0:Int),((0:Int),(0:Int),(0:Int),(0:Int),(0:Int),()),[],()),()),())
   |false=>
    match(x.2.1.1==(4:Int))with
    |true=>
     some (((4:Int),((0:Int),(0:Int),((0:Int),(0:Int),(0:Int),(0:Int),(0:Int),()),[],()),()),())
    |false=>
     match(decide (x.1.1≥x.2.1.1))with
     |true=>
      some ((x.1.1,(x.1.2.1.1,x.1.2.1.2.1,(x.1.2.1.2.2.1.1,x.1.2.1.2.2.1.2.1,x.1.2.1.2.2.1.2.2.1,x.1.2.1.2.2.1.2.2.2.1,x.1.2.1.2.2.1.2.2.2.2.1,()),x.1.2.1.2.2.2.1,()),()),())
     |false=>
      some ((x.2.1.1,(x.2.1.2.1.1,x.2.1.2.1.2.1,(x.2.1.2.1.2.2.1.1,x.2.1.2.1.2.2.1.2.1,x.2.1.2.1.2.2.1.2.2.1,x.2.1.2.1.2.2.1.2.2.2.1,x.2.1.2.1.2.2.1.2.2.2.2.1,()),x.2.1.2.1.2.2.2.1,()),()),())
|false=>
 match(x.1.1==(3:Int))with
 |true=>
  match(x.2.1.1==(3:Int))with
  |true=>
   some (((4:Int),((0:Int),(0:Int),((0:Int),(0:Int),(0:Int),(0:Int),(0:Int),()),[],()),()),())
  |false=>
   match(x.1.1==(4:Int))with
   |true=>
    some (((4:Int),((0:Int),(0:Int),((0:Int),(0:Int),(0:Int),(0:Int),(0:Int),()),[],()),()),())
   |false=>
    match(x.2.1.1==(4:Int))with
    |true=>
     some (((4:Int),((0:Int),(0:Int),((0:Int),(0:Int),(0:Int),(0:Int),(0:Int),()),[],()),()),())
    |false=>
     match(decide (x.1.1≥x.2.1.1))with
     |true=>
      some ((x.1.1,(x.1.2.1.1,x.1.2.1.2.1,(x.1.2.1.2.2.1.1,x.1.2.1.2.2.1.2.1,x.1.2.1.2.2.1.2.2.1,x.1.2.1.2.2.1.2.2.2.1,x.1.2.1.2.2.1.2.2.2.2.1,()),x.1.2.1.2.2.2.1,()),()),())
     |false=>
      some ((x.2.1.1,(x.2.1.2.1.1,x.2.1.2.1.2.1,(x.2.1.2.1.2.2.1.1,x.2.1.2.1.2.2.1.2.1,x.2.1.2.1.2.2.1.2.2.1,x.2.1.2.1.2.2.1.2.2.2.1,x.2.1.2.1.2.2.1.2.2.2.2.1,()),x.2.1.2.1.2.2.2.1,()),()),())
 |false=>
  match(x.1.1==(4:Int))with
  |true=>
   some (((4:Int),((0:Int),(0:Int),((0:Int),(0:Int),(0:Int),(0:Int),(0:Int),()),[],()),()),())
  |false=>
   match(x.2.1.1==(4:Int))with
   |true=>
    some (((4:Int),((0:Int),(0:Int),((0:Int),(0:Int),(0:Int),(0:Int),(0:Int),()),[],()),()),())
   |false=>
    match(decide (x.1.1≥x.2.1.1))with
    |true=>
     some ((x.1.1,(x.1.2.1.1,x.1.2.1.2.1,(x.1.2.1.2.2.1.1,x.1.2.1.2.2.1.2.1,x.1.2.1.2.2.1.2.2.1,x.1.2.1.2.2.1.2.2.2.1,x.1.2.1.2.2.1.2.2.2.2.1,()),x.1.2.1.2.2.2.1,()),()),())
    |false=>
     some ((x.2.1.1,(x.2.1.2.1.1,x.2.1.2.1.2.1,(x.2.1.2.1.2.2.1.1,x.2.1.2.1.2.2.1.2.1,x.2.1.2.1.2.2.1.2.2.1,x.2.1.2.1.2.2.1.2.2.2.1,x.2.1.2.1.2.2.1.2.2.2.2.1,()),x.2.1.2.1.2.2.2.1,()),()),())
noncomputable def Wo:Spec:=⟨_,(.pair (.pair (.int .i64) (.pair (.pair (.int .i64) (.pair (.int .i64) (.pair ab (.pair (.own 2 (.int .i64)) .unit)))) .unit)) .unit),.unit,rfl,EX⟩
theorem U9:FnOK G0 Tryz.prog 98 Wo:=aj ai (sg Ii (aC)) Tryz.func98
noncomputable def i6(x:Ty.T (.pair ae (.pair ab (.pair (.list (.int .i64)) (.pair (.list (.int .i64)) .unit))))):Option (Ty.T (.pair (.pair (.int .i64) (.pair (.pair (.int .i64) (.pair (.int .i64) (.pair ab (.pair (.own 2 (.int .i64)) .unit)))) .unit)) (.pair (.int .i64) .unit))):=
match eT ((x.1.1,x.1.2.1,x.1.2.2.1,x.1.2.2.2.1,()),(x.2.1.1,x.2.1.2.1,x.2.1.2.2.1,x.2.1.2.2.2.1,x.2.1.2.2.2.2.1,()),x.2.2.1,())with
|none=>none
|some v1=>
match(v1.2.1 != (0:Int))with
|true=>
 some (((0:Int),((0:Int),(0:Int),((0:Int),(0:Int),(0:Int),(0:Int),(0:Int),()),[],()),()),v1.2.1,())
|false=>
 match eT ((x.1.1,x.1.2.1,x.1.2.2.1,x.1.2.2.2.1,()),(x.2.1.1,x.2.1.2.1,x.2.1.2.2.1,x.2.1.2.2.2.1,x.2.1.2.2.2.2.1,()),x.2.2.2.1,())with
 |none=>none
 |some v2=>
 match(v2.2.1 != (0:Int))with
 |true=>
  some (((0:Int),((0:Int),(0:Int),((0:Int),(0:Int),(0:Int),(0:Int),(0:Int),()),[],()),()),v2.2.1,())
 |false=>
  match EX ((v1.1.1,(v1.1.2.1.1,v1.1.2.1.2.1,(v1.1.2.1.2.2.1.1,v1.1.2.1.2.2.1.2.1,v1.1.2.1.2.2.1.2.2.1,v1.1.2.1.2.2.1.2.2.2.1,v1.1.2.1.2.2.1.2.2.2.2.1,()),v1.1.2.1.2.2.2.1,()),()),(v2.1.1,(v2.1.2.1.1,v2.1.2.1.2.1,(v2.1.2.1.2.2.1.1,v2.1.2.1.2.2.1.2.1,v2.1.2.1.2.2.1.2.2.1,v2.1.2.1.2.2.1.2.2.2.1,v2.1.2.1.2.2.1.2.2.2.2.1,()),v2.1.2.1.2.2.2.1,()),()),())with
  |none=>none
  |some v3=>
  some ((v3.1.1,(v3.1.2.1.1,v3.1.2.1.2.1,(v3.1.2.1.2.2.1.1,v3.1.2.1.2.2.1.2.1,v3.1.2.1.2.2.1.2.2.1,v3.1.2.1.2.2.1.2.2.2.1,v3.1.2.1.2.2.1.2.2.2.2.1,()),v3.1.2.1.2.2.2.1,()),()),(0:Int),())
noncomputable def KO:Spec:=⟨_,(.pair (.pair (.int .i64) (.pair (.pair (.int .i64) (.pair (.int .i64) (.pair ab (.pair (.own 2 (.int .i64)) .unit)))) .unit)) (.pair (.int .i64) .unit)),.unit,rfl,i6⟩
theorem Ij:FnOK G0 Tryz.prog 61 KO:=aj ai (sg Ce (sg U9 (aC))) Tryz.func61
noncomputable def iz(x:(Ty.T (.pair (.own 2 (.int .i64)) (.pair (.int .i64) ah)))):Option ((Ty.T (.pair (.own 2 (.int .i64)) (.pair (.int .i64) ah))) ⊕ ((Ty.T (.pair (.own 2 (.int .i64)) .unit)) ⊕ (Ty.T .unit))):=
match(decide (x.2.2.2.1<x.2.2.1))with
|true=>
 aM (x.1.length+ [x.2.1].length) (
  some (.inl ((x.1++ [x.2.1]),x.2.1,x.2.2.1,(IntKind.i64.wrap (x.2.2.2.1+(1:Int))),())))
|false=>
 some (.inr (.inl (x.1,())))
noncomputable def qb(x:Ty.T (.pair (.own 2 (.int .i64)) ah)):Option (Ty.T (.pair (.own 2 (.int .i64)) .unit)):=
match ac iz (x.1,x.2.1,x.2.2.1,(0:Int),())with
|none=>none
|some (.inl v1)=>
 some (v1.1,())
|some (.inr v3)=>
 none
noncomputable def KP:Spec:=⟨_,(.pair (.own 2 (.int .i64)) .unit),.unit,rfl,qb⟩
noncomputable def GG:FuncId→Option Spec:=aX []
theorem OP:∀f s,GG f=some s→FnOK G0 Tryz.prog f s:=aw trivial
def D2:aG:=⟨[0,1,7,8],(.pair (.own 2 (.int .i64)) (.pair (.int .i64) ah)),0,[0],(.pair (.own 2 (.int .i64)) .unit),[],.unit⟩
noncomputable def GH:List a9z:=[D2.spec iz]
theorem MA:aU aV E0 GG (aR Tryz.f177 GH) Tryz.f177 0 D2 iz:=fun x=>by kernel_rfl
theorem GI:FnOK G0 Tryz.prog 177 KP:=ax ai OP Tryz.func177 GH (by kernel_rfl) (by exact⟨(MA).lok,trivial⟩) fun x=>by kernel_rfl
noncomputable def io(x:Ty.T (.pair (.int .i64) .unit)):Option (Ty.T (.pair (.int .i64) .unit)):=
some ((IntKind.i64.wrap ((1:Int)-x.1)),())
noncomputable def Ik:Spec:=⟨_,(.pair (.int .i64) .unit),.unit,rfl,io⟩
theorem FJ:FnOK G0 Tryz.prog 181 Ik:=aj ai aC Tryz.func181
noncomputable def gz(x:(Ty.T (.pair (.own 2 (.int .i64)) (.pair (.int .i64) (.pair (.fn (.pair (.int .i64) .unit) (.pair (.int .i64) .unit)) (.pair (.int .i64) .unit)))))):Option ((Ty.T (.pair (.own 2 (.int .i64)) (.pair (.int .i64) (.pair (.fn (.pair (.int .i64) .unit) (.pair (.int .i64) .unit)) (.pair (.int .i64) .unit))))) ⊕ ((Ty.T (.pair (.own 2 (.int .i64)) .unit)) ⊕ (Ty.T .unit))):=
match(decide (x.2.2.2.1<(if(x.1.length:Int)<x.2.1 then(x.1.length:Int)else x.2.1)))with
|true=>
 aa (au x.1 x.2.2.2.1) fun _=>
 match x.1[x.2.2.2.1.toNat]? with
 |none=>none
 |some v2=>
 match x.2.2.1 (v2,())with
 |none=>none
 |some v3=>
 aa (au x.1 x.2.2.2.1) fun _=>
 match x.1[x.2.2.2.1.toNat]? with
 |none=>none
 |some v5=>
 some (.inl ((x.1.set x.2.2.2.1.toNat v3.1),x.2.1,x.2.2.1,(IntKind.i64.wrap (x.2.2.2.1+(1:Int))),()))
|false=>
 some (.inr (.inl (x.1,())))
noncomputable def nP(x:Ty.T (.pair (.own 2 (.int .i64)) (.pair (.int .i64) (.pair (.int .i64) (.pair (.fn (.pair (.int .i64) .unit) (.pair (.int .i64) .unit)) .unit))))):Option (Ty.T (.pair (.own 2 (.int .i64)) .unit)):=
match ac gz (x.1,x.2.2.1,x.2.2.2.1,x.2.1,())with
|none=>none
|some (.inl v6)=>
 some (v6.1,())
|some (.inr v8)=>
 none
noncomputable def Va:Spec:=⟨_,.unit,(.pair (.own 2 (.int .i64)) .unit),rfl,nP⟩
noncomputable def GJ:FuncId→Option Spec:=aX []
theorem OQ:∀f s,GJ f=some s→FnOK G0 Tryz.prog f s:=aw trivial
def D3:aG:=⟨[0,2,3,8],(.pair (.own 2 (.int .i64)) (.pair (.int .i64) (.pair (.fn (.pair (.int .i64) .unit) (.pair (.int .i64) .unit)) (.pair (.int .i64) .unit)))),0,[0],(.pair (.own 2 (.int .i64)) .unit),[],.unit⟩
noncomputable def GK:List a9z:=[D3.spec gz]
theorem MB:aU aV E0 GJ (aR Tryz.f182 GK) Tryz.f182 0 D3 gz:=fun x=>by kernel_rfl
theorem SW:FnOK G0 Tryz.prog 182 Va:=ax ai OQ Tryz.func182 GK (by kernel_rfl) (by exact⟨(MB).lok,trivial⟩) fun x=>by kernel_rfl
noncomputable def iK(x:Ty.T (.pair (.own 2 (.int .i64)) ah)):Option (Ty.T (.pair (.own 2 (.int .i64)) .unit)):=aa (P1 x.1 x.2.1 x.2.2.1) fun s=>some (s,())
noncomputable def yx:Spec:=⟨(.pair (.own 2 (.int .i64)) ah),(.pair (.own 2 (.int .i64)) .unit),.unit,rfl,iK⟩
theorem xe:FnOK G0 Tryz.prog 183 yx:=Wi (ki Tryz.func183 (by kernel_rfl) (show Tryz.f183.body=some (fS Tryz.f183) by kernel_rfl))
noncomputable def iL(x:Ty.T (.pair (.own 2 (.int .i64)) (.pair (.int .i64) (.pair (.own 2 (.int .i64)) .unit)))):Option (Ty.T (.pair (.own 2 (.int .i64)) .unit)):=aa (P2 x.1 x.2.1 x.2.2.1) fun s=>some (s,())
noncomputable def yy:Spec:=⟨(.pair (.own 2 (.int .i64)) (.pair (.int .i64) (.pair (.own 2 (.int .i64)) .unit))),(.pair (.own 2 (.int .i64)) .unit),.unit,rfl,iL⟩
theorem xf:FnOK G0 Tryz.prog 184 yy:=Wk (ki Tryz.func184 (by kernel_rfl) (show Tryz.f184.body=some (fS Tryz.f184) by kernel_rfl))
noncomputable def mo(x:Ty.T (.pair (.int .i64) .unit)):Option (Ty.T (.pair (.int .i64) .unit)):=
some ((1:Int),())
noncomputable def Il:Spec:=⟨_,(.pair (.int .i64) .unit),.unit,rfl,mo⟩
theorem FK:FnOK G0 Tryz.prog 185 Il:=aj ai aC Tryz.func185
noncomputable def mp(x:Ty.T (.pair (.int .i64) (.pair (.ptr al) .unit))):Option (Ty.T (.pair (.int .i64) .unit)):=
some (x.2.1.2.2.2.1,())
noncomputable def Im:Spec:=⟨_,(.pair (.int .i64) .unit),.unit,rfl,mp⟩
theorem FL:FnOK G0 Tryz.prog 186 Im:=aj ai aC Tryz.func186
noncomputable def lT(x:Ty.T (.pair (.list (.int .i64)) (.pair al .unit))):Option (Ty.T (.pair (.list (.int .i64)) .unit)):=
match dK (x.1,())with
|none=>none
|some v1=>
match(x.2.1.1==(1:Int))with
|true=>
 match nP (v1.1,x.2.1.2.1,(IntKind.i64.wrap (x.2.1.2.1+(1:Int))),io,())with
 |none=>none
 |some v2=>
 some (v2.1,())
|false=>
 match(x.2.1.1==(2:Int))with
 |true=>
  match nP (v1.1,x.2.1.2.1,(IntKind.i64.wrap (x.2.1.2.1+x.2.1.2.2.1)),io,())with
  |none=>none
  |some v3=>
  some (v3.1,())
 |false=>
  match(x.2.1.1==(3:Int))with
  |true=>
   match iK (v1.1,(if x.2.1.2.1<(x.1.length:Int)then x.2.1.2.1 else(x.1.length:Int)),(if(IntKind.i64.wrap (x.2.1.2.1+x.2.1.2.2.1))<(x.1.length:Int)then(IntKind.i64.wrap (x.2.1.2.1+x.2.1.2.2.1))else(x.1.length:Int)),())with
   |none=>none
   |some v4=>
   some (v4.1,())
  |false=>
   match(x.2.1.1==(4:Int))with
   |true=>
    match(decide (x.2.1.2.1≤(x.1.length:Int)))with
    |true=>
     match qb ([],x.2.1.2.2.2.1,x.2.1.2.2.1,())with
     |none=>none
     |some v5=>
     match iL (v1.1,x.2.1.2.1,v5.1,())with
     |none=>none
     |some v6=>
     aa (aH v6.1.length none (some (.dat (.int .i64) (if(v6.1.length:Int)<(8192:Int)then(v6.1.length:Int)else(8192:Int))))) fun v7=>
     some ((List.drop v7.1 (List.take v7.2 v6.1)),())
    |false=>
     aa (aH v1.1.length none (some (.dat (.int .i64) (if(v1.1.length:Int)<(8192:Int)then(v1.1.length:Int)else(8192:Int))))) fun v8=>
     some ((List.drop v8.1 (List.take v8.2 v1.1)),())
   |false=>
    match(x.2.1.1==(5:Int))with
    |true=>
     match nP (v1.1,x.2.1.2.1,(x.1.length:Int),mo,())with
     |none=>none
     |some v9=>
     some (v9.1,())
    |false=>
     match(x.2.1.1==(6:Int))with
     |true=>
      match nP (v1.1,x.2.1.2.1,(IntKind.i64.wrap (x.2.1.2.1+x.2.1.2.2.1)),(fun z=>mp (z.1,(x.2.1.1,x.2.1.2.1,x.2.1.2.2.1,x.2.1.2.2.2.1,()),())),())with
      |none=>none
      |some v10=>
      some (v10.1,())
     |false=>
      some (v1.1,())
noncomputable def yz:Spec:=⟨_,(.pair (.list (.int .i64)) .unit),.unit,rfl,lT⟩
theorem KQ:FnOK G0 Tryz.prog 136 yz:=aj ai (sg jP (sg GI (sg FJ (sg SW (sg xe (sg xf (sg FK (sg FL (aC))))))))) Tryz.func136
noncomputable def es(x:(Ty.T (.pair (.list (.int .i64)) (.pair (.list al) ah)))):Option ((Ty.T (.pair (.list (.int .i64)) (.pair (.list al) ah))) ⊕ ((Ty.T (.pair (.list (.int .i64)) .unit)) ⊕ (Ty.T .unit))):=
match(decide (x.2.2.2.1<x.2.2.1))with
|true=>
 aa (au x.2.1 x.2.2.2.1) fun v2=>
 match lT (x.1,(v2.1,v2.2.1,v2.2.2.1,v2.2.2.2.1,()),())with
 |none=>none
 |some v3=>
 some (.inl (v3.1,x.2.1,x.2.2.1,(IntKind.i64.wrap (x.2.2.2.1+(1:Int))),()))
|false=>
 some (.inr (.inl (x.1,())))
noncomputable def fP(x:Ty.T (.pair (.list (.int .i64)) (.pair (.list al) .unit))):Option (Ty.T (.pair (.list (.int .i64)) .unit)):=
match dK (x.1,())with
|none=>none
|some v1=>
match ac es (v1.1,x.2.1,(x.2.1.length:Int),(0:Int),())with
|none=>none
|some (.inl v4)=>
 some (v4.1,())
|some (.inr v6)=>
 none
noncomputable def KR:Spec:=⟨_,(.pair (.list (.int .i64)) .unit),.unit,rfl,fP⟩
noncomputable def uW:FuncId→Option Spec:=aX [(135,pr),(136,yz)]
theorem D4:∀f s,uW f=some s→FnOK G0 Tryz.prog f s:=aw ⟨jP,KQ,trivial⟩
def sF:aG:=⟨[5,10,11,12],(.pair (.list (.int .i64)) (.pair (.list al) ah)),0,[5],(.pair (.list (.int .i64)) .unit),[],.unit⟩
noncomputable def uX:List a9z:=[sF.spec es]
theorem Cf:aU aV E0 uW (aR Tryz.f96 uX) Tryz.f96 0 sF es:=fun x=>by kernel_rfl
theorem Io:FnOK G0 Tryz.prog 96 KR:=ax ai D4 Tryz.func96 uX (by kernel_rfl) (by exact⟨(Cf).lok,trivial⟩) fun x=>by kernel_rfl
noncomputable def iA(x:Ty.T (.pair a7 (.pair aL .unit))):Option (Ty.T (.pair .bool .unit)):=
match eZ ((x.1.1,x.1.2.1,x.1.2.2.1,x.1.2.2.2.1,x.1.2.2.2.2.1,()),())with
|none=>none
|some v1=>
match v1.1 with
|true=>
 match ez ((x.2.1.1,x.2.1.2.1,(x.2.1.2.2.1.1,x.2.1.2.2.1.2.1,x.2.1.2.2.1.2.2.1,x.2.1.2.2.1.2.2.2.1,x.2.1.2.2.1.2.2.2.2.1,()),x.2.1.2.2.2.1,()),())with
 |none=>none
 |some v2=>
 match v2.1 with
 |true=>
  match uV ((x.1.1,x.1.2.1,x.1.2.2.1,x.1.2.2.2.1,x.1.2.2.2.2.1,()),(x.2.1.1,x.2.1.2.1,(x.2.1.2.2.1.1,x.2.1.2.2.1.2.1,x.2.1.2.2.1.2.2.1,x.2.1.2.2.1.2.2.2.1,x.2.1.2.2.1.2.2.2.2.1,()),x.2.1.2.2.2.1,()),())with
  |none=>none
  |some v3=>
  some (v3.1,())
 |false=>
  some (false,())
|false=>
 some (false,())
noncomputable def D5:Spec:=⟨_,(.pair .bool .unit),.unit,rfl,iA⟩
theorem Cg:FnOK G0 Tryz.prog 249 D5:=aj ai (sg NG (sg su (sg D0 (aC)))) Tryz.func249
noncomputable def gA(x:Ty.T (.pair ae (.pair ab (.pair aL .unit)))):Option (Ty.T (.pair .bool .unit)):=
match ay ((x.1.1,x.1.2.1,x.1.2.2.1,x.1.2.2.2.1,()),(x.2.1.1,x.2.1.2.1,x.2.1.2.2.1,x.2.1.2.2.2.1,x.2.1.2.2.2.2.1,()),())with
|none=>none
|some v1=>
match iA (v1.1,(x.2.2.1.1,x.2.2.1.2.1,(x.2.2.1.2.2.1.1,x.2.2.1.2.2.1.2.1,x.2.2.1.2.2.1.2.2.1,x.2.2.1.2.2.1.2.2.2.1,x.2.2.1.2.2.1.2.2.2.2.1,()),x.2.2.1.2.2.2.1,()),())with
|none=>none
|some v2=>
match v2.1 with
|true=>
 match dV (x.2.2.1.1,())with
 |none=>none
 |some v3=>
 match(!v3.1)with
 |true=>
  some (true,())
 |false=>
  some ((dC ab (x.2.2.1.2.2.1.1,x.2.2.1.2.2.1.2.1,x.2.2.1.2.2.1.2.2.1,x.2.2.1.2.2.1.2.2.2.1,x.2.2.1.2.2.1.2.2.2.2.1,()) (x.2.1.1,x.2.1.2.1,x.2.1.2.2.1,x.2.1.2.2.2.1,x.2.1.2.2.2.2.1,())),())
|false=>
 some (false,())
noncomputable def yA:Spec:=⟨_,(.pair .bool .unit),.unit,rfl,gA⟩
theorem wk:FnOK G0 Tryz.prog 204 yA:=aj ai (sg cX (sg iY (sg Cg (aC)))) Tryz.func204
noncomputable def pt(x:Ty.T (.pair ae (.pair ab (.pair aL .unit)))):Option (Ty.T (.pair (.int .i64) .unit)):=
match dW ((x.1.1,x.1.2.1,x.1.2.2.1,x.1.2.2.2.1,()),(x.2.1.1,x.2.1.2.1,x.2.1.2.2.1,x.2.1.2.2.2.1,x.2.1.2.2.2.2.1,()),())with
|none=>none
|some v1=>
match(v1.1 != (0:Int))with
|true=>
 some (v1.1,())
|false=>
 match gA ((x.1.1,x.1.2.1,x.1.2.2.1,x.1.2.2.2.1,()),(x.2.1.1,x.2.1.2.1,x.2.1.2.2.1,x.2.1.2.2.2.1,x.2.1.2.2.2.2.1,()),(x.2.2.1.1,x.2.2.1.2.1,(x.2.2.1.2.2.1.1,x.2.2.1.2.2.1.2.1,x.2.2.1.2.2.1.2.2.1,x.2.2.1.2.2.1.2.2.2.1,x.2.2.1.2.2.1.2.2.2.2.1,()),x.2.2.1.2.2.2.1,()),())with
 |none=>none
 |some v2=>
 match(!v2.1)with
 |true=>
  some ((5:Int),())
 |false=>
  some ((0:Int),())
noncomputable def QT:Spec:=⟨_,(.pair (.int .i64) .unit),.unit,rfl,pt⟩
theorem OS:FnOK G0 Tryz.prog 172 QT:=aj ai (sg kI (sg wk (aC))) Tryz.func172
noncomputable def jz(x:Ty.T (.pair .nil (.pair (.int .i64) .unit))):Option (Ty.T (.pair (.own 2 (.int .i64)) .unit)):=
match(decide (x.2.1<(0:Int)))with
|true=>
 none
|false=>
 match(decide ((IntKind.i64.wrap (x.2.1-(IntKind.i64.wrap ((0:Int)-(0:Int)))))>(0:Int)))with
 |true=>
  aa (aH 0 none (some (.dat (.int .i64) (0:Int)))) fun v1=>
  if 0≤(IntKind.i64.wrap (x.2.1-(IntKind.i64.wrap ((0:Int)-(0:Int)))))then
   aM ((IntKind.i64.wrap (x.2.1-(IntKind.i64.wrap ((0:Int)-(0:Int))))).toNat) (
    aa (aH (List.replicate (IntKind.i64.wrap (x.2.1-(IntKind.i64.wrap ((0:Int)-(0:Int))))).toNat (0:Int)).length none (some (.dat (.int .i64) (0:Int)))) fun v2=>
    some ((List.take v2.2 (List.replicate (IntKind.i64.wrap (x.2.1-(IntKind.i64.wrap ((0:Int)-(0:Int))))).toNat (0:Int))),()))
  else none
 |false=>
  some ([],())
noncomputable def pO:Spec:=⟨_,(.pair (.own 2 (.int .i64)) .unit),.unit,rfl,jz⟩
theorem zU:FnOK G0 Tryz.prog 211 pO:=aj ai aC Tryz.func211
noncomputable def cf(x:(Ty.T (.pair (.list (.list (.int .i64))) (.pair (.int .i64) (.pair (.list (.list (.int .i64))) ah))))):Option ((Ty.T (.pair (.list (.list (.int .i64))) (.pair (.int .i64) (.pair (.list (.list (.int .i64))) ah)))) ⊕ ((Ty.T (.pair (.list (.list (.int .i64))) (.pair (.int .i64) .unit))) ⊕ (Ty.T .unit))):=
match(decide (x.2.2.2.2.1<x.2.2.2.1))with
|true=>
 aa (au x.2.2.1 x.2.2.2.2.1) fun v1=>
 match(decide ((IntKind.i64.wrap (x.2.1+(v1.length:Int)))<(0:Int)))with
 |true=>
  none
 |false=>
  some (.inl (x.1,(IntKind.i64.wrap (x.2.1+(v1.length:Int))),x.2.2.1,x.2.2.2.1,(IntKind.i64.wrap (x.2.2.2.2.1+(1:Int))),()))
|false=>
 some (.inr (.inl (x.1,x.2.1,())))
noncomputable def bW(x:(Ty.T (.pair (.own 2 (.int .i64)) (.pair (.list (.list (.int .i64))) ah)))):Option ((Ty.T (.pair (.own 2 (.int .i64)) (.pair (.list (.list (.int .i64))) ah))) ⊕ ((Ty.T (.pair (.own 2 (.int .i64)) .unit)) ⊕ (Ty.T .unit))):=
match(decide (x.2.2.2.1<x.2.2.1))with
|true=>
 aa (au x.2.1 x.2.2.2.1) fun v5=>
 aM (x.1.length+v5.length) (
  some (.inl ((x.1++v5),x.2.1,x.2.2.1,(IntKind.i64.wrap (x.2.2.2.1+(1:Int))),())))
|false=>
 some (.inr (.inl (x.1,())))
noncomputable def fU(x:Ty.T (.pair (.list (.list (.int .i64))) .unit)):Option (Ty.T (.pair (.own 2 (.int .i64)) .unit)):=
match ac cf (x.1,(0:Int),x.1,(x.1.length:Int),(0:Int),())with
|none=>none
|some (.inl v2)=>
 match jz ((),v2.2.1,())with
 |none=>none
 |some v4=>
 match ac bW (v4.1,v2.1,(v2.1.length:Int),(0:Int),())with
 |none=>none
 |some (.inl v6)=>
  some (v6.1,())
 |some (.inr v8)=>
  none
|some (.inr v9)=>
 none
noncomputable def yB:Spec:=⟨_,(.pair (.own 2 (.int .i64)) .unit),.unit,rfl,fU⟩
noncomputable def jp:FuncId→Option Spec:=aX [(211,pO)]
theorem uY:∀f s,jp f=some s→FnOK G0 Tryz.prog f s:=aw ⟨zU,trivial⟩
def mF:aG:=⟨[0,3,9,10,11],(.pair (.list (.list (.int .i64))) (.pair (.int .i64) (.pair (.list (.list (.int .i64))) ah))),0,[0,3],(.pair (.list (.list (.int .i64))) (.pair (.int .i64) .unit)),[],.unit⟩
def lU:aG:=⟨[6,25,26,27],(.pair (.own 2 (.int .i64)) (.pair (.list (.list (.int .i64))) ah)),2,[6],(.pair (.own 2 (.int .i64)) .unit),[],.unit⟩
noncomputable def jq:List a9z:=[mF.spec cf,lU.spec bW]
theorem s6:aU aV E0 jp (aR Tryz.f173 jq) Tryz.f173 0 mF cf:=fun x=>by kernel_rfl
theorem rN:aU aV E0 jp (aR Tryz.f173 jq) Tryz.f173 1 lU bW:=fun x=>by kernel_rfl
theorem xg:FnOK G0 Tryz.prog 173 yB:=ax ai uY Tryz.func173 jq (by kernel_rfl) (by exact⟨(s6).lok,(rN).lok,trivial⟩) fun x=>by kernel_rfl
noncomputable def iM(x:Ty.T (.pair (.list (.int .i64)) (.pair (.int .i64) .unit))):Option (Ty.T (.pair (.own 2 (.int .i64)) .unit)):=aa (LQ x.1 x.2.1) fun s=>some (s,())
noncomputable def yC:Spec:=⟨(.pair (.list (.int .i64)) (.pair (.int .i64) .unit)),(.pair (.own 2 (.int .i64)) .unit),.unit,rfl,iM⟩
theorem xh:FnOK G0 Tryz.prog 212 yC:=Wg (ki Tryz.func212 (by kernel_rfl) (show Tryz.f212.body=some (fS Tryz.f212) by kernel_rfl))
noncomputable def mq(x:Ty.T (.pair (.int .i64) .unit)):Option (Ty.T (.pair (.own 2 (.int .i64)) .unit)):=
match iM ([(1:Int)],x.1,())with
|none=>none
|some v1=>
some (v1.1,())
noncomputable def Wp:Spec:=⟨_,(.pair (.own 2 (.int .i64)) .unit),.unit,rfl,mq⟩
theorem KS:FnOK G0 Tryz.prog 174 Wp:=aj ai (sg xh (aC)) Tryz.func174
noncomputable def gV(x:(Ty.T (.pair (.own 2 (.int .i64)) (.pair (.list (.int .i64)) ah)))):Option ((Ty.T (.pair (.own 2 (.int .i64)) (.pair (.list (.int .i64)) ah))) ⊕ ((Ty.T (.pair (.own 2 (.int .i64)) .unit)) ⊕ (Ty.T .unit))):=
match(decide (x.2.2.2.1<x.2.2.1))with
|true=>
 aa (au x.2.1 x.2.2.2.1) fun v1=>
 aM (x.1.length+ [(1:Int),(0:Int)].length) (
  match bw ((x.1++ [(1:Int),(0:Int)]),v1,(8:Int),())with
  |none=>none
  |some v2=>
  some (.inl (v2.1,x.2.1,x.2.2.1,(IntKind.i64.wrap (x.2.2.2.1+(1:Int))),())))
|false=>
 some (.inr (.inl (x.1,())))
noncomputable def re(x:Ty.T (.pair (.list (.int .i64)) (.pair (.int .i64) .unit))):Option (Ty.T (.pair (.own 2 (.int .i64)) .unit)):=
if 0≤x.2.1∧x.2.1≤x.2.1 then
 aM (x.2.1.toNat) (
  aM ((List.replicate x.2.1.toNat (0:Int)).length+ [(1:Int)].length) (
   match ac gV (((List.replicate x.2.1.toNat (0:Int))++ [(1:Int)]),x.1,(x.1.length:Int),(0:Int),())with
   |none=>none
   |some (.inl v3)=>
    aM (v3.1.length+ [(0:Int),(1:Int)].length) (
     some ((v3.1++ [(0:Int),(1:Int)]),()))
   |some (.inr v5)=>
    none))
else none
noncomputable def SX:Spec:=⟨_,(.pair (.own 2 (.int .i64)) .unit),.unit,rfl,re⟩
noncomputable def D6:FuncId→Option Spec:=aX [(213,nM)]
theorem MC:∀f s,D6 f=some s→FnOK G0 Tryz.prog f s:=aw ⟨mL,trivial⟩
def Bu:aG:=⟨[5,12,13,14],(.pair (.own 2 (.int .i64)) (.pair (.list (.int .i64)) ah)),0,[5],(.pair (.own 2 (.int .i64)) .unit),[],.unit⟩
noncomputable def D7:List a9z:=[Bu.spec gV]
theorem KT:aU aV E0 D6 (aR Tryz.f175 D7) Tryz.f175 0 Bu gV:=fun x=>by kernel_rfl
theorem QU:FnOK G0 Tryz.prog 175 SX:=ax ai MC Tryz.func175 D7 (by kernel_rfl) (by exact⟨(KT).lok,trivial⟩) fun x=>by kernel_rfl
noncomputable def yD(x:Ty.T (.pair aL (.pair (.int .i64) (.pair ab .unit)))):Option (Ty.T (.pair (.own 2 (.int .i64)) .unit)):=
match fv ((x.1.1,x.1.2.1,(x.1.2.2.1.1,x.1.2.2.1.2.1,x.1.2.2.1.2.2.1,x.1.2.2.1.2.2.2.1,x.1.2.2.1.2.2.2.2.1,()),x.1.2.2.2.1,()),())with
|none=>none
|some v1=>
match gU (x.1.1,v1.1,x.2.1,(x.2.2.1.1,x.2.2.1.2.1,x.2.2.1.2.2.1,x.2.2.1.2.2.2.1,x.2.2.1.2.2.2.2.1,()),())with
|none=>none
|some v2=>
match jN (v2.1,())with
|none=>none
|some v3=>
aM (v1.1.length+v3.1.length) (
 some ((v1.1++v3.1),()))
noncomputable def XF:Spec:=⟨_,(.pair (.own 2 (.int .i64)) .unit),.unit,rfl,yD⟩
theorem Wq:FnOK G0 Tryz.prog 176 XF:=aj ai (sg GF (sg wj (sg uT (aC)))) Tryz.func176
noncomputable def m9(x:Ty.T (.pair ae (.pair ab (.pair aL .unit)))):Option (Ty.T (.pair (.own 2 (.int .i64)) (.pair (.int .i64) .unit))):=
match pt ((x.1.1,x.1.2.1,x.1.2.2.1,x.1.2.2.2.1,()),(x.2.1.1,x.2.1.2.1,x.2.1.2.2.1,x.2.1.2.2.2.1,x.2.1.2.2.2.2.1,()),(x.2.2.1.1,x.2.2.1.2.1,(x.2.2.1.2.2.1.1,x.2.2.1.2.2.1.2.1,x.2.2.1.2.2.1.2.2.1,x.2.2.1.2.2.1.2.2.2.1,x.2.2.1.2.2.1.2.2.2.2.1,()),x.2.2.1.2.2.2.1,()),())with
|none=>none
|some v1=>
match(v1.1 != (0:Int))with
|true=>
 some ([],v1.1,())
|false=>
 match mq ((8:Int),())with
 |none=>none
 |some v2=>
 match yD ((x.2.2.1.1,x.2.2.1.2.1,(x.2.2.1.2.2.1.1,x.2.2.1.2.2.1.2.1,x.2.2.1.2.2.1.2.2.1,x.2.2.1.2.2.1.2.2.2.1,x.2.2.1.2.2.1.2.2.2.2.1,()),x.2.2.1.2.2.2.1,()),x.1.1,(x.2.1.1,x.2.1.2.1,x.2.1.2.2.1,x.2.1.2.2.2.1,x.2.1.2.2.2.2.1,()),())with
 |none=>none
 |some v3=>
 match re (v3.1,(8:Int),())with
 |none=>none
 |some v4=>
 match fU ([v2.1,v4.1],())with
 |none=>none
 |some v5=>
 match ay ((x.1.1,x.1.2.1,x.1.2.2.1,x.1.2.2.2.1,()),(x.2.1.1,x.2.1.2.1,x.2.1.2.2.1,x.2.1.2.2.2.1,x.2.1.2.2.2.2.1,()),())with
 |none=>none
 |some v6=>
 match mq ((IntKind.i64.wrap (v6.1.2.2.2.1-(v5.1.length:Int))),())with
 |none=>none
 |some v7=>
 aM (v5.1.length+v7.1.length) (
  some ((v5.1++v7.1),(0:Int),()))
noncomputable def OT:Spec:=⟨_,(.pair (.own 2 (.int .i64)) (.pair (.int .i64) .unit)),.unit,rfl,m9⟩
theorem MD:FnOK G0 Tryz.prog 130 OT:=aj ai (sg cX (sg OS (sg xg (sg KS (sg QU (sg Wq (aC))))))) Tryz.func130
noncomputable def de(x:(Ty.T (.pair (.own 2 (.int .i64)) (.pair (.list (.int .i64)) ah)))):Option ((Ty.T (.pair (.own 2 (.int .i64)) (.pair (.list (.int .i64)) ah))) ⊕ ((Ty.T (.pair (.own 2 (.int .i64)) .unit)) ⊕ (Ty.T .unit))):=
match(decide (x.2.2.2.1<x.2.2.1))with
|true=>
 aa (au x.2.1 x.2.2.2.1) fun v2=>
 match qb (x.1,v2,(8:Int),())with
 |none=>none
 |some v3=>
 some (.inl (v3.1,x.2.1,x.2.2.1,(IntKind.i64.wrap (x.2.2.2.1+(1:Int))),()))
|false=>
 some (.inr (.inl (x.1,())))
noncomputable def iB(x:Ty.T (.pair (.list (.int .i64)) .unit)):Option (Ty.T (.pair (.own 2 (.int .i64)) (.pair (.int .i64) .unit))):=
match nJ (x.1,())with
|none=>none
|some v1=>
match(!v1.1)with
|true=>
 some ([],(1:Int),())
|false=>
 match(decide ((IntKind.i64.wrap ((x.1.length:Int)*(8:Int)))>(8192:Int)))with
 |true=>
  some ([],(3:Int),())
 |false=>
  match ac de ([],x.1,(x.1.length:Int),(0:Int),())with
  |none=>none
  |some (.inl v4)=>
   some (v4.1,(0:Int),())
  |some (.inr v6)=>
   none
noncomputable def D8:Spec:=⟨_,(.pair (.own 2 (.int .i64)) (.pair (.int .i64) .unit)),.unit,rfl,iB⟩
noncomputable def pP:FuncId→Option Spec:=aX [(138,KA),(177,KP)]
theorem yE:∀f s,pP f=some s→FnOK G0 Tryz.prog f s:=aw ⟨qr,GI,trivial⟩
def pu:aG:=⟨[4,15,16,17],(.pair (.own 2 (.int .i64)) (.pair (.list (.int .i64)) ah)),0,[4],(.pair (.own 2 (.int .i64)) .unit),[],.unit⟩
noncomputable def pQ:List a9z:=[pu.spec de]
theorem xi:aU aV E0 pP (aR Tryz.f131 pQ) Tryz.f131 0 pu de:=fun x=>by kernel_rfl
theorem Ci:FnOK G0 Tryz.prog 131 D8:=ax ai yE Tryz.func131 pQ (by kernel_rfl) (by exact⟨(xi).lok,trivial⟩) fun x=>by kernel_rfl
noncomputable def kM(x:Ty.T (.pair ae (.pair ab (.pair aL .unit)))):Option (Ty.T (.pair (.own 2 (.int .i64)) (.pair (.int .i64) .unit))):=
match m9 ((x.1.1,x.1.2.1,x.1.2.2.1,x.1.2.2.2.1,()),(x.2.1.1,x.2.1.2.1,x.2.1.2.2.1,x.2.1.2.2.2.1,x.2.1.2.2.2.2.1,()),(x.2.2.1.1,x.2.2.1.2.1,(x.2.2.1.2.2.1.1,x.2.2.1.2.2.1.2.1,x.2.2.1.2.2.1.2.2.1,x.2.2.1.2.2.1.2.2.2.1,x.2.2.1.2.2.1.2.2.2.2.1,()),x.2.2.1.2.2.2.1,()),())with
|none=>none
|some v1=>
match(v1.2.1 != (0:Int))with
|true=>
 some ([],v1.2.1,())
|false=>
 match iB (v1.1,())with
 |none=>none
 |some v2=>
 some (v2.1,v2.2.1,())
noncomputable def wl:Spec:=⟨_,(.pair (.own 2 (.int .i64)) (.pair (.int .i64) .unit)),.unit,rfl,kM⟩
theorem Ip:FnOK G0 Tryz.prog 94 wl:=aj ai (sg MD (sg Ci (aC))) Tryz.func94
noncomputable def jQ(x:Ty.T (.pair a7 (.pair ab .unit))):Option (Ty.T (.pair (.pair (.int .i64) (.pair (.int .i64) (.pair ab (.pair (.own 2 (.int .i64)) .unit)))) .unit)):=
bf (
 if 0≤x.1.2.2.1∧x.1.2.2.1≤x.1.2.2.1 then
  aM (x.1.2.2.1.toNat) (
   ba (
    match dV (x.1.2.1,())with
    |none=>none
    |some v1=>
    match v1.1 with
    |true=>
     some ((x.1.2.1,(0:Int),(x.2.1.1,x.2.1.2.1,x.2.1.2.2.1,x.2.1.2.2.2.1,x.2.1.2.2.2.2.1,()),(List.replicate x.1.2.2.1.toNat (0:Int)),()),())
    |false=>
     some ((x.1.2.1,(0:Int),((0:Int),(0:Int),(0:Int),(0:Int),(0:Int),()),(List.replicate x.1.2.2.1.toNat (0:Int)),()),())))
 else none) (
 if 0≤x.1.2.2.1∧x.1.2.2.1≤x.1.2.2.1 then
  aM (x.1.2.2.1.toNat) (
   match dV (x.1.2.1,())with
   |none=>none
   |some v1=>
   match v1.1 with
   |true=>
    some ((x.1.2.1,(0:Int),(x.2.1.1,x.2.1.2.1,x.2.1.2.2.1,x.2.1.2.2.2.1,x.2.1.2.2.2.2.1,()),(List.replicate x.1.2.2.1.toNat (0:Int)),()),())
   |false=>
    some ((x.1.2.1,(0:Int),((0:Int),(0:Int),(0:Int),(0:Int),(0:Int),()),(List.replicate x.1.2.2.1.toNat (0:Int)),()),()))
 else none)
noncomputable def yF:Spec:=⟨_,(.pair (.pair (.int .i64) (.pair (.int .i64) (.pair ab (.pair (.own 2 (.int .i64)) .unit)))) .unit),.unit,rfl,jQ⟩
theorem KU:FnOK G0 Tryz.prog 203 yF:=aj ai (sg iY (aC)) Tryz.func203
noncomputable def dY(x:(Ty.T (.pair (.int .i64) (.pair (.box ae) (.pair (.box ab) (.pair (.box aL) (.pair (.box (.pair (.int .i64) (.pair (.int .i64) (.pair ab (.pair (.own 2 (.int .i64)) .unit))))) ah))))))):Option ((Ty.T (.pair (.int .i64) (.pair (.box ae) (.pair (.box ab) (.pair (.box aL) (.pair (.box (.pair (.int .i64) (.pair (.int .i64) (.pair ab (.pair (.own 2 (.int .i64)) .unit))))) ah)))))) ⊕ ((Ty.T (.pair (.box ae) (.pair (.box ab) (.pair (.box aL) (.pair (.box (.pair (.int .i64) (.pair (.int .i64) (.pair ab (.pair (.own 2 (.int .i64)) .unit))))) .unit))))) ⊕ (Ty.T .unit))):=
match(decide (x.2.2.2.2.2.2.1<x.2.2.2.2.2.1))with
|true=>
 aa (au x.2.2.2.2.1.2.2.2.1 x.2.2.2.2.2.2.1) fun _=>
 match x.2.2.2.2.1.2.2.2.1[x.2.2.2.2.2.2.1.toNat]? with
 |none=>none
 |some v7=>
 some (.inl (x.1,x.2.1,x.2.2.1,x.2.2.2.1,(x.2.2.2.2.1.1,x.2.2.2.2.1.2.1,x.2.2.2.2.1.2.2.1,(x.2.2.2.2.1.2.2.2.1.set x.2.2.2.2.2.2.1.toNat x.1),()),x.2.2.2.2.2.1,(IntKind.i64.wrap (x.2.2.2.2.2.2.1+(1:Int))),()))
|false=>
 some (.inr (.inl (x.2.1,x.2.2.1,x.2.2.2.1,x.2.2.2.2.1,())))
noncomputable def s7(x:Ty.T (.pair ae bk)):Option (Ty.T (.pair aL (.pair (.int .i64) .unit))):=
match dW (x.1,x.2.1,())with
|none=>none
|some v1=>
match(v1.1 != (0:Int))with
|true=>
 some (((0:Int),(0:Int),((0:Int),(0:Int),(0:Int),(0:Int),(0:Int),()),[],()),v1.1,())
|false=>
 match bb (x.2.2.1,(0:Int),(255:Int),())with
 |none=>none
 |some v2=>
 match(!v2.1)with
 |true=>
  some (((0:Int),(0:Int),((0:Int),(0:Int),(0:Int),(0:Int),(0:Int),()),[],()),(2:Int),())
 |false=>
  match bb (x.2.2.2.1,(0:Int),(7:Int),())with
  |none=>none
  |some v3=>
  match(!v3.1)with
  |true=>
   some (((0:Int),(0:Int),((0:Int),(0:Int),(0:Int),(0:Int),(0:Int),()),[],()),(2:Int),())
  |false=>
   bf (
    match ay (x.1,x.2.1,())with
    |none=>none
    |some v4=>
    bf (
     match jQ (v4.1,x.2.1,())with
     |none=>none
     |some v5=>
     match ac dY (x.2.2.1,x.1,x.2.1,((0:Int),(0:Int),((0:Int),(0:Int),(0:Int),(0:Int),(0:Int),()),[],()),(v5.1.1,x.2.2.2.1,v5.1.2.2.1,v5.1.2.2.2.1,()),(v5.1.2.2.2.1.length:Int),(0:Int),())with
     |none=>none
     |some (.inl v8)=>
      match gA (v8.1,v8.2.1,v8.2.2.2.1,())with
      |none=>none
      |some v10=>
      match(!v10.1)with
      |true=>
       some (((0:Int),(0:Int),((0:Int),(0:Int),(0:Int),(0:Int),(0:Int),()),[],()),(5:Int),())
      |false=>
       some (v8.2.2.2.1,(0:Int),())
     |some (.inr v11)=>
      none) (
     match jQ (v4.1,x.2.1,())with
     |none=>none
     |some v5=>
     match ac dY (x.2.2.1,x.1,x.2.1,((0:Int),(0:Int),((0:Int),(0:Int),(0:Int),(0:Int),(0:Int),()),[],()),(v5.1.1,x.2.2.2.1,v5.1.2.2.1,v5.1.2.2.2.1,()),(v5.1.2.2.2.1.length:Int),(0:Int),())with
     |none=>none
     |some (.inl v6)=>
      match gA (v6.1,v6.2.1,v6.2.2.2.1,())with
      |none=>none
      |some v8=>
      match(!v8.1)with
      |true=>
       some (((0:Int),(0:Int),((0:Int),(0:Int),(0:Int),(0:Int),(0:Int),()),[],()),(5:Int),())
      |false=>
       some (v6.2.2.2.1,(0:Int),())
     |some (.inr v9)=>
      none)) (
    match ay (x.1,x.2.1,())with
    |none=>none
    |some v4=>
    match jQ (v4.1,x.2.1,())with
    |none=>none
    |some v5=>
    match ac dY (x.2.2.1,x.1,x.2.1,((0:Int),(0:Int),((0:Int),(0:Int),(0:Int),(0:Int),(0:Int),()),[],()),(v5.1.1,x.2.2.2.1,v5.1.2.2.1,v5.1.2.2.2.1,()),(v5.1.2.2.2.1.length:Int),(0:Int),())with
    |none=>none
    |some (.inl v6)=>
     match gA (v6.1,v6.2.1,v6.2.2.2.1,())with
     |none=>none
     |some v8=>
     match(!v8.1)with
     |true=>
      some (((0:Int),(0:Int),((0:Int),(0:Int),(0:Int),(0:Int),(0:Int),()),[],()),(5:Int),())
     |false=>
      some (v6.2.2.2.1,(0:Int),())
    |some (.inr v9)=>
     none)
noncomputable def D9:Spec:=⟨_,(.pair aL (.pair (.int .i64) .unit)),.unit,rfl,s7⟩
noncomputable def Bv:FuncId→Option Spec:=aX [(81,mK),(111,DS),(155,zL),(203,yF),(204,yA)]
theorem KV:∀f s,Bv f=some s→FnOK G0 Tryz.prog f s:=aw ⟨cX,kI,co,KU,wk,trivial⟩
def yG:aG:=⟨[2,4,5,8,11,38,39],(.pair (.int .i64) (.pair (.box ae) (.pair (.box ab) (.pair (.box aL) (.pair (.box (.pair (.int .i64) (.pair (.int .i64) (.pair ab (.pair (.own 2 (.int .i64)) .unit))))) ah))))),0,[4,5,8,11],(.pair (.box ae) (.pair (.box ab) (.pair (.box aL) (.pair (.box (.pair (.int .i64) (.pair (.int .i64) (.pair ab (.pair (.own 2 (.int .i64)) .unit))))) .unit)))),[],.unit⟩
noncomputable def Bw:List a9z:=[yG.spec dY]
theorem Iq:aU aV E0 Bv (aR Tryz.f156 Bw) Tryz.f156 0 yG dY:=fun x=>by kernel_rfl
theorem OU:FnOK G0 Tryz.prog 156 D9:=ax ai KV Tryz.func156 Bw (by kernel_rfl) (by exact⟨(Iq).lok,trivial⟩) fun x=>by kernel_rfl
noncomputable def pv(x:Ty.T (.pair ae (.pair ab .unit))):Option (Ty.T (.pair (.own 2 (.int .i64)) (.pair (.int .i64) .unit))):=
match dW x with
|none=>none
|some v1=>
match(v1.1 != (0:Int))with
|true=>
 some ([],v1.1,())
|false=>
 match ay x with
 |none=>none
 |some v2=>
 match mq ((IntKind.i64.wrap ((8:Int)*v2.1.2.2.2.1)),())with
 |none=>none
 |some v3=>
 some (v3.1,(0:Int),())
noncomputable def yH:Spec:=⟨_,(.pair (.own 2 (.int .i64)) (.pair (.int .i64) .unit)),.unit,rfl,pv⟩
theorem KW:FnOK G0 Tryz.prog 157 yH:=aj ai (sg cX (sg kI (sg KS (aC)))) Tryz.func157
noncomputable def gl(x:(Ty.T (.pair (.box ae) (.pair (.box ab) (.pair (.box ar) (.pair (.own 2 (.int .i64)) ah)))))):Option ((Ty.T (.pair (.box ae) (.pair (.box ab) (.pair (.box ar) (.pair (.own 2 (.int .i64)) ah))))) ⊕ ((Ty.T (.pair (.box ae) (.pair (.box ab) .unit))) ⊕ (Ty.T (.pair (.own 2 (.int .i64)) .unit)))):=
match(decide (x.2.2.2.2.2.1<x.2.2.2.2.1))with
|true=>
 aa (au x.2.2.2.1 x.2.2.2.2.2.1) fun _=>
 match x.2.2.2.1[x.2.2.2.2.2.1.toNat]? with
 |none=>none
 |some v2=>
 match s7 (x.1,x.2.1,x.2.2.1.1,v2,())with
 |none=>none
 |some v3=>
 match(v3.2.1==(0:Int))with
 |true=>
  match kM (x.1,x.2.1,v3.1,())with
  |none=>none
  |some v4=>
  some (.inr (.inr (v4.1,())))
 |false=>
  some (.inl (x.1,x.2.1,x.2.2.1,x.2.2.2.1,x.2.2.2.2.1,(IntKind.i64.wrap (x.2.2.2.2.2.1+(1:Int))),()))
|false=>
 some (.inr (.inl (x.1,x.2.1,())))
noncomputable def KX(x:Ty.T (.pair ae (.pair ab (.pair ar .unit)))):Option (Ty.T (.pair (.own 2 (.int .i64)) .unit)):=
match ac gl (x.1,x.2.1,x.2.2.1,[x.2.2.1.2.1,(0:Int)],([x.2.2.1.2.1,(0:Int)].length:Int),(0:Int),())with
|none=>none
|some (.inl v5)=>
 match pv v5 with
 |none=>none
 |some v7=>
 some (v7.1,())
|some (.inr v6)=>
 some (v6.1,())
noncomputable def XG:Spec:=⟨_,(.pair (.own 2 (.int .i64)) .unit),.unit,rfl,KX⟩
noncomputable def NH:FuncId→Option Spec:=aX [(94,wl),(156,D9),(157,yH)]
theorem SY:∀f s,NH f=some s→FnOK G0 Tryz.prog f s:=aw ⟨Ip,OU,KW,trivial⟩
def KY:aG:=⟨[3,4,5,17,18,19],(.pair (.box ae) (.pair (.box ab) (.pair (.box ar) (.pair (.own 2 (.int .i64)) ah)))),0,[3,4],(.pair (.box ae) (.pair (.box ab) .unit)),[6],(.pair (.own 2 (.int .i64)) .unit)⟩
noncomputable def NI:List a9z:=[KY.spec gl]
theorem QV:aU aV E0 NH (aR Tryz.f115 NI) Tryz.f115 0 KY gl:=fun x=>by kernel_rfl
theorem Ws:FnOK G0 Tryz.prog 115 XG:=ax ai SY Tryz.func115 NI (by kernel_rfl) (by exact⟨(QV).lok,trivial⟩) fun x=>by kernel_rfl
noncomputable def Ea(x:Ty.T ah):Option (Ty.T (.pair (.int .i64) .unit)):=
if x.2.1<0 then none else
some ((bits BinOp.andNot .i64 x.1 (IntKind.i64.wrap ((1:Int)*2^min x.2.1.toNat IntKind.i64.bits))),())
noncomputable def SZ:Spec:=⟨_,(.pair (.int .i64) .unit),.unit,rfl,Ea⟩
theorem QW:FnOK G0 Tryz.prog 160 SZ:=aj ai aC Tryz.func160
noncomputable def bg(x:Ty.T (.pair (.int .i64) (.pair (.int .i64) (.pair .bool .unit)))):Option (Ty.T ah):=
match pm (x.1,())with
|none=>none
|some v1=>
match(!v1.1)with
|true=>
 some ((0:Int),(2:Int),())
|false=>
 match nH (x.2.1,())with
 |none=>none
 |some v2=>
 match(!v2.1)with
 |true=>
  some ((0:Int),(2:Int),())
 |false=>
  match x.2.2.1 with
  |true=>
   if x.2.1<0 then none else
   some ((bits BinOp.or .i64 x.1 (IntKind.i64.wrap ((1:Int)*2^min x.2.1.toNat IntKind.i64.bits))),(0:Int),())
  |false=>
   match Ea (x.1,x.2.1,())with
   |none=>none
   |some v3=>
   some (v3.1,(0:Int),())
noncomputable def OV:Spec:=⟨_,ah,.unit,rfl,bg⟩
theorem ME:FnOK G0 Tryz.prog 116 OV:=aj ai (sg Bk (sg xb (sg QW (aC)))) Tryz.func116
noncomputable def gg(x:Ty.T (.pair ab (.pair (.int .i64) ah))):Option (Ty.T (.pair ab (.pair (.int .i64) .unit))):=
match e6 ((x.1.1,x.1.2.1,x.1.2.2.1,x.1.2.2.2.1,x.1.2.2.2.2.1,()),())with
|none=>none
|some v1=>
match(!v1.1)with
|true=>
 some (((0:Int),(0:Int),(0:Int),(0:Int),(0:Int),()),(1:Int),())
|false=>
 match bb (x.2.1,(0:Int),(65535:Int),())with
 |none=>none
 |some v2=>
 match(!v2.1)with
 |true=>
  some (((0:Int),(0:Int),(0:Int),(0:Int),(0:Int),()),(2:Int),())
 |false=>
  match bb (x.2.2.1,(1:Int),(256:Int),())with
  |none=>none
  |some v3=>
  match(!v3.1)with
  |true=>
   some (((0:Int),(0:Int),(0:Int),(0:Int),(0:Int),()),(2:Int),())
  |false=>
   match bb (x.2.2.2.1,(1:Int),(16:Int),())with
   |none=>none
   |some v4=>
   match(!v4.1)with
   |true=>
    some (((0:Int),(0:Int),(0:Int),(0:Int),(0:Int),()),(2:Int),())
   |false=>
    match(decide (x.1.2.2.2.1≥x.2.2.1))with
    |true=>
     some (((0:Int),(0:Int),(0:Int),(0:Int),(0:Int),()),(2:Int),())
    |false=>
     match(decide (x.1.2.2.1≥x.2.2.2.1))with
     |true=>
      some (((0:Int),(0:Int),(0:Int),(0:Int),(0:Int),()),(2:Int),())
     |false=>
      match((IntKind.i64.wrap (x.1.2.2.2.1+(1:Int)))==x.2.2.1)with
      |true=>
       if x.2.2.2.1=0 then none else
       some (((Int.tmod (IntKind.i64.wrap (x.1.1+x.2.1)) (65536:Int)),x.1.2.1,(Int.tmod (IntKind.i64.wrap (x.1.2.2.1+(1:Int))) x.2.2.2.1),(0:Int),x.1.2.2.2.2.1,()),(0:Int),())
      |false=>
       some (((Int.tmod (IntKind.i64.wrap (x.1.1+x.2.1)) (65536:Int)),x.1.2.1,x.1.2.2.1,(IntKind.i64.wrap (x.1.2.2.2.1+(1:Int))),x.1.2.2.2.2.1,()),(0:Int),())
noncomputable def Ir:Spec:=⟨_,(.pair ab (.pair (.int .i64) .unit)),.unit,rfl,gg⟩
theorem FM:FnOK G0 Tryz.prog 161 Ir:=aj ai (sg co (sg pn (aC))) Tryz.func161
noncomputable def be(x:Ty.T (.pair ae (.pair ab .unit))):Option (Ty.T (.pair ab .unit)):=
aa (au x.1.2.2.1 x.2.1.2.1) fun v1=>
bf (
 match ay ((x.1.1,x.1.2.1,x.1.2.2.1,x.1.2.2.2.1,()),(x.2.1.1,x.2.1.2.1,x.2.1.2.2.1,x.2.1.2.2.2.1,x.2.1.2.2.2.2.1,()),())with
 |none=>none
 |some v2=>
 ba (
  match gg ((x.2.1.1,x.2.1.2.1,x.2.1.2.2.1,x.2.1.2.2.2.1,x.2.1.2.2.2.2.1,()),v2.1.2.2.2.1,v1.2.1,v1.1,())with
  |none=>none
  |some v3=>
  some ((v3.1.1,v3.1.2.1,v3.1.2.2.1,v3.1.2.2.2.1,v3.1.2.2.2.2.1,()),()))) (
 match ay ((x.1.1,x.1.2.1,x.1.2.2.1,x.1.2.2.2.1,()),(x.2.1.1,x.2.1.2.1,x.2.1.2.2.1,x.2.1.2.2.2.1,x.2.1.2.2.2.2.1,()),())with
 |none=>none
 |some v2=>
 match gg ((x.2.1.1,x.2.1.2.1,x.2.1.2.2.1,x.2.1.2.2.2.1,x.2.1.2.2.2.2.1,()),v2.1.2.2.2.1,v1.2.1,v1.1,())with
 |none=>none
 |some v3=>
 some ((v3.1.1,v3.1.2.1,v3.1.2.2.1,v3.1.2.2.2.1,v3.1.2.2.2.2.1,()),()))
noncomputable def OW:Spec:=⟨_,(.pair ab .unit),.unit,rfl,be⟩
theorem MF:FnOK G0 Tryz.prog 117 OW:=aj ai (sg cX (sg FM (aC))) Tryz.func117
end Go.Proofs.YthfgmmmeplanbaaGreatDoor
