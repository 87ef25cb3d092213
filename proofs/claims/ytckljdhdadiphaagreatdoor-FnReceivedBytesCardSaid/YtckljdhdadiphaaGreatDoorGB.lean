import Derived.Test.YtckljdhdadiphaaGreatDoorGA
namespace Go.Proofs.YtckljdhdadiphaaGreatDoor
open Go.RowKit
set_option linter.unusedVariables false
abbrev pM:Ty:=(.pair (.box al) (.pair (.box ap) (.pair (.box ak) (.pair (.box aL) (.pair (.ptr ap) (.pair (.box ak) (.pair (.box (.pair (.int .i64) (.pair (.int .i64) (.pair ak (.pair (.own 2 (.int .i64)) .unit))))) (.pair (.int .i64) .unit))))))))
abbrev xj:Ty:=(.pair (.box al) (.pair (.box ap) (.pair (.box ak) (.pair (.box aL) (.pair (.ptr ap) (.pair (.box ak) (.pair (.box (.pair (.int .i64) (.pair (.int .i64) (.pair ak (.pair (.own 2 (.int .i64)) .unit))))) .unit)))))))
noncomputable def ah(x:(Ty.T pM)):Option ((Ty.T pM) ⊕ ((Ty.T xj) ⊕ (Ty.T .unit))):=
match(decide (x.2.2.2.2.2.2.2.1<(x.2.2.2.2.2.2.1.2.2.2.1.length:Int)))with
|true=>
 ai (
  match aa (x.1,(256:Int),())with
  |none=>none
  |some v14=>
  ab (au x.2.2.2.2.2.2.1.2.2.2.1 x.2.2.2.2.2.2.2.1) fun _=>
  match x.2.2.2.2.2.2.1.2.2.2.1[x.2.2.2.2.2.2.2.1.toNat]? with
  |none=>none
  |some v16=>
  some (.inl (v14.2.1,x.2.1,x.2.2.1,x.2.2.2.1,x.2.2.2.2.1,x.2.2.2.2.2.1,(x.2.2.2.2.2.2.1.1,x.2.2.2.2.2.2.1.2.1,x.2.2.2.2.2.2.1.2.2.1,(x.2.2.2.2.2.2.1.2.2.2.1.set x.2.2.2.2.2.2.2.1.toNat v14.1),()),(IntKind.i64.wrap (x.2.2.2.2.2.2.2.1+(1:Int))),())))
|false=>
 some (.inr (.inl (x.1,x.2.1,x.2.2.1,x.2.2.2.1,x.2.2.2.2.1,x.2.2.2.2.2.1,x.2.2.2.2.2.2.1,())))
noncomputable def kZ(x:Ty.T gq):Option (Ty.T (.pair ap (.pair ak (.pair aL (.pair (.box al) .unit))))):=
match vA (x.1,())with
|none=>none
|some v1=>
match qh (v1.1,v1.2.1,())with
|none=>none
|some v2=>
match(!v2.1)with
|true=>
 ag (
  match ij (v1.2.2.1,())with
  |none=>none
  |some v3=>
  some (v1.1,v1.2.1,v3.1,v3.2.1,())) (
  match ij (v1.2.2.1,())with
  |none=>none
  |some v3=>
  ai (
   some (v1.1,v1.2.1,v3.1,v3.2.1,())))
|false=>
 match aa (v1.2.2.1,(16:Int),())with
 |none=>none
 |some v4=>
 match(v4.1==(0:Int))with
 |true=>
  ag (
   match ij (v4.2.1,())with
   |none=>none
   |some v5=>
   some (v1.1,v1.2.1,v5.1,v5.2.1,())) (
   match ij (v4.2.1,())with
   |none=>none
   |some v5=>
   ai (
    some (v1.1,v1.2.1,v5.1,v5.2.1,())))
 |false=>
  match ge (v1.1,v1.2.1,())with
  |none=>none
  |some v6=>
  match(v6.1.2.1==(3:Int))with
  |true=>
   match aa (v4.2.1,(6:Int),())with
   |none=>none
   |some v7=>
   match(decide (v7.1>(0:Int)))with
   |true=>
    ab (au v1.1.2.1 (0:Int)) fun v8=>
    if(IntKind.u64.wrap v8.1)<0 then none else
    ab (au v1.1.2.1 (0:Int)) fun v9=>
    match v9.2.2.2.1 with
    |true=>
     ag (
      ag (
       match aa (v7.2.1,(256:Int),())with
       |none=>none
       |some v10=>
       ag (
        match aa (v10.2.1,(8:Int),())with
        |none=>none
        |some v11=>
        ag (
         match aa (v11.2.1,(3:Int),())with
         |none=>none
         |some v12=>
         ag (
          match ar (v1.1,(v1.2.1.1,v1.2.1.2.1,v1.2.1.2.2.1,v1.2.1.2.2.2.1,(0:Int),()),v10.1,(IntKind.i64.wrap (v11.1*(IntKind.i64.wrap (Int.tdiv v12.1 (2:Int))))),())with
          |none=>none
          |some v13=>
          match ac ah (v12.2.1,((0:Int),[],[],[],()),((0:Int),(0:Int),(0:Int),(0:Int),(0:Int),()),((0:Int),(0:Int),((0:Int),(0:Int),(0:Int),(0:Int),(0:Int),()),[],()),v1.1,(v1.2.1.1,v1.2.1.2.1,v1.2.1.2.2.1,v1.2.1.2.2.2.1,(0:Int),()),v13.1,(0:Int),())with
          |none=>none
          |some (.inl v17)=>
           match aa (v17.1,(24:Int),())with
           |none=>none
           |some v19=>
           match(v19.1==(0:Int))with
           |true=>
            match av (v19.2.1,())with
            |none=>none
            |some v20=>
            ag (
             some (v17.2.2.2.2.1,v17.2.2.2.2.2.1,(v17.2.2.2.2.2.2.1.1,v17.2.2.2.2.2.2.1.2.1,v20.1,v17.2.2.2.2.2.2.1.2.2.2.1,()),v20.2.1,())) (
             ai (
              some (v17.2.2.2.2.1,v17.2.2.2.2.2.1,(v17.2.2.2.2.2.2.1.1,v17.2.2.2.2.2.2.1.2.1,v20.1,v17.2.2.2.2.2.2.1.2.2.2.1,()),v20.2.1,())))
           |false=>
            ag (
             some (v17.2.2.2.2.1,v17.2.2.2.2.2.1,v17.2.2.2.2.2.2.1,v19.2.1,())) (
             ai (
              some (v17.2.2.2.2.1,v17.2.2.2.2.2.1,v17.2.2.2.2.2.2.1,v19.2.1,())))
          |some (.inr v21)=>
           none) (
          match ar (v1.1,(v1.2.1.1,v1.2.1.2.1,v1.2.1.2.2.1,v1.2.1.2.2.2.1,(0:Int),()),v10.1,(IntKind.i64.wrap (v11.1*(IntKind.i64.wrap (Int.tdiv v12.1 (2:Int))))),())with
          |none=>none
          |some v13=>
          match ac ah (v12.2.1,((0:Int),[],[],[],()),((0:Int),(0:Int),(0:Int),(0:Int),(0:Int),()),((0:Int),(0:Int),((0:Int),(0:Int),(0:Int),(0:Int),(0:Int),()),[],()),v1.1,(v1.2.1.1,v1.2.1.2.1,v1.2.1.2.2.1,v1.2.1.2.2.2.1,(0:Int),()),v13.1,(0:Int),())with
          |none=>none
          |some (.inl v14)=>
           match aa (v14.1,(24:Int),())with
           |none=>none
           |some v16=>
           match(v16.1==(0:Int))with
           |true=>
            match av (v16.2.1,())with
            |none=>none
            |some v17=>
            ag (
             some (v14.2.2.2.2.1,v14.2.2.2.2.2.1,(v14.2.2.2.2.2.2.1.1,v14.2.2.2.2.2.2.1.2.1,v17.1,v14.2.2.2.2.2.2.1.2.2.2.1,()),v17.2.1,())) (
             ai (
              some (v14.2.2.2.2.1,v14.2.2.2.2.2.1,(v14.2.2.2.2.2.2.1.1,v14.2.2.2.2.2.2.1.2.1,v17.1,v14.2.2.2.2.2.2.1.2.2.2.1,()),v17.2.1,())))
           |false=>
            ag (
             some (v14.2.2.2.2.1,v14.2.2.2.2.2.1,v14.2.2.2.2.2.2.1,v16.2.1,())) (
             ai (
              some (v14.2.2.2.2.1,v14.2.2.2.2.2.1,v14.2.2.2.2.2.2.1,v16.2.1,())))
          |some (.inr v18)=>
           none)) (
         match aa (v11.2.1,(3:Int),())with
         |none=>none
         |some v12=>
         match ar (v1.1,(v1.2.1.1,v1.2.1.2.1,v1.2.1.2.2.1,v1.2.1.2.2.2.1,(0:Int),()),v10.1,(IntKind.i64.wrap (v11.1*(IntKind.i64.wrap (Int.tdiv v12.1 (2:Int))))),())with
         |none=>none
         |some v13=>
         match ac ah (v12.2.1,((0:Int),[],[],[],()),((0:Int),(0:Int),(0:Int),(0:Int),(0:Int),()),((0:Int),(0:Int),((0:Int),(0:Int),(0:Int),(0:Int),(0:Int),()),[],()),v1.1,(v1.2.1.1,v1.2.1.2.1,v1.2.1.2.2.1,v1.2.1.2.2.2.1,(0:Int),()),v13.1,(0:Int),())with
         |none=>none
         |some (.inl v14)=>
          match aa (v14.1,(24:Int),())with
          |none=>none
          |some v16=>
          match(v16.1==(0:Int))with
          |true=>
           match av (v16.2.1,())with
           |none=>none
           |some v17=>
           ag (
            some (v14.2.2.2.2.1,v14.2.2.2.2.2.1,(v14.2.2.2.2.2.2.1.1,v14.2.2.2.2.2.2.1.2.1,v17.1,v14.2.2.2.2.2.2.1.2.2.2.1,()),v17.2.1,())) (
            ai (
             some (v14.2.2.2.2.1,v14.2.2.2.2.2.1,(v14.2.2.2.2.2.2.1.1,v14.2.2.2.2.2.2.1.2.1,v17.1,v14.2.2.2.2.2.2.1.2.2.2.1,()),v17.2.1,())))
          |false=>
           ag (
            some (v14.2.2.2.2.1,v14.2.2.2.2.2.1,v14.2.2.2.2.2.2.1,v16.2.1,())) (
            ai (
             some (v14.2.2.2.2.1,v14.2.2.2.2.2.1,v14.2.2.2.2.2.2.1,v16.2.1,())))
         |some (.inr v18)=>
          none)) (
        match aa (v10.2.1,(8:Int),())with
        |none=>none
        |some v11=>
        match aa (v11.2.1,(3:Int),())with
        |none=>none
        |some v12=>
        match ar (v1.1,(v1.2.1.1,v1.2.1.2.1,v1.2.1.2.2.1,v1.2.1.2.2.2.1,(0:Int),()),v10.1,(IntKind.i64.wrap (v11.1*(IntKind.i64.wrap (Int.tdiv v12.1 (2:Int))))),())with
        |none=>none
        |some v13=>
        match ac ah (v12.2.1,((0:Int),[],[],[],()),((0:Int),(0:Int),(0:Int),(0:Int),(0:Int),()),((0:Int),(0:Int),((0:Int),(0:Int),(0:Int),(0:Int),(0:Int),()),[],()),v1.1,(v1.2.1.1,v1.2.1.2.1,v1.2.1.2.2.1,v1.2.1.2.2.2.1,(0:Int),()),v13.1,(0:Int),())with
        |none=>none
        |some (.inl v14)=>
         match aa (v14.1,(24:Int),())with
         |none=>none
         |some v16=>
         match(v16.1==(0:Int))with
         |true=>
          match av (v16.2.1,())with
          |none=>none
          |some v17=>
          ag (
           some (v14.2.2.2.2.1,v14.2.2.2.2.2.1,(v14.2.2.2.2.2.2.1.1,v14.2.2.2.2.2.2.1.2.1,v17.1,v14.2.2.2.2.2.2.1.2.2.2.1,()),v17.2.1,())) (
           ai (
            some (v14.2.2.2.2.1,v14.2.2.2.2.2.1,(v14.2.2.2.2.2.2.1.1,v14.2.2.2.2.2.2.1.2.1,v17.1,v14.2.2.2.2.2.2.1.2.2.2.1,()),v17.2.1,())))
         |false=>
          ag (
           some (v14.2.2.2.2.1,v14.2.2.2.2.2.1,v14.2.2.2.2.2.2.1,v16.2.1,())) (
           ai (
            some (v14.2.2.2.2.1,v14.2.2.2.2.2.1,v14.2.2.2.2.2.2.1,v16.2.1,())))
        |some (.inr v18)=>
         none)) (
       match aa (v7.2.1,(256:Int),())with
       |none=>none
       |some v10=>
       match aa (v10.2.1,(8:Int),())with
       |none=>none
       |some v11=>
       match aa (v11.2.1,(3:Int),())with
       |none=>none
       |some v12=>
       match ar (v1.1,(v1.2.1.1,v1.2.1.2.1,v1.2.1.2.2.1,v1.2.1.2.2.2.1,(0:Int),()),v10.1,(IntKind.i64.wrap (v11.1*(IntKind.i64.wrap (Int.tdiv v12.1 (2:Int))))),())with
       |none=>none
       |some v13=>
       match ac ah (v12.2.1,((0:Int),[],[],[],()),((0:Int),(0:Int),(0:Int),(0:Int),(0:Int),()),((0:Int),(0:Int),((0:Int),(0:Int),(0:Int),(0:Int),(0:Int),()),[],()),v1.1,(v1.2.1.1,v1.2.1.2.1,v1.2.1.2.2.1,v1.2.1.2.2.2.1,(0:Int),()),v13.1,(0:Int),())with
       |none=>none
       |some (.inl v14)=>
        match aa (v14.1,(24:Int),())with
        |none=>none
        |some v16=>
        match(v16.1==(0:Int))with
        |true=>
         match av (v16.2.1,())with
         |none=>none
         |some v17=>
         ag (
          some (v14.2.2.2.2.1,v14.2.2.2.2.2.1,(v14.2.2.2.2.2.2.1.1,v14.2.2.2.2.2.2.1.2.1,v17.1,v14.2.2.2.2.2.2.1.2.2.2.1,()),v17.2.1,())) (
          ai (
           some (v14.2.2.2.2.1,v14.2.2.2.2.2.1,(v14.2.2.2.2.2.2.1.1,v14.2.2.2.2.2.2.1.2.1,v17.1,v14.2.2.2.2.2.2.1.2.2.2.1,()),v17.2.1,())))
        |false=>
         ag (
          some (v14.2.2.2.2.1,v14.2.2.2.2.2.1,v14.2.2.2.2.2.2.1,v16.2.1,())) (
          ai (
           some (v14.2.2.2.2.1,v14.2.2.2.2.2.1,v14.2.2.2.2.2.2.1,v16.2.1,())))
       |some (.inr v18)=>
        none)) (
      ag (
       match aa (v7.2.1,(256:Int),())with
       |none=>none
       |some v10=>
       ag (
        ag (
         match aa (v10.2.1,(8:Int),())with
         |none=>none
         |some v11=>
         ag (
          match aa (v11.2.1,(3:Int),())with
          |none=>none
          |some v12=>
          ai (
           match ar (v1.1,(v1.2.1.1,v1.2.1.2.1,v1.2.1.2.2.1,v1.2.1.2.2.2.1,(0:Int),()),v10.1,(IntKind.i64.wrap (v11.1*(IntKind.i64.wrap (Int.tdiv v12.1 (2:Int))))),())with
           |none=>none
           |some v13=>
           match ac ah (v12.2.1,((0:Int),[],[],[],()),((0:Int),(0:Int),(0:Int),(0:Int),(0:Int),()),((0:Int),(0:Int),((0:Int),(0:Int),(0:Int),(0:Int),(0:Int),()),[],()),v1.1,(v1.2.1.1,v1.2.1.2.1,v1.2.1.2.2.1,v1.2.1.2.2.2.1,(0:Int),()),v13.1,(0:Int),())with
           |none=>none
           |some (.inl v14)=>
            match aa (v14.1,(24:Int),())with
            |none=>none
            |some v16=>
            match(v16.1==(0:Int))with
            |true=>
             match av (v16.2.1,())with
             |none=>none
             |some v17=>
             ag (
              some (v14.2.2.2.2.1,v14.2.2.2.2.2.1,(v14.2.2.2.2.2.2.1.1,v14.2.2.2.2.2.2.1.2.1,v17.1,v14.2.2.2.2.2.2.1.2.2.2.1,()),v17.2.1,())) (
              ai (
               some (v14.2.2.2.2.1,v14.2.2.2.2.2.1,(v14.2.2.2.2.2.2.1.1,v14.2.2.2.2.2.2.1.2.1,v17.1,v14.2.2.2.2.2.2.1.2.2.2.1,()),v17.2.1,())))
            |false=>
             ag (
              some (v14.2.2.2.2.1,v14.2.2.2.2.2.1,v14.2.2.2.2.2.2.1,v16.2.1,())) (
              ai (
               some (v14.2.2.2.2.1,v14.2.2.2.2.2.1,v14.2.2.2.2.2.2.1,v16.2.1,())))
           |some (.inr v18)=>
            none)) (
          match aa (v11.2.1,(3:Int),())with
          |none=>none
          |some v12=>
          match ar (v1.1,(v1.2.1.1,v1.2.1.2.1,v1.2.1.2.2.1,v1.2.1.2.2.2.1,(0:Int),()),v10.1,(IntKind.i64.wrap (v11.1*(IntKind.i64.wrap (Int.tdiv v12.1 (2:Int))))),())with
          |none=>none
          |some v13=>
          match ac ah (v12.2.1,((0:Int),[],[],[],()),((0:Int),(0:Int),(0:Int),(0:Int),(0:Int),()),((0:Int),(0:Int),((0:Int),(0:Int),(0:Int),(0:Int),(0:Int),()),[],()),v1.1,(v1.2.1.1,v1.2.1.2.1,v1.2.1.2.2.1,v1.2.1.2.2.2.1,(0:Int),()),v13.1,(0:Int),())with
          |none=>none
          |some (.inl v14)=>
           match aa (v14.1,(24:Int),())with
           |none=>none
           |some v16=>
           match(v16.1==(0:Int))with
           |true=>
            match av (v16.2.1,())with
            |none=>none
            |some v17=>
            ag (
             some (v14.2.2.2.2.1,v14.2.2.2.2.2.1,(v14.2.2.2.2.2.2.1.1,v14.2.2.2.2.2.2.1.2.1,v17.1,v14.2.2.2.2.2.2.1.2.2.2.1,()),v17.2.1,())) (
             ai (
              some (v14.2.2.2.2.1,v14.2.2.2.2.2.1,(v14.2.2.2.2.2.2.1.1,v14.2.2.2.2.2.2.1.2.1,v17.1,v14.2.2.2.2.2.2.1.2.2.2.1,()),v17.2.1,())))
           |false=>
            ag (
             some (v14.2.2.2.2.1,v14.2.2.2.2.2.1,v14.2.2.2.2.2.2.1,v16.2.1,())) (
             ai (
              some (v14.2.2.2.2.1,v14.2.2.2.2.2.1,v14.2.2.2.2.2.2.1,v16.2.1,())))
          |some (.inr v18)=>
           none)) (
         match aa (v10.2.1,(8:Int),())with
         |none=>none
         |some v11=>
         match aa (v11.2.1,(3:Int),())with
         |none=>none
         |some v12=>
         match ar (v1.1,(v1.2.1.1,v1.2.1.2.1,v1.2.1.2.2.1,v1.2.1.2.2.2.1,(0:Int),()),v10.1,(IntKind.i64.wrap (v11.1*(IntKind.i64.wrap (Int.tdiv v12.1 (2:Int))))),())with
         |none=>none
         |some v13=>
         match ac ah (v12.2.1,((0:Int),[],[],[],()),((0:Int),(0:Int),(0:Int),(0:Int),(0:Int),()),((0:Int),(0:Int),((0:Int),(0:Int),(0:Int),(0:Int),(0:Int),()),[],()),v1.1,(v1.2.1.1,v1.2.1.2.1,v1.2.1.2.2.1,v1.2.1.2.2.2.1,(0:Int),()),v13.1,(0:Int),())with
         |none=>none
         |some (.inl v14)=>
          match aa (v14.1,(24:Int),())with
          |none=>none
          |some v16=>
          match(v16.1==(0:Int))with
          |true=>
           match av (v16.2.1,())with
           |none=>none
           |some v17=>
           ag (
            some (v14.2.2.2.2.1,v14.2.2.2.2.2.1,(v14.2.2.2.2.2.2.1.1,v14.2.2.2.2.2.2.1.2.1,v17.1,v14.2.2.2.2.2.2.1.2.2.2.1,()),v17.2.1,())) (
            ai (
             some (v14.2.2.2.2.1,v14.2.2.2.2.2.1,(v14.2.2.2.2.2.2.1.1,v14.2.2.2.2.2.2.1.2.1,v17.1,v14.2.2.2.2.2.2.1.2.2.2.1,()),v17.2.1,())))
          |false=>
           ag (
            some (v14.2.2.2.2.1,v14.2.2.2.2.2.1,v14.2.2.2.2.2.2.1,v16.2.1,())) (
            ai (
             some (v14.2.2.2.2.1,v14.2.2.2.2.2.1,v14.2.2.2.2.2.2.1,v16.2.1,())))
         |some (.inr v18)=>
          none)) (
        ag (
         match aa (v10.2.1,(8:Int),())with
         |none=>none
         |some v11=>
         ag (
          ag (
           match aa (v11.2.1,(3:Int),())with
           |none=>none
           |some v12=>
           ai (
            match ar (v1.1,(v1.2.1.1,v1.2.1.2.1,v1.2.1.2.2.1,v1.2.1.2.2.2.1,(0:Int),()),v10.1,(IntKind.i64.wrap (v11.1*(IntKind.i64.wrap (Int.tdiv v12.1 (2:Int))))),())with
            |none=>none
            |some v13=>
            match ac ah (v12.2.1,((0:Int),[],[],[],()),((0:Int),(0:Int),(0:Int),(0:Int),(0:Int),()),((0:Int),(0:Int),((0:Int),(0:Int),(0:Int),(0:Int),(0:Int),()),[],()),v1.1,(v1.2.1.1,v1.2.1.2.1,v1.2.1.2.2.1,v1.2.1.2.2.2.1,(0:Int),()),v13.1,(0:Int),())with
            |none=>none
            |some (.inl v14)=>
             match aa (v14.1,(24:Int),())with
             |none=>none
             |some v16=>
             match(v16.1==(0:Int))with
             |true=>
              match av (v16.2.1,())with
              |none=>none
              |some v17=>
              ag (
               some (v14.2.2.2.2.1,v14.2.2.2.2.2.1,(v14.2.2.2.2.2.2.1.1,v14.2.2.2.2.2.2.1.2.1,v17.1,v14.2.2.2.2.2.2.1.2.2.2.1,()),v17.2.1,())) (
               ai (
                some (v14.2.2.2.2.1,v14.2.2.2.2.2.1,(v14.2.2.2.2.2.2.1.1,v14.2.2.2.2.2.2.1.2.1,v17.1,v14.2.2.2.2.2.2.1.2.2.2.1,()),v17.2.1,())))
             |false=>
              ag (
               some (v14.2.2.2.2.1,v14.2.2.2.2.2.1,v14.2.2.2.2.2.2.1,v16.2.1,())) (
               ai (
                some (v14.2.2.2.2.1,v14.2.2.2.2.2.1,v14.2.2.2.2.2.2.1,v16.2.1,())))
            |some (.inr v18)=>
             none)) (
           match aa (v11.2.1,(3:Int),())with
           |none=>none
           |some v12=>
           match ar (v1.1,(v1.2.1.1,v1.2.1.2.1,v1.2.1.2.2.1,v1.2.1.2.2.2.1,(0:Int),()),v10.1,(IntKind.i64.wrap (v11.1*(IntKind.i64.wrap (Int.tdiv v12.1 (2:Int))))),())with
           |none=>none
           |some v13=>
           match ac ah (v12.2.1,((0:Int),[],[],[],()),((0:Int),(0:Int),(0:Int),(0:Int),(0:Int),()),((0:Int),(0:Int),((0:Int),(0:Int),(0:Int),(0:Int),(0:Int),()),[],()),v1.1,(v1.2.1.1,v1.2.1.2.1,v1.2.1.2.2.1,v1.2.1.2.2.2.1,(0:Int),()),v13.1,(0:Int),())with
           |none=>none
           |some (.inl v14)=>
            match aa (v14.1,(24:Int),())with
            |none=>none
            |some v16=>
            match(v16.1==(0:Int))with
            |true=>
             match av (v16.2.1,())with
             |none=>none
             |some v17=>
             ag (
              some (v14.2.2.2.2.1,v14.2.2.2.2.2.1,(v14.2.2.2.2.2.2.1.1,v14.2.2.2.2.2.2.1.2.1,v17.1,v14.2.2.2.2.2.2.1.2.2.2.1,()),v17.2.1,())) (
              ai (
               some (v14.2.2.2.2.1,v14.2.2.2.2.2.1,(v14.2.2.2.2.2.2.1.1,v14.2.2.2.2.2.2.1.2.1,v17.1,v14.2.2.2.2.2.2.1.2.2.2.1,()),v17.2.1,())))
            |false=>
             ag (
              some (v14.2.2.2.2.1,v14.2.2.2.2.2.1,v14.2.2.2.2.2.2.1,v16.2.1,())) (
              ai (
               some (v14.2.2.2.2.1,v14.2.2.2.2.2.1,v14.2.2.2.2.2.2.1,v16.2.1,())))
           |some (.inr v18)=>
            none)) (
          ag (
           match aa (v11.2.1,(3:Int),())with
           |none=>none
           |some v12=>
           ag (
            ai (
             match ar (v1.1,(v1.2.1.1,v1.2.1.2.1,v1.2.1.2.2.1,v1.2.1.2.2.2.1,(0:Int),()),v10.1,(IntKind.i64.wrap (v11.1*(IntKind.i64.wrap (Int.tdiv v12.1 (2:Int))))),())with
             |none=>none
             |some v13=>
             match ac ah (v12.2.1,((0:Int),[],[],[],()),((0:Int),(0:Int),(0:Int),(0:Int),(0:Int),()),((0:Int),(0:Int),((0:Int),(0:Int),(0:Int),(0:Int),(0:Int),()),[],()),v1.1,(v1.2.1.1,v1.2.1.2.1,v1.2.1.2.2.1,v1.2.1.2.2.2.1,(0:Int),()),v13.1,(0:Int),())with
             |none=>none
             |some (.inl v14)=>
              match aa (v14.1,(24:Int),())with
              |none=>none
              |some v16=>
              match(v16.1==(0:Int))with
              |true=>
               match av (v16.2.1,())with
               |none=>none
               |some v17=>
               ag (
                some (v14.2.2.2.2.1,v14.2.2.2.2.2.1,(v14.2.2.2.2.2.2.1.1,v14.2.2.2.2.2.2.1.2.1,v17.1,v14.2.2.2.2.2.2.1.2.2.2.1,()),v17.2.1,())) (
                ai (
                 some (v14.2.2.2.2.1,v14.2.2.2.2.2.1,(v14.2.2.2.2.2.2.1.1,v14.2.2.2.2.2.2.1.2.1,v17.1,v14.2.2.2.2.2.2.1.2.2.2.1,()),v17.2.1,())))
              |false=>
               ag (
                some (v14.2.2.2.2.1,v14.2.2.2.2.2.1,v14.2.2.2.2.2.2.1,v16.2.1,())) (
                ai (
                 some (v14.2.2.2.2.1,v14.2.2.2.2.2.1,v14.2.2.2.2.2.2.1,v16.2.1,())))
             |some (.inr v18)=>
              none)) (
            match ar (v1.1,(v1.2.1.1,v1.2.1.2.1,v1.2.1.2.2.1,v1.2.1.2.2.2.1,(0:Int),()),v10.1,(IntKind.i64.wrap (v11.1*(IntKind.i64.wrap (Int.tdiv v12.1 (2:Int))))),())with
            |none=>none
            |some v13=>
            match ac ah (v12.2.1,((0:Int),[],[],[],()),((0:Int),(0:Int),(0:Int),(0:Int),(0:Int),()),((0:Int),(0:Int),((0:Int),(0:Int),(0:Int),(0:Int),(0:Int),()),[],()),v1.1,(v1.2.1.1,v1.2.1.2.1,v1.2.1.2.2.1,v1.2.1.2.2.2.1,(0:Int),()),v13.1,(0:Int),())with
            |none=>none
            |some (.inl v14)=>
             match aa (v14.1,(24:Int),())with
             |none=>none
             |some v16=>
             match(v16.1==(0:Int))with
             |true=>
              match av (v16.2.1,())with
              |none=>none
              |some v17=>
              ag (
               some (v14.2.2.2.2.1,v14.2.2.2.2.2.1,(v14.2.2.2.2.2.2.1.1,v14.2.2.2.2.2.2.1.2.1,v17.1,v14.2.2.2.2.2.2.1.2.2.2.1,()),v17.2.1,())) (
               ai (
                some (v14.2.2.2.2.1,v14.2.2.2.2.2.1,(v14.2.2.2.2.2.2.1.1,v14.2.2.2.2.2.2.1.2.1,v17.1,v14.2.2.2.2.2.2.1.2.2.2.1,()),v17.2.1,())))
             |false=>
              ag (
               some (v14.2.2.2.2.1,v14.2.2.2.2.2.1,v14.2.2.2.2.2.2.1,v16.2.1,())) (
               ai (
                some (v14.2.2.2.2.1,v14.2.2.2.2.2.1,v14.2.2.2.2.2.2.1,v16.2.1,())))
            |some (.inr v18)=>
             none)) (
           ai (
            match aa (v11.2.1,(3:Int),())with
            |none=>none
            |some v12=>
            match ar (v1.1,(v1.2.1.1,v1.2.1.2.1,v1.2.1.2.2.1,v1.2.1.2.2.2.1,(0:Int),()),v10.1,(IntKind.i64.wrap (v11.1*(IntKind.i64.wrap (Int.tdiv v12.1 (2:Int))))),())with
            |none=>none
            |some v13=>
            match ac ah (v12.2.1,((0:Int),[],[],[],()),((0:Int),(0:Int),(0:Int),(0:Int),(0:Int),()),((0:Int),(0:Int),((0:Int),(0:Int),(0:Int),(0:Int),(0:Int),()),[],()),v1.1,(v1.2.1.1,v1.2.1.2.1,v1.2.1.2.2.1,v1.2.1.2.2.2.1,(0:Int),()),v13.1,(0:Int),())with
            |none=>none
            |some (.inl v14)=>
             match aa (v14.1,(24:Int),())with
             |none=>none
             |some v16=>
             match(v16.1==(0:Int))with
             |true=>
              match av (v16.2.1,())with
              |none=>none
              |some v17=>
              ag (
               some (v14.2.2.2.2.1,v14.2.2.2.2.2.1,(v14.2.2.2.2.2.2.1.1,v14.2.2.2.2.2.2.1.2.1,v17.1,v14.2.2.2.2.2.2.1.2.2.2.1,()),v17.2.1,())) (
               ai (
                some (v14.2.2.2.2.1,v14.2.2.2.2.2.1,(v14.2.2.2.2.2.2.1.1,v14.2.2.2.2.2.2.1.2.1,v17.1,v14.2.2.2.2.2.2.1.2.2.2.1,()),v17.2.1,())))
             |false=>
              ag (
               some (v14.2.2.2.2.1,v14.2.2.2.2.2.1,v14.2.2.2.2.2.2.1,v16.2.1,())) (
               ai (
                some (v14.2.2.2.2.1,v14.2.2.2.2.2.1,v14.2.2.2.2.2.2.1,v16.2.1,())))
            |some (.inr v18)=>
             none)))) (
         ag (
          match aa (v10.2.1,(8:Int),())with
          |none=>none
          |some v11=>
          match aa (v11.2.1,(3:Int),())with
          |none=>none
          |some v12=>
          match ar (v1.1,(v1.2.1.1,v1.2.1.2.1,v1.2.1.2.2.1,v1.2.1.2.2.2.1,(0:Int),()),v10.1,(IntKind.i64.wrap (v11.1*(IntKind.i64.wrap (Int.tdiv v12.1 (2:Int))))),())with
          |none=>none
          |some v13=>
          match ac ah (v12.2.1,((0:Int),[],[],[],()),((0:Int),(0:Int),(0:Int),(0:Int),(0:Int),()),((0:Int),(0:Int),((0:Int),(0:Int),(0:Int),(0:Int),(0:Int),()),[],()),v1.1,(v1.2.1.1,v1.2.1.2.1,v1.2.1.2.2.1,v1.2.1.2.2.2.1,(0:Int),()),v13.1,(0:Int),())with
          |none=>none
          |some (.inl v14)=>
           match aa (v14.1,(24:Int),())with
           |none=>none
           |some v16=>
           match(v16.1==(0:Int))with
           |true=>
            match av (v16.2.1,())with
            |none=>none
            |some v17=>
            ag (
             some (v14.2.2.2.2.1,v14.2.2.2.2.2.1,(v14.2.2.2.2.2.2.1.1,v14.2.2.2.2.2.2.1.2.1,v17.1,v14.2.2.2.2.2.2.1.2.2.2.1,()),v17.2.1,())) (
             ai (
              some (v14.2.2.2.2.1,v14.2.2.2.2.2.1,(v14.2.2.2.2.2.2.1.1,v14.2.2.2.2.2.2.1.2.1,v17.1,v14.2.2.2.2.2.2.1.2.2.2.1,()),v17.2.1,())))
           |false=>
            ag (
             some (v14.2.2.2.2.1,v14.2.2.2.2.2.1,v14.2.2.2.2.2.2.1,v16.2.1,())) (
             ai (
              some (v14.2.2.2.2.1,v14.2.2.2.2.2.1,v14.2.2.2.2.2.2.1,v16.2.1,())))
          |some (.inr v18)=>
           none) (
          match aa (v10.2.1,(8:Int),())with
          |none=>none
          |some v11=>
          ai (
           match aa (v11.2.1,(3:Int),())with
           |none=>none
           |some v12=>
           match ar (v1.1,(v1.2.1.1,v1.2.1.2.1,v1.2.1.2.2.1,v1.2.1.2.2.2.1,(0:Int),()),v10.1,(IntKind.i64.wrap (v11.1*(IntKind.i64.wrap (Int.tdiv v12.1 (2:Int))))),())with
           |none=>none
           |some v13=>
           match ac ah (v12.2.1,((0:Int),[],[],[],()),((0:Int),(0:Int),(0:Int),(0:Int),(0:Int),()),((0:Int),(0:Int),((0:Int),(0:Int),(0:Int),(0:Int),(0:Int),()),[],()),v1.1,(v1.2.1.1,v1.2.1.2.1,v1.2.1.2.2.1,v1.2.1.2.2.2.1,(0:Int),()),v13.1,(0:Int),())with
           |none=>none
           |some (.inl v14)=>
            match aa (v14.1,(24:Int),())with
            |none=>none
            |some v16=>
            match(v16.1==(0:Int))with
            |true=>
             match av (v16.2.1,())with
             |none=>none
             |some v17=>
             ag (
              some (v14.2.2.2.2.1,v14.2.2.2.2.2.1,(v14.2.2.2.2.2.2.1.1,v14.2.2.2.2.2.2.1.2.1,v17.1,v14.2.2.2.2.2.2.1.2.2.2.1,()),v17.2.1,())) (
              ai (
               some (v14.2.2.2.2.1,v14.2.2.2.2.2.1,(v14.2.2.2.2.2.2.1.1,v14.2.2.2.2.2.2.1.2.1,v17.1,v14.2.2.2.2.2.2.1.2.2.2.1,()),v17.2.1,())))
            |false=>
             ag (
              some (v14.2.2.2.2.1,v14.2.2.2.2.2.1,v14.2.2.2.2.2.2.1,v16.2.1,())) (
              ai (
               some (v14.2.2.2.2.1,v14.2.2.2.2.2.1,v14.2.2.2.2.2.2.1,v16.2.1,())))
           |some (.inr v18)=>
            none))))) (
       ag (
        match aa (v7.2.1,(256:Int),())with
        |none=>none
        |some v10=>
        match aa (v10.2.1,(8:Int),())with
        |none=>none
        |some v11=>
        match aa (v11.2.1,(3:Int),())with
        |none=>none
        |some v12=>
        match ar (v1.1,(v1.2.1.1,v1.2.1.2.1,v1.2.1.2.2.1,v1.2.1.2.2.2.1,(0:Int),()),v10.1,(IntKind.i64.wrap (v11.1*(IntKind.i64.wrap (Int.tdiv v12.1 (2:Int))))),())with
        |none=>none
        |some v13=>
        match ac ah (v12.2.1,((0:Int),[],[],[],()),((0:Int),(0:Int),(0:Int),(0:Int),(0:Int),()),((0:Int),(0:Int),((0:Int),(0:Int),(0:Int),(0:Int),(0:Int),()),[],()),v1.1,(v1.2.1.1,v1.2.1.2.1,v1.2.1.2.2.1,v1.2.1.2.2.2.1,(0:Int),()),v13.1,(0:Int),())with
        |none=>none
        |some (.inl v14)=>
         match aa (v14.1,(24:Int),())with
         |none=>none
         |some v16=>
         match(v16.1==(0:Int))with
         |true=>
          match av (v16.2.1,())with
          |none=>none
          |some v17=>
          ag (
           some (v14.2.2.2.2.1,v14.2.2.2.2.2.1,(v14.2.2.2.2.2.2.1.1,v14.2.2.2.2.2.2.1.2.1,v17.1,v14.2.2.2.2.2.2.1.2.2.2.1,()),v17.2.1,())) (
           ai (
            some (v14.2.2.2.2.1,v14.2.2.2.2.2.1,(v14.2.2.2.2.2.2.1.1,v14.2.2.2.2.2.2.1.2.1,v17.1,v14.2.2.2.2.2.2.1.2.2.2.1,()),v17.2.1,())))
         |false=>
          ag (
           some (v14.2.2.2.2.1,v14.2.2.2.2.2.1,v14.2.2.2.2.2.2.1,v16.2.1,())) (
           ai (
            some (v14.2.2.2.2.1,v14.2.2.2.2.2.1,v14.2.2.2.2.2.2.1,v16.2.1,())))
        |some (.inr v18)=>
         none) (
        match aa (v7.2.1,(256:Int),())with
        |none=>none
        |some v10=>
        ag (
         match aa (v10.2.1,(8:Int),())with
         |none=>none
         |some v11=>
         match aa (v11.2.1,(3:Int),())with
         |none=>none
         |some v12=>
         match ar (v1.1,(v1.2.1.1,v1.2.1.2.1,v1.2.1.2.2.1,v1.2.1.2.2.2.1,(0:Int),()),v10.1,(IntKind.i64.wrap (v11.1*(IntKind.i64.wrap (Int.tdiv v12.1 (2:Int))))),())with
         |none=>none
         |some v13=>
         match ac ah (v12.2.1,((0:Int),[],[],[],()),((0:Int),(0:Int),(0:Int),(0:Int),(0:Int),()),((0:Int),(0:Int),((0:Int),(0:Int),(0:Int),(0:Int),(0:Int),()),[],()),v1.1,(v1.2.1.1,v1.2.1.2.1,v1.2.1.2.2.1,v1.2.1.2.2.2.1,(0:Int),()),v13.1,(0:Int),())with
         |none=>none
         |some (.inl v14)=>
          match aa (v14.1,(24:Int),())with
          |none=>none
          |some v16=>
          match(v16.1==(0:Int))with
          |true=>
           match av (v16.2.1,())with
           |none=>none
           |some v17=>
           ag (
            some (v14.2.2.2.2.1,v14.2.2.2.2.2.1,(v14.2.2.2.2.2.2.1.1,v14.2.2.2.2.2.2.1.2.1,v17.1,v14.2.2.2.2.2.2.1.2.2.2.1,()),v17.2.1,())) (
            ai (
             some (v14.2.2.2.2.1,v14.2.2.2.2.2.1,(v14.2.2.2.2.2.2.1.1,v14.2.2.2.2.2.2.1.2.1,v17.1,v14.2.2.2.2.2.2.1.2.2.2.1,()),v17.2.1,())))
          |false=>
           ag (
            some (v14.2.2.2.2.1,v14.2.2.2.2.2.1,v14.2.2.2.2.2.2.1,v16.2.1,())) (
            ai (
             some (v14.2.2.2.2.1,v14.2.2.2.2.2.1,v14.2.2.2.2.2.2.1,v16.2.1,())))
         |some (.inr v18)=>
          none) (
         match aa (v10.2.1,(8:Int),())with
         |none=>none
         |some v11=>
         ai (
          match aa (v11.2.1,(3:Int),())with
          |none=>none
          |some v12=>
          match ar (v1.1,(v1.2.1.1,v1.2.1.2.1,v1.2.1.2.2.1,v1.2.1.2.2.2.1,(0:Int),()),v10.1,(IntKind.i64.wrap (v11.1*(IntKind.i64.wrap (Int.tdiv v12.1 (2:Int))))),())with
          |none=>none
          |some v13=>
          match ac ah (v12.2.1,((0:Int),[],[],[],()),((0:Int),(0:Int),(0:Int),(0:Int),(0:Int),()),((0:Int),(0:Int),((0:Int),(0:Int),(0:Int),(0:Int),(0:Int),()),[],()),v1.1,(v1.2.1.1,v1.2.1.2.1,v1.2.1.2.2.1,v1.2.1.2.2.2.1,(0:Int),()),v13.1,(0:Int),())with
          |none=>none
          |some (.inl v14)=>
           match aa (v14.1,(24:Int),())with
           |none=>none
           |some v16=>
           match(v16.1==(0:Int))with
           |true=>
            match av (v16.2.1,())with
            |none=>none
            |some v17=>
            ag (
             some (v14.2.2.2.2.1,v14.2.2.2.2.2.1,(v14.2.2.2.2.2.2.1.1,v14.2.2.2.2.2.2.1.2.1,v17.1,v14.2.2.2.2.2.2.1.2.2.2.1,()),v17.2.1,())) (
             ai (
              some (v14.2.2.2.2.1,v14.2.2.2.2.2.1,(v14.2.2.2.2.2.2.1.1,v14.2.2.2.2.2.2.1.2.1,v17.1,v14.2.2.2.2.2.2.1.2.2.2.1,()),v17.2.1,())))
           |false=>
            ag (
             some (v14.2.2.2.2.1,v14.2.2.2.2.2.1,v14.2.2.2.2.2.2.1,v16.2.1,())) (
             ai (
              some (v14.2.2.2.2.1,v14.2.2.2.2.2.1,v14.2.2.2.2.2.2.1,v16.2.1,())))
          |some (.inr v18)=>
           none)))))
    |false=>
     ag (
      ag (
       match aa (v7.2.1,(256:Int),())with
       |none=>none
       |some v22=>
       ag (
        match aa (v22.2.1,(8:Int),())with
        |none=>none
        |some v23=>
        ag (
         match aa (v23.2.1,(3:Int),())with
         |none=>none
         |some v24=>
         ai (
          match ar (v1.1,(v1.2.1.1,v1.2.1.2.1,v1.2.1.2.2.1,v1.2.1.2.2.2.1,(IntKind.i64.wrap ((1:Int)*2^min (IntKind.u64.wrap v8.1).toNat IntKind.i64.bits)),()),v22.1,(IntKind.i64.wrap (v23.1*(IntKind.i64.wrap (Int.tdiv v24.1 (2:Int))))),())with
          |none=>none
          |some v25=>
          match ac ah (v24.2.1,((0:Int),[],[],[],()),((0:Int),(0:Int),(0:Int),(0:Int),(0:Int),()),((0:Int),(0:Int),((0:Int),(0:Int),(0:Int),(0:Int),(0:Int),()),[],()),v1.1,(v1.2.1.1,v1.2.1.2.1,v1.2.1.2.2.1,v1.2.1.2.2.2.1,(IntKind.i64.wrap ((1:Int)*2^min (IntKind.u64.wrap v8.1).toNat IntKind.i64.bits)),()),v25.1,(0:Int),())with
          |none=>none
          |some (.inl v26)=>
           match aa (v26.1,(24:Int),())with
           |none=>none
           |some v28=>
           match(v28.1==(0:Int))with
           |true=>
            match av (v28.2.1,())with
            |none=>none
            |some v29=>
            ag (
             some (v26.2.2.2.2.1,v26.2.2.2.2.2.1,(v26.2.2.2.2.2.2.1.1,v26.2.2.2.2.2.2.1.2.1,v29.1,v26.2.2.2.2.2.2.1.2.2.2.1,()),v29.2.1,())) (
             ai (
              some (v26.2.2.2.2.1,v26.2.2.2.2.2.1,(v26.2.2.2.2.2.2.1.1,v26.2.2.2.2.2.2.1.2.1,v29.1,v26.2.2.2.2.2.2.1.2.2.2.1,()),v29.2.1,())))
           |false=>
            ag (
             some (v26.2.2.2.2.1,v26.2.2.2.2.2.1,v26.2.2.2.2.2.2.1,v28.2.1,())) (
             ai (
              some (v26.2.2.2.2.1,v26.2.2.2.2.2.1,v26.2.2.2.2.2.2.1,v28.2.1,())))
          |some (.inr v30)=>
           none)) (
         match aa (v23.2.1,(3:Int),())with
         |none=>none
         |some v24=>
         match ar (v1.1,(v1.2.1.1,v1.2.1.2.1,v1.2.1.2.2.1,v1.2.1.2.2.2.1,(IntKind.i64.wrap ((1:Int)*2^min (IntKind.u64.wrap v8.1).toNat IntKind.i64.bits)),()),v22.1,(IntKind.i64.wrap (v23.1*(IntKind.i64.wrap (Int.tdiv v24.1 (2:Int))))),())with
         |none=>none
         |some v25=>
         match ac ah (v24.2.1,((0:Int),[],[],[],()),((0:Int),(0:Int),(0:Int),(0:Int),(0:Int),()),((0:Int),(0:Int),((0:Int),(0:Int),(0:Int),(0:Int),(0:Int),()),[],()),v1.1,(v1.2.1.1,v1.2.1.2.1,v1.2.1.2.2.1,v1.2.1.2.2.2.1,(IntKind.i64.wrap ((1:Int)*2^min (IntKind.u64.wrap v8.1).toNat IntKind.i64.bits)),()),v25.1,(0:Int),())with
         |none=>none
         |some (.inl v26)=>
          match aa (v26.1,(24:Int),())with
          |none=>none
          |some v28=>
          match(v28.1==(0:Int))with
          |true=>
           match av (v28.2.1,())with
           |none=>none
           |some v29=>
           ag (
            some (v26.2.2.2.2.1,v26.2.2.2.2.2.1,(v26.2.2.2.2.2.2.1.1,v26.2.2.2.2.2.2.1.2.1,v29.1,v26.2.2.2.2.2.2.1.2.2.2.1,()),v29.2.1,())) (
            ai (
             some (v26.2.2.2.2.1,v26.2.2.2.2.2.1,(v26.2.2.2.2.2.2.1.1,v26.2.2.2.2.2.2.1.2.1,v29.1,v26.2.2.2.2.2.2.1.2.2.2.1,()),v29.2.1,())))
          |false=>
           ag (
            some (v26.2.2.2.2.1,v26.2.2.2.2.2.1,v26.2.2.2.2.2.2.1,v28.2.1,())) (
            ai (
             some (v26.2.2.2.2.1,v26.2.2.2.2.2.1,v26.2.2.2.2.2.2.1,v28.2.1,())))
         |some (.inr v30)=>
          none)) (
        match aa (v22.2.1,(8:Int),())with
        |none=>none
        |some v23=>
        match aa (v23.2.1,(3:Int),())with
        |none=>none
        |some v24=>
        match ar (v1.1,(v1.2.1.1,v1.2.1.2.1,v1.2.1.2.2.1,v1.2.1.2.2.2.1,(IntKind.i64.wrap ((1:Int)*2^min (IntKind.u64.wrap v8.1).toNat IntKind.i64.bits)),()),v22.1,(IntKind.i64.wrap (v23.1*(IntKind.i64.wrap (Int.tdiv v24.1 (2:Int))))),())with
        |none=>none
        |some v25=>
        match ac ah (v24.2.1,((0:Int),[],[],[],()),((0:Int),(0:Int),(0:Int),(0:Int),(0:Int),()),((0:Int),(0:Int),((0:Int),(0:Int),(0:Int),(0:Int),(0:Int),()),[],()),v1.1,(v1.2.1.1,v1.2.1.2.1,v1.2.1.2.2.1,v1.2.1.2.2.2.1,(IntKind.i64.wrap ((1:Int)*2^min (IntKind.u64.wrap v8.1).toNat IntKind.i64.bits)),()),v25.1,(0:Int),())with
        |none=>none
        |some (.inl v26)=>
         match aa (v26.1,(24:Int),())with
         |none=>none
         |some v28=>
         match(v28.1==(0:Int))with
         |true=>
          match av (v28.2.1,())with
          |none=>none
          |some v29=>
          ag (
           some (v26.2.2.2.2.1,v26.2.2.2.2.2.1,(v26.2.2.2.2.2.2.1.1,v26.2.2.2.2.2.2.1.2.1,v29.1,v26.2.2.2.2.2.2.1.2.2.2.1,()),v29.2.1,())) (
           ai (
            some (v26.2.2.2.2.1,v26.2.2.2.2.2.1,(v26.2.2.2.2.2.2.1.1,v26.2.2.2.2.2.2.1.2.1,v29.1,v26.2.2.2.2.2.2.1.2.2.2.1,()),v29.2.1,())))
         |false=>
          ag (
           some (v26.2.2.2.2.1,v26.2.2.2.2.2.1,v26.2.2.2.2.2.2.1,v28.2.1,())) (
           ai (
            some (v26.2.2.2.2.1,v26.2.2.2.2.2.1,v26.2.2.2.2.2.2.1,v28.2.1,())))
        |some (.inr v30)=>
         none)) (
       match aa (v7.2.1,(256:Int),())with
       |none=>none
       |some v22=>
       match aa (v22.2.1,(8:Int),())with
       |none=>none
       |some v23=>
       match aa (v23.2.1,(3:Int),())with
       |none=>none
       |some v24=>
       match ar (v1.1,(v1.2.1.1,v1.2.1.2.1,v1.2.1.2.2.1,v1.2.1.2.2.2.1,(IntKind.i64.wrap ((1:Int)*2^min (IntKind.u64.wrap v8.1).toNat IntKind.i64.bits)),()),v22.1,(IntKind.i64.wrap (v23.1*(IntKind.i64.wrap (Int.tdiv v24.1 (2:Int))))),())with
       |none=>none
       |some v25=>
       match ac ah (v24.2.1,((0:Int),[],[],[],()),((0:Int),(0:Int),(0:Int),(0:Int),(0:Int),()),((0:Int),(0:Int),((0:Int),(0:Int),(0:Int),(0:Int),(0:Int),()),[],()),v1.1,(v1.2.1.1,v1.2.1.2.1,v1.2.1.2.2.1,v1.2.1.2.2.2.1,(IntKind.i64.wrap ((1:Int)*2^min (IntKind.u64.wrap v8.1).toNat IntKind.i64.bits)),()),v25.1,(0:Int),())with
       |none=>none
       |some (.inl v26)=>
        match aa (v26.1,(24:Int),())with
        |none=>none
        |some v28=>
        match(v28.1==(0:Int))with
        |true=>
         match av (v28.2.1,())with
         |none=>none
         |some v29=>
         ag (
          some (v26.2.2.2.2.1,v26.2.2.2.2.2.1,(v26.2.2.2.2.2.2.1.1,v26.2.2.2.2.2.2.1.2.1,v29.1,v26.2.2.2.2.2.2.1.2.2.2.1,()),v29.2.1,())) (
          ai (
           some (v26.2.2.2.2.1,v26.2.2.2.2.2.1,(v26.2.2.2.2.2.2.1.1,v26.2.2.2.2.2.2.1.2.1,v29.1,v26.2.2.2.2.2.2.1.2.2.2.1,()),v29.2.1,())))
        |false=>
         ag (
          some (v26.2.2.2.2.1,v26.2.2.2.2.2.1,v26.2.2.2.2.2.2.1,v28.2.1,())) (
          ai (
           some (v26.2.2.2.2.1,v26.2.2.2.2.2.1,v26.2.2.2.2.2.2.1,v28.2.1,())))
       |some (.inr v30)=>
        none)) (
      ag (
       match aa (v7.2.1,(256:Int),())with
       |none=>none
       |some v22=>
       ag (
        ag (
         match aa (v22.2.1,(8:Int),())with
         |none=>none
         |some v23=>
         ag (
          match aa (v23.2.1,(3:Int),())with
          |none=>none
          |some v24=>
          ai (
           match ar (v1.1,(v1.2.1.1,v1.2.1.2.1,v1.2.1.2.2.1,v1.2.1.2.2.2.1,(IntKind.i64.wrap ((1:Int)*2^min (IntKind.u64.wrap v8.1).toNat IntKind.i64.bits)),()),v22.1,(IntKind.i64.wrap (v23.1*(IntKind.i64.wrap (Int.tdiv v24.1 (2:Int))))),())with
           |none=>none
           |some v25=>
           match ac ah (v24.2.1,((0:Int),[],[],[],()),((0:Int),(0:Int),(0:Int),(0:Int),(0:Int),()),((0:Int),(0:Int),((0:Int),(0:Int),(0:Int),(0:Int),(0:Int),()),[],()),v1.1,(v1.2.1.1,v1.2.1.2.1,v1.2.1.2.2.1,v1.2.1.2.2.2.1,(IntKind.i64.wrap ((1:Int)*2^min (IntKind.u64.wrap v8.1).toNat IntKind.i64.bits)),()),v25.1,(0:Int),())with
           |none=>none
           |some (.inl v26)=>
            match aa (v26.1,(24:Int),())with
            |none=>none
            |some v28=>
            match(v28.1==(0:Int))with
            |true=>
             match av (v28.2.1,())with
             |none=>none
             |some v29=>
             ag (
              some (v26.2.2.2.2.1,v26.2.2.2.2.2.1,(v26.2.2.2.2.2.2.1.1,v26.2.2.2.2.2.2.1.2.1,v29.1,v26.2.2.2.2.2.2.1.2.2.2.1,()),v29.2.1,())) (
              ai (
               some (v26.2.2.2.2.1,v26.2.2.2.2.2.1,(v26.2.2.2.2.2.2.1.1,v26.2.2.2.2.2.2.1.2.1,v29.1,v26.2.2.2.2.2.2.1.2.2.2.1,()),v29.2.1,())))
            |false=>
             ag (
              some (v26.2.2.2.2.1,v26.2.2.2.2.2.1,v26.2.2.2.2.2.2.1,v28.2.1,())) (
              ai (
               some (v26.2.2.2.2.1,v26.2.2.2.2.2.1,v26.2.2.2.2.2.2.1,v28.2.1,())))
           |some (.inr v30)=>
            none)) (
          match aa (v23.2.1,(3:Int),())with
          |none=>none
          |some v24=>
          match ar (v1.1,(v1.2.1.1,v1.2.1.2.1,v1.2.1.2.2.1,v1.2.1.2.2.2.1,(IntKind.i64.wrap ((1:Int)*2^min (IntKind.u64.wrap v8.1).toNat IntKind.i64.bits)),()),v22.1,(IntKind.i64.wrap (v23.1*(IntKind.i64.wrap (Int.tdiv v24.1 (2:Int))))),())with
          |none=>none
          |some v25=>
          match ac ah (v24.2.1,((0:Int),[],[],[],()),((0:Int),(0:Int),(0:Int),(0:Int),(0:Int),()),((0:Int),(0:Int),((0:Int),(0:Int),(0:Int),(0:Int),(0:Int),()),[],()),v1.1,(v1.2.1.1,v1.2.1.2.1,v1.2.1.2.2.1,v1.2.1.2.2.2.1,(IntKind.i64.wrap ((1:Int)*2^min (IntKind.u64.wrap v8.1).toNat IntKind.i64.bits)),()),v25.1,(0:Int),())with
          |none=>none
          |some (.inl v26)=>
           match aa (v26.1,(24:Int),())with
           |none=>none
           |some v28=>
           match(v28.1==(0:Int))with
           |true=>
            match av (v28.2.1,())with
            |none=>none
            |some v29=>
            ag (
             some (v26.2.2.2.2.1,v26.2.2.2.2.2.1,(v26.2.2.2.2.2.2.1.1,v26.2.2.2.2.2.2.1.2.1,v29.1,v26.2.2.2.2.2.2.1.2.2.2.1,()),v29.2.1,())) (
             ai (
              some (v26.2.2.2.2.1,v26.2.2.2.2.2.1,(v26.2.2.2.2.2.2.1.1,v26.2.2.2.2.2.2.1.2.1,v29.1,v26.2.2.2.2.2.2.1.2.2.2.1,()),v29.2.1,())))
           |false=>
            ag (
             some (v26.2.2.2.2.1,v26.2.2.2.2.2.1,v26.2.2.2.2.2.2.1,v28.2.1,())) (
             ai (
              some (v26.2.2.2.2.1,v26.2.2.2.2.2.1,v26.2.2.2.2.2.2.1,v28.2.1,())))
          |some (.inr v30)=>
           none)) (
         match aa (v22.2.1,(8:Int),())with
         |none=>none
         |some v23=>
         match aa (v23.2.1,(3:Int),())with
         |none=>none
         |some v24=>
         match ar (v1.1,(v1.2.1.1,v1.2.1.2.1,v1.2.1.2.2.1,v1.2.1.2.2.2.1,(IntKind.i64.wrap ((1:Int)*2^min (IntKind.u64.wrap v8.1).toNat IntKind.i64.bits)),()),v22.1,(IntKind.i64.wrap (v23.1*(IntKind.i64.wrap (Int.tdiv v24.1 (2:Int))))),())with
         |none=>none
         |some v25=>
         match ac ah (v24.2.1,((0:Int),[],[],[],()),((0:Int),(0:Int),(0:Int),(0:Int),(0:Int),()),((0:Int),(0:Int),((0:Int),(0:Int),(0:Int),(0:Int),(0:Int),()),[],()),v1.1,(v1.2.1.1,v1.2.1.2.1,v1.2.1.2.2.1,v1.2.1.2.2.2.1,(IntKind.i64.wrap ((1:Int)*2^min (IntKind.u64.wrap v8.1).toNat IntKind.i64.bits)),()),v25.1,(0:Int),())with
         |none=>none
         |some (.inl v26)=>
          match aa (v26.1,(24:Int),())with
          |none=>none
          |some v28=>
          match(v28.1==(0:Int))with
          |true=>
           match av (v28.2.1,())with
           |none=>none
           |some v29=>
           ag (
            some (v26.2.2.2.2.1,v26.2.2.2.2.2.1,(v26.2.2.2.2.2.2.1.1,v26.2.2.2.2.2.2.1.2.1,v29.1,v26.2.2.2.2.2.2.1.2.2.2.1,()),v29.2.1,())) (
            ai (
             some (v26.2.2.2.2.1,v26.2.2.2.2.2.1,(v26.2.2.2.2.2.2.1.1,v26.2.2.2.2.2.2.1.2.1,v29.1,v26.2.2.2.2.2.2.1.2.2.2.1,()),v29.2.1,())))
          |false=>
           ag (
            some (v26.2.2.2.2.1,v26.2.2.2.2.2.1,v26.2.2.2.2.2.2.1,v28.2.1,())) (
            ai (
             some (v26.2.2.2.2.1,v26.2.2.2.2.2.1,v26.2.2.2.2.2.2.1,v28.2.1,())))
         |some (.inr v30)=>
          none)) (
        ag (
         match aa (v22.2.1,(8:Int),())with
         |none=>none
         |some v23=>
         ag (
          ag (
           match aa (v23.2.1,(3:Int),())with
           |none=>none
           |some v24=>
           ai (
            match ar (v1.1,(v1.2.1.1,v1.2.1.2.1,v1.2.1.2.2.1,v1.2.1.2.2.2.1,(IntKind.i64.wrap ((1:Int)*2^min (IntKind.u64.wrap v8.1).toNat IntKind.i64.bits)),()),v22.1,(IntKind.i64.wrap (v23.1*(IntKind.i64.wrap (Int.tdiv v24.1 (2:Int))))),())with
            |none=>none
            |some v25=>
            match ac ah (v24.2.1,((0:Int),[],[],[],()),((0:Int),(0:Int),(0:Int),(0:Int),(0:Int),()),((0:Int),(0:Int),((0:Int),(0:Int),(0:Int),(0:Int),(0:Int),()),[],()),v1.1,(v1.2.1.1,v1.2.1.2.1,v1.2.1.2.2.1,v1.2.1.2.2.2.1,(IntKind.i64.wrap ((1:Int)*2^min (IntKind.u64.wrap v8.1).toNat IntKind.i64.bits)),()),v25.1,(0:Int),())with
            |none=>none
            |some (.inl v26)=>
             match aa (v26.1,(24:Int),())with
             |none=>none
             |some v28=>
             match(v28.1==(0:Int))with
             |true=>
              match av (v28.2.1,())with
              |none=>none
              |some v29=>
              ag (
               some (v26.2.2.2.2.1,v26.2.2.2.2.2.1,(v26.2.2.2.2.2.2.1.1,v26.2.2.2.2.2.2.1.2.1,v29.1,v26.2.2.2.2.2.2.1.2.2.2.1,()),v29.2.1,())) (
               ai (
                some (v26.2.2.2.2.1,v26.2.2.2.2.2.1,(v26.2.2.2.2.2.2.1.1,v26.2.2.2.2.2.2.1.2.1,v29.1,v26.2.2.2.2.2.2.1.2.2.2.1,()),v29.2.1,())))
             |false=>
              ag (
               some (v26.2.2.2.2.1,v26.2.2.2.2.2.1,v26.2.2.2.2.2.2.1,v28.2.1,())) (
               ai (
                some (v26.2.2.2.2.1,v26.2.2.2.2.2.1,v26.2.2.2.2.2.2.1,v28.2.1,())))
            |some (.inr v30)=>
             none)) (
           match aa (v23.2.1,(3:Int),())with
           |none=>none
           |some v24=>
           match ar (v1.1,(v1.2.1.1,v1.2.1.2.1,v1.2.1.2.2.1,v1.2.1.2.2.2.1,(IntKind.i64.wrap ((1:Int)*2^min (IntKind.u64.wrap v8.1).toNat IntKind.i64.bits)),()),v22.1,(IntKind.i64.wrap (v23.1*(IntKind.i64.wrap (Int.tdiv v24.1 (2:Int))))),())with
           |none=>none
           |some v25=>
           match ac ah (v24.2.1,((0:Int),[],[],[],()),((0:Int),(0:Int),(0:Int),(0:Int),(0:Int),()),((0:Int),(0:Int),((0:Int),(0:Int),(0:Int),(0:Int),(0:Int),()),[],()),v1.1,(v1.2.1.1,v1.2.1.2.1,v1.2.1.2.2.1,v1.2.1.2.2.2.1,(IntKind.i64.wrap ((1:Int)*2^min (IntKind.u64.wrap v8.1).toNat IntKind.i64.bits)),()),v25.1,(0:Int),())with
           |none=>none
           |some (.inl v26)=>
            match aa (v26.1,(24:Int),())with
            |none=>none
            |some v28=>
            match(v28.1==(0:Int))with
            |true=>
             match av (v28.2.1,())with
             |none=>none
             |some v29=>
             ag (
              some (v26.2.2.2.2.1,v26.2.2.2.2.2.1,(v26.2.2.2.2.2.2.1.1,v26.2.2.2.2.2.2.1.2.1,v29.1,v26.2.2.2.2.2.2.1.2.2.2.1,()),v29.2.1,())) (
              ai (
               some (v26.2.2.2.2.1,v26.2.2.2.2.2.1,(v26.2.2.2.2.2.2.1.1,v26.2.2.2.2.2.2.1.2.1,v29.1,v26.2.2.2.2.2.2.1.2.2.2.1,()),v29.2.1,())))
            |false=>
             ag (
              some (v26.2.2.2.2.1,v26.2.2.2.2.2.1,v26.2.2.2.2.2.2.1,v28.2.1,())) (
              ai (
               some (v26.2.2.2.2.1,v26.2.2.2.2.2.1,v26.2.2.2.2.2.2.1,v28.2.1,())))
           |some (.inr v30)=>
            none)) (
          ag (
           match aa (v23.2.1,(3:Int),())with
           |none=>none
           |some v24=>
           ag (
            ai (
             match ar (v1.1,(v1.2.1.1,v1.2.1.2.1,v1.2.1.2.2.1,v1.2.1.2.2.2.1,(IntKind.i64.wrap ((1:Int)*2^min (IntKind.u64.wrap v8.1).toNat IntKind.i64.bits)),()),v22.1,(IntKind.i64.wrap (v23.1*(IntKind.i64.wrap (Int.tdiv v24.1 (2:Int))))),())with
             |none=>none
             |some v25=>
             match ac ah (v24.2.1,((0:Int),[],[],[],()),((0:Int),(0:Int),(0:Int),(0:Int),(0:Int),()),((0:Int),(0:Int),((0:Int),(0:Int),(0:Int),(0:Int),(0:Int),()),[],()),v1.1,(v1.2.1.1,v1.2.1.2.1,v1.2.1.2.2.1,v1.2.1.2.2.2.1,(IntKind.i64.wrap ((1:Int)*2^min (IntKind.u64.wrap v8.1).toNat IntKind.i64.bits)),()),v25.1,(0:Int),())with
             |none=>none
             |some (.inl v26)=>
              match aa (v26.1,(24:Int),())with
              |none=>none
              |some v28=>
              match(v28.1==(0:Int))with
              |true=>
               match av (v28.2.1,())with
               |none=>none
               |some v29=>
               ag (
                some (v26.2.2.2.2.1,v26.2.2.2.2.2.1,(v26.2.2.2.2.2.2.1.1,v26.2.2.2.2.2.2.1.2.1,v29.1,v26.2.2.2.2.2.2.1.2.2.2.1,()),v29.2.1,())) (
                ai (
                 some (v26.2.2.2.2.1,v26.2.2.2.2.2.1,(v26.2.2.2.2.2.2.1.1,v26.2.2.2.2.2.2.1.2.1,v29.1,v26.2.2.2.2.2.2.1.2.2.2.1,()),v29.2.1,())))
              |false=>
               ag (
                some (v26.2.2.2.2.1,v26.2.2.2.2.2.1,v26.2.2.2.2.2.2.1,v28.2.1,())) (
                ai (
                 some (v26.2.2.2.2.1,v26.2.2.2.2.2.1,v26.2.2.2.2.2.2.1,v28.2.1,())))
             |some (.inr v30)=>
              none)) (
            match ar (v1.1,(v1.2.1.1,v1.2.1.2.1,v1.2.1.2.2.1,v1.2.1.2.2.2.1,(IntKind.i64.wrap ((1:Int)*2^min (IntKind.u64.wrap v8.1).toNat IntKind.i64.bits)),()),v22.1,(IntKind.i64.wrap (v23.1*(IntKind.i64.wrap (Int.tdiv v24.1 (2:Int))))),())with
            |none=>none
            |some v25=>
            match ac ah (v24.2.1,((0:Int),[],[],[],()),((0:Int),(0:Int),(0:Int),(0:Int),(0:Int),()),((0:Int),(0:Int),((0:Int),(0:Int),(0:Int),(0:Int),(0:Int),()),[],()),v1.1,(v1.2.1.1,v1.2.1.2.1,v1.2.1.2.2.1,v1.2.1.2.2.2.1,(IntKind.i64.wrap ((1:Int)*2^min (IntKind.u64.wrap v8.1).toNat IntKind.i64.bits)),()),v25.1,(0:Int),())with
            |none=>none
            |some (.inl v26)=>
             match aa (v26.1,(24:Int),())with
             |none=>none
             |some v28=>
             match(v28.1==(0:Int))with
             |true=>
              match av (v28.2.1,())with
              |none=>none
              |some v29=>
              ag (
               some (v26.2.2.2.2.1,v26.2.2.2.2.2.1,(v26.2.2.2.2.2.2.1.1,v26.2.2.2.2.2.2.1.2.1,v29.1,v26.2.2.2.2.2.2.1.2.2.2.1,()),v29.2.1,())) (
               ai (
                some (v26.2.2.2.2.1,v26.2.2.2.2.2.1,(v26.2.2.2.2.2.2.1.1,v26.2.2.2.2.2.2.1.2.1,v29.1,v26.2.2.2.2.2.2.1.2.2.2.1,()),v29.2.1,())))
             |false=>
              ag (
               some (v26.2.2.2.2.1,v26.2.2.2.2.2.1,v26.2.2.2.2.2.2.1,v28.2.1,())) (
               ai (
                some (v26.2.2.2.2.1,v26.2.2.2.2.2.1,v26.2.2.2.2.2.2.1,v28.2.1,())))
            |some (.inr v30)=>
             none)) (
           ai (
            match aa (v23.2.1,(3:Int),())with
            |none=>none
            |some v24=>
            match ar (v1.1,(v1.2.1.1,v1.2.1.2.1,v1.2.1.2.2.1,v1.2.1.2.2.2.1,(IntKind.i64.wrap ((1:Int)*2^min (IntKind.u64.wrap v8.1).toNat IntKind.i64.bits)),()),v22.1,(IntKind.i64.wrap (v23.1*(IntKind.i64.wrap (Int.tdiv v24.1 (2:Int))))),())with
            |none=>none
            |some v25=>
            match ac ah (v24.2.1,((0:Int),[],[],[],()),((0:Int),(0:Int),(0:Int),(0:Int),(0:Int),()),((0:Int),(0:Int),((0:Int),(0:Int),(0:Int),(0:Int),(0:Int),()),[],()),v1.1,(v1.2.1.1,v1.2.1.2.1,v1.2.1.2.2.1,v1.2.1.2.2.2.1,(IntKind.i64.wrap ((1:Int)*2^min (IntKind.u64.wrap v8.1).toNat IntKind.i64.bits)),()),v25.1,(0:Int),())with
            |none=>none
            |some (.inl v26)=>
             match aa (v26.1,(24:Int),())with
             |none=>none
             |some v28=>
             match(v28.1==(0:Int))with
             |true=>
              match av (v28.2.1,())with
              |none=>none
              |some v29=>
              ag (
               some (v26.2.2.2.2.1,v26.2.2.2.2.2.1,(v26.2.2.2.2.2.2.1.1,v26.2.2.2.2.2.2.1.2.1,v29.1,v26.2.2.2.2.2.2.1.2.2.2.1,()),v29.2.1,())) (
               ai (
                some (v26.2.2.2.2.1,v26.2.2.2.2.2.1,(v26.2.2.2.2.2.2.1.1,v26.2.2.2.2.2.2.1.2.1,v29.1,v26.2.2.2.2.2.2.1.2.2.2.1,()),v29.2.1,())))
             |false=>
              ag (
               some (v26.2.2.2.2.1,v26.2.2.2.2.2.1,v26.2.2.2.2.2.2.1,v28.2.1,())) (
               ai (
                some (v26.2.2.2.2.1,v26.2.2.2.2.2.1,v26.2.2.2.2.2.2.1,v28.2.1,())))
            |some (.inr v30)=>
             none)))) (
         ag (
          match aa (v22.2.1,(8:Int),())with
          |none=>none
          |some v23=>
          match aa (v23.2.1,(3:Int),())with
          |none=>none
          |some v24=>
          match ar (v1.1,(v1.2.1.1,v1.2.1.2.1,v1.2.1.2.2.1,v1.2.1.2.2.2.1,(IntKind.i64.wrap ((1:Int)*2^min (IntKind.u64.wrap v8.1).toNat IntKind.i64.bits)),()),v22.1,(IntKind.i64.wrap (v23.1*(IntKind.i64.wrap (Int.tdiv v24.1 (2:Int))))),())with
          |none=>none
          |some v25=>
          match ac ah (v24.2.1,((0:Int),[],[],[],()),((0:Int),(0:Int),(0:Int),(0:Int),(0:Int),()),((0:Int),(0:Int),((0:Int),(0:Int),(0:Int),(0:Int),(0:Int),()),[],()),v1.1,(v1.2.1.1,v1.2.1.2.1,v1.2.1.2.2.1,v1.2.1.2.2.2.1,(IntKind.i64.wrap ((1:Int)*2^min (IntKind.u64.wrap v8.1).toNat IntKind.i64.bits)),()),v25.1,(0:Int),())with
          |none=>none
          |some (.inl v26)=>
           match aa (v26.1,(24:Int),())with
           |none=>none
           |some v28=>
           match(v28.1==(0:Int))with
           |true=>
            match av (v28.2.1,())with
            |none=>none
            |some v29=>
            ag (
             some (v26.2.2.2.2.1,v26.2.2.2.2.2.1,(v26.2.2.2.2.2.2.1.1,v26.2.2.2.2.2.2.1.2.1,v29.1,v26.2.2.2.2.2.2.1.2.2.2.1,()),v29.2.1,())) (
             ai (
              some (v26.2.2.2.2.1,v26.2.2.2.2.2.1,(v26.2.2.2.2.2.2.1.1,v26.2.2.2.2.2.2.1.2.1,v29.1,v26.2.2.2.2.2.2.1.2.2.2.1,()),v29.2.1,())))
           |false=>
            ag (
             some (v26.2.2.2.2.1,v26.2.2.2.2.2.1,v26.2.2.2.2.2.2.1,v28.2.1,())) (
             ai (
              some (v26.2.2.2.2.1,v26.2.2.2.2.2.1,v26.2.2.2.2.2.2.1,v28.2.1,())))
          |some (.inr v30)=>
           none) (
          match aa (v22.2.1,(8:Int),())with
          |none=>none
          |some v23=>
          ai (
           match aa (v23.2.1,(3:Int),())with
           |none=>none
           |some v24=>
           match ar (v1.1,(v1.2.1.1,v1.2.1.2.1,v1.2.1.2.2.1,v1.2.1.2.2.2.1,(IntKind.i64.wrap ((1:Int)*2^min (IntKind.u64.wrap v8.1).toNat IntKind.i64.bits)),()),v22.1,(IntKind.i64.wrap (v23.1*(IntKind.i64.wrap (Int.tdiv v24.1 (2:Int))))),())with
           |none=>none
           |some v25=>
           match ac ah (v24.2.1,((0:Int),[],[],[],()),((0:Int),(0:Int),(0:Int),(0:Int),(0:Int),()),((0:Int),(0:Int),((0:Int),(0:Int),(0:Int),(0:Int),(0:Int),()),[],()),v1.1,(v1.2.1.1,v1.2.1.2.1,v1.2.1.2.2.1,v1.2.1.2.2.2.1,(IntKind.i64.wrap ((1:Int)*2^min (IntKind.u64.wrap v8.1).toNat IntKind.i64.bits)),()),v25.1,(0:Int),())with
           |none=>none
           |some (.inl v26)=>
            match aa (v26.1,(24:Int),())with
            |none=>none
            |some v28=>
            match(v28.1==(0:Int))with
            |true=>
             match av (v28.2.1,())with
             |none=>none
             |some v29=>
             ag (
              some (v26.2.2.2.2.1,v26.2.2.2.2.2.1,(v26.2.2.2.2.2.2.1.1,v26.2.2.2.2.2.2.1.2.1,v29.1,v26.2.2.2.2.2.2.1.2.2.2.1,()),v29.2.1,())) (
              ai (
               some (v26.2.2.2.2.1,v26.2.2.2.2.2.1,(v26.2.2.2.2.2.2.1.1,v26.2.2.2.2.2.2.1.2.1,v29.1,v26.2.2.2.2.2.2.1.2.2.2.1,()),v29.2.1,())))
            |false=>
             ag (
              some (v26.2.2.2.2.1,v26.2.2.2.2.2.1,v26.2.2.2.2.2.2.1,v28.2.1,())) (
              ai (
               some (v26.2.2.2.2.1,v26.2.2.2.2.2.1,v26.2.2.2.2.2.2.1,v28.2.1,())))
           |some (.inr v30)=>
            none))))) (
       ag (
        match aa (v7.2.1,(256:Int),())with
        |none=>none
        |some v22=>
        match aa (v22.2.1,(8:Int),())with
        |none=>none
        |some v23=>
        match aa (v23.2.1,(3:Int),())with
        |none=>none
        |some v24=>
        match ar (v1.1,(v1.2.1.1,v1.2.1.2.1,v1.2.1.2.2.1,v1.2.1.2.2.2.1,(IntKind.i64.wrap ((1:Int)*2^min (IntKind.u64.wrap v8.1).toNat IntKind.i64.bits)),()),v22.1,(IntKind.i64.wrap (v23.1*(IntKind.i64.wrap (Int.tdiv v24.1 (2:Int))))),())with
        |none=>none
        |some v25=>
        match ac ah (v24.2.1,((0:Int),[],[],[],()),((0:Int),(0:Int),(0:Int),(0:Int),(0:Int),()),((0:Int),(0:Int),((0:Int),(0:Int),(0:Int),(0:Int),(0:Int),()),[],()),v1.1,(v1.2.1.1,v1.2.1.2.1,v1.2.1.2.2.1,v1.2.1.2.2.2.1,(IntKind.i64.wrap ((1:Int)*2^min (IntKind.u64.wrap v8.1).toNat IntKind.i64.bits)),()),v25.1,(0:Int),())with
        |none=>none
        |some (.inl v26)=>
         match aa (v26.1,(24:Int),())with
         |none=>none
         |some v28=>
         match(v28.1==(0:Int))with
         |true=>
          match av (v28.2.1,())with
          |none=>none
          |some v29=>
          ag (
           some (v26.2.2.2.2.1,v26.2.2.2.2.2.1,(v26.2.2.2.2.2.2.1.1,v26.2.2.2.2.2.2.1.2.1,v29.1,v26.2.2.2.2.2.2.1.2.2.2.1,()),v29.2.1,())) (
           ai (
            some (v26.2.2.2.2.1,v26.2.2.2.2.2.1,(v26.2.2.2.2.2.2.1.1,v26.2.2.2.2.2.2.1.2.1,v29.1,v26.2.2.2.2.2.2.1.2.2.2.1,()),v29.2.1,())))
         |false=>
          ag (
           some (v26.2.2.2.2.1,v26.2.2.2.2.2.1,v26.2.2.2.2.2.2.1,v28.2.1,())) (
           ai (
            some (v26.2.2.2.2.1,v26.2.2.2.2.2.1,v26.2.2.2.2.2.2.1,v28.2.1,())))
        |some (.inr v30)=>
         none) (
        match aa (v7.2.1,(256:Int),())with
        |none=>none
        |some v22=>
        ag (
         match aa (v22.2.1,(8:Int),())with
         |none=>none
         |some v23=>
         match aa (v23.2.1,(3:Int),())with
         |none=>none
         |some v24=>
         match ar (v1.1,(v1.2.1.1,v1.2.1.2.1,v1.2.1.2.2.1,v1.2.1.2.2.2.1,(IntKind.i64.wrap ((1:Int)*2^min (IntKind.u64.wrap v8.1).toNat IntKind.i64.bits)),()),v22.1,(IntKind.i64.wrap (v23.1*(IntKind.i64.wrap (Int.tdiv v24.1 (2:Int))))),())with
         |none=>none
         |some v25=>
         match ac ah (v24.2.1,((0:Int),[],[],[],()),((0:Int),(0:Int),(0:Int),(0:Int),(0:Int),()),((0:Int),(0:Int),((0:Int),(0:Int),(0:Int),(0:Int),(0:Int),()),[],()),v1.1,(v1.2.1.1,v1.2.1.2.1,v1.2.1.2.2.1,v1.2.1.2.2.2.1,(IntKind.i64.wrap ((1:Int)*2^min (IntKind.u64.wrap v8.1).toNat IntKind.i64.bits)),()),v25.1,(0:Int),())with
         |none=>none
         |some (.inl v26)=>
          match aa (v26.1,(24:Int),())with
          |none=>none
          |some v28=>
          match(v28.1==(0:Int))with
          |true=>
           match av (v28.2.1,())with
           |none=>none
           |some v29=>
           ag (
            some (v26.2.2.2.2.1,v26.2.2.2.2.2.1,(v26.2.2.2.2.2.2.1.1,v26.2.2.2.2.2.2.1.2.1,v29.1,v26.2.2.2.2.2.2.1.2.2.2.1,()),v29.2.1,())) (
            ai (
             some (v26.2.2.2.2.1,v26.2.2.2.2.2.1,(v26.2.2.2.2.2.2.1.1,v26.2.2.2.2.2.2.1.2.1,v29.1,v26.2.2.2.2.2.2.1.2.2.2.1,()),v29.2.1,())))
          |false=>
           ag (
            some (v26.2.2.2.2.1,v26.2.2.2.2.2.1,v26.2.2.2.2.2.2.1,v28.2.1,())) (
            ai (
             some (v26.2.2.2.2.1,v26.2.2.2.2.2.1,v26.2.2.2.2.2.2.1,v28.2.1,())))
         |some (.inr v30)=>
          none) (
         match aa (v22.2.1,(8:Int),())with
         |none=>none
         |some v23=>
         ai (
          match aa (v23.2.1,(3:Int),())with
          |none=>none
          |some v24=>
          match ar (v1.1,(v1.2.1.1,v1.2.1.2.1,v1.2.1.2.2.1,v1.2.1.2.2.2.1,(IntKind.i64.wrap ((1:Int)*2^min (IntKind.u64.wrap v8.1).toNat IntKind.i64.bits)),()),v22.1,(IntKind.i64.wrap (v23.1*(IntKind.i64.wrap (Int.tdiv v24.1 (2:Int))))),())with
          |none=>none
          |some v25=>
          match ac ah (v24.2.1,((0:Int),[],[],[],()),((0:Int),(0:Int),(0:Int),(0:Int),(0:Int),()),((0:Int),(0:Int),((0:Int),(0:Int),(0:Int),(0:Int),(0:Int),()),[],()),v1.1,(v1.2.1.1,v1.2.1.2.1,v1.2.1.2.2.1,v1.2.1.2.2.2.1,(IntKind.i64.wrap ((1:Int)*2^min (IntKind.u64.wrap v8.1).toNat IntKind.i64.bits)),()),v25.1,(0:Int),())with
          |none=>none
          |some (.inl v26)=>
           match aa (v26.1,(24:Int),())with
           |none=>none
           |some v28=>
           match(v28.1==(0:Int))with
           |true=>
            match av (v28.2.1,())with
            |none=>none
            |some v29=>
            ag (
             some (v26.2.2.2.2.1,v26.2.2.2.2.2.1,(v26.2.2.2.2.2.2.1.1,v26.2.2.2.2.2.2.1.2.1,v29.1,v26.2.2.2.2.2.2.1.2.2.2.1,()),v29.2.1,())) (
             ai (
              some (v26.2.2.2.2.1,v26.2.2.2.2.2.1,(v26.2.2.2.2.2.2.1.1,v26.2.2.2.2.2.2.1.2.1,v29.1,v26.2.2.2.2.2.2.1.2.2.2.1,()),v29.2.1,())))
           |false=>
            ag (
             some (v26.2.2.2.2.1,v26.2.2.2.2.2.1,v26.2.2.2.2.2.2.1,v28.2.1,())) (
             ai (
              some (v26.2.2.2.2.1,v26.2.2.2.2.2.1,v26.2.2.2.2.2.2.1,v28.2.1,())))
          |some (.inr v30)=>
           none)))))
   |false=>
    ag (
     ag (
      match aa (v7.2.1,(256:Int),())with
      |none=>none
      |some v31=>
      ag (
       match aa (v31.2.1,(8:Int),())with
       |none=>none
       |some v32=>
       ag (
        match aa (v32.2.1,(3:Int),())with
        |none=>none
        |some v33=>
        ai (
         match ar (v1.1,v1.2.1,v31.1,(IntKind.i64.wrap (v32.1*(IntKind.i64.wrap (Int.tdiv v33.1 (2:Int))))),())with
         |none=>none
         |some v34=>
         match ac ah (v33.2.1,((0:Int),[],[],[],()),((0:Int),(0:Int),(0:Int),(0:Int),(0:Int),()),((0:Int),(0:Int),((0:Int),(0:Int),(0:Int),(0:Int),(0:Int),()),[],()),v1.1,v1.2.1,v34.1,(0:Int),())with
         |none=>none
         |some (.inl v35)=>
          match aa (v35.1,(24:Int),())with
          |none=>none
          |some v37=>
          match(v37.1==(0:Int))with
          |true=>
           match av (v37.2.1,())with
           |none=>none
           |some v38=>
           ag (
            some (v35.2.2.2.2.1,v35.2.2.2.2.2.1,(v35.2.2.2.2.2.2.1.1,v35.2.2.2.2.2.2.1.2.1,v38.1,v35.2.2.2.2.2.2.1.2.2.2.1,()),v38.2.1,())) (
            ai (
             some (v35.2.2.2.2.1,v35.2.2.2.2.2.1,(v35.2.2.2.2.2.2.1.1,v35.2.2.2.2.2.2.1.2.1,v38.1,v35.2.2.2.2.2.2.1.2.2.2.1,()),v38.2.1,())))
          |false=>
           ag (
            some (v35.2.2.2.2.1,v35.2.2.2.2.2.1,v35.2.2.2.2.2.2.1,v37.2.1,())) (
            ai (
             some (v35.2.2.2.2.1,v35.2.2.2.2.2.1,v35.2.2.2.2.2.2.1,v37.2.1,())))
         |some (.inr v39)=>
          none)) (
        match aa (v32.2.1,(3:Int),())with
        |none=>none
        |some v33=>
        match ar (v1.1,v1.2.1,v31.1,(IntKind.i64.wrap (v32.1*(IntKind.i64.wrap (Int.tdiv v33.1 (2:Int))))),())with
        |none=>none
        |some v34=>
        match ac ah (v33.2.1,((0:Int),[],[],[],()),((0:Int),(0:Int),(0:Int),(0:Int),(0:Int),()),((0:Int),(0:Int),((0:Int),(0:Int),(0:Int),(0:Int),(0:Int),()),[],()),v1.1,v1.2.1,v34.1,(0:Int),())with
        |none=>none
        |some (.inl v35)=>
         match aa (v35.1,(24:Int),())with
         |none=>none
         |some v37=>
         match(v37.1==(0:Int))with
         |true=>
          match av (v37.2.1,())with
          |none=>none
          |some v38=>
          ag (
           some (v35.2.2.2.2.1,v35.2.2.2.2.2.1,(v35.2.2.2.2.2.2.1.1,v35.2.2.2.2.2.2.1.2.1,v38.1,v35.2.2.2.2.2.2.1.2.2.2.1,()),v38.2.1,())) (
           ai (
            some (v35.2.2.2.2.1,v35.2.2.2.2.2.1,(v35.2.2.2.2.2.2.1.1,v35.2.2.2.2.2.2.1.2.1,v38.1,v35.2.2.2.2.2.2.1.2.2.2.1,()),v38.2.1,())))
         |false=>
          ag (
           some (v35.2.2.2.2.1,v35.2.2.2.2.2.1,v35.2.2.2.2.2.2.1,v37.2.1,())) (
           ai (
            some (v35.2.2.2.2.1,v35.2.2.2.2.2.1,v35.2.2.2.2.2.2.1,v37.2.1,())))
        |some (.inr v39)=>
         none)) (
       match aa (v31.2.1,(8:Int),())with
       |none=>none
       |some v32=>
       match aa (v32.2.1,(3:Int),())with
       |none=>none
       |some v33=>
       match ar (v1.1,v1.2.1,v31.1,(IntKind.i64.wrap (v32.1*(IntKind.i64.wrap (Int.tdiv v33.1 (2:Int))))),())with
       |none=>none
       |some v34=>
       match ac ah (v33.2.1,((0:Int),[],[],[],()),((0:Int),(0:Int),(0:Int),(0:Int),(0:Int),()),((0:Int),(0:Int),((0:Int),(0:Int),(0:Int),(0:Int),(0:Int),()),[],()),v1.1,v1.2.1,v34.1,(0:Int),())with
       |none=>none
       |some (.inl v35)=>
        match aa (v35.1,(24:Int),())with
        |none=>none
        |some v37=>
        match(v37.1==(0:Int))with
        |true=>
         match av (v37.2.1,())with
         |none=>none
         |some v38=>
         ag (
          some (v35.2.2.2.2.1,v35.2.2.2.2.2.1,(v35.2.2.2.2.2.2.1.1,v35.2.2.2.2.2.2.1.2.1,v38.1,v35.2.2.2.2.2.2.1.2.2.2.1,()),v38.2.1,())) (
          ai (
           some (v35.2.2.2.2.1,v35.2.2.2.2.2.1,(v35.2.2.2.2.2.2.1.1,v35.2.2.2.2.2.2.1.2.1,v38.1,v35.2.2.2.2.2.2.1.2.2.2.1,()),v38.2.1,())))
        |false=>
         ag (
          some (v35.2.2.2.2.1,v35.2.2.2.2.2.1,v35.2.2.2.2.2.2.1,v37.2.1,())) (
          ai (
           some (v35.2.2.2.2.1,v35.2.2.2.2.2.1,v35.2.2.2.2.2.2.1,v37.2.1,())))
       |some (.inr v39)=>
        none)) (
      match aa (v7.2.1,(256:Int),())with
      |none=>none
      |some v31=>
      match aa (v31.2.1,(8:Int),())with
      |none=>none
      |some v32=>
      match aa (v32.2.1,(3:Int),())with
      |none=>none
      |some v33=>
      match ar (v1.1,v1.2.1,v31.1,(IntKind.i64.wrap (v32.1*(IntKind.i64.wrap (Int.tdiv v33.1 (2:Int))))),())with
      |none=>none
      |some v34=>
      match ac ah (v33.2.1,((0:Int),[],[],[],()),((0:Int),(0:Int),(0:Int),(0:Int),(0:Int),()),((0:Int),(0:Int),((0:Int),(0:Int),(0:Int),(0:Int),(0:Int),()),[],()),v1.1,v1.2.1,v34.1,(0:Int),())with
      |none=>none
      |some (.inl v35)=>
       match aa (v35.1,(24:Int),())with
       |none=>none
       |some v37=>
       match(v37.1==(0:Int))with
       |true=>
        match av (v37.2.1,())with
        |none=>none
        |some v38=>
        ag (
         some (v35.2.2.2.2.1,v35.2.2.2.2.2.1,(v35.2.2.2.2.2.2.1.1,v35.2.2.2.2.2.2.1.2.1,v38.1,v35.2.2.2.2.2.2.1.2.2.2.1,()),v38.2.1,())) (
         ai (
          some (v35.2.2.2.2.1,v35.2.2.2.2.2.1,(v35.2.2.2.2.2.2.1.1,v35.2.2.2.2.2.2.1.2.1,v38.1,v35.2.2.2.2.2.2.1.2.2.2.1,()),v38.2.1,())))
       |false=>
        ag (
         some (v35.2.2.2.2.1,v35.2.2.2.2.2.1,v35.2.2.2.2.2.2.1,v37.2.1,())) (
         ai (
          some (v35.2.2.2.2.1,v35.2.2.2.2.2.1,v35.2.2.2.2.2.2.1,v37.2.1,())))
      |some (.inr v39)=>
       none)) (
     ag (
      match aa (v7.2.1,(256:Int),())with
      |none=>none
      |some v31=>
      ag (
       ag (
        match aa (v31.2.1,(8:Int),())with
        |none=>none
        |some v32=>
        ag (
         match aa (v32.2.1,(3:Int),())with
         |none=>none
         |some v33=>
         ai (
          match ar (v1.1,v1.2.1,v31.1,(IntKind.i64.wrap (v32.1*(IntKind.i64.wrap (Int.tdiv v33.1 (2:Int))))),())with
          |none=>none
          |some v34=>
          match ac ah (v33.2.1,((0:Int),[],[],[],()),((0:Int),(0:Int),(0:Int),(0:Int),(0:Int),()),((0:Int),(0:Int),((0:Int),(0:Int),(0:Int),(0:Int),(0:Int),()),[],()),v1.1,v1.2.1,v34.1,(0:Int),())with
          |none=>none
          |some (.inl v35)=>
           match aa (v35.1,(24:Int),())with
           |none=>none
           |some v37=>
           match(v37.1==(0:Int))with
           |true=>
            match av (v37.2.1,())with
            |none=>none
            |some v38=>
            ag (
             some (v35.2.2.2.2.1,v35.2.2.2.2.2.1,(v35.2.2.2.2.2.2.1.1,v35.2.2.2.2.2.2.1.2.1,v38.1,v35.2.2.2.2.2.2.1.2.2.2.1,()),v38.2.1,())) (
             ai (
              some (v35.2.2.2.2.1,v35.2.2.2.2.2.1,(v35.2.2.2.2.2.2.1.1,v35.2.2.2.2.2.2.1.2.1,v38.1,v35.2.2.2.2.2.2.1.2.2.2.1,()),v38.2.1,())))
           |false=>
            ag (
             some (v35.2.2.2.2.1,v35.2.2.2.2.2.1,v35.2.2.2.2.2.2.1,v37.2.1,())) (
             ai (
              some (v35.2.2.2.2.1,v35.2.2.2.2.2.1,v35.2.2.2.2.2.2.1,v37.2.1,())))
          |some (.inr v39)=>
           none)) (
         match aa (v32.2.1,(3:Int),())with
         |none=>none
         |some v33=>
         match ar (v1.1,v1.2.1,v31.1,(IntKind.i64.wrap (v32.1*(IntKind.i64.wrap (Int.tdiv v33.1 (2:Int))))),())with
         |none=>none
         |some v34=>
         match ac ah (v33.2.1,((0:Int),[],[],[],()),((0:Int),(0:Int),(0:Int),(0:Int),(0:Int),()),((0:Int),(0:Int),((0:Int),(0:Int),(0:Int),(0:Int),(0:Int),()),[],()),v1.1,v1.2.1,v34.1,(0:Int),())with
         |none=>none
         |some (.inl v35)=>
          match aa (v35.1,(24:Int),())with
          |none=>none
          |some v37=>
          match(v37.1==(0:Int))with
          |true=>
           match av (v37.2.1,())with
           |none=>none
           |some v38=>
           ag (
            some (v35.2.2.2.2.1,v35.2.2.2.2.2.1,(v35.2.2.2.2.2.2.1.1,v35.2.2.2.2.2.2.1.2.1,v38.1,v35.2.2.2.2.2.2.1.2.2.2.1,()),v38.2.1,())) (
            ai (
             some (v35.2.2.2.2.1,v35.2.2.2.2.2.1,(v35.2.2.2.2.2.2.1.1,v35.2.2.2.2.2.2.1.2.1,v38.1,v35.2.2.2.2.2.2.1.2.2.2.1,()),v38.2.1,())))
          |false=>
           ag (
            some (v35.2.2.2.2.1,v35.2.2.2.2.2.1,v35.2.2.2.2.2.2.1,v37.2.1,())) (
            ai (
             some (v35.2.2.2.2.1,v35.2.2.2.2.2.1,v35.2.2.2.2.2.2.1,v37.2.1,())))
         |some (.inr v39)=>
          none)) (
        match aa (v31.2.1,(8:Int),())with
        |none=>none
        |some v32=>
        match aa (v32.2.1,(3:Int),())with
        |none=>none
        |some v33=>
        match ar (v1.1,v1.2.1,v31.1,(IntKind.i64.wrap (v32.1*(IntKind.i64.wrap (Int.tdiv v33.1 (2:Int))))),())with
        |none=>none
        |some v34=>
        match ac ah (v33.2.1,((0:Int),[],[],[],()),((0:Int),(0:Int),(0:Int),(0:Int),(0:Int),()),((0:Int),(0:Int),((0:Int),(0:Int),(0:Int),(0:Int),(0:Int),()),[],()),v1.1,v1.2.1,v34.1,(0:Int),())with
        |none=>none
        |some (.inl v35)=>
         match aa (v35.1,(24:Int),())with
         |none=>none
         |some v37=>
         match(v37.1==(0:Int))with
         |true=>
          match av (v37.2.1,())with
          |none=>none
          |some v38=>
          ag (
           some (v35.2.2.2.2.1,v35.2.2.2.2.2.1,(v35.2.2.2.2.2.2.1.1,v35.2.2.2.2.2.2.1.2.1,v38.1,v35.2.2.2.2.2.2.1.2.2.2.1,()),v38.2.1,())) (
           ai (
            some (v35.2.2.2.2.1,v35.2.2.2.2.2.1,(v35.2.2.2.2.2.2.1.1,v35.2.2.2.2.2.2.1.2.1,v38.1,v35.2.2.2.2.2.2.1.2.2.2.1,()),v38.2.1,())))
         |false=>
          ag (
           some (v35.2.2.2.2.1,v35.2.2.2.2.2.1,v35.2.2.2.2.2.2.1,v37.2.1,())) (
           ai (
            some (v35.2.2.2.2.1,v35.2.2.2.2.2.1,v35.2.2.2.2.2.2.1,v37.2.1,())))
        |some (.inr v39)=>
         none)) (
       ag (
        match aa (v31.2.1,(8:Int),())with
        |none=>none
        |some v32=>
        ag (
         ag (
          match aa (v32.2.1,(3:Int),())with
          |none=>none
          |some v33=>
          ai (
           match ar (v1.1,v1.2.1,v31.1,(IntKind.i64.wrap (v32.1*(IntKind.i64.wrap (Int.tdiv v33.1 (2:Int))))),())with
           |none=>none
           |some v34=>
           match ac ah (v33.2.1,((0:Int),[],[],[],()),((0:Int),(0:Int),(0:Int),(0:Int),(0:Int),()),((0:Int),(0:Int),((0:Int),(0:Int),(0:Int),(0:Int),(0:Int),()),[],()),v1.1,v1.2.1,v34.1,(0:Int),())with
           |none=>none
           |some (.inl v35)=>
            match aa (v35.1,(24:Int),())with
            |none=>none
            |some v37=>
            match(v37.1==(0:Int))with
            |true=>
             match av (v37.2.1,())with
             |none=>none
             |some v38=>
             ag (
              some (v35.2.2.2.2.1,v35.2.2.2.2.2.1,(v35.2.2.2.2.2.2.1.1,v35.2.2.2.2.2.2.1.2.1,v38.1,v35.2.2.2.2.2.2.1.2.2.2.1,()),v38.2.1,())) (
              ai (
               some (v35.2.2.2.2.1,v35.2.2.2.2.2.1,(v35.2.2.2.2.2.2.1.1,v35.2.2.2.2.2.2.1.2.1,v38.1,v35.2.2.2.2.2.2.1.2.2.2.1,()),v38.2.1,())))
            |false=>
             ag (
              some (v35.2.2.2.2.1,v35.2.2.2.2.2.1,v35.2.2.2.2.2.2.1,v37.2.1,())) (
              ai (
               some (v35.2.2.2.2.1,v35.2.2.2.2.2.1,v35.2.2.2.2.2.2.1,v37.2.1,())))
           |some (.inr v39)=>
            none)) (
          match aa (v32.2.1,(3:Int),())with
          |none=>none
          |some v33=>
          match ar (v1.1,v1.2.1,v31.1,(IntKind.i64.wrap (v32.1*(IntKind.i64.wrap (Int.tdiv v33.1 (2:Int))))),())with
          |none=>none
          |some v34=>
          match ac ah (v33.2.1,((0:Int),[],[],[],()),((0:Int),(0:Int),(0:Int),(0:Int),(0:Int),()),((0:Int),(0:Int),((0:Int),(0:Int),(0:Int),(0:Int),(0:Int),()),[],()),v1.1,v1.2.1,v34.1,(0:Int),())with
          |none=>none
          |some (.inl v35)=>
           match aa (v35.1,(24:Int),())with
           |none=>none
           |some v37=>
           match(v37.1==(0:Int))with
           |true=>
            match av (v37.2.1,())with
            |none=>none
            |some v38=>
            ag (
             some (v35.2.2.2.2.1,v35.2.2.2.2.2.1,(v35.2.2.2.2.2.2.1.1,v35.2.2.2.2.2.2.1.2.1,v38.1,v35.2.2.2.2.2.2.1.2.2.2.1,()),v38.2.1,())) (
             ai (
              some (v35.2.2.2.2.1,v35.2.2.2.2.2.1,(v35.2.2.2.2.2.2.1.1,v35.2.2.2.2.2.2.1.2.1,v38.1,v35.2.2.2.2.2.2.1.2.2.2.1,()),v38.2.1,())))
           |false=>
            ag (
             some (v35.2.2.2.2.1,v35.2.2.2.2.2.1,v35.2.2.2.2.2.2.1,v37.2.1,())) (
             ai (
              some (v35.2.2.2.2.1,v35.2.2.2.2.2.1,v35.2.2.2.2.2.2.1,v37.2.1,())))
          |some (.inr v39)=>
           none)) (
         ag (
          match aa (v32.2.1,(3:Int),())with
          |none=>none
          |some v33=>
          ag (
           ai (
            match ar (v1.1,v1.2.1,v31.1,(IntKind.i64.wrap (v32.1*(IntKind.i64.wrap (Int.tdiv v33.1 (2:Int))))),())with
            |none=>none
            |some v34=>
            match ac ah (v33.2.1,((0:Int),[],[],[],()),((0:Int),(0:Int),(0:Int),(0:Int),(0:Int),()),((0:Int),(0:Int),((0:Int),(0:Int),(0:Int),(0:Int),(0:Int),()),[],()),v1.1,v1.2.1,v34.1,(0:Int),())with
            |none=>none
            |some (.inl v35)=>
             match aa (v35.1,(24:Int),())with
             |none=>none
             |some v37=>
             match(v37.1==(0:Int))with
             |true=>
              match av (v37.2.1,())with
              |none=>none
              |some v38=>
              ag (
               some (v35.2.2.2.2.1,v35.2.2.2.2.2.1,(v35.2.2.2.2.2.2.1.1,v35.2.2.2.2.2.2.1.2.1,v38.1,v35.2.2.2.2.2.2.1.2.2.2.1,()),v38.2.1,())) (
               ai (
                some (v35.2.2.2.2.1,v35.2.2.2.2.2.1,(v35.2.2.2.2.2.2.1.1,v35.2.2.2.2.2.2.1.2.1,v38.1,v35.2.2.2.2.2.2.1.2.2.2.1,()),v38.2.1,())))
             |false=>
              ag (
               some (v35.2.2.2.2.1,v35.2.2.2.2.2.1,v35.2.2.2.2.2.2.1,v37.2.1,())) (
               ai (
                some (v35.2.2.2.2.1,v35.2.2.2.2.2.1,v35.2.2.2.2.2.2.1,v37.2.1,())))
            |some (.inr v39)=>
             none)) (
           match ar (v1.1,v1.2.1,v31.1,(IntKind.i64.wrap (v32.1*(IntKind.i64.wrap (Int.tdiv v33.1 (2:Int))))),())with
           |none=>none
           |some v34=>
           match ac ah (v33.2.1,((0:Int),[],[],[],()),((0:Int),(0:Int),(0:Int),(0:Int),(0:Int),()),((0:Int),(0:Int),((0:Int),(0:Int),(0:Int),(0:Int),(0:Int),()),[],()),v1.1,v1.2.1,v34.1,(0:Int),())with
           |none=>none
           |some (.inl v35)=>
            match aa (v35.1,(24:Int),())with
            |none=>none
            |some v37=>
            match(v37.1==(0:Int))with
            |true=>
             match av (v37.2.1,())with
             |none=>none
             |some v38=>
             ag (
              some (v35.2.2.2.2.1,v35.2.2.2.2.2.1,(v35.2.2.2.2.2.2.1.1,v35.2.2.2.2.2.2.1.2.1,v38.1,v35.2.2.2.2.2.2.1.2.2.2.1,()),v38.2.1,())) (
              ai (
               some (v35.2.2.2.2.1,v35.2.2.2.2.2.1,(v35.2.2.2.2.2.2.1.1,v35.2.2.2.2.2.2.1.2.1,v38.1,v35.2.2.2.2.2.2.1.2.2.2.1,()),v38.2.1,())))
            |false=>
             ag (
              some (v35.2.2.2.2.1,v35.2.2.2.2.2.1,v35.2.2.2.2.2.2.1,v37.2.1,())) (
              ai (
               some (v35.2.2.2.2.1,v35.2.2.2.2.2.1,v35.2.2.2.2.2.2.1,v37.2.1,())))
           |some (.inr v39)=>
            none)) (
          ai (
           match aa (v32.2.1,(3:Int),())with
           |none=>none
           |some v33=>
           match ar (v1.1,v1.2.1,v31.1,(IntKind.i64.wrap (v32.1*(IntKind.i64.wrap (Int.tdiv v33.1 (2:Int))))),())with
           |none=>none
           |some v34=>
           match ac ah (v33.2.1,((0:Int),[],[],[],()),((0:Int),(0:Int),(0:Int),(0:Int),(0:Int),()),((0:Int),(0:Int),((0:Int),(0:Int),(0:Int),(0:Int),(0:Int),()),[],()),v1.1,v1.2.1,v34.1,(0:Int),())with
           |none=>none
           |some (.inl v35)=>
            match aa (v35.1,(24:Int),())with
            |none=>none
            |some v37=>
            match(v37.1==(0:Int))with
            |true=>
             match av (v37.2.1,())with
             |none=>none
             |some v38=>
             ag (
              some (v35.2.2.2.2.1,v35.2.2.2.2.2.1,(v35.2.2.2.2.2.2.1.1,v35.2.2.2.2.2.2.1.2.1,v38.1,v35.2.2.2.2.2.2.1.2.2.2.1,()),v38.2.1,())) (
              ai (
               some (v35.2.2.2.2.1,v35.2.2.2.2.2.1,(v35.2.2.2.2.2.2.1.1,v35.2.2.2.2.2.2.1.2.1,v38.1,v35.2.2.2.2.2.2.1.2.2.2.1,()),v38.2.1,())))
            |false=>
             ag (
              some (v35.2.2.2.2.1,v35.2.2.2.2.2.1,v35.2.2.2.2.2.2.1,v37.2.1,())) (
              ai (
               some (v35.2.2.2.2.1,v35.2.2.2.2.2.1,v35.2.2.2.2.2.2.1,v37.2.1,())))
           |some (.inr v39)=>
            none)))) (
        ag (
         match aa (v31.2.1,(8:Int),())with
         |none=>none
         |some v32=>
         match aa (v32.2.1,(3:Int),())with
         |none=>none
         |some v33=>
         match ar (v1.1,v1.2.1,v31.1,(IntKind.i64.wrap (v32.1*(IntKind.i64.wrap (Int.tdiv v33.1 (2:Int))))),())with
         |none=>none
         |some v34=>
         match ac ah (v33.2.1,((0:Int),[],[],[],()),((0:Int),(0:Int),(0:Int),(0:Int),(0:Int),()),((0:Int),(0:Int),((0:Int),(0:Int),(0:Int),(0:Int),(0:Int),()),[],()),v1.1,v1.2.1,v34.1,(0:Int),())with
         |none=>none
         |some (.inl v35)=>
          match aa (v35.1,(24:Int),())with
          |none=>none
          |some v37=>
          match(v37.1==(0:Int))with
          |true=>
           match av (v37.2.1,())with
           |none=>none
           |some v38=>
           ag (
            some (v35.2.2.2.2.1,v35.2.2.2.2.2.1,(v35.2.2.2.2.2.2.1.1,v35.2.2.2.2.2.2.1.2.1,v38.1,v35.2.2.2.2.2.2.1.2.2.2.1,()),v38.2.1,())) (
            ai (
             some (v35.2.2.2.2.1,v35.2.2.2.2.2.1,(v35.2.2.2.2.2.2.1.1,v35.2.2.2.2.2.2.1.2.1,v38.1,v35.2.2.2.2.2.2.1.2.2.2.1,()),v38.2.1,())))
          |false=>
           ag (
            some (v35.2.2.2.2.1,v35.2.2.2.2.2.1,v35.2.2.2.2.2.2.1,v37.2.1,())) (
            ai (
             some (v35.2.2.2.2.1,v35.2.2.2.2.2.1,v35.2.2.2.2.2.2.1,v37.2.1,())))
         |some (.inr v39)=>
          none) (
         match aa (v31.2.1,(8:Int),())with
         |none=>none
         |some v32=>
         ai (
          match aa (v32.2.1,(3:Int),())with
          |none=>none
          |some v33=>
          match ar (v1.1,v1.2.1,v31.1,(IntKind.i64.wrap (v32.1*(IntKind.i64.wrap (Int.tdiv v33.1 (2:Int))))),())with
          |none=>none
          |some v34=>
          match ac ah (v33.2.1,((0:Int),[],[],[],()),((0:Int),(0:Int),(0:Int),(0:Int),(0:Int),()),((0:Int),(0:Int),((0:Int),(0:Int),(0:Int),(0:Int),(0:Int),()),[],()),v1.1,v1.2.1,v34.1,(0:Int),())with
          |none=>none
          |some (.inl v35)=>
           match aa (v35.1,(24:Int),())with
           |none=>none
           |some v37=>
           match(v37.1==(0:Int))with
           |true=>
            match av (v37.2.1,())with
            |none=>none
            |some v38=>
            ag (
             some (v35.2.2.2.2.1,v35.2.2.2.2.2.1,(v35.2.2.2.2.2.2.1.1,v35.2.2.2.2.2.2.1.2.1,v38.1,v35.2.2.2.2.2.2.1.2.2.2.1,()),v38.2.1,())) (
             ai (
              some (v35.2.2.2.2.1,v35.2.2.2.2.2.1,(v35.2.2.2.2.2.2.1.1,v35.2.2.2.2.2.2.1.2.1,v38.1,v35.2.2.2.2.2.2.1.2.2.2.1,()),v38.2.1,())))
           |false=>
            ag (
             some (v35.2.2.2.2.1,v35.2.2.2.2.2.1,v35.2.2.2.2.2.2.1,v37.2.1,())) (
             ai (
              some (v35.2.2.2.2.1,v35.2.2.2.2.2.1,v35.2.2.2.2.2.2.1,v37.2.1,())))
          |some (.inr v39)=>
           none))))) (
      ag (
       match aa (v7.2.1,(256:Int),())with
       |none=>none
       |some v31=>
       match aa (v31.2.1,(8:Int),())with
       |none=>none
       |some v32=>
       match aa (v32.2.1,(3:Int),())with
       |none=>none
       |some v33=>
       match ar (v1.1,v1.2.1,v31.1,(IntKind.i64.wrap (v32.1*(IntKind.i64.wrap (Int.tdiv v33.1 (2:Int))))),())with
       |none=>none
       |some v34=>
       match ac ah (v33.2.1,((0:Int),[],[],[],()),((0:Int),(0:Int),(0:Int),(0:Int),(0:Int),()),((0:Int),(0:Int),((0:Int),(0:Int),(0:Int),(0:Int),(0:Int),()),[],()),v1.1,v1.2.1,v34.1,(0:Int),())with
       |none=>none
       |some (.inl v35)=>
        match aa (v35.1,(24:Int),())with
        |none=>none
        |some v37=>
        match(v37.1==(0:Int))with
        |true=>
         match av (v37.2.1,())with
         |none=>none
         |some v38=>
         ag (
          some (v35.2.2.2.2.1,v35.2.2.2.2.2.1,(v35.2.2.2.2.2.2.1.1,v35.2.2.2.2.2.2.1.2.1,v38.1,v35.2.2.2.2.2.2.1.2.2.2.1,()),v38.2.1,())) (
          ai (
           some (v35.2.2.2.2.1,v35.2.2.2.2.2.1,(v35.2.2.2.2.2.2.1.1,v35.2.2.2.2.2.2.1.2.1,v38.1,v35.2.2.2.2.2.2.1.2.2.2.1,()),v38.2.1,())))
        |false=>
         ag (
          some (v35.2.2.2.2.1,v35.2.2.2.2.2.1,v35.2.2.2.2.2.2.1,v37.2.1,())) (
          ai (
           some (v35.2.2.2.2.1,v35.2.2.2.2.2.1,v35.2.2.2.2.2.2.1,v37.2.1,())))
       |some (.inr v39)=>
        none) (
       match aa (v7.2.1,(256:Int),())with
       |none=>none
       |some v31=>
       ag (
        match aa (v31.2.1,(8:Int),())with
        |none=>none
        |some v32=>
        match aa (v32.2.1,(3:Int),())with
        |none=>none
        |some v33=>
        match ar (v1.1,v1.2.1,v31.1,(IntKind.i64.wrap (v32.1*(IntKind.i64.wrap (Int.tdiv v33.1 (2:Int))))),())with
        |none=>none
        |some v34=>
        match ac ah (v33.2.1,((0:Int),[],[],[],()),((0:Int),(0:Int),(0:Int),(0:Int),(0:Int),()),((0:Int),(0:Int),((0:Int),(0:Int),(0:Int),(0:Int),(0:Int),()),[],()),v1.1,v1.2.1,v34.1,(0:Int),())with
        |none=>none
        |some (.inl v35)=>
         match aa (v35.1,(24:Int),())with
         |none=>none
         |some v37=>
         match(v37.1==(0:Int))with
         |true=>
          match av (v37.2.1,())with
          |none=>none
          |some v38=>
          ag (
           some (v35.2.2.2.2.1,v35.2.2.2.2.2.1,(v35.2.2.2.2.2.2.1.1,v35.2.2.2.2.2.2.1.2.1,v38.1,v35.2.2.2.2.2.2.1.2.2.2.1,()),v38.2.1,())) (
           ai (
            some (v35.2.2.2.2.1,v35.2.2.2.2.2.1,(v35.2.2.2.2.2.2.1.1,v35.2.2.2.2.2.2.1.2.1,v38.1,v35.2.2.2.2.2.2.1.2.2.2.1,()),v38.2.1,())))
         |false=>
          ag (
           some (v35.2.2.2.2.1,v35.2.2.2.2.2.1,v35.2.2.2.2.2.2.1,v37.2.1,())) (
           ai (
            some (v35.2.2.2.2.1,v35.2.2.2.2.2.1,v35.2.2.2.2.2.2.1,v37.2.1,())))
        |some (.inr v39)=>
         none) (
        match aa (v31.2.1,(8:Int),())with
        |none=>none
        |some v32=>
        ai (
         match aa (v32.2.1,(3:Int),())with
         |none=>none
         |some v33=>
         match ar (v1.1,v1.2.1,v31.1,(IntKind.i64.wrap (v32.1*(IntKind.i64.wrap (Int.tdiv v33.1 (2:Int))))),())with
         |none=>none
         |some v34=>
         match ac ah (v33.2.1,((0:Int),[],[],[],()),((0:Int),(0:Int),(0:Int),(0:Int),(0:Int),()),((0:Int),(0:Int),((0:Int),(0:Int),(0:Int),(0:Int),(0:Int),()),[],()),v1.1,v1.2.1,v34.1,(0:Int),())with
         |none=>none
         |some (.inl v35)=>
          match aa (v35.1,(24:Int),())with
          |none=>none
          |some v37=>
          match(v37.1==(0:Int))with
          |true=>
           match av (v37.2.1,())with
           |none=>none
           |some v38=>
           ag (
            some (v35.2.2.2.2.1,v35.2.2.2.2.2.1,(v35.2.2.2.2.2.2.1.1,v35.2.2.2.2.2.2.1.2.1,v38.1,v35.2.2.2.2.2.2.1.2.2.2.1,()),v38.2.1,())) (
            ai (
             some (v35.2.2.2.2.1,v35.2.2.2.2.2.1,(v35.2.2.2.2.2.2.1.1,v35.2.2.2.2.2.2.1.2.1,v38.1,v35.2.2.2.2.2.2.1.2.2.2.1,()),v38.2.1,())))
          |false=>
           ag (
            some (v35.2.2.2.2.1,v35.2.2.2.2.2.1,v35.2.2.2.2.2.2.1,v37.2.1,())) (
            ai (
             some (v35.2.2.2.2.1,v35.2.2.2.2.2.1,v35.2.2.2.2.2.2.1,v37.2.1,())))
         |some (.inr v39)=>
          none)))))
  |false=>
   ag (
    ag (
     match aa (v4.2.1,(256:Int),())with
     |none=>none
     |some v40=>
     ag (
      match aa (v40.2.1,(8:Int),())with
      |none=>none
      |some v41=>
      ag (
       match aa (v41.2.1,(3:Int),())with
       |none=>none
       |some v42=>
       ai (
        match ar (v1.1,v1.2.1,v40.1,(IntKind.i64.wrap (v41.1*(IntKind.i64.wrap (Int.tdiv v42.1 (2:Int))))),())with
        |none=>none
        |some v43=>
        match ac ah (v42.2.1,((0:Int),[],[],[],()),((0:Int),(0:Int),(0:Int),(0:Int),(0:Int),()),((0:Int),(0:Int),((0:Int),(0:Int),(0:Int),(0:Int),(0:Int),()),[],()),v1.1,v1.2.1,v43.1,(0:Int),())with
        |none=>none
        |some (.inl v44)=>
         match aa (v44.1,(24:Int),())with
         |none=>none
         |some v46=>
         match(v46.1==(0:Int))with
         |true=>
          match av (v46.2.1,())with
          |none=>none
          |some v47=>
          ag (
           some (v44.2.2.2.2.1,v44.2.2.2.2.2.1,(v44.2.2.2.2.2.2.1.1,v44.2.2.2.2.2.2.1.2.1,v47.1,v44.2.2.2.2.2.2.1.2.2.2.1,()),v47.2.1,())) (
           ai (
            some (v44.2.2.2.2.1,v44.2.2.2.2.2.1,(v44.2.2.2.2.2.2.1.1,v44.2.2.2.2.2.2.1.2.1,v47.1,v44.2.2.2.2.2.2.1.2.2.2.1,()),v47.2.1,())))
         |false=>
          ag (
           some (v44.2.2.2.2.1,v44.2.2.2.2.2.1,v44.2.2.2.2.2.2.1,v46.2.1,())) (
           ai (
            some (v44.2.2.2.2.1,v44.2.2.2.2.2.1,v44.2.2.2.2.2.2.1,v46.2.1,())))
        |some (.inr v48)=>
         none)) (
       match aa (v41.2.1,(3:Int),())with
       |none=>none
       |some v42=>
       match ar (v1.1,v1.2.1,v40.1,(IntKind.i64.wrap (v41.1*(IntKind.i64.wrap (Int.tdiv v42.1 (2:Int))))),())with
       |none=>none
       |some v43=>
       match ac ah (v42.2.1,((0:Int),[],[],[],()),((0:Int),(0:Int),(0:Int),(0:Int),(0:Int),()),((0:Int),(0:Int),((0:Int),(0:Int),(0:Int),(0:Int),(0:Int),()),[],()),v1.1,v1.2.1,v43.1,(0:Int),())with
       |none=>none
       |some (.inl v44)=>
        match aa (v44.1,(24:Int),())with
        |none=>none
        |some v46=>
        match(v46.1==(0:Int))with
        |true=>
         match av (v46.2.1,())with
         |none=>none
         |some v47=>
         ag (
          some (v44.2.2.2.2.1,v44.2.2.2.2.2.1,(v44.2.2.2.2.2.2.1.1,v44.2.2.2.2.2.2.1.2.1,v47.1,v44.2.2.2.2.2.2.1.2.2.2.1,()),v47.2.1,())) (
          ai (
           some (v44.2.2.2.2.1,v44.2.2.2.2.2.1,(v44.2.2.2.2.2.2.1.1,v44.2.2.2.2.2.2.1.2.1,v47.1,v44.2.2.2.2.2.2.1.2.2.2.1,()),v47.2.1,())))
        |false=>
         ag (
          some (v44.2.2.2.2.1,v44.2.2.2.2.2.1,v44.2.2.2.2.2.2.1,v46.2.1,())) (
          ai (
           some (v44.2.2.2.2.1,v44.2.2.2.2.2.1,v44.2.2.2.2.2.2.1,v46.2.1,())))
       |some (.inr v48)=>
        none)) (
      match aa (v40.2.1,(8:Int),())with
      |none=>none
      |some v41=>
      match aa (v41.2.1,(3:Int),())with
      |none=>none
      |some v42=>
      match ar (v1.1,v1.2.1,v40.1,(IntKind.i64.wrap (v41.1*(IntKind.i64.wrap (Int.tdiv v42.1 (2:Int))))),())with
      |none=>none
      |some v43=>
      match ac ah (v42.2.1,((0:Int),[],[],[],()),((0:Int),(0:Int),(0:Int),(0:Int),(0:Int),()),((0:Int),(0:Int),((0:Int),(0:Int),(0:Int),(0:Int),(0:Int),()),[],()),v1.1,v1.2.1,v43.1,(0:Int),())with
      |none=>none
      |some (.inl v44)=>
       match aa (v44.1,(24:Int),())with
       |none=>none
       |some v46=>
       match(v46.1==(0:Int))with
       |true=>
        match av (v46.2.1,())with
        |none=>none
        |some v47=>
        ag (
         some (v44.2.2.2.2.1,v44.2.2.2.2.2.1,(v44.2.2.2.2.2.2.1.1,v44.2.2.2.2.2.2.1.2.1,v47.1,v44.2.2.2.2.2.2.1.2.2.2.1,()),v47.2.1,())) (
         ai (
          some (v44.2.2.2.2.1,v44.2.2.2.2.2.1,(v44.2.2.2.2.2.2.1.1,v44.2.2.2.2.2.2.1.2.1,v47.1,v44.2.2.2.2.2.2.1.2.2.2.1,()),v47.2.1,())))
       |false=>
        ag (
         some (v44.2.2.2.2.1,v44.2.2.2.2.2.1,v44.2.2.2.2.2.2.1,v46.2.1,())) (
         ai (
          some (v44.2.2.2.2.1,v44.2.2.2.2.2.1,v44.2.2.2.2.2.2.1,v46.2.1,())))
      |some (.inr v48)=>
       none)) (
     match aa (v4.2.1,(256:Int),())with
     |none=>none
     |some v40=>
     match aa (v40.2.1,(8:Int),())with
     |none=>none
     |some v41=>
     match aa (v41.2.1,(3:Int),())with
     |none=>none
     |some v42=>
     match ar (v1.1,v1.2.1,v40.1,(IntKind.i64.wrap (v41.1*(IntKind.i64.wrap (Int.tdiv v42.1 (2:Int))))),())with
     |none=>none
     |some v43=>
     match ac ah (v42.2.1,((0:Int),[],[],[],()),((0:Int),(0:Int),(0:Int),(0:Int),(0:Int),()),((0:Int),(0:Int),((0:Int),(0:Int),(0:Int),(0:Int),(0:Int),()),[],()),v1.1,v1.2.1,v43.1,(0:Int),())with
     |none=>none
     |some (.inl v44)=>
      match aa (v44.1,(24:Int),())with
      |none=>none
      |some v46=>
      match(v46.1==(0:Int))with
      |true=>
       match av (v46.2.1,())with
       |none=>none
       |some v47=>
       ag (
        some (v44.2.2.2.2.1,v44.2.2.2.2.2.1,(v44.2.2.2.2.2.2.1.1,v44.2.2.2.2.2.2.1.2.1,v47.1,v44.2.2.2.2.2.2.1.2.2.2.1,()),v47.2.1,())) (
        ai (
         some (v44.2.2.2.2.1,v44.2.2.2.2.2.1,(v44.2.2.2.2.2.2.1.1,v44.2.2.2.2.2.2.1.2.1,v47.1,v44.2.2.2.2.2.2.1.2.2.2.1,()),v47.2.1,())))
      |false=>
       ag (
        some (v44.2.2.2.2.1,v44.2.2.2.2.2.1,v44.2.2.2.2.2.2.1,v46.2.1,())) (
        ai (
         some (v44.2.2.2.2.1,v44.2.2.2.2.2.1,v44.2.2.2.2.2.2.1,v46.2.1,())))
     |some (.inr v48)=>
      none)) (
    ag (
     match aa (v4.2.1,(256:Int),())with
     |none=>none
     |some v40=>
     ag (
      ag (
       match aa (v40.2.1,(8:Int),())with
       |none=>none
       |some v41=>
       ag (
        match aa (v41.2.1,(3:Int),())with
        |none=>none
        |some v42=>
        ai (
         match ar (v1.1,v1.2.1,v40.1,(IntKind.i64.wrap (v41.1*(IntKind.i64.wrap (Int.tdiv v42.1 (2:Int))))),())with
         |none=>none
         |some v43=>
         match ac ah (v42.2.1,((0:Int),[],[],[],()),((0:Int),(0:Int),(0:Int),(0:Int),(0:Int),()),((0:Int),(0:Int),((0:Int),(0:Int),(0:Int),(0:Int),(0:Int),()),[],()),v1.1,v1.2.1,v43.1,(0:Int),())with
         |none=>none
         |some (.inl v44)=>
          match aa (v44.1,(24:Int),())with
          |none=>none
          |some v46=>
          match(v46.1==(0:Int))with
          |true=>
           match av (v46.2.1,())with
           |none=>none
           |some v47=>
           ag (
            some (v44.2.2.2.2.1,v44.2.2.2.2.2.1,(v44.2.2.2.2.2.2.1.1,v44.2.2.2.2.2.2.1.2.1,v47.1,v44.2.2.2.2.2.2.1.2.2.2.1,()),v47.2.1,())) (
            ai (
             some (v44.2.2.2.2.1,v44.2.2.2.2.2.1,(v44.2.2.2.2.2.2.1.1,v44.2.2.2.2.2.2.1.2.1,v47.1,v44.2.2.2.2.2.2.1.2.2.2.1,()),v47.2.1,())))
          |false=>
           ag (
            some (v44.2.2.2.2.1,v44.2.2.2.2.2.1,v44.2.2.2.2.2.2.1,v46.2.1,())) (
            ai (
             some (v44.2.2.2.2.1,v44.2.2.2.2.2.1,v44.2.2.2.2.2.2.1,v46.2.1,())))
         |some (.inr v48)=>
          none)) (
        match aa (v41.2.1,(3:Int),())with
        |none=>none
        |some v42=>
        match ar (v1.1,v1.2.1,v40.1,(IntKind.i64.wrap (v41.1*(IntKind.i64.wrap (Int.tdiv v42.1 (2:Int))))),())with
        |none=>none
        |some v43=>
        match ac ah (v42.2.1,((0:Int),[],[],[],()),((0:Int),(0:Int),(0:Int),(0:Int),(0:Int),()),((0:Int),(0:Int),((0:Int),(0:Int),(0:Int),(0:Int),(0:Int),()),[],()),v1.1,v1.2.1,v43.1,(0:Int),())with
        |none=>none
        |some (.inl v44)=>
         match aa (v44.1,(24:Int),())with
         |none=>none
         |some v46=>
         match(v46.1==(0:Int))with
         |true=>
          match av (v46.2.1,())with
          |none=>none
          |some v47=>
          ag (
           some (v44.2.2.2.2.1,v44.2.2.2.2.2.1,(v44.2.2.2.2.2.2.1.1,v44.2.2.2.2.2.2.1.2.1,v47.1,v44.2.2.2.2.2.2.1.2.2.2.1,()),v47.2.1,())) (
           ai (
            some (v44.2.2.2.2.1,v44.2.2.2.2.2.1,(v44.2.2.2.2.2.2.1.1,v44.2.2.2.2.2.2.1.2.1,v47.1,v44.2.2.2.2.2.2.1.2.2.2.1,()),v47.2.1,())))
         |false=>
          ag (
           some (v44.2.2.2.2.1,v44.2.2.2.2.2.1,v44.2.2.2.2.2.2.1,v46.2.1,())) (
           ai (
            some (v44.2.2.2.2.1,v44.2.2.2.2.2.1,v44.2.2.2.2.2.2.1,v46.2.1,())))
        |some (.inr v48)=>
         none)) (
       match aa (v40.2.1,(8:Int),())with
       |none=>none
       |some v41=>
       match aa (v41.2.1,(3:Int),())with
       |none=>none
       |some v42=>
       match ar (v1.1,v1.2.1,v40.1,(IntKind.i64.wrap (v41.1*(IntKind.i64.wrap (Int.tdiv v42.1 (2:Int))))),())with
       |none=>none
       |some v43=>
       match ac ah (v42.2.1,((0:Int),[],[],[],()),((0:Int),(0:Int),(0:Int),(0:Int),(0:Int),()),((0:Int),(0:Int),((0:Int),(0:Int),(0:Int),(0:Int),(0:Int),()),[],()),v1.1,v1.2.1,v43.1,(0:Int),())with
       |none=>none
       |some (.inl v44)=>
        match aa (v44.1,(24:Int),())with
        |none=>none
        |some v46=>
        match(v46.1==(0:Int))with
        |true=>
         match av (v46.2.1,())with
         |none=>none
         |some v47=>
         ag (
          some (v44.2.2.2.2.1,v44.2.2.2.2.2.1,(v44.2.2.2.2.2.2.1.1,v44.2.2.2.2.2.2.1.2.1,v47.1,v44.2.2.2.2.2.2.1.2.2.2.1,()),v47.2.1,())) (
          ai (
           some (v44.2.2.2.2.1,v44.2.2.2.2.2.1,(v44.2.2.2.2.2.2.1.1,v44.2.2.2.2.2.2.1.2.1,v47.1,v44.2.2.2.2.2.2.1.2.2.2.1,()),v47.2.1,())))
        |false=>
         ag (
          some (v44.2.2.2.2.1,v44.2.2.2.2.2.1,v44.2.2.2.2.2.2.1,v46.2.1,())) (
          ai (
           some (v44.2.2.2.2.1,v44.2.2.2.2.2.1,v44.2.2.2.2.2.2.1,v46.2.1,())))
       |some (.inr v48)=>
        none)) (
      ag (
       match aa (v40.2.1,(8:Int),())with
       |none=>none
       |some v41=>
       ag (
        ag (
         match aa (v41.2.1,(3:Int),())with
         |none=>none
         |some v42=>
         ai (
          match ar (v1.1,v1.2.1,v40.1,(IntKind.i64.wrap (v41.1*(IntKind.i64.wrap (Int.tdiv v42.1 (2:Int))))),())with
          |none=>none
          |some v43=>
          match ac ah (v42.2.1,((0:Int),[],[],[],()),((0:Int),(0:Int),(0:Int),(0:Int),(0:Int),()),((0:Int),(0:Int),((0:Int),(0:Int),(0:Int),(0:Int),(0:Int),()),[],()),v1.1,v1.2.1,v43.1,(0:Int),())with
          |none=>none
          |some (.inl v44)=>
           match aa (v44.1,(24:Int),())with
           |none=>none
           |some v46=>
           match(v46.1==(0:Int))with
           |true=>
            match av (v46.2.1,())with
            |none=>none
            |some v47=>
            ag (
             some (v44.2.2.2.2.1,v44.2.2.2.2.2.1,(v44.2.2.2.2.2.2.1.1,v44.2.2.2.2.2.2.1.2.1,v47.1,v44.2.2.2.2.2.2.1.2.2.2.1,()),v47.2.1,())) (
             ai (
              some (v44.2.2.2.2.1,v44.2.2.2.2.2.1,(v44.2.2.2.2.2.2.1.1,v44.2.2.2.2.2.2.1.2.1,v47.1,v44.2.2.2.2.2.2.1.2.2.2.1,()),v47.2.1,())))
           |false=>
            ag (
             some (v44.2.2.2.2.1,v44.2.2.2.2.2.1,v44.2.2.2.2.2.2.1,v46.2.1,())) (
             ai (
              some (v44.2.2.2.2.1,v44.2.2.2.2.2.1,v44.2.2.2.2.2.2.1,v46.2.1,())))
          |some (.inr v48)=>
           none)) (
         match aa (v41.2.1,(3:Int),())with
         |none=>none
         |some v42=>
         match ar (v1.1,v1.2.1,v40.1,(IntKind.i64.wrap (v41.1*(IntKind.i64.wrap (Int.tdiv v42.1 (2:Int))))),())with
         |none=>none
         |some v43=>
         match ac ah (v42.2.1,((0:Int),[],[],[],()),((0:Int),(0:Int),(0:Int),(0:Int),(0:Int),()),((0:Int),(0:Int),((0:Int),(0:Int),(0:Int),(0:Int),(0:Int),()),[],()),v1.1,v1.2.1,v43.1,(0:Int),())with
         |none=>none
         |some (.inl v44)=>
          match aa (v44.1,(24:Int),())with
          |none=>none
          |some v46=>
          match(v46.1==(0:Int))with
          |true=>
           match av (v46.2.1,())with
           |none=>none
           |some v47=>
           ag (
            some (v44.2.2.2.2.1,v44.2.2.2.2.2.1,(v44.2.2.2.2.2.2.1.1,v44.2.2.2.2.2.2.1.2.1,v47.1,v44.2.2.2.2.2.2.1.2.2.2.1,()),v47.2.1,())) (
            ai (
             some (v44.2.2.2.2.1,v44.2.2.2.2.2.1,(v44.2.2.2.2.2.2.1.1,v44.2.2.2.2.2.2.1.2.1,v47.1,v44.2.2.2.2.2.2.1.2.2.2.1,()),v47.2.1,())))
          |false=>
           ag (
            some (v44.2.2.2.2.1,v44.2.2.2.2.2.1,v44.2.2.2.2.2.2.1,v46.2.1,())) (
            ai (
             some (v44.2.2.2.2.1,v44.2.2.2.2.2.1,v44.2.2.2.2.2.2.1,v46.2.1,())))
         |some (.inr v48)=>
          none)) (
        ag (
         match aa (v41.2.1,(3:Int),())with
         |none=>none
         |some v42=>
         ag (
          ai (
           match ar (v1.1,v1.2.1,v40.1,(IntKind.i64.wrap (v41.1*(IntKind.i64.wrap (Int.tdiv v42.1 (2:Int))))),())with
           |none=>none
           |some v43=>
           match ac ah (v42.2.1,((0:Int),[],[],[],()),((0:Int),(0:Int),(0:Int),(0:Int),(0:Int),()),((0:Int),(0:Int),((0:Int),(0:Int),(0:Int),(0:Int),(0:Int),()),[],()),v1.1,v1.2.1,v43.1,(0:Int),())with
           |none=>none
           |some (.inl v44)=>
            match aa (v44.1,(24:Int),())with
            |none=>none
            |some v46=>
            match(v46.1==(0:Int))with
            |true=>
             match av (v46.2.1,())with
             |none=>none
             |some v47=>
             ag (
              some (v44.2.2.2.2.1,v44.2.2.2.2.2.1,(v44.2.2.2.2.2.2.1.1,v44.2.2.2.2.2.2.1.2.1,v47.1,v44.2.2.2.2.2.2.1.2.2.2.1,()),v47.2.1,())) (
              ai (
               some (v44.2.2.2.2.1,v44.2.2.2.2.2.1,(v44.2.2.2.2.2.2.1.1,v44.2.2.2.2.2.2.1.2.1,v47.1,v44.2.2.2.2.2.2.1.2.2.2.1,()),v47.2.1,())))
            |false=>
             ag (
              some (v44.2.2.2.2.1,v44.2.2.2.2.2.1,v44.2.2.2.2.2.2.1,v46.2.1,())) (
              ai (
               some (v44.2.2.2.2.1,v44.2.2.2.2.2.1,v44.2.2.2.2.2.2.1,v46.2.1,())))
           |some (.inr v48)=>
            none)) (
          match ar (v1.1,v1.2.1,v40.1,(IntKind.i64.wrap (v41.1*(IntKind.i64.wrap (Int.tdiv v42.1 (2:Int))))),())with
          |none=>none
          |some v43=>
          match ac ah (v42.2.1,((0:Int),[],[],[],()),((0:Int),(0:Int),(0:Int),(0:Int),(0:Int),()),((0:Int),(0:Int),((0:Int),(0:Int),(0:Int),(0:Int),(0:Int),()),[],()),v1.1,v1.2.1,v43.1,(0:Int),())with
          |none=>none
          |some (.inl v44)=>
           match aa (v44.1,(24:Int),())with
           |none=>none
           |some v46=>
           match(v46.1==(0:Int))with
           |true=>
            match av (v46.2.1,())with
            |none=>none
            |some v47=>
            ag (
             some (v44.2.2.2.2.1,v44.2.2.2.2.2.1,(v44.2.2.2.2.2.2.1.1,v44.2.2.2.2.2.2.1.2.1,v47.1,v44.2.2.2.2.2.2.1.2.2.2.1,()),v47.2.1,())) (
             ai (
              some (v44.2.2.2.2.1,v44.2.2.2.2.2.1,(v44.2.2.2.2.2.2.1.1,v44.2.2.2.2.2.2.1.2.1,v47.1,v44.2.2.2.2.2.2.1.2.2.2.1,()),v47.2.1,())))
           |false=>
            ag (
             some (v44.2.2.2.2.1,v44.2.2.2.2.2.1,v44.2.2.2.2.2.2.1,v46.2.1,())) (
             ai (
              some (v44.2.2.2.2.1,v44.2.2.2.2.2.1,v44.2.2.2.2.2.2.1,v46.2.1,())))
          |some (.inr v48)=>
           none)) (
         ai (
          match aa (v41.2.1,(3:Int),())with
          |none=>none
          |some v42=>
          match ar (v1.1,v1.2.1,v40.1,(IntKind.i64.wrap (v41.1*(IntKind.i64.wrap (Int.tdiv v42.1 (2:Int))))),())with
          |none=>none
          |some v43=>
          match ac ah (v42.2.1,((0:Int),[],[],[],()),((0:Int),(0:Int),(0:Int),(0:Int),(0:Int),()),((0:Int),(0:Int),((0:Int),(0:Int),(0:Int),(0:Int),(0:Int),()),[],()),v1.1,v1.2.1,v43.1,(0:Int),())with
          |none=>none
          |some (.inl v44)=>
           match aa (v44.1,(24:Int),())with
           |none=>none
           |some v46=>
           match(v46.1==(0:Int))with
           |true=>
            match av (v46.2.1,())with
            |none=>none
            |some v47=>
            ag (
             some (v44.2.2.2.2.1,v44.2.2.2.2.2.1,(v44.2.2.2.2.2.2.1.1,v44.2.2.2.2.2.2.1.2.1,v47.1,v44.2.2.2.2.2.2.1.2.2.2.1,()),v47.2.1,())) (
             ai (
              some (v44.2.2.2.2.1,v44.2.2.2.2.2.1,(v44.2.2.2.2.2.2.1.1,v44.2.2.2.2.2.2.1.2.1,v47.1,v44.2.2.2.2.2.2.1.2.2.2.1,()),v47.2.1,())))
           |false=>
            ag (
             some (v44.2.2.2.2.1,v44.2.2.2.2.2.1,v44.2.2.2.2.2.2.1,v46.2.1,())) (
             ai (
              some (v44.2.2.2.2.1,v44.2.2.2.2.2.1,v44.2.2.2.2.2.2.1,v46.2.1,())))
          |some (.inr v48)=>
           none)))) (
       ag (
        match aa (v40.2.1,(8:Int),())with
        |none=>none
        |some v41=>
        match aa (v41.2.1,(3:Int),())with
        |none=>none
        |some v42=>
        match ar (v1.1,v1.2.1,v40.1,(IntKind.i64.wrap (v41.1*(IntKind.i64.wrap (Int.tdiv v42.1 (2:Int))))),())with
        |none=>none
        |some v43=>
        match ac ah (v42.2.1,((0:Int),[],[],[],()),((0:Int),(0:Int),(0:Int),(0:Int),(0:Int),()),((0:Int),(0:Int),((0:Int),(0:Int),(0:Int),(0:Int),(0:Int),()),[],()),v1.1,v1.2.1,v43.1,(0:Int),())with
        |none=>none
        |some (.inl v44)=>
         match aa (v44.1,(24:Int),())with
         |none=>none
         |some v46=>
         match(v46.1==(0:Int))with
         |true=>
          match av (v46.2.1,())with
          |none=>none
          |some v47=>
          ag (
           some (v44.2.2.2.2.1,v44.2.2.2.2.2.1,(v44.2.2.2.2.2.2.1.1,v44.2.2.2.2.2.2.1.2.1,v47.1,v44.2.2.2.2.2.2.1.2.2.2.1,()),v47.2.1,())) (
           ai (
            some (v44.2.2.2.2.1,v44.2.2.2.2.2.1,(v44.2.2.2.2.2.2.1.1,v44.2.2.2.2.2.2.1.2.1,v47.1,v44.2.2.2.2.2.2.1.2.2.2.1,()),v47.2.1,())))
         |false=>
          ag (
           some (v44.2.2.2.2.1,v44.2.2.2.2.2.1,v44.2.2.2.2.2.2.1,v46.2.1,())) (
           ai (
            some (v44.2.2.2.2.1,v44.2.2.2.2.2.1,v44.2.2.2.2.2.2.1,v46.2.1,())))
        |some (.inr v48)=>
         none) (
        match aa (v40.2.1,(8:Int),())with
        |none=>none
        |some v41=>
        ai (
         match aa (v41.2.1,(3:Int),())with
         |none=>none
         |some v42=>
         match ar (v1.1,v1.2.1,v40.1,(IntKind.i64.wrap (v41.1*(IntKind.i64.wrap (Int.tdiv v42.1 (2:Int))))),())with
         |none=>none
         |some v43=>
         match ac ah (v42.2.1,((0:Int),[],[],[],()),((0:Int),(0:Int),(0:Int),(0:Int),(0:Int),()),((0:Int),(0:Int),((0:Int),(0:Int),(0:Int),(0:Int),(0:Int),()),[],()),v1.1,v1.2.1,v43.1,(0:Int),())with
         |none=>none
         |some (.inl v44)=>
          match aa (v44.1,(24:Int),())with
          |none=>none
          |some v46=>
          match(v46.1==(0:Int))with
          |true=>
           match av (v46.2.1,())with
           |none=>none
           |some v47=>
           ag (
            some (v44.2.2.2.2.1,v44.2.2.2.2.2.1,(v44.2.2.2.2.2.2.1.1,v44.2.2.2.2.2.2.1.2.1,v47.1,v44.2.2.2.2.2.2.1.2.2.2.1,()),v47.2.1,())) (
            ai (
             some (v44.2.2.2.2.1,v44.2.2.2.2.2.1,(v44.2.2.2.2.2.2.1.1,v44.2.2.2.2.2.2.1.2.1,v47.1,v44.2.2.2.2.2.2.1.2.2.2.1,()),v47.2.1,())))
          |false=>
           ag (
            some (v44.2.2.2.2.1,v44.2.2.2.2.2.1,v44.2.2.2.2.2.2.1,v46.2.1,())) (
            ai (
             some (v44.2.2.2.2.1,v44.2.2.2.2.2.1,v44.2.2.2.2.2.2.1,v46.2.1,())))
         |some (.inr v48)=>
          none))))) (
     ag (
      match aa (v4.2.1,(256:Int),())with
      |none=>none
      |some v40=>
      match aa (v40.2.1,(8:Int),())with
      |none=>none
      |some v41=>
      match aa (v41.2.1,(3:Int),())with
      |none=>none
      |some v42=>
      match ar (v1.1,v1.2.1,v40.1,(IntKind.i64.wrap (v41.1*(IntKind.i64.wrap (Int.tdiv v42.1 (2:Int))))),())with
      |none=>none
      |some v43=>
      match ac ah (v42.2.1,((0:Int),[],[],[],()),((0:Int),(0:Int),(0:Int),(0:Int),(0:Int),()),((0:Int),(0:Int),((0:Int),(0:Int),(0:Int),(0:Int),(0:Int),()),[],()),v1.1,v1.2.1,v43.1,(0:Int),())with
      |none=>none
      |some (.inl v44)=>
       match aa (v44.1,(24:Int),())with
       |none=>none
       |some v46=>
       match(v46.1==(0:Int))with
       |true=>
        match av (v46.2.1,())with
        |none=>none
        |some v47=>
        ag (
         some (v44.2.2.2.2.1,v44.2.2.2.2.2.1,(v44.2.2.2.2.2.2.1.1,v44.2.2.2.2.2.2.1.2.1,v47.1,v44.2.2.2.2.2.2.1.2.2.2.1,()),v47.2.1,())) (
         ai (
          some (v44.2.2.2.2.1,v44.2.2.2.2.2.1,(v44.2.2.2.2.2.2.1.1,v44.2.2.2.2.2.2.1.2.1,v47.1,v44.2.2.2.2.2.2.1.2.2.2.1,()),v47.2.1,())))
       |false=>
        ag (
         some (v44.2.2.2.2.1,v44.2.2.2.2.2.1,v44.2.2.2.2.2.2.1,v46.2.1,())) (
         ai (
          some (v44.2.2.2.2.1,v44.2.2.2.2.2.1,v44.2.2.2.2.2.2.1,v46.2.1,())))
      |some (.inr v48)=>
       none) (
      match aa (v4.2.1,(256:Int),())with
      |none=>none
      |some v40=>
      ag (
       match aa (v40.2.1,(8:Int),())with
       |none=>none
       |some v41=>
       match aa (v41.2.1,(3:Int),())with
       |none=>none
       |some v42=>
       match ar (v1.1,v1.2.1,v40.1,(IntKind.i64.wrap (v41.1*(IntKind.i64.wrap (Int.tdiv v42.1 (2:Int))))),())with
       |none=>none
       |some v43=>
       match ac ah (v42.2.1,((0:Int),[],[],[],()),((0:Int),(0:Int),(0:Int),(0:Int),(0:Int),()),((0:Int),(0:Int),((0:Int),(0:Int),(0:Int),(0:Int),(0:Int),()),[],()),v1.1,v1.2.1,v43.1,(0:Int),())with
       |none=>none
       |some (.inl v44)=>
        match aa (v44.1,(24:Int),())with
        |none=>none
        |some v46=>
        match(v46.1==(0:Int))with
        |true=>
         match av (v46.2.1,())with
         |none=>none
         |some v47=>
         ag (
          some (v44.2.2.2.2.1,v44.2.2.2.2.2.1,(v44.2.2.2.2.2.2.1.1,v44.2.2.2.2.2.2.1.2.1,v47.1,v44.2.2.2.2.2.2.1.2.2.2.1,()),v47.2.1,())) (
          ai (
           some (v44.2.2.2.2.1,v44.2.2.2.2.2.1,(v44.2.2.2.2.2.2.1.1,v44.2.2.2.2.2.2.1.2.1,v47.1,v44.2.2.2.2.2.2.1.2.2.2.1,()),v47.2.1,())))
        |false=>
         ag (
          some (v44.2.2.2.2.1,v44.2.2.2.2.2.1,v44.2.2.2.2.2.2.1,v46.2.1,())) (
          ai (
           some (v44.2.2.2.2.1,v44.2.2.2.2.2.1,v44.2.2.2.2.2.2.1,v46.2.1,())))
       |some (.inr v48)=>
        none) (
       match aa (v40.2.1,(8:Int),())with
       |none=>none
       |some v41=>
       ai (
        match aa (v41.2.1,(3:Int),())with
        |none=>none
        |some v42=>
        match ar (v1.1,v1.2.1,v40.1,(IntKind.i64.wrap (v41.1*(IntKind.i64.wrap (Int.tdiv v42.1 (2:Int))))),())with
        |none=>none
        |some v43=>
        match ac ah (v42.2.1,((0:Int),[],[],[],()),((0:Int),(0:Int),(0:Int),(0:Int),(0:Int),()),((0:Int),(0:Int),((0:Int),(0:Int),(0:Int),(0:Int),(0:Int),()),[],()),v1.1,v1.2.1,v43.1,(0:Int),())with
        |none=>none
        |some (.inl v44)=>
         match aa (v44.1,(24:Int),())with
         |none=>none
         |some v46=>
         match(v46.1==(0:Int))with
         |true=>
          match av (v46.2.1,())with
          |none=>none
          |some v47=>
          ag (
           some (v44.2.2.2.2.1,v44.2.2.2.2.2.1,(v44.2.2.2.2.2.2.1.1,v44.2.2.2.2.2.2.1.2.1,v47.1,v44.2.2.2.2.2.2.1.2.2.2.1,()),v47.2.1,())) (
           ai (
            some (v44.2.2.2.2.1,v44.2.2.2.2.2.1,(v44.2.2.2.2.2.2.1.1,v44.2.2.2.2.2.2.1.2.1,v47.1,v44.2.2.2.2.2.2.1.2.2.2.1,()),v47.2.1,())))
         |false=>
          ag (
           some (v44.2.2.2.2.1,v44.2.2.2.2.2.1,v44.2.2.2.2.2.2.1,v46.2.1,())) (
           ai (
            some (v44.2.2.2.2.1,v44.2.2.2.2.2.1,v44.2.2.2.2.2.2.1,v46.2.1,())))
        |some (.inr v48)=>
         none)))))
noncomputable def NJ:ae:=⟨_,tM,gq,rfl,kZ⟩
noncomputable def BU:FuncId→Option ae:=bU [(42,g0),(86,D6),(87,zG),(88,xh),(89,DY),(90,BT),(91,vZ)]
theorem IP:∀f s,BU f=some s→FnOK G0 Tryz.prog f s:=aM ⟨cn,L8,IM,GK,kS,KL,ub,trivial⟩
def xk:aX:=⟨[0,2,3,4,5,6,7,8],pM,0,[0,2,3,4,5,6,7],xj,[],.unit⟩
noncomputable def BV:List aJ:=[xk.spec ah]
theorem Fc:bq VS E3 BU (bo Tryz.f40 BV) Tryz.f40 0 xk ah:=fun x=>by kernel_rfl
theorem BW:FnOK G0 Tryz.prog 40 NJ:=aP VW IP Tryz.func40 BV (by kernel_rfl) (by exact⟨(Fc).lok,trivial⟩) fun x=>by kernel_rfl
noncomputable def gg(x:Ty.T Im):Option (Ty.T UB):=
match qG (x.1,())with
|none=>none
|some v1=>
match kZ ((v1.1.1,v1.1.2.1,v1.1.2.2.1,()),())with
|none=>none
|some v2=>
match ii ((v2.1.1,v2.1.2.1,v2.1.2.2.1,v2.1.2.2.2.1,()),(v2.2.1.1,v2.2.1.2.1,v2.2.1.2.2.1,v2.2.1.2.2.2.1,v2.2.1.2.2.2.2.1,()),(v2.2.2.1.1,v2.2.2.1.2.1,(v2.2.2.1.2.2.1.1,v2.2.2.1.2.2.1.2.1,v2.2.2.1.2.2.1.2.2.1,v2.2.2.1.2.2.1.2.2.2.1,v2.2.2.1.2.2.1.2.2.2.2.1,()),v2.2.2.1.2.2.2.1,()),())with
|none=>none
|some v3=>
match(v3.2.1 != (0:Int))with
|true=>
 ag (
  match eV ((v2.2.2.2.1.1,v2.2.2.2.1.2.1,v2.2.2.2.1.2.2.1,()),(8:Int),())with
  |none=>none
  |some v4=>
  some ((v2.1.1,v2.1.2.1,v2.1.2.2.1,v2.1.2.2.2.1,()),(v2.2.1.1,v2.2.1.2.1,v2.2.1.2.2.1,v2.2.1.2.2.2.1,v2.2.1.2.2.2.2.1,()),v4.1,())) (
  match eV ((v2.2.2.2.1.1,v2.2.2.2.1.2.1,v2.2.2.2.1.2.2.1,()),(8:Int),())with
  |none=>none
  |some v4=>
  ai (
   some ((v2.1.1,v2.1.2.1,v2.1.2.2.1,v2.1.2.2.2.1,()),(v2.2.1.1,v2.2.1.2.1,v2.2.1.2.2.1,v2.2.1.2.2.2.1,v2.2.1.2.2.2.2.1,()),v4.1,())))
|false=>
 match aa ((v2.2.2.2.1.1,v2.2.2.2.1.2.1,v2.2.2.2.1.2.2.1,()),(5:Int),())with
 |none=>none
 |some v5=>
 match(v5.1==(0:Int))with
 |true=>
  match aa ((v5.2.1.1,v5.2.1.2.1,v5.2.1.2.2.1,()),(v3.1.length:Int),())with
  |none=>none
  |some v6=>
  match aa ((v6.2.1.1,v6.2.1.2.1,v6.2.1.2.2.1,()),(256:Int),())with
  |none=>none
  |some v7=>
  ab (au v3.1 v6.1) fun _=>
  match v3.1[v6.1.toNat]? with
  |none=>none
  |some v9=>
  ai (
   some ((v2.1.1,v2.1.2.1,v2.1.2.2.1,v2.1.2.2.2.1,()),(v2.2.1.1,v2.2.1.2.1,v2.2.1.2.2.1,v2.2.1.2.2.2.1,v2.2.1.2.2.2.2.1,()),(v3.1.set v6.1.toNat v7.1),()))
 |false=>
  match(v5.1==(1:Int))with
  |true=>
   match nT ((v5.2.1.1,v5.2.1.2.1,v5.2.1.2.2.1,()),())with
   |none=>none
   |some v10=>
   match gY (v10.1,v2.1.1,(v2.2.1.1,v2.2.1.2.1,v2.2.1.2.2.1,v2.2.1.2.2.2.1,v2.2.1.2.2.2.2.1,()),())with
   |none=>none
   |some v11=>
   some ((v2.1.1,v2.1.2.1,v2.1.2.2.1,v2.1.2.2.2.1,()),(v2.2.1.1,v2.2.1.2.1,v2.2.1.2.2.1,v2.2.1.2.2.2.1,v2.2.1.2.2.2.2.1,()),v11.1,())
  |false=>
   ai (
    some ((v2.1.1,v2.1.2.1,v2.1.2.2.1,v2.1.2.2.2.1,()),(v2.2.1.1,v2.2.1.2.1,v2.2.1.2.2.1,v2.2.1.2.2.2.1,v2.2.1.2.2.2.2.1,()),v3.1,()))
noncomputable def yx:ae:=⟨_,UB,.unit,rfl,gg⟩
theorem xl:FnOK G0 Tryz.prog 8 yx:=an ao (sg vw (sg BL (sg BW (sg sA (sg cn (sg tQ (sg BS (aR)))))))) Tryz.func8
noncomputable def cA(x:Ty.T (.pair (.int .i64) bE)):Option (Ty.T ax):=
match(decide (x.1≥x.2.1))with
|true=>
 some ((decide (x.1≤x.2.2.1)),())
|false=>
 some (false,())
noncomputable def GM:ae:=⟨_,ax,.unit,rfl,cA⟩
theorem dt:FnOK G0 Tryz.prog 74 GM:=an ao aR Tryz.func74
abbrev la:Ty:=(.pair (.int .i64) (.pair (.list aw) bE))
noncomputable def dH(x:(Ty.T la)):Option ((Ty.T la) ⊕ ((Ty.T aO) ⊕ (Ty.T .unit))):=
match(decide (x.2.2.2.1<x.2.2.1))with
|true=>
 ab (au x.2.1 x.2.2.2.1) fun v1=>
 match(!v1.2.2.2.1)with
 |true=>
  if v1.1<0 then none else
  some (.inl ((bits BinOp.or .i64 x.1 (IntKind.i64.wrap ((1:Int)*2^min v1.1.toNat IntKind.i64.bits))),x.2.1,x.2.2.1,(IntKind.i64.wrap (x.2.2.2.1+(1:Int))),()))
 |false=>
  some (.inl (x.1,x.2.1,x.2.2.1,(IntKind.i64.wrap (x.2.2.2.1+(1:Int))),()))
|false=>
 some (.inr (.inl (x.1,())))
noncomputable def hI(x:Ty.T Il):Option (Ty.T aO):=
match ac dH ((0:Int),x.1,(x.1.length:Int),(0:Int),())with
|none=>none
|some (.inl v2)=>
 some (v2.1,())
|some (.inr v4)=>
 none
noncomputable def uc:ae:=⟨_,aO,.unit,rfl,hI⟩
noncomputable def sB:FuncId→Option ae:=bU []
theorem Az:∀f s,sB f=some s→FnOK G0 Tryz.prog f s:=aM trivial
def qK:aX:=⟨[3,6,7,8],la,0,[3],aO,[],.unit⟩
noncomputable def sC:List aJ:=[qK.spec dH]
theorem yy:bq bI E0 sB (bo Tryz.f172 sC) Tryz.f172 0 qK dH:=fun x=>by kernel_rfl
theorem mm:FnOK G0 Tryz.prog 172 uc:=aP ao Az Tryz.func172 sC (by kernel_rfl) (by exact⟨(yy).lok,trivial⟩) fun x=>by kernel_rfl
noncomputable def Lf(x:Ty.T bE):Option (Ty.T ax):=
if x.2.1<0 then none else
some (((bits BinOp.and .i64 (Int.fdiv x.1 (2^min x.2.1.toNat IntKind.i64.bits)) (1:Int))==(1:Int)),())
noncomputable def Tm:ae:=⟨_,ax,.unit,rfl,Lf⟩
theorem Sh:FnOK G0 Tryz.prog 218 Tm:=an ao aR Tryz.func218
noncomputable def lJ(x:Ty.T (.pair aj (.pair (.ptr ap) .unit))):Option (Ty.T ax):=
match hI (x.2.1.2.1,())with
|none=>none
|some v1=>
match Lf (v1.1,x.1.2.2.2.1.1,())with
|none=>none
|some v2=>
some ((!v2.1),())
noncomputable def Fd:ae:=⟨_,ax,.unit,rfl,lJ⟩
theorem Dq:FnOK G0 Tryz.prog 217 Fd:=an ao (sg mm (sg Sh (aR))) Tryz.func217
noncomputable def lK(x:Ty.T R2):Option (Ty.T ax):=
match(x.1.2.2.2.1.2.1==(3:Int))with
|true=>
 some ((x.1.1 != (0:Int)),())
|false=>
 some (false,())
noncomputable def Fe:ae:=⟨_,ax,.unit,rfl,lK⟩
theorem Dr:FnOK G0 Tryz.prog 219 Fe:=an ao aR Tryz.func219
noncomputable def ud(x:Ty.T aO):Option (Ty.T ax):=
match cA (x.1,(0:Int),(31:Int),())with
|none=>none
|some v1=>
some (v1.1,())
noncomputable def PN:ae:=⟨_,ax,.unit,rfl,ud⟩
theorem D7:FnOK G0 Tryz.prog 130 PN:=an ao (sg dt (aR)) Tryz.func130
noncomputable def ue(x:Ty.T Ui):Option (Ty.T vf):=ab (Gg x.1 x.2.1) fun s=>some (s,())
noncomputable def IQ:ae:=⟨Ui,vf,.unit,rfl,ue⟩
theorem GN:FnOK G0 Tryz.prog 258 IQ:=FnOK.str2_str (oC Tryz.func258 (by kernel_rfl) (show Tryz.f258.body=some (gQ Tryz.f258) by kernel_rfl)) (fun w s t y _ hy=>Px w s t y hy)
noncomputable def lc(x:Ty.T (.pair aw .unit)):Option (Ty.T ax):=
match(decide ((x.1.2.1.length:Int)≥(1:Int)))with
|true=>
 match(decide ((x.1.2.1.length:Int)≤(6:Int)))with
 |true=>
  match ue (x.1.2.1,([97,98,99,100,101,102,103,104,105,106,107,108,109,110,111,112,113,114,115,116,117,118,119,120,121,122,48,49,50,51,52,53,54,55,56,57]:List UInt8),())with
  |none=>none
  |some v1=>
  match(v1.1== [])with
  |true=>
   match ud (x.1.1,())with
   |none=>none
   |some v2=>
   match v2.1 with
   |true=>
    match cA (x.1.2.2.1,(0:Int),(1000:Int),())with
    |none=>none
    |some v3=>
    some (v3.1,())
   |false=>
    some (false,())
  |false=>
   some (false,())
 |false=>
  some (false,())
|false=>
 some (false,())
noncomputable def xm:ae:=⟨_,ax,.unit,rfl,lc⟩
theorem GO:FnOK G0 Tryz.prog 246 xm:=an ao (sg dt (sg D7 (sg GN (aR)))) Tryz.func246
abbrev fH:Ty:=(.pair (.list aw) (.pair (.fn (.pair aw .unit) (.pair .bool .unit)) bE))
noncomputable def bV(x:(Ty.T fH)):Option ((Ty.T fH) ⊕ ((Ty.T .unit) ⊕ (Ty.T aO))):=
match(decide (x.2.2.2.1<x.2.2.1))with
|true=>
 ab (au x.1 x.2.2.2.1) fun v1=>
 match x.2.1 (v1,())with
 |none=>none
 |some v2=>
 match v2.1 with
 |true=>
  some (.inr (.inr (x.2.2.2.1,())))
 |false=>
  some (.inl (x.1,x.2.1,x.2.2.1,(IntKind.i64.wrap (x.2.2.2.1+(1:Int))),()))
|false=>
 some (.inr (.inl (())))
noncomputable def dB(x:Ty.T UJ):Option (Ty.T aO):=
match ac bV (x.1,x.2.1,(x.1.length:Int),(0:Int),())with
|none=>none
|some (.inl v3)=>
 some ((-1:Int),())
|some (.inr v4)=>
 some (v4.1,())
noncomputable def qL:ae:=⟨_,aO,.unit,rfl,dB⟩
noncomputable def jw:FuncId→Option ae:=bU []
theorem oU:∀f s,jw f=some s→FnOK G0 Tryz.prog f s:=aM trivial
def jk:aX:=⟨[0,1,7,8],fH,0,[],.unit,[4],aO⟩
noncomputable def jx:List aJ:=[jk.spec bV]
theorem ol:bq bI E0 jw (bo Tryz.f259 jx) Tryz.f259 0 jk bV:=fun x=>by kernel_rfl
theorem pN:FnOK G0 Tryz.prog 259 qL:=aP ao oU Tryz.func259 jx (by kernel_rfl) (by exact⟨(ol).lok,trivial⟩) fun x=>by kernel_rfl
noncomputable def cw(x:Ty.T UJ):Option (Ty.T ax):=
match dB (x.1,x.2.1,())with
|none=>none
|some v1=>
some ((decide (v1.1≥(0:Int))),())
noncomputable def iK:ae:=⟨_,ax,.unit,rfl,cw⟩
theorem om:FnOK G0 Tryz.prog 247 iK:=an ao (sg pN (aR)) Tryz.func247
noncomputable def iL(x:Ty.T (.pair aw (.pair (.ptr aw) .unit))):Option (Ty.T ax):=
some ((x.1.2.1==x.2.1.2.1),())
noncomputable def sD:ae:=⟨_,ax,.unit,rfl,iL⟩
theorem BX:FnOK G0 Tryz.prog 248 sD:=an ao aR Tryz.func248
abbrev mn:Ty:=(.pair (.list aw) (.pair (.list aw) bE))
noncomputable def ej(x:(Ty.T mn)):Option ((Ty.T mn) ⊕ ((Ty.T Il) ⊕ (Ty.T ax))):=
match(decide (x.2.2.2.1<x.2.2.1))with
|true=>
 ab (au x.2.1 x.2.2.2.1) fun v1=>
 match lc ((v1.1,v1.2.1,v1.2.2.1,v1.2.2.2.1,()),())with
 |none=>none
 |some v2=>
 match(!v2.1)with
 |true=>
  some (.inr (.inr (false,())))
 |false=>
  match(decide (x.2.2.2.1>(0:Int)))with
  |true=>
   ab (au x.1 (IntKind.i64.wrap (x.2.2.2.1-(1:Int)))) fun v3=>
   match(decide (v3.1≥v1.1))with
   |true=>
    some (.inr (.inr (false,())))
   |false=>
    ab (aK x.1.length none (some (.dat (.int .i64) x.2.2.2.1))) fun v4=>
    match cw ((List.drop v4.1 (List.take v4.2 x.1)),(fun z=>iL (z.1,(v1.1,v1.2.1,v1.2.2.1,v1.2.2.2.1,()),())),())with
    |none=>none
    |some v5=>
    match v5.1 with
    |true=>
     some (.inr (.inr (false,())))
    |false=>
     some (.inl (x.1,x.2.1,x.2.2.1,(IntKind.i64.wrap (x.2.2.2.1+(1:Int))),()))
  |false=>
   ab (aK x.1.length none (some (.dat (.int .i64) x.2.2.2.1))) fun v6=>
   match cw ((List.drop v6.1 (List.take v6.2 x.1)),(fun z=>iL (z.1,(v1.1,v1.2.1,v1.2.2.1,v1.2.2.2.1,()),())),())with
   |none=>none
   |some v7=>
   match v7.1 with
   |true=>
    some (.inr (.inr (false,())))
   |false=>
    some (.inl (x.1,x.2.1,x.2.2.1,(IntKind.i64.wrap (x.2.2.2.1+(1:Int))),()))
|false=>
 some (.inr (.inl (x.1,())))
noncomputable def mZ(x:Ty.T Il):Option (Ty.T ax):=
match ac ej (x.1,x.1,(x.1.length:Int),(0:Int),())with
|none=>none
|some (.inl v8)=>
 match(decide ((v8.1.length:Int)≥(1:Int)))with
 |true=>
  some ((decide ((v8.1.length:Int)≤(32:Int))),())
 |false=>
  some (false,())
|some (.inr v9)=>
 some (v9.1,())
noncomputable def GP:ae:=⟨_,ax,.unit,rfl,mZ⟩
noncomputable def uf:FuncId→Option ae:=bU [(246,xm),(247,iK),(248,sD)]
theorem BZ:∀f s,uf f=some s→FnOK G0 Tryz.prog f s:=aM ⟨GO,om,BX,trivial⟩
def sE:aX:=⟨[0,5,6,7],mn,0,[0],Il,[2],ax⟩
noncomputable def ug:List aJ:=[sE.spec ej]
theorem AA:bq bI E0 uf (bo Tryz.f220 ug) Tryz.f220 0 sE ej:=fun x=>by kernel_rfl
theorem Ff:FnOK G0 Tryz.prog 220 GP:=aP ao BZ Tryz.func220 ug (by kernel_rfl) (by exact⟨(AA).lok,trivial⟩) fun x=>by kernel_rfl
abbrev jb:Ty:=Sb
noncomputable def cN(x:(Ty.T jb)):Option ((Ty.T jb) ⊕ ((Ty.T .unit) ⊕ (Ty.T aO))):=
match(decide (x.2.2.2.1<x.2.2.1))with
|true=>
 ab (au x.1 x.2.2.2.1) fun v1=>
 match(x.2.1==v1)with
 |true=>
  some (.inr (.inr (x.2.2.2.1,())))
 |false=>
  some (.inl (x.1,x.2.1,x.2.2.1,(IntKind.i64.wrap (x.2.2.2.1+(1:Int))),()))
|false=>
 some (.inr (.inl (())))
noncomputable def ld(x:Ty.T oE):Option (Ty.T aO):=
match ac cN (x.1,x.2.1,(x.1.length:Int),(0:Int),())with
|none=>none
|some (.inl v2)=>
 some ((-1:Int),())
|some (.inr v3)=>
 some (v3.1,())
noncomputable def yz:ae:=⟨_,aO,.unit,rfl,ld⟩
noncomputable def nU:FuncId→Option ae:=bU []
theorem uX:∀f s,nU f=some s→FnOK G0 Tryz.prog f s:=aM trivial
def mE:aX:=⟨[0,1,7,8],jb,0,[],.unit,[4],aO⟩
noncomputable def nV:List aJ:=[mE.spec cN]
theorem uh:bq bI E0 nU (bo Tryz.f173 nV) Tryz.f173 0 mE cN:=fun x=>by kernel_rfl
theorem xn:FnOK G0 Tryz.prog 173 yz:=aP ao uX Tryz.func173 nV (by kernel_rfl) (by exact⟨(uh).lok,trivial⟩) fun x=>by kernel_rfl
noncomputable def eW(x:Ty.T oE):Option (Ty.T ax):=
match ld (x.1,x.2.1,())with
|none=>none
|some v1=>
some ((decide (v1.1≥(0:Int))),())
noncomputable def iy:ae:=⟨_,ax,.unit,rfl,eW⟩
theorem lf:FnOK G0 Tryz.prog 119 iy:=an ao (sg xn (aR)) Tryz.func119
abbrev pO:Ty:=(.pair (.list (.int .i64)) (.pair (.int .i64) (.pair (.list (.int .i64)) bE)))
noncomputable def fP(x:(Ty.T pO)):Option ((Ty.T pO) ⊕ ((Ty.T .unit) ⊕ (Ty.T ax))):=
match(decide (x.2.2.2.2.1<x.2.2.2.1))with
|true=>
 ab (au x.2.2.1 x.2.2.2.2.1) fun v1=>
 match(decide (v1<(0:Int)))with
 |true=>
  some (.inr (.inr (false,())))
 |false=>
  match(decide (v1≥x.2.1))with
  |true=>
   some (.inr (.inr (false,())))
  |false=>
   match(decide (x.2.2.2.2.1>(0:Int)))with
   |true=>
    ab (au x.1 (IntKind.i64.wrap (x.2.2.2.2.1-(1:Int)))) fun v2=>
    match(decide (v2≥v1))with
    |true=>
     some (.inr (.inr (false,())))
    |false=>
     some (.inl (x.1,x.2.1,x.2.2.1,x.2.2.2.1,(IntKind.i64.wrap (x.2.2.2.2.1+(1:Int))),()))
   |false=>
    some (.inl (x.1,x.2.1,x.2.2.1,x.2.2.2.1,(IntKind.i64.wrap (x.2.2.2.2.1+(1:Int))),()))
|false=>
 some (.inr (.inl (())))
noncomputable def s6(x:Ty.T oE):Option (Ty.T ax):=
match ac fP (x.1,x.2.1,x.1,(x.1.length:Int),(0:Int),())with
|none=>none
|some (.inl v3)=>
 some (true,())
|some (.inr v4)=>
 some (v4.1,())
noncomputable def B0:ae:=⟨_,ax,.unit,rfl,s6⟩
noncomputable def zL:FuncId→Option ae:=bU []
theorem GQ:∀f s,zL f=some s→FnOK G0 Tryz.prog f s:=aM trivial
def xo:aX:=⟨[0,1,7,8,9],pO,0,[],.unit,[4],ax⟩
noncomputable def zM:List aJ:=[xo.spec fP]
theorem Fg:bq bI E0 zL (bo Tryz.f249 zM) Tryz.f249 0 xo fP:=fun x=>by kernel_rfl
theorem KM:FnOK G0 Tryz.prog 249 B0:=aP ao GQ Tryz.func249 zM (by kernel_rfl) (by exact⟨(Fg).lok,trivial⟩) fun x=>by kernel_rfl
abbrev mp:Ty:=(.pair (.list aA) (.pair (.list aA) bE))
noncomputable def el(x:(Ty.T mp)):Option ((Ty.T mp) ⊕ ((Ty.T PB) ⊕ (Ty.T ax))):=
match(decide (x.2.2.2.1<x.2.2.1))with
|true=>
 ab (au x.2.1 x.2.2.2.1) fun v1=>
 match cA (v1.1,(1:Int),(8:Int),())with
 |none=>none
 |some v2=>
 match(!v2.1)with
 |true=>
  some (.inr (.inr (false,())))
 |false=>
  match cA (v1.2.1,(1:Int),(16:Int),())with
  |none=>none
  |some v3=>
  match(!v3.1)with
  |true=>
   some (.inr (.inr (false,())))
  |false=>
   match s6 (v1.2.2.1,(x.1.length:Int),())with
   |none=>none
   |some v4=>
   match(!v4.1)with
   |true=>
    some (.inr (.inr (false,())))
   |false=>
    match eW (v1.2.2.1,x.2.2.2.1,())with
    |none=>none
    |some v5=>
    match v5.1 with
    |true=>
     some (.inr (.inr (false,())))
    |false=>
     some (.inl (x.1,x.2.1,x.2.2.1,(IntKind.i64.wrap (x.2.2.2.1+(1:Int))),()))
|false=>
 some (.inr (.inl (x.1,())))
noncomputable def na(x:Ty.T PB):Option (Ty.T ax):=
match ac el (x.1,x.1,(x.1.length:Int),(0:Int),())with
|none=>none
|some (.inl v6)=>
 match(decide ((v6.1.length:Int)≥(1:Int)))with
 |true=>
  some ((decide ((v6.1.length:Int)≤(16:Int))),())
 |false=>
  some (false,())
|some (.inr v7)=>
 some (v7.1,())
noncomputable def GR:ae:=⟨_,ax,.unit,rfl,na⟩
noncomputable def ui:FuncId→Option ae:=bU [(74,GM),(119,iy),(249,B0)]
theorem B1:∀f s,ui f=some s→FnOK G0 Tryz.prog f s:=aM ⟨dt,lf,KM,trivial⟩
def sF:aX:=⟨[0,5,6,7],mp,0,[0],PB,[2],ax⟩
noncomputable def uj:List aJ:=[sF.spec el]
theorem AB:bq bI E0 ui (bo Tryz.f221 uj) Tryz.f221 0 sF el:=fun x=>by kernel_rfl
theorem Fh:FnOK G0 Tryz.prog 221 GR:=aP ao B1 Tryz.func221 uj (by kernel_rfl) (by exact⟨(AB).lok,trivial⟩) fun x=>by kernel_rfl
noncomputable def uk(x:Ty.T aO):Option (Ty.T ax):=
match cA (x.1,(0:Int),(3:Int),())with
|none=>none
|some v1=>
some (v1.1,())
noncomputable def PO:ae:=⟨_,ax,.unit,rfl,uk⟩
theorem D8:FnOK G0 Tryz.prog 123 PO:=an ao (sg dt (aR)) Tryz.func123
noncomputable def lg(x:Ty.T bE):Option (Ty.T ax):=
match(x.1==(0:Int))with
|true=>
 match cA (x.2.1,(0:Int),(32:Int),())with
 |none=>none
 |some v1=>
 some (v1.1,())
|false=>
 match(x.1==(2:Int))with
 |true=>
  match cA (x.2.1,(1:Int),(32:Int),())with
  |none=>none
  |some v2=>
  some (v2.1,())
 |false=>
  some ((x.2.1==(0:Int)),())
noncomputable def IR:ae:=⟨_,ax,.unit,rfl,lg⟩
theorem vB:FnOK G0 Tryz.prog 124 IR:=an ao (sg dt (aR)) Tryz.func124
noncomputable def fY(x:Ty.T aO):Option (Ty.T ax):=
some ((x.1 != (0:Int)),())
noncomputable def Ma:ae:=⟨_,ax,.unit,rfl,fY⟩
theorem kl:FnOK G0 Tryz.prog 116 Ma:=an ao aR Tryz.func116
noncomputable def iM(x:Ty.T aO):Option (Ty.T ax):=
match(x.1==(0:Int))with
|true=>
 some (true,())
|false=>
 some ((x.1==(2:Int)),())
noncomputable def NK:ae:=⟨_,ax,.unit,rfl,iM⟩
theorem ul:FnOK G0 Tryz.prog 165 NK:=an ao aR Tryz.func165
noncomputable def s7(x:Ty.T bE):Option (Ty.T aO):=
match fY (x.1,())with
|none=>none
|some v1=>
match v1.1 with
|true=>
 match iM (x.1,())with
 |none=>none
 |some v2=>
 match v2.1 with
 |true=>
  some ((IntKind.i64.wrap ((IntKind.i64.wrap ((1:Int)+(8:Int)))+(IntKind.i64.wrap ((1:Int)+x.2.1)))),())
 |false=>
  some ((IntKind.i64.wrap ((1:Int)+(8:Int))),())
|false=>
 match iM (x.1,())with
 |none=>none
 |some v3=>
 match v3.1 with
 |true=>
  some ((IntKind.i64.wrap ((1:Int)+(IntKind.i64.wrap ((1:Int)+x.2.1)))),())
 |false=>
  some ((1:Int),())
noncomputable def Mb:ae:=⟨_,aO,.unit,rfl,s7⟩
theorem KN:FnOK G0 Tryz.prog 182 Mb:=an ao (sg kl (sg ul (aR))) Tryz.func182
noncomputable def km(x:Ty.T bE):Option (Ty.T aO):=
match s7 (x.1,x.2.1,())with
|none=>none
|some v1=>
some ((IntKind.i64.wrap ((11:Int)+(IntKind.i64.wrap ((10:Int)*(IntKind.i64.wrap (v1.1+(3:Int))))))),())
noncomputable def GS:ae:=⟨_,aO,.unit,rfl,km⟩
theorem Fi:FnOK G0 Tryz.prog 131 GS:=an ao (sg KN (aR)) Tryz.func131
noncomputable def eX(x:Ty.T Ba):Option (Ty.T ax):=
match ud (x.1.1,())with
|none=>none
|some v1=>
match(!v1.1)with
|true=>
 some (false,())
|false=>
 match uk (x.1.2.1,())with
 |none=>none
 |some v2=>
 match(!v2.1)with
 |true=>
  some (false,())
 |false=>
  match lg (x.1.2.1,x.1.2.2.1,())with
  |none=>none
  |some v3=>
  match(!v3.1)with
  |true=>
   some (false,())
  |false=>
   match x.1.2.2.2.2.1 with
   |true=>
    match(x.1.2.1==(3:Int))with
    |true=>
     some (false,())
    |false=>
     match km (x.1.2.1,x.1.2.2.1,())with
     |none=>none
     |some v4=>
     match cA (x.1.2.2.2.1,(IntKind.i64.wrap (v4.1+(20:Int))),(1000:Int),())with
     |none=>none
     |some v5=>
     some (v5.1,())
   |false=>
    match km (x.1.2.1,x.1.2.2.1,())with
    |none=>none
    |some v6=>
    match cA (x.1.2.2.2.1,(IntKind.i64.wrap (v6.1+(20:Int))),(1000:Int),())with
    |none=>none
    |some v7=>
    some (v7.1,())
noncomputable def Fj:ae:=⟨_,ax,.unit,rfl,eX⟩
theorem sG:FnOK G0 Tryz.prog 77 Fj:=an ao (sg dt (sg D8 (sg vB (sg D7 (sg Fi (aR)))))) Tryz.func77
noncomputable def lh(x:Ty.T R2):Option (Ty.T ax):=
match cA (x.1.1,(0:Int),(15:Int),())with
|none=>none
|some v1=>
match v1.1 with
|true=>
 match cA (x.1.2.1,(0:Int),(7:Int),())with
 |none=>none
 |some v2=>
 match v2.1 with
 |true=>
  match cA (x.1.2.2.1,(0:Int),(15:Int),())with
  |none=>none
  |some v3=>
  match v3.1 with
  |true=>
   match eX ((x.1.2.2.2.1.1,x.1.2.2.2.1.2.1,x.1.2.2.2.1.2.2.1,x.1.2.2.2.1.2.2.2.1,x.1.2.2.2.1.2.2.2.2.1,()),())with
   |none=>none
   |some v4=>
   some (v4.1,())
  |false=>
   some (false,())
 |false=>
  some (false,())
|false=>
 some (false,())
noncomputable def xp:ae:=⟨_,ax,.unit,rfl,lh⟩
theorem GT:FnOK G0 Tryz.prog 250 xp:=an ao (sg dt (sg sG (aR))) Tryz.func250
noncomputable def nW(x:Ty.T bE):Option (Ty.T aO):=
match(decide (x.1<x.2.1))with
|true=>
 some ((-1:Int),())
|false=>
 match(decide (x.1>x.2.1))with
 |true=>
  some ((1:Int),())
 |false=>
  some ((0:Int),())
noncomputable def NL:ae:=⟨_,aO,.unit,rfl,nW⟩
theorem Mc:FnOK G0 Tryz.prog 260 NL:=an ao aR Tryz.func260
noncomputable def hU(x:Ty.T Un):Option (Ty.T aO):=
match(x.1.1 != x.2.1.1)with
|true=>
 match nW (x.1.1,x.2.1.1,())with
 |none=>none
 |some v1=>
 some (v1.1,())
|false=>
 match(x.1.2.1 != x.2.1.2.1)with
 |true=>
  match nW (x.1.2.1,x.2.1.2.1,())with
  |none=>none
  |some v2=>
  some (v2.1,())
 |false=>
  match nW (x.1.2.2.1,x.2.1.2.2.1,())with
  |none=>none
  |some v3=>
  some (v3.1,())
noncomputable def nm:ae:=⟨_,aO,.unit,rfl,hU⟩
theorem sH:FnOK G0 Tryz.prog 251 nm:=an ao (sg Mc (aR)) Tryz.func251
abbrev mq:Ty:=(.pair (.list aj) (.pair (.list aj) bE))
noncomputable def em(x:(Ty.T mq)):Option ((Ty.T mq) ⊕ ((Ty.T LY) ⊕ (Ty.T ax))):=
match(decide (x.2.2.2.1<x.2.2.1))with
|true=>
 ab (au x.2.1 x.2.2.2.1) fun v1=>
 match lh ((v1.1,v1.2.1,v1.2.2.1,(v1.2.2.2.1.1,v1.2.2.2.1.2.1,v1.2.2.2.1.2.2.1,v1.2.2.2.1.2.2.2.1,v1.2.2.2.1.2.2.2.2.1,()),()),())with
 |none=>none
 |some v2=>
 match(!v2.1)with
 |true=>
  some (.inr (.inr (false,())))
 |false=>
  match(decide (x.2.2.2.1>(0:Int)))with
  |true=>
   ab (au x.1 (IntKind.i64.wrap (x.2.2.2.1-(1:Int)))) fun v3=>
   match hU (v3,(v1.1,v1.2.1,v1.2.2.1,(v1.2.2.2.1.1,v1.2.2.2.1.2.1,v1.2.2.2.1.2.2.1,v1.2.2.2.1.2.2.2.1,v1.2.2.2.1.2.2.2.2.1,()),()),())with
   |none=>none
   |some v4=>
   match(decide (v4.1≥(0:Int)))with
   |true=>
    some (.inr (.inr (false,())))
   |false=>
    some (.inl (x.1,x.2.1,x.2.2.1,(IntKind.i64.wrap (x.2.2.2.1+(1:Int))),()))
  |false=>
   some (.inl (x.1,x.2.1,x.2.2.1,(IntKind.i64.wrap (x.2.2.2.1+(1:Int))),()))
|false=>
 some (.inr (.inl (x.1,())))
noncomputable def nb(x:Ty.T LY):Option (Ty.T ax):=
match ac em (x.1,x.1,(x.1.length:Int),(0:Int),())with
|none=>none
|some (.inl v5)=>
 some ((decide ((v5.1.length:Int)≤(120:Int))),())
|some (.inr v6)=>
 some (v6.1,())
noncomputable def GU:ae:=⟨_,ax,.unit,rfl,nb⟩
noncomputable def um:FuncId→Option ae:=bU [(250,xp),(251,nm)]
theorem B2:∀f s,um f=some s→FnOK G0 Tryz.prog f s:=aM ⟨GT,sH,trivial⟩
def sI:aX:=⟨[0,5,6,7],mq,0,[0],LY,[2],ax⟩
noncomputable def un:List aJ:=[sI.spec em]
theorem AC:bq bI E0 um (bo Tryz.f222 un) Tryz.f222 0 sI em:=fun x=>by kernel_rfl
theorem Fk:FnOK G0 Tryz.prog 222 GU:=aP ao B2 Tryz.func222 un (by kernel_rfl) (by exact⟨(AC).lok,trivial⟩) fun x=>by kernel_rfl
abbrev nn:Ty:=(.pair (.box ap) (.pair (.int .i64) (.pair (.int .i64) (.pair (.box aA) (.pair (.list aA) qw)))))
abbrev uo:Ty:=UE
noncomputable def dI(x:(Ty.T nn)):Option ((Ty.T nn) ⊕ ((Ty.T uo) ⊕ (Ty.T ax))):=
match(decide (x.2.2.2.2.2.2.2.2.1<x.2.2.2.2.2.2.2.1))with
|true=>
 match(x.2.1==(x.1.2.2.2.1.length:Int))with
 |true=>
  some (.inr (.inr (false,())))
 |false=>
  ab (au x.1.2.2.2.1 x.2.1) fun v2=>
  if x.2.2.2.1.2.1=0 then none else
  if x.2.2.2.1.2.1=0 then none else
  match hU (v2,(x.2.2.1,(IntKind.i64.wrap (Int.tdiv x.2.2.2.2.2.2.2.2.1 x.2.2.2.1.2.1)),(Int.tmod x.2.2.2.2.2.2.2.2.1 x.2.2.2.1.2.1),((0:Int),(0:Int),(0:Int),(0:Int),false,()),()),())with
  |none=>none
  |some v3=>
  match(v3.1 != (0:Int))with
  |true=>
   some (.inr (.inr (false,())))
  |false=>
   some (.inl ((x.1.1,x.1.2.1,x.1.2.2.1,x.1.2.2.2.1,()),(IntKind.i64.wrap (x.2.1+(1:Int))),x.2.2.1,(x.2.2.2.1.1,x.2.2.2.1.2.1,x.2.2.2.1.2.2.1,()),x.2.2.2.2.1,x.2.2.2.2.2.1,x.2.2.2.2.2.2.1,x.2.2.2.2.2.2.2.1,(IntKind.i64.wrap (x.2.2.2.2.2.2.2.2.1+(1:Int))),()))
|false=>
 some (.inr (.inl ((x.1.1,x.1.2.1,x.1.2.2.1,x.1.2.2.2.1,()),x.2.1,x.2.2.2.2.1,x.2.2.2.2.2.1,x.2.2.2.2.2.2.1,())))
abbrev np:Ty:=UE
abbrev up:Ty:=PE
noncomputable def dh(x:(Ty.T np)):Option ((Ty.T np) ⊕ ((Ty.T up) ⊕ (Ty.T ax))):=
match(decide (x.2.2.2.2.1<x.2.2.2.1))with
|true=>
 ab (au x.2.2.1 x.2.2.2.2.1) fun v1=>
 match ac dI ((x.1.1,x.1.2.1,x.1.2.2.1,x.1.2.2.2.1,()),x.2.1,x.2.2.2.2.1,(v1.1,v1.2.1,v1.2.2.1,()),x.2.2.1,x.2.2.2.1,x.2.2.2.2.1,(IntKind.i64.wrap (v1.1*v1.2.1)),(0:Int),())with
 |none=>none
 |some (.inl v2)=>
  some (.inl ((v2.1.1,v2.1.2.1,v2.1.2.2.1,v2.1.2.2.2.1,()),v2.2.1,v2.2.2.1,v2.2.2.2.1,(IntKind.i64.wrap (v2.2.2.2.2.1+(1:Int))),()))
 |some (.inr v3)=>
  some (.inr (.inr (v3.1,())))
|false=>
 some (.inr (.inl ((x.1.1,x.1.2.1,x.1.2.2.1,x.1.2.2.2.1,()),x.2.1,())))
noncomputable def li(x:Ty.T pE):Option (Ty.T ax):=
match ac dh ((x.1.1,x.1.2.1,x.1.2.2.1,x.1.2.2.2.1,()),(0:Int),x.1.2.2.1,(x.1.2.2.1.length:Int),(0:Int),())with
|none=>none
|some (.inl v4)=>
 some ((v4.2.1==(v4.1.2.2.2.1.length:Int)),())
|some (.inr v5)=>
 some (v5.1,())
noncomputable def IU:ae:=⟨_,ax,.unit,rfl,li⟩
noncomputable def oV:FuncId→Option ae:=bU [(251,nm)]
theorem Ds:∀f s,oV f=some s→FnOK G0 Tryz.prog f s:=aM ⟨sH,trivial⟩
def uq:aX:=⟨[1,3,8,9,10],np,0,[1,3],up,[2],ax⟩
def ur:aX:=⟨[1,3,4,5,8,9,10,19,20],nn,2,[1,3,8,9,10],uo,[2],ax⟩
noncomputable def oW:List aJ:=[uq.spec dh,ur.spec dI]
theorem B3:bq bI E0 oV (bo Tryz.f223 oW) Tryz.f223 0 uq dh:=fun x=>by kernel_rfl
theorem B4:bq bI E0 oV (bo Tryz.f223 oW) Tryz.f223 1 ur dI:=fun x=>by kernel_rfl
theorem GV:FnOK G0 Tryz.prog 223 IU:=aP ao Ds Tryz.func223 oW (by kernel_rfl) (by exact⟨(B3).lok,(B4).lok,trivial⟩) fun x=>by kernel_rfl
abbrev fI:Ty:=(.pair (.list aj) (.pair (.fn (.pair aj .unit) (.pair .bool .unit)) bE))
noncomputable def bW(x:(Ty.T fI)):Option ((Ty.T fI) ⊕ ((Ty.T .unit) ⊕ (Ty.T aO))):=
match(decide (x.2.2.2.1<x.2.2.1))with
|true=>
 ab (au x.1 x.2.2.2.1) fun v1=>
 match x.2.1 (v1,())with
 |none=>none
 |some v2=>
 match v2.1 with
 |true=>
  some (.inr (.inr (x.2.2.2.1,())))
 |false=>
  some (.inl (x.1,x.2.1,x.2.2.1,(IntKind.i64.wrap (x.2.2.2.1+(1:Int))),()))
|false=>
 some (.inr (.inl (())))
noncomputable def cP(x:Ty.T UK):Option (Ty.T aO):=
match ac bW (x.1,x.2.1,(x.1.length:Int),(0:Int),())with
|none=>none
|some (.inl v3)=>
 some ((-1:Int),())
|some (.inr v4)=>
 some (v4.1,())
noncomputable def qM:ae:=⟨_,aO,.unit,rfl,cP⟩
noncomputable def jy:FuncId→Option ae:=bU []
theorem oX:∀f s,jy f=some s→FnOK G0 Tryz.prog f s:=aM trivial
def jl:aX:=⟨[0,1,7,8],fI,0,[],.unit,[4],aO⟩
noncomputable def jz:List aJ:=[jl.spec bW]
theorem oo:bq bI E0 jy (bo Tryz.f169 jz) Tryz.f169 0 jl bW:=fun x=>by kernel_rfl
theorem jA:FnOK G0 Tryz.prog 169 qM:=aP ao oX Tryz.func169 jz (by kernel_rfl) (by exact⟨(oo).lok,trivial⟩) fun x=>by kernel_rfl
noncomputable def b6(x:Ty.T UK):Option (Ty.T ax):=
match cP (x.1,x.2.1,())with
|none=>none
|some v1=>
some ((decide (v1.1≥(0:Int))),())
noncomputable def oY:ae:=⟨_,ax,.unit,rfl,b6⟩
theorem oq:FnOK G0 Tryz.prog 224 oY:=an ao (sg jA (aR)) Tryz.func224
noncomputable def oZ(x:Ty.T (.pair aj (.pair (.ptr (.int .i64)) (.pair (.ptr (.int .i64)) (.pair (.ptr (.int .i64)) .unit))))):Option (Ty.T ax):=
match(x.1.1==x.2.1)with
|true=>
 match(x.1.2.1==x.2.2.1)with
 |true=>
  some ((x.1.2.2.1==x.2.2.2.1),())
 |false=>
  some (false,())
|false=>
 some (false,())
noncomputable def IV:ae:=⟨_,ax,.unit,rfl,oZ⟩
theorem GX:FnOK G0 Tryz.prog 170 IV:=an ao aR Tryz.func170
noncomputable def lL(x:Ty.T Us):Option (Ty.T aO):=
match cP (x.1,(fun z=>oZ (z.1,x.2.1,x.2.2.1,x.2.2.2.1,())),())with
|none=>none
|some v1=>
some (v1.1,())
noncomputable def B5:ae:=⟨_,aO,.unit,rfl,lL⟩
theorem zN:FnOK G0 Tryz.prog 113 B5:=an ao (sg jA (sg GX (aR))) Tryz.func113
abbrev pP:Ty:=(.pair (.box ap) (.pair (.list aj) bE))
noncomputable def fQ(x:(Ty.T pP)):Option ((Ty.T pP) ⊕ ((Ty.T .unit) ⊕ (Ty.T ax))):=
match(decide (x.2.2.2.1<x.2.2.1))with
|true=>
 ab (au x.2.1 x.2.2.2.1) fun v1=>
 ai (
  match lL (x.1.2.2.2.1,v1.1,(0:Int),v1.2.2.1,())with
  |none=>none
  |some v2=>
  ab (au x.1.2.2.2.1 v2.1) fun v3=>
  match(v1.2.2.2.1.2.2.2.1 != v3.2.2.2.1.2.2.2.1)with
  |true=>
   some (.inr (.inr (false,())))
  |false=>
   some (.inl ((x.1.1,x.1.2.1,x.1.2.2.1,x.1.2.2.2.1,()),x.2.1,x.2.2.1,(IntKind.i64.wrap (x.2.2.2.1+(1:Int))),())))
|false=>
 some (.inr (.inl (())))
noncomputable def o5(x:Ty.T pE):Option (Ty.T ax):=
match ac fQ ((x.1.1,x.1.2.1,x.1.2.2.1,x.1.2.2.2.1,()),x.1.2.2.2.1,(x.1.2.2.2.1.length:Int),(0:Int),())with
|none=>none
|some (.inl v4)=>
 some (true,())
|some (.inr v5)=>
 some (v5.1,())
noncomputable def Md:ae:=⟨_,ax,.unit,rfl,o5⟩
noncomputable def zO:FuncId→Option ae:=bU [(113,B5)]
theorem GY:∀f s,zO f=some s→FnOK G0 Tryz.prog f s:=aM ⟨zN,trivial⟩
def xq:aX:=⟨[1,7,8,9],pP,0,[],.unit,[2],ax⟩
noncomputable def zP:List aJ:=[xq.spec fQ]
theorem Fl:bq bI E0 zO (bo Tryz.f225 zP) Tryz.f225 0 xq fQ:=fun x=>by kernel_rfl
theorem KO:FnOK G0 Tryz.prog 225 Md:=aP ao GY Tryz.func225 zP (by kernel_rfl) (by exact⟨(Fl).lok,trivial⟩) fun x=>by kernel_rfl
abbrev lj:Ty:=(.pair (.int .i64) (.pair (.list aj) bE))
noncomputable def dJ(x:(Ty.T lj)):Option ((Ty.T lj) ⊕ ((Ty.T aO) ⊕ (Ty.T .unit))):=
match(decide (x.2.2.2.1<x.2.2.1))with
|true=>
 ab (au x.2.1 x.2.2.2.1) fun v1=>
 some (.inl ((IntKind.i64.wrap (x.1+v1.2.2.2.1.2.2.2.1)),x.2.1,x.2.2.1,(IntKind.i64.wrap (x.2.2.2.1+(1:Int))),()))
|false=>
 some (.inr (.inl (x.1,())))
noncomputable def lM(x:Ty.T LY):Option (Ty.T aO):=
match ac dJ ((0:Int),x.1,(x.1.length:Int),(0:Int),())with
|none=>none
|some (.inl v2)=>
 some (v2.1,())
|some (.inr v4)=>
 none
noncomputable def ut:ae:=⟨_,aO,.unit,rfl,lM⟩
noncomputable def sJ:FuncId→Option ae:=bU []
theorem AD:∀f s,sJ f=some s→FnOK G0 Tryz.prog f s:=aM trivial
def qN:aX:=⟨[3,6,7,8],lj,0,[3],aO,[],.unit⟩
noncomputable def sK:List aJ:=[qN.spec dJ]
theorem yA:bq bI E0 sJ (bo Tryz.f252 sK) Tryz.f252 0 qN dJ:=fun x=>by kernel_rfl
theorem Dt:FnOK G0 Tryz.prog 252 ut:=aP ao AD Tryz.func252 sK (by kernel_rfl) (by exact⟨(yA).lok,trivial⟩) fun x=>by kernel_rfl
abbrev o6:Ty:=(.pair (.int .i64) (.pair (.own 116 aj) (.pair (.list aj) bE)))
noncomputable def fo(x:(Ty.T o6)):Option ((Ty.T o6) ⊕ ((Ty.T PC) ⊕ (Ty.T .unit))):=
match(decide (x.2.2.2.2.1<x.2.2.2.1))with
|true=>
 ab (au x.2.2.1 x.2.2.2.2.1) fun v1=>
 match(v1.1==x.1)with
 |true=>
  aD (x.2.1.length+ [(v1.1,v1.2.1,v1.2.2.1,(v1.2.2.2.1.1,v1.2.2.2.1.2.1,v1.2.2.2.1.2.2.1,v1.2.2.2.1.2.2.2.1,v1.2.2.2.1.2.2.2.2.1,()),())].length) (
   some (.inl (x.1,(x.2.1++ [(v1.1,v1.2.1,v1.2.2.1,(v1.2.2.2.1.1,v1.2.2.2.1.2.1,v1.2.2.2.1.2.2.1,v1.2.2.2.1.2.2.2.1,v1.2.2.2.1.2.2.2.2.1,()),())]),x.2.2.1,x.2.2.2.1,(IntKind.i64.wrap (x.2.2.2.2.1+(1:Int))),())))
 |false=>
  some (.inl (x.1,x.2.1,x.2.2.1,x.2.2.2.1,(IntKind.i64.wrap (x.2.2.2.2.1+(1:Int))),()))
|false=>
 some (.inr (.inl (x.2.1,())))
noncomputable def mF(x:Ty.T Ul):Option (Ty.T PC):=
match ac fo (x.2.1,[],x.1.2.2.2.1,(x.1.2.2.2.1.length:Int),(0:Int),())with
|none=>none
|some (.inl v2)=>
 some (v2.1,())
|some (.inr v4)=>
 none
noncomputable def zQ:ae:=⟨_,PC,.unit,rfl,mF⟩
noncomputable def xr:FuncId→Option ae:=bU []
theorem Fm:∀f s,xr f=some s→FnOK G0 Tryz.prog f s:=aM trivial
def vC:aX:=⟨[1,5,10,11,12],o6,0,[5],PC,[],.unit⟩
noncomputable def xt:List aJ:=[vC.spec fo]
theorem Du:bq bI E0 xr (bo Tryz.f253 xt) Tryz.f253 0 vC fo:=fun x=>by kernel_rfl
theorem IW:FnOK G0 Tryz.prog 253 zQ:=aP ao Fm Tryz.func253 xt (by kernel_rfl) (by exact⟨(Du).lok,trivial⟩) fun x=>by kernel_rfl
noncomputable def gI(x:(Ty.T rY)):Option ((Ty.T rY) ⊕ ((Ty.T .unit) ⊕ (Ty.T ax))):=
match(decide (x.2.2.1<x.2.1))with
|true=>
 match mF ((x.1.1,x.1.2.1,x.1.2.2.1,x.1.2.2.2.1,()),x.2.2.1,())with
 |none=>none
 |some v1=>
 match lM (v1.1,())with
 |none=>none
 |some v2=>
 match(decide (v2.1>(32000:Int)))with
 |true=>
  some (.inr (.inr (false,())))
 |false=>
  some (.inl ((x.1.1,x.1.2.1,x.1.2.2.1,x.1.2.2.2.1,()),x.2.1,(IntKind.i64.wrap (x.2.2.1+(1:Int))),()))
|false=>
 some (.inr (.inl (())))
noncomputable def qO(x:Ty.T pE):Option (Ty.T ax):=
match ac gI ((x.1.1,x.1.2.1,x.1.2.2.1,x.1.2.2.2.1,()),(x.1.2.2.1.length:Int),(0:Int),())with
|none=>none
|some (.inl v3)=>
 some (true,())
|some (.inr v4)=>
 some (v4.1,())
noncomputable def NM:ae:=⟨_,ax,.unit,rfl,qO⟩
noncomputable def B6:FuncId→Option ae:=bU [(252,ut),(253,zQ)]
theorem IX:∀f s,B6 f=some s→FnOK G0 Tryz.prog f s:=aM ⟨Dt,IW,trivial⟩
def zR:aX:=⟨[1,6,7],rY,0,[],.unit,[2],ax⟩
noncomputable def B7:List aJ:=[zR.spec gI]
theorem GZ:bq bI E0 B6 (bo Tryz.f226 B7) Tryz.f226 0 zR gI:=fun x=>by kernel_rfl
theorem Me:FnOK G0 Tryz.prog 226 NM:=aP ao IX Tryz.func226 B7 (by kernel_rfl) (by exact⟨(GZ).lok,trivial⟩) fun x=>by kernel_rfl
abbrev rI:Ty:=(.pair (.box ap) (.pair (.int .i64) (.pair (.int .i64) (.pair (.int .i64) (.pair (.list aA) (.pair (.int .i64) (.pair (.int .i64) (.pair (.int .i64) (.pair (.int .i64) (.pair (.list aj) bE))))))))))
abbrev zS:Ty:=(.pair (.box ap) (.pair (.int .i64) (.pair (.int .i64) (.pair (.list aA) qw))))
noncomputable def eH(x:(Ty.T rI)):Option ((Ty.T rI) ⊕ ((Ty.T zS) ⊕ (Ty.T .unit))):=
match(decide (x.2.2.2.2.2.2.2.2.2.2.2.1<x.2.2.2.2.2.2.2.2.2.2.1))with
|true=>
 ab (au x.2.2.2.2.2.2.2.2.2.1 x.2.2.2.2.2.2.2.2.2.2.2.1) fun v2=>
 match(v2.1==x.2.1)with
 |true=>
  match(v2.2.1==x.2.2.1)with
  |true=>
   if v2.2.2.2.1.1<0 then none else
   some (.inl ((x.1.1,x.1.2.1,x.1.2.2.1,x.1.2.2.2.1,()),x.2.1,x.2.2.1,(bits BinOp.or .i64 x.2.2.2.1 (IntKind.i64.wrap ((1:Int)*2^min v2.2.2.2.1.1.toNat IntKind.i64.bits))),x.2.2.2.2.1,x.2.2.2.2.2.1,x.2.2.2.2.2.2.1,x.2.2.2.2.2.2.2.1,x.2.2.2.2.2.2.2.2.1,x.2.2.2.2.2.2.2.2.2.1,x.2.2.2.2.2.2.2.2.2.2.1,(IntKind.i64.wrap (x.2.2.2.2.2.2.2.2.2.2.2.1+(1:Int))),()))
  |false=>
   some (.inl ((x.1.1,x.1.2.1,x.1.2.2.1,x.1.2.2.2.1,()),x.2.1,x.2.2.1,x.2.2.2.1,x.2.2.2.2.1,x.2.2.2.2.2.1,x.2.2.2.2.2.2.1,x.2.2.2.2.2.2.2.1,x.2.2.2.2.2.2.2.2.1,x.2.2.2.2.2.2.2.2.2.1,x.2.2.2.2.2.2.2.2.2.2.1,(IntKind.i64.wrap (x.2.2.2.2.2.2.2.2.2.2.2.1+(1:Int))),()))
 |false=>
  some (.inl ((x.1.1,x.1.2.1,x.1.2.2.1,x.1.2.2.2.1,()),x.2.1,x.2.2.1,x.2.2.2.1,x.2.2.2.2.1,x.2.2.2.2.2.1,x.2.2.2.2.2.2.1,x.2.2.2.2.2.2.2.1,x.2.2.2.2.2.2.2.2.1,x.2.2.2.2.2.2.2.2.2.1,x.2.2.2.2.2.2.2.2.2.2.1,(IntKind.i64.wrap (x.2.2.2.2.2.2.2.2.2.2.2.1+(1:Int))),()))
|false=>
 some (.inr (.inl ((x.1.1,x.1.2.1,x.1.2.2.1,x.1.2.2.2.1,()),x.2.1,x.2.2.2.1,x.2.2.2.2.1,x.2.2.2.2.2.1,x.2.2.2.2.2.2.1,x.2.2.2.2.2.2.2.1,x.2.2.2.2.2.2.2.2.1,())))
abbrev rJ:Ty:=(.pair (.box ap) (.pair (.int .i64) (.pair (.list aA) qw)))
abbrev zT:Ty:=Ux
noncomputable def fF(x:(Ty.T rJ)):Option ((Ty.T rJ) ⊕ ((Ty.T zT) ⊕ (Ty.T ax))):=
match(decide (x.2.2.2.2.2.2.1<x.2.2.2.2.2.1))with
|true=>
 match ac eH ((x.1.1,x.1.2.1,x.1.2.2.1,x.1.2.2.2.1,()),x.2.1,x.2.2.2.2.2.2.1,(0:Int),x.2.2.1,x.2.2.2.1,x.2.2.2.2.1,x.2.2.2.2.2.1,x.2.2.2.2.2.2.1,x.1.2.2.2.1,(x.1.2.2.2.1.length:Int),(0:Int),())with
 |none=>none
 |some (.inl v2)=>
  match hI (v2.1.2.1,())with
  |none=>none
  |some v4=>
  match((bits BinOp.andNot .i64 v4.1 v2.2.2.1) != (0:Int))with
  |true=>
   some (.inr (.inr (false,())))
  |false=>
   some (.inl ((v2.1.1,v2.1.2.1,v2.1.2.2.1,v2.1.2.2.2.1,()),v2.2.1,v2.2.2.2.1,v2.2.2.2.2.1,v2.2.2.2.2.2.1,v2.2.2.2.2.2.2.1,(IntKind.i64.wrap (v2.2.2.2.2.2.2.2.1+(1:Int))),()))
 |some (.inr v5)=>
  none
|false=>
 some (.inr (.inl ((x.1.1,x.1.2.1,x.1.2.2.1,x.1.2.2.2.1,()),x.2.2.1,x.2.2.2.1,x.2.2.2.2.1,())))
abbrev rK:Ty:=Ux
noncomputable def gJ(x:(Ty.T rK)):Option ((Ty.T rK) ⊕ ((Ty.T .unit) ⊕ (Ty.T ax))):=
match(decide (x.2.2.2.1<x.2.2.1))with
|true=>
 ab (au x.2.1 x.2.2.2.1) fun v1=>
 match ac fF ((x.1.1,x.1.2.1,x.1.2.2.1,x.1.2.2.2.1,()),x.2.2.2.1,x.2.1,x.2.2.1,x.2.2.2.1,v1.1,(0:Int),())with
 |none=>none
 |some (.inl v2)=>
  some (.inl ((v2.1.1,v2.1.2.1,v2.1.2.2.1,v2.1.2.2.2.1,()),v2.2.1,v2.2.2.1,(IntKind.i64.wrap (v2.2.2.2.1+(1:Int))),()))
 |some (.inr v3)=>
  some (.inr (.inr (v3.1,())))
|false=>
 some (.inr (.inl (())))
noncomputable def qP(x:Ty.T pE):Option (Ty.T ax):=
match ac gJ ((x.1.1,x.1.2.1,x.1.2.2.1,x.1.2.2.2.1,()),x.1.2.2.1,(x.1.2.2.1.length:Int),(0:Int),())with
|none=>none
|some (.inl v4)=>
 some (true,())
|some (.inr v5)=>
 some (v5.1,())
noncomputable def NN:ae:=⟨_,ax,.unit,rfl,qP⟩
noncomputable def o7:FuncId→Option ae:=bU [(172,uc)]
theorem IY:∀f s,o7 f=some s→FnOK G0 Tryz.prog f s:=aM ⟨mm,trivial⟩
def zU:aX:=⟨[1,10,11,12],rK,0,[],.unit,[2],ax⟩
def zV:aX:=⟨[1,3,10,11,12,18,19],rJ,2,[1,10,11,12],zT,[2],ax⟩
def zW:aX:=⟨[1,3,5,6,10,11,12,18,19,23,24,25],rI,4,[1,3,6,10,11,12,18,19],zS,[],.unit⟩
noncomputable def o8:List aJ:=[zU.spec gJ,zV.spec fF,zW.spec eH]
theorem G1:bq bI E0 o7 (bo Tryz.f227 o8) Tryz.f227 0 zU gJ:=fun x=>by kernel_rfl
theorem G2:bq bI E0 o7 (bo Tryz.f227 o8) Tryz.f227 1 zV fF:=fun x=>by kernel_rfl
theorem G3:bq bI E0 o7 (bo Tryz.f227 o8) Tryz.f227 2 zW eH:=fun x=>by kernel_rfl
theorem Mf:FnOK G0 Tryz.prog 227 NN:=aP ao IY Tryz.func227 o8 (by kernel_rfl) (by exact⟨(G1).lok,(G2).lok,(G3).lok,trivial⟩) fun x=>by kernel_rfl
noncomputable def ll(x:Ty.T pE):Option (Ty.T aO):=
match cA (x.1.1,(1:Int),(16777215:Int),())with
|none=>none
|some v1=>
match(!v1.1)with
|true=>
 some ((1:Int),())
|false=>
 match mZ (x.1.2.1,())with
 |none=>none
 |some v2=>
 match(!v2.1)with
 |true=>
  some ((2:Int),())
 |false=>
  match na (x.1.2.2.1,())with
  |none=>none
  |some v3=>
  match(!v3.1)with
  |true=>
   some ((3:Int),())
  |false=>
   match nb (x.1.2.2.2.1,())with
   |none=>none
   |some v4=>
   match(!v4.1)with
   |true=>
    some ((4:Int),())
   |false=>
    match li ((x.1.1,x.1.2.1,x.1.2.2.1,x.1.2.2.2.1,()),())with
    |none=>none
    |some v5=>
    match(!v5.1)with
    |true=>
     some ((5:Int),())
    |false=>
     match b6 (x.1.2.2.2.1,(fun z=>lJ (z.1,(x.1.1,x.1.2.1,x.1.2.2.1,x.1.2.2.2.1,()),())),())with
     |none=>none
     |some v6=>
     match v6.1 with
     |true=>
      some ((6:Int),())
     |false=>
      match o5 ((x.1.1,x.1.2.1,x.1.2.2.1,x.1.2.2.2.1,()),())with
      |none=>none
      |some v7=>
      match(!v7.1)with
      |true=>
       some ((7:Int),())
      |false=>
       match qO ((x.1.1,x.1.2.1,x.1.2.2.1,x.1.2.2.2.1,()),())with
       |none=>none
       |some v8=>
       match(!v8.1)with
       |true=>
        some ((8:Int),())
       |false=>
        match qP ((x.1.1,x.1.2.1,x.1.2.2.1,x.1.2.2.2.1,()),())with
        |none=>none
        |some v9=>
        match(!v9.1)with
        |true=>
         some ((9:Int),())
        |false=>
         match b6 (x.1.2.2.2.1,lK,())with
         |none=>none
         |some v10=>
         match v10.1 with
         |true=>
          some ((10:Int),())
         |false=>
          some ((0:Int),())
noncomputable def IZ:ae:=⟨_,aO,.unit,rfl,ll⟩
theorem G4:FnOK G0 Tryz.prog 171 IZ:=an ao (sg dt (sg Dq (sg Dr (sg Ff (sg Fh (sg Fk (sg GV (sg oq (sg KO (sg Me (sg Mf (aR)))))))))))) Tryz.func171
noncomputable def ik(x:Ty.T pE):Option (Ty.T ax):=
match ll ((x.1.1,x.1.2.1,x.1.2.2.1,x.1.2.2.2.1,()),())with
|none=>none
|some v1=>
some ((v1.1==(0:Int)),())
noncomputable def PP:ae:=⟨_,ax,.unit,rfl,ik⟩
theorem D9:FnOK G0 Tryz.prog 114 PP:=an ao (sg G4 (aR)) Tryz.func114
noncomputable def yB(x:Ty.T aO):Option (Ty.T ax):=
match cA (x.1,(0:Int),(4294967295:Int),())with
|none=>none
|some v1=>
some (v1.1,())
noncomputable def Mg:ae:=⟨_,ax,.unit,rfl,yB⟩
theorem KP:FnOK G0 Tryz.prog 178 Mg:=an ao (sg dt (aR)) Tryz.func178
noncomputable def gh(x:Ty.T vU):Option (Ty.T ax):=
match cA (x.1.1,(0:Int),(65535:Int),())with
|none=>none
|some v1=>
match v1.1 with
|true=>
 match cA (x.1.2.1,(0:Int),(15:Int),())with
 |none=>none
 |some v2=>
 match v2.1 with
 |true=>
  match cA (x.1.2.2.1,(0:Int),(15:Int),())with
  |none=>none
  |some v3=>
  match v3.1 with
  |true=>
   match cA (x.1.2.2.2.1,(0:Int),(255:Int),())with
   |none=>none
   |some v4=>
   match v4.1 with
   |true=>
    match yB (x.1.2.2.2.2.1,())with
    |none=>none
    |some v5=>
    some (v5.1,())
   |false=>
    some (false,())
  |false=>
   some (false,())
 |false=>
  some (false,())
|false=>
 some (false,())
noncomputable def NP:ae:=⟨_,ax,.unit,rfl,gh⟩
theorem uu:FnOK G0 Tryz.prog 125 NP:=an ao (sg dt (sg KP (aR))) Tryz.func125
noncomputable def iO(x:Ty.T vV):Option (Ty.T ax):=
match gh ((x.2.1.1,x.2.1.2.1,x.2.1.2.2.1,x.2.1.2.2.2.1,x.2.1.2.2.2.2.1,()),())with
|none=>none
|some v1=>
match(!v1.1)with
|true=>
 some (false,())
|false=>
 match(decide (x.2.1.2.1≥(x.1.2.2.1.length:Int)))with
 |true=>
  some (false,())
 |false=>
  ab (au x.1.2.2.1 x.2.1.2.1) fun v2=>
  match(decide (x.2.1.2.2.1<v2.1))with
  |true=>
   match(decide (x.2.1.2.2.2.1<v2.2.1))with
   |true=>
    match hI (x.1.2.1,())with
    |none=>none
    |some v3=>
    some (((bits BinOp.andNot .i64 x.2.1.2.2.2.2.1 v3.1)==(0:Int)),())
   |false=>
    some (false,())
  |false=>
   some (false,())
noncomputable def NQ:ae:=⟨_,ax,.unit,rfl,iO⟩
theorem B8:FnOK G0 Tryz.prog 115 NQ:=an ao (sg uu (sg mm (aR))) Tryz.func115
noncomputable def fp(x:Ty.T vV):Option (Ty.T aO):=
match ik ((x.1.1,x.1.2.1,x.1.2.2.1,x.1.2.2.2.1,()),())with
|none=>none
|some v1=>
match(!v1.1)with
|true=>
 some ((1:Int),())
|false=>
 match iO ((x.1.1,x.1.2.1,x.1.2.2.1,x.1.2.2.2.1,()),(x.2.1.1,x.2.1.2.1,x.2.1.2.2.1,x.2.1.2.2.2.1,x.2.1.2.2.2.2.1,()),())with
 |none=>none
 |some v2=>
 match(!v2.1)with
 |true=>
  some ((2:Int),())
 |false=>
  some ((0:Int),())
noncomputable def Mh:ae:=⟨_,aO,.unit,rfl,fp⟩
theorem rL:FnOK G0 Tryz.prog 68 Mh:=an ao (sg D9 (sg B8 (aR))) Tryz.func68
noncomputable def ko(x:Ty.T (.pair ap (.pair ak (.pair .bool .unit)))):Option (Ty.T aO):=
match fp ((x.1.1,x.1.2.1,x.1.2.2.1,x.1.2.2.2.1,()),(x.2.1.1,x.2.1.2.1,x.2.1.2.2.1,x.2.1.2.2.2.1,x.2.1.2.2.2.2.1,()),())with
|none=>none
|some v1=>
match(v1.1 != (0:Int))with
|true=>
 some (v1.1,())
|false=>
 match(!x.2.2.1)with
 |true=>
  some ((2:Int),())
 |false=>
  some ((0:Int),())
noncomputable def G5:ae:=⟨_,aO,.unit,rfl,ko⟩
theorem uv:FnOK G0 Tryz.prog 45 G5:=an ao (sg rL (aR)) Tryz.func45
abbrev o9:Ty:=(.pair (.int .i64) (.pair (.int .i64) (.pair (.list (.int .i64)) bE)))
noncomputable def cJ(x:(Ty.T o9)):Option ((Ty.T o9) ⊕ ((Ty.T .unit) ⊕ (Ty.T ax))):=
match(decide (x.2.2.2.2.1<x.2.2.2.1))with
|true=>
 ab (au x.2.2.1 x.2.2.2.2.1) fun v1=>
 match(decide (v1<x.1))with
 |true=>
  some (.inr (.inr (false,())))
 |false=>
  match(decide (v1>x.2.1))with
  |true=>
   some (.inr (.inr (false,())))
  |false=>
   some (.inl (x.1,x.2.1,x.2.2.1,x.2.2.2.1,(IntKind.i64.wrap (x.2.2.2.2.1+(1:Int))),()))
|false=>
 some (.inr (.inl (())))
noncomputable def jc(x:Ty.T qx):Option (Ty.T ax):=
match ac cJ (x.2.1,x.2.2.1,x.1,(x.1.length:Int),(0:Int),())with
|none=>none
|some (.inl v2)=>
 some (true,())
|some (.inr v3)=>
 some (v3.1,())
noncomputable def KQ:ae:=⟨_,ax,.unit,rfl,jc⟩
noncomputable def xu:FuncId→Option ae:=bU []
theorem Fn:∀f s,xu f=some s→FnOK G0 Tryz.prog f s:=aM trivial
def vD:aX:=⟨[1,2,9,10,11],o9,0,[],.unit,[6],ax⟩
noncomputable def xv:List aJ:=[vD.spec cJ]
theorem Dv:bq bI E0 xu (bo Tryz.f96 xv) Tryz.f96 0 vD cJ:=fun x=>by kernel_rfl
theorem xw:FnOK G0 Tryz.prog 96 KQ:=aP ao Fn Tryz.func96 xv (by kernel_rfl) (by exact⟨(Dv).lok,trivial⟩) fun x=>by kernel_rfl
noncomputable def gi(x:Ty.T kh):Option (Ty.T ax):=
match(decide ((x.1.length:Int)≤(1024:Int)))with
|true=>
 match jc (x.1,(0:Int),(255:Int),())with
 |none=>none
 |some v1=>
 some (v1.1,())
|false=>
 some (false,())
noncomputable def NR:ae:=⟨_,ax,.unit,rfl,gi⟩
theorem pb:FnOK G0 Tryz.prog 46 NR:=an ao (sg xw (aR)) Tryz.func46
noncomputable def cK(x:Ty.T vV):Option (Ty.T Ba):=
match lL (x.1.2.2.2.1,x.2.1.2.1,x.2.1.2.2.1,x.2.1.2.2.2.1,())with
|none=>none
|some v1=>
ab (au x.1.2.2.2.1 v1.1) fun v2=>
some ((v2.2.2.2.1.1,v2.2.2.2.1.2.1,v2.2.2.2.1.2.2.1,v2.2.2.2.1.2.2.2.1,v2.2.2.2.1.2.2.2.2.1,()),())
noncomputable def Dw:ae:=⟨_,Ba,.unit,rfl,cK⟩
theorem iP:FnOK G0 Tryz.prog 65 Dw:=an ao (sg zN (aR)) Tryz.func65
noncomputable def uw(x:Ty.T R8):Option (Ty.T ax):=
match(x.2.1.1==x.1.2.1)with
|true=>
 match((x.2.1.2.2.2.1.length:Int)==x.1.2.2.1)with
 |true=>
  match(x.2.1.2.1==(0:Int))with
  |true=>
   some (true,())
  |false=>
   some (x.1.2.2.2.2.1,())
 |false=>
  some (false,())
|false=>
 some (false,())
noncomputable def Si:ae:=⟨_,ax,.unit,rfl,uw⟩
theorem J1:FnOK G0 Tryz.prog 78 Si:=an ao aR Tryz.func78
abbrev jd:Ty:=(.pair (.list (.int .i64)) (.pair (.list (.int .i64)) bE))
noncomputable def cO(x:(Ty.T jd)):Option ((Ty.T jd) ⊕ ((Ty.T .unit) ⊕ (Ty.T ax))):=
match(decide (x.2.2.2.1<x.2.2.1))with
|true=>
 ab (au x.1 x.2.2.2.1) fun v1=>
 ab (au x.2.1 x.2.2.2.1) fun v2=>
 match(v1 != v2)with
 |true=>
  some (.inr (.inr (false,())))
 |false=>
  some (.inl (x.1,x.2.1,x.2.2.1,(IntKind.i64.wrap (x.2.2.2.1+(1:Int))),()))
|false=>
 some (.inr (.inl (())))
noncomputable def bb(x:Ty.T PF):Option (Ty.T ax):=
match((x.1.length:Int) != (x.2.1.length:Int))with
|true=>
 some (false,())
|false=>
 match ac cO (x.1,x.2.1,(x.1.length:Int),(0:Int),())with
 |none=>none
 |some (.inl v3)=>
  some (true,())
 |some (.inr v4)=>
  some (v4.1,())
noncomputable def pc:ae:=⟨_,ax,.unit,rfl,bb⟩
noncomputable def nX:FuncId→Option ae:=bU []
theorem uY:∀f s,nX f=some s→FnOK G0 Tryz.prog f s:=aM trivial
def mG:aX:=⟨[0,1,12,13],jd,0,[],.unit,[4],ax⟩
noncomputable def nY:List aJ:=[mG.spec cO]
theorem ux:bq bI E0 nX (bo Tryz.f104 nY) Tryz.f104 0 mG cO:=fun x=>by kernel_rfl
theorem gt:FnOK G0 Tryz.prog 104 pc:=aP ao uY Tryz.func104 nY (by kernel_rfl) (by exact⟨(ux).lok,trivial⟩) fun x=>by kernel_rfl
noncomputable def jB(x:Ty.T aO):Option (Ty.T br):=
some ([(Int.fdiv x.1 (2^min (16:Int).toNat IntKind.i64.bits)),(bits BinOp.and .i64 (Int.fdiv x.1 (2^min (8:Int).toNat IntKind.i64.bits)) (255:Int)),(bits BinOp.and .i64 x.1 (255:Int))],())
noncomputable def I0:ae:=⟨_,br,.unit,rfl,jB⟩
theorem vE:FnOK G0 Tryz.prog 111 I0:=an ao aR Tryz.func111
noncomputable def eY(x:(Ty.T LZ)):Option ((Ty.T LZ) ⊕ ((Ty.T br) ⊕ (Ty.T .unit))):=
match(decide (x.2.2.1≥(0:Int)))with
|true=>
 if x.2.2.1<0 then none else
 aD (x.1.length+ [(bits BinOp.and .i64 (Int.fdiv x.2.1 (2^min x.2.2.1.toNat IntKind.i64.bits)) (1:Int))].length) (
  some (.inl ((x.1++ [(bits BinOp.and .i64 (Int.fdiv x.2.1 (2^min x.2.2.1.toNat IntKind.i64.bits)) (1:Int))]),x.2.1,(IntKind.i64.wrap (x.2.2.1-(1:Int))),())))
|false=>
 some (.inr (.inl (x.1,())))
noncomputable def bH(x:Ty.T LZ):Option (Ty.T br):=
match ac eY (x.1,x.2.1,(IntKind.i64.wrap (x.2.2.1-(1:Int))),())with
|none=>none
|some (.inl v1)=>
 some (v1.1,())
|some (.inr v3)=>
 none
noncomputable def nq:ae:=⟨_,br,.unit,rfl,bH⟩
noncomputable def sL:FuncId→Option ae:=bU []
theorem AE:∀f s,sL f=some s→FnOK G0 Tryz.prog f s:=aM trivial
def qQ:aX:=⟨[0,1,7],LZ,0,[0],br,[],.unit⟩
noncomputable def sM:List aJ:=[qQ.spec eY]
theorem yC:bq bI E0 sL (bo Tryz.f103 sM) Tryz.f103 0 qQ eY:=fun x=>by kernel_rfl
theorem mr:FnOK G0 Tryz.prog 103 nq:=aP ao AE Tryz.func103 sM (by kernel_rfl) (by exact⟨(yC).lok,trivial⟩) fun x=>by kernel_rfl
noncomputable def je(x:Ty.T vU):Option (Ty.T br):=
match bH ([],x.1.1,(16:Int),())with
|none=>none
|some v1=>
match bH (v1.1,x.1.2.1,(4:Int),())with
|none=>none
|some v2=>
match bH (v2.1,x.1.2.2.1,(4:Int),())with
|none=>none
|some v3=>
match bH (v3.1,x.1.2.2.2.1,(8:Int),())with
|none=>none
|some v4=>
match bH (v4.1,x.1.2.2.2.2.1,(32:Int),())with
|none=>none
|some v5=>
some (v5.1,())
noncomputable def KR:ae:=⟨_,br,.unit,rfl,je⟩
theorem xx:FnOK G0 Tryz.prog 164 KR:=an ao (sg mr (aR)) Tryz.func164
noncomputable def kp(x:Ty.T .unit):Option (Ty.T Pz):=
some (((24:Int),(6122955:Int),()),())
noncomputable def G6:ae:=⟨_,Pz,.unit,rfl,kp⟩
theorem Fo:FnOK G0 Tryz.prog 166 G6:=an ao aR Tryz.func166
abbrev pQ:Ty:=(.pair (.int .i64) (.pair (.box bE) (.pair (.list (.int .i64)) bE)))
noncomputable def dU(x:(Ty.T pQ)):Option ((Ty.T pQ) ⊕ ((Ty.T aO) ⊕ (Ty.T .unit))):=
match(decide (x.2.2.2.2.1<x.2.2.2.1))with
|true=>
 ab (au x.2.2.1 x.2.2.2.2.1) fun v1=>
 if(IntKind.i64.wrap (x.2.1.1-(1:Int)))<0 then none else
 if x.2.1.1<0 then none else
 match((bits BinOp.xor .i64 v1 (Int.fdiv x.1 (2^min (IntKind.i64.wrap (x.2.1.1-(1:Int))).toNat IntKind.i64.bits)))==(1:Int))with
 |true=>
  some (.inl ((bits BinOp.xor .i64 (bits BinOp.and .i64 (IntKind.i64.wrap (x.1*2^min (1:Int).toNat IntKind.i64.bits)) (IntKind.i64.wrap ((IntKind.i64.wrap ((1:Int)*2^min x.2.1.1.toNat IntKind.i64.bits))-(1:Int)))) x.2.1.2.1),(x.2.1.1,x.2.1.2.1,()),x.2.2.1,x.2.2.2.1,(IntKind.i64.wrap (x.2.2.2.2.1+(1:Int))),()))
 |false=>
  some (.inl ((bits BinOp.and .i64 (IntKind.i64.wrap (x.1*2^min (1:Int).toNat IntKind.i64.bits)) (IntKind.i64.wrap ((IntKind.i64.wrap ((1:Int)*2^min x.2.1.1.toNat IntKind.i64.bits))-(1:Int)))),(x.2.1.1,x.2.1.2.1,()),x.2.2.1,x.2.2.2.1,(IntKind.i64.wrap (x.2.2.2.2.1+(1:Int))),()))
|false=>
 some (.inr (.inl (x.1,())))
noncomputable def lN(x:Ty.T UC):Option (Ty.T aO):=
match ac dU (x.2.1,(x.1.1,x.1.2.1,()),x.2.2.1,(x.2.2.1.length:Int),(0:Int),())with
|none=>none
|some (.inl v2)=>
 some (v2.1,())
|some (.inr v4)=>
 none
noncomputable def Mi:ae:=⟨_,aO,.unit,rfl,lN⟩
noncomputable def zX:FuncId→Option ae:=bU []
theorem G7:∀f s,zX f=some s→FnOK G0 Tryz.prog f s:=aM trivial
def xy:aX:=⟨[1,3,10,11,12],pQ,0,[1],aO,[],.unit⟩
noncomputable def zY:List aJ:=[xy.spec dU]
theorem Fp:bq bI E0 zX (bo Tryz.f167 zY) Tryz.f167 0 xy dU:=fun x=>by kernel_rfl
theorem KS:FnOK G0 Tryz.prog 167 Mi:=aP ao G7 Tryz.func167 zY (by kernel_rfl) (by exact⟨(Fp).lok,trivial⟩) fun x=>by kernel_rfl
abbrev uy:Ty:=Sc
noncomputable def il(x:(Ty.T uy)):Option ((Ty.T uy) ⊕ ((Ty.T br) ⊕ (Ty.T .unit))):=
match(decide (x.2.2.2.1<x.2.2.1))with
|true=>
 ab (au x.2.1 x.2.2.2.1) fun v1=>
 match bH (x.1,v1,(8:Int),())with
 |none=>none
 |some v2=>
 some (.inl (v2.1,x.2.1,x.2.2.1,(IntKind.i64.wrap (x.2.2.2.1+(1:Int))),()))
|false=>
 some (.inr (.inl (x.1,())))
noncomputable def nr(x:Ty.T kh):Option (Ty.T br):=
match ac il ([],x.1,(x.1.length:Int),(0:Int),())with
|none=>none
|some (.inl v3)=>
 some (v3.1,())
|some (.inr v5)=>
 none
noncomputable def PQ:ae:=⟨_,br,.unit,rfl,nr⟩
noncomputable def Ea:FuncId→Option ae:=bU [(103,nq)]
theorem KT:∀f s,Ea f=some s→FnOK G0 Tryz.prog f s:=aM ⟨mr,trivial⟩
def B9:aX:=⟨[3,7,8,9],uy,0,[3],br,[],.unit⟩
noncomputable def Eb:List aJ:=[B9.spec il]
theorem I1:bq bI E0 Ea (bo Tryz.f168 Eb) Tryz.f168 0 B9 il:=fun x=>by kernel_rfl
theorem Ec:FnOK G0 Tryz.prog 168 PQ:=aP ao KT Tryz.func168 Eb (by kernel_rfl) (by exact⟨(I1).lok,trivial⟩) fun x=>by kernel_rfl
noncomputable def gK(x:Ty.T UH):Option (Ty.T aO):=
match(x.1==(0:Int))with
|true=>
 match kp (())with
 |none=>none
 |some v1=>
 match je ((x.2.2.2.1.1,x.2.2.2.1.2.1,x.2.2.2.1.2.2.1,x.2.2.2.1.2.2.2.1,x.2.2.2.1.2.2.2.2.1,()),())with
 |none=>none
 |some v2=>
 match lN (v1.1,x.2.2.1,v2.1,())with
 |none=>none
 |some v3=>
 match kp (())with
 |none=>none
 |some v4=>
 match nr (x.2.1,())with
 |none=>none
 |some v5=>
 match lN (v4.1,v3.1,v5.1,())with
 |none=>none
 |some v6=>
 some (v6.1,())
|false=>
 match kp (())with
 |none=>none
 |some v7=>
 match nr (x.2.1,())with
 |none=>none
 |some v8=>
 match lN (v7.1,x.2.2.1,v8.1,())with
 |none=>none
 |some v9=>
 some (v9.1,())
noncomputable def G8:ae:=⟨_,aO,.unit,rfl,gK⟩
theorem uA:FnOK G0 Tryz.prog 112 G8:=an ao (sg xx (sg Fo (sg KS (sg Ec (aR))))) Tryz.func112
noncomputable def G9(x:Ty.T aO):Option (Ty.T ax):=
match cA (x.1,(0:Int),(16777215:Int),())with
|none=>none
|some v1=>
some (v1.1,())
noncomputable def Sj:ae:=⟨_,ax,.unit,rfl,G9⟩
theorem QT:FnOK G0 Tryz.prog 153 Sj:=an ao (sg dt (aR)) Tryz.func153
noncomputable def ex(x:Ty.T Ij):Option (Ty.T ax):=
match uk (x.1.1,())with
|none=>none
|some v1=>
match(!v1.1)with
|true=>
 some (false,())
|false=>
 match cA (x.1.2.1,(0:Int),(7:Int),())with
 |none=>none
 |some v2=>
 match(!v2.1)with
 |true=>
  some (false,())
 |false=>
  match lg (x.1.1,(x.1.2.2.2.1.length:Int),())with
  |none=>none
  |some v3=>
  match(!v3.1)with
  |true=>
   some (false,())
  |false=>
   match gi (x.1.2.2.2.1,())with
   |none=>none
   |some v4=>
   match(!v4.1)with
   |true=>
    some (false,())
   |false=>
    match(x.1.1==(0:Int))with
    |true=>
     some ((dE ak (x.1.2.2.1.1,x.1.2.2.1.2.1,x.1.2.2.1.2.2.1,x.1.2.2.1.2.2.2.1,x.1.2.2.1.2.2.2.2.1,()) ((0:Int),(0:Int),(0:Int),(0:Int),(0:Int),())),())
    |false=>
     match(x.1.1==(3:Int))with
     |true=>
      match gh ((x.1.2.2.1.1,x.1.2.2.1.2.1,x.1.2.2.1.2.2.1,x.1.2.2.1.2.2.2.1,x.1.2.2.1.2.2.2.2.1,()),())with
      |none=>none
      |some v5=>
      match v5.1 with
      |true=>
       match(x.1.2.2.1.2.1==(0:Int))with
       |true=>
        match(x.1.2.2.1.2.2.2.2.1 != (0:Int))with
        |true=>
         match((bits BinOp.and .i64 x.1.2.2.1.2.2.2.2.1 (IntKind.i64.wrap (x.1.2.2.1.2.2.2.2.1-(1:Int))))==(0:Int))with
         |true=>
          some ((x.1.2.1==(0:Int)),())
         |false=>
          some (false,())
        |false=>
         some (false,())
       |false=>
        some (false,())
      |false=>
       some (false,())
     |false=>
      match gh ((x.1.2.2.1.1,x.1.2.2.1.2.1,x.1.2.2.1.2.2.1,x.1.2.2.1.2.2.2.1,x.1.2.2.1.2.2.2.2.1,()),())with
      |none=>none
      |some v6=>
      some (v6.1,())
noncomputable def NS:ae:=⟨_,ax,.unit,rfl,ex⟩
theorem Ca:FnOK G0 Tryz.prog 73 NS:=an ao (sg pb (sg dt (sg D8 (sg vB (sg uu (aR)))))) Tryz.func73
abbrev pR:Ty:=(.pair (.int .i64) (.pair (.list (.int .i64)) bE))
noncomputable def fR(x:(Ty.T pR)):Option ((Ty.T pR) ⊕ ((Ty.T aO) ⊕ (Ty.T .unit))):=
match(decide (x.2.2.2.1<x.2.2.1))with
|true=>
 ab (au x.2.1 x.2.2.2.1) fun v1=>
 some (.inl ((IntKind.i64.wrap ((IntKind.i64.wrap ((2:Int)*x.1))+v1)),x.2.1,x.2.2.1,(IntKind.i64.wrap (x.2.2.2.1+(1:Int))),()))
|false=>
 some (.inr (.inl (x.1,())))
noncomputable def cC(x:Ty.T kh):Option (Ty.T aO):=
match ac fR ((0:Int),x.1,(x.1.length:Int),(0:Int),())with
|none=>none
|some (.inl v2)=>
 some (v2.1,())
|some (.inr v4)=>
 none
noncomputable def Cb:ae:=⟨_,aO,.unit,rfl,cC⟩
noncomputable def zZ:FuncId→Option ae:=bU []
theorem Ha:∀f s,zZ f=some s→FnOK G0 Tryz.prog f s:=aM trivial
def xz:aX:=⟨[3,6,7,8],pR,0,[3],aO,[],.unit⟩
noncomputable def z6:List aJ:=[xz.spec fR]
theorem Fq:bq bI E0 zZ (bo Tryz.f118 z6) Tryz.f118 0 xz fR:=fun x=>by kernel_rfl
theorem rM:FnOK G0 Tryz.prog 118 Cb:=aP ao Ha Tryz.func118 z6 (by kernel_rfl) (by exact⟨(Fq).lok,trivial⟩) fun x=>by kernel_rfl
noncomputable def Cc(x:Ty.T kh):Option (Ty.T br):=ab (i8 cC x.1) fun s=>some (s,())
noncomputable def NT:ae:=⟨kh,br,.unit,rfl,Cc⟩
theorem Mj:FnOK G0 Tryz.prog 163 NT:=Pw (oC Tryz.func163 (by kernel_rfl) (show Tryz.f163.body=some (gQ Tryz.f163) by kernel_rfl)) rM
noncomputable def fq(x:Ty.T Ij):Option (Ty.T br):=
match fY (x.1.1,())with
|none=>none
|some v1=>
match v1.1 with
|true=>
 match je ((x.1.2.2.1.1,x.1.2.2.1.2.1,x.1.2.2.1.2.2.1,x.1.2.2.1.2.2.2.1,x.1.2.2.1.2.2.2.2.1,()),())with
 |none=>none
 |some v2=>
 match Cc (v2.1,())with
 |none=>none
 |some v3=>
 aD ([(IntKind.i64.wrap ((IntKind.i64.wrap (x.1.1*(64:Int)))+(IntKind.i64.wrap (x.1.2.1*(8:Int)))))].length+v3.1.length) (
  match iM (x.1.1,())with
  |none=>none
  |some v4=>
  match v4.1 with
  |true=>
   aD (([(IntKind.i64.wrap ((IntKind.i64.wrap (x.1.1*(64:Int)))+(IntKind.i64.wrap (x.1.2.1*(8:Int)))))]++v3.1).length+ [(x.1.2.2.2.1.length:Int)].length) (
    aD ((([(IntKind.i64.wrap ((IntKind.i64.wrap (x.1.1*(64:Int)))+(IntKind.i64.wrap (x.1.2.1*(8:Int)))))]++v3.1)++ [(x.1.2.2.2.1.length:Int)]).length+x.1.2.2.2.1.length) (
     some (((([(IntKind.i64.wrap ((IntKind.i64.wrap (x.1.1*(64:Int)))+(IntKind.i64.wrap (x.1.2.1*(8:Int)))))]++v3.1)++ [(x.1.2.2.2.1.length:Int)])++x.1.2.2.2.1),())))
  |false=>
   some (([(IntKind.i64.wrap ((IntKind.i64.wrap (x.1.1*(64:Int)))+(IntKind.i64.wrap (x.1.2.1*(8:Int)))))]++v3.1),()))
|false=>
 match iM (x.1.1,())with
 |none=>none
 |some v5=>
 match v5.1 with
 |true=>
  aD ([(IntKind.i64.wrap ((IntKind.i64.wrap (x.1.1*(64:Int)))+(IntKind.i64.wrap (x.1.2.1*(8:Int)))))].length+ [(x.1.2.2.2.1.length:Int)].length) (
   aD (([(IntKind.i64.wrap ((IntKind.i64.wrap (x.1.1*(64:Int)))+(IntKind.i64.wrap (x.1.2.1*(8:Int)))))]++ [(x.1.2.2.2.1.length:Int)]).length+x.1.2.2.2.1.length) (
    some ((([(IntKind.i64.wrap ((IntKind.i64.wrap (x.1.1*(64:Int)))+(IntKind.i64.wrap (x.1.2.1*(8:Int)))))]++ [(x.1.2.2.2.1.length:Int)])++x.1.2.2.2.1),())))
 |false=>
  some ([(IntKind.i64.wrap ((IntKind.i64.wrap (x.1.1*(64:Int)))+(IntKind.i64.wrap (x.1.2.1*(8:Int)))))],())
noncomputable def PR:ae:=⟨_,br,.unit,rfl,fq⟩
theorem Ed:FnOK G0 Tryz.prog 110 PR:=an ao (sg kl (sg Mj (sg xx (sg ul (aR))))) Tryz.func110
noncomputable def gj(x:Ty.T kh):Option (Ty.T br):=
Ey x.1 fun v1=>
match v1 with
|true=>
 some ([],())
|false=>
 aD (([]:List (Ty.T (.int .i64))).length+x.1.length) (
  some ((([]:List (Ty.T (.int .i64)))++x.1),()))
noncomputable def yD:ae:=⟨_,br,.unit,rfl,gj⟩
theorem xA:FnOK G0 Tryz.prog 143 yD:=an ao aR Tryz.func143
noncomputable def qi(x:Ty.T kh):Option (Ty.T vU):=
ab (aK x.1.length none (some (.dat (.int .i64) (16:Int)))) fun v1=>
ab (aK x.1.length (some (.dat (.int .i64) (16:Int))) (some (.dat (.int .i64) (20:Int)))) fun v2=>
ab (aK x.1.length (some (.dat (.int .i64) (20:Int))) (some (.dat (.int .i64) (24:Int)))) fun v3=>
ab (aK x.1.length (some (.dat (.int .i64) (24:Int))) (some (.dat (.int .i64) (32:Int)))) fun v4=>
ab (aK x.1.length (some (.dat (.int .i64) (32:Int))) (some (.dat (.int .i64) (64:Int)))) fun v5=>
match cC ((List.drop v1.1 (List.take v1.2 x.1)),())with
|none=>none
|some v6=>
match cC ((List.drop v2.1 (List.take v2.2 x.1)),())with
|none=>none
|some v7=>
match cC ((List.drop v3.1 (List.take v3.2 x.1)),())with
|none=>none
|some v8=>
match cC ((List.drop v4.1 (List.take v4.2 x.1)),())with
|none=>none
|some v9=>
match cC ((List.drop v5.1 (List.take v5.2 x.1)),())with
|none=>none
|some v10=>
some ((v6.1,v7.1,v8.1,v9.1,v10.1,()),())
noncomputable def KU:ae:=⟨_,vU,.unit,rfl,qi⟩
theorem I2:FnOK G0 Tryz.prog 199 KU:=an ao (sg rM (aR)) Tryz.func199
noncomputable def qj(x:Ty.T kh):Option (Ty.T PH):=
match((x.1.length:Int)==(0:Int))with
|true=>
 some (((0:Int),(0:Int),((0:Int),(0:Int),(0:Int),(0:Int),(0:Int),()),[],()),false,())
|false=>
 ab (au x.1 (0:Int)) fun v1=>
 ab (au x.1 (0:Int)) fun v2=>
 ab (aK x.1.length (some (.dat (.int .i64) (1:Int))) none) fun v3=>
 ai (
  match fY ((IntKind.i64.wrap (Int.tdiv v1 (64:Int))),())with
  |none=>none
  |some v4=>
  match v4.1 with
  |true=>
   match(decide (((List.drop v3.1 (List.take v3.2 x.1)).length:Int)<(8:Int)))with
   |true=>
    some (((0:Int),(0:Int),((0:Int),(0:Int),(0:Int),(0:Int),(0:Int),()),[],()),false,())
   |false=>
    ab (aK (List.drop v3.1 (List.take v3.2 x.1)).length none (some (.dat (.int .i64) (8:Int)))) fun v5=>
    match nr ((List.drop v5.1 (List.take v5.2 (List.drop v3.1 (List.take v3.2 x.1)))),())with
    |none=>none
    |some v6=>
    match qi (v6.1,())with
    |none=>none
    |some v7=>
    ab (aK (List.drop v3.1 (List.take v3.2 x.1)).length (some (.dat (.int .i64) (8:Int))) none) fun v8=>
    match iM ((IntKind.i64.wrap (Int.tdiv v1 (64:Int))),())with
    |none=>none
    |some v9=>
    match v9.1 with
    |true=>
     match(decide (((List.drop v8.1 (List.take v8.2 (List.drop v3.1 (List.take v3.2 x.1)))).length:Int)>(0:Int)))with
     |true=>
      ab (aK (List.drop v8.1 (List.take v8.2 (List.drop v3.1 (List.take v3.2 x.1)))).length (some (.dat (.int .i64) (1:Int))) none) fun v10=>
      match gj ((List.drop v10.1 (List.take v10.2 (List.drop v8.1 (List.take v8.2 (List.drop v3.1 (List.take v3.2 x.1)))))),())with
      |none=>none
      |some v11=>
      match ex (((IntKind.i64.wrap (Int.tdiv v1 (64:Int))),(Int.tmod (IntKind.i64.wrap (Int.tdiv v2 (8:Int))) (8:Int)),(v7.1.1,v7.1.2.1,v7.1.2.2.1,v7.1.2.2.2.1,v7.1.2.2.2.2.1,()),v11.1,()),())with
      |none=>none
      |some v12=>
      match(!v12.1)with
      |true=>
       some (((0:Int),(0:Int),((0:Int),(0:Int),(0:Int),(0:Int),(0:Int),()),[],()),false,())
      |false=>
       match fq (((IntKind.i64.wrap (Int.tdiv v1 (64:Int))),(Int.tmod (IntKind.i64.wrap (Int.tdiv v2 (8:Int))) (8:Int)),(v7.1.1,v7.1.2.1,v7.1.2.2.1,v7.1.2.2.2.1,v7.1.2.2.2.2.1,()),v11.1,()),())with
       |none=>none
       |some v13=>
       match bb (v13.1,x.1,())with
       |none=>none
       |some v14=>
       match(!v14.1)with
       |true=>
        some (((0:Int),(0:Int),((0:Int),(0:Int),(0:Int),(0:Int),(0:Int),()),[],()),false,())
       |false=>
        some (((IntKind.i64.wrap (Int.tdiv v1 (64:Int))),(Int.tmod (IntKind.i64.wrap (Int.tdiv v2 (8:Int))) (8:Int)),(v7.1.1,v7.1.2.1,v7.1.2.2.1,v7.1.2.2.2.1,v7.1.2.2.2.2.1,()),v11.1,()),true,())
     |false=>
      match ex (((IntKind.i64.wrap (Int.tdiv v1 (64:Int))),(Int.tmod (IntKind.i64.wrap (Int.tdiv v2 (8:Int))) (8:Int)),(v7.1.1,v7.1.2.1,v7.1.2.2.1,v7.1.2.2.2.1,v7.1.2.2.2.2.1,()),[],()),())with
      |none=>none
      |some v15=>
      match(!v15.1)with
      |true=>
       some (((0:Int),(0:Int),((0:Int),(0:Int),(0:Int),(0:Int),(0:Int),()),[],()),false,())
      |false=>
       match fq (((IntKind.i64.wrap (Int.tdiv v1 (64:Int))),(Int.tmod (IntKind.i64.wrap (Int.tdiv v2 (8:Int))) (8:Int)),(v7.1.1,v7.1.2.1,v7.1.2.2.1,v7.1.2.2.2.1,v7.1.2.2.2.2.1,()),[],()),())with
       |none=>none
       |some v16=>
       match bb (v16.1,x.1,())with
       |none=>none
       |some v17=>
       match(!v17.1)with
       |true=>
        some (((0:Int),(0:Int),((0:Int),(0:Int),(0:Int),(0:Int),(0:Int),()),[],()),false,())
       |false=>
        some (((IntKind.i64.wrap (Int.tdiv v1 (64:Int))),(Int.tmod (IntKind.i64.wrap (Int.tdiv v2 (8:Int))) (8:Int)),(v7.1.1,v7.1.2.1,v7.1.2.2.1,v7.1.2.2.2.1,v7.1.2.2.2.2.1,()),[],()),true,())
    |false=>
     match ex (((IntKind.i64.wrap (Int.tdiv v1 (64:Int))),(Int.tmod (IntKind.i64.wrap (Int.tdiv v2 (8:Int))) (8:Int)),(v7.1.1,v7.1.2.1,v7.1.2.2.1,v7.1.2.2.2.1,v7.1.2.2.2.2.1,()),[],()),())with
     |none=>none
     |some v18=>
     match(!v18.1)with
     |true=>
      some (((0:Int),(0:Int),((0:Int),(0:Int),(0:Int),(0:Int),(0:Int),()),[],()),false,())
     |false=>
      match fq (((IntKind.i64.wrap (Int.tdiv v1 (64:Int))),(Int.tmod (IntKind.i64.wrap (Int.tdiv v2 (8:Int))) (8:Int)),(v7.1.1,v7.1.2.1,v7.1.2.2.1,v7.1.2.2.2.1,v7.1.2.2.2.2.1,()),[],()),())with
      |none=>none
      |some v19=>
      match bb (v19.1,x.1,())with
      |none=>none
      |some v20=>
      match(!v20.1)with
      |true=>
       some (((0:Int),(0:Int),((0:Int),(0:Int),(0:Int),(0:Int),(0:Int),()),[],()),false,())
      |false=>
       some (((IntKind.i64.wrap (Int.tdiv v1 (64:Int))),(Int.tmod (IntKind.i64.wrap (Int.tdiv v2 (8:Int))) (8:Int)),(v7.1.1,v7.1.2.1,v7.1.2.2.1,v7.1.2.2.2.1,v7.1.2.2.2.2.1,()),[],()),true,())
  |false=>
   match iM ((IntKind.i64.wrap (Int.tdiv v1 (64:Int))),())with
   |none=>none
   |some v21=>
   match v21.1 with
   |true=>
    match(decide (((List.drop v3.1 (List.take v3.2 x.1)).length:Int)>(0:Int)))with
    |true=>
     ab (aK (List.drop v3.1 (List.take v3.2 x.1)).length (some (.dat (.int .i64) (1:Int))) none) fun v22=>
     match gj ((List.drop v22.1 (List.take v22.2 (List.drop v3.1 (List.take v3.2 x.1)))),())with
     |none=>none
     |some v23=>
     match ex (((IntKind.i64.wrap (Int.tdiv v1 (64:Int))),(Int.tmod (IntKind.i64.wrap (Int.tdiv v2 (8:Int))) (8:Int)),((0:Int),(0:Int),(0:Int),(0:Int),(0:Int),()),v23.1,()),())with
     |none=>none
     |some v24=>
     match(!v24.1)with
     |true=>
      some (((0:Int),(0:Int),((0:Int),(0:Int),(0:Int),(0:Int),(0:Int),()),[],()),false,())
     |false=>
      match fq (((IntKind.i64.wrap (Int.tdiv v1 (64:Int))),(Int.tmod (IntKind.i64.wrap (Int.tdiv v2 (8:Int))) (8:Int)),((0:Int),(0:Int),(0:Int),(0:Int),(0:Int),()),v23.1,()),())with
      |none=>none
      |some v25=>
      match bb (v25.1,x.1,())with
      |none=>none
      |some v26=>
      match(!v26.1)with
      |true=>
       some (((0:Int),(0:Int),((0:Int),(0:Int),(0:Int),(0:Int),(0:Int),()),[],()),false,())
      |false=>
       some (((IntKind.i64.wrap (Int.tdiv v1 (64:Int))),(Int.tmod (IntKind.i64.wrap (Int.tdiv v2 (8:Int))) (8:Int)),((0:Int),(0:Int),(0:Int),(0:Int),(0:Int),()),v23.1,()),true,())
    |false=>
     match ex (((IntKind.i64.wrap (Int.tdiv v1 (64:Int))),(Int.tmod (IntKind.i64.wrap (Int.tdiv v2 (8:Int))) (8:Int)),((0:Int),(0:Int),(0:Int),(0:Int),(0:Int),()),[],()),())with
     |none=>none
     |some v27=>
     match(!v27.1)with
     |true=>
      some (((0:Int),(0:Int),((0:Int),(0:Int),(0:Int),(0:Int),(0:Int),()),[],()),false,())
     |false=>
      match fq (((IntKind.i64.wrap (Int.tdiv v1 (64:Int))),(Int.tmod (IntKind.i64.wrap (Int.tdiv v2 (8:Int))) (8:Int)),((0:Int),(0:Int),(0:Int),(0:Int),(0:Int),()),[],()),())with
      |none=>none
      |some v28=>
      match bb (v28.1,x.1,())with
      |none=>none
      |some v29=>
      match(!v29.1)with
      |true=>
       some (((0:Int),(0:Int),((0:Int),(0:Int),(0:Int),(0:Int),(0:Int),()),[],()),false,())
      |false=>
       some (((IntKind.i64.wrap (Int.tdiv v1 (64:Int))),(Int.tmod (IntKind.i64.wrap (Int.tdiv v2 (8:Int))) (8:Int)),((0:Int),(0:Int),(0:Int),(0:Int),(0:Int),()),[],()),true,())
   |false=>
    match ex (((IntKind.i64.wrap (Int.tdiv v1 (64:Int))),(Int.tmod (IntKind.i64.wrap (Int.tdiv v2 (8:Int))) (8:Int)),((0:Int),(0:Int),(0:Int),(0:Int),(0:Int),()),[],()),())with
    |none=>none
    |some v30=>
    match(!v30.1)with
    |true=>
     some (((0:Int),(0:Int),((0:Int),(0:Int),(0:Int),(0:Int),(0:Int),()),[],()),false,())
    |false=>
     match fq (((IntKind.i64.wrap (Int.tdiv v1 (64:Int))),(Int.tmod (IntKind.i64.wrap (Int.tdiv v2 (8:Int))) (8:Int)),((0:Int),(0:Int),(0:Int),(0:Int),(0:Int),()),[],()),())with
     |none=>none
     |some v31=>
     match bb (v31.1,x.1,())with
     |none=>none
     |some v32=>
     match(!v32.1)with
     |true=>
      some (((0:Int),(0:Int),((0:Int),(0:Int),(0:Int),(0:Int),(0:Int),()),[],()),false,())
     |false=>
      some (((IntKind.i64.wrap (Int.tdiv v1 (64:Int))),(Int.tmod (IntKind.i64.wrap (Int.tdiv v2 (8:Int))) (8:Int)),((0:Int),(0:Int),(0:Int),(0:Int),(0:Int),()),[],()),true,()))
noncomputable def KV:ae:=⟨_,PH,.unit,rfl,qj⟩
theorem I3:FnOK G0 Tryz.prog 154 KV:=an ao (sg Ca (sg gt (sg Ed (sg kl (sg xA (sg ul (sg Ec (sg I2 (aR))))))))) Tryz.func154
noncomputable def mH(x:Ty.T UD):Option (Ty.T PI):=
match gh ((x.2.2.1.1,x.2.2.1.2.1,x.2.2.1.2.2.1,x.2.2.1.2.2.2.1,x.2.2.1.2.2.2.2.1,()),())with
|none=>none
|some v1=>
match(!v1.1)with
|true=>
 some (((0:Int),(0:Int),((0:Int),(0:Int),(0:Int),(0:Int),(0:Int),()),[],()),(1:Int),())
|false=>
 match G9 (x.2.1,())with
 |none=>none
 |some v2=>
 match(!v2.1)with
 |true=>
  some (((0:Int),(0:Int),((0:Int),(0:Int),(0:Int),(0:Int),(0:Int),()),[],()),(2:Int),())
 |false=>
  match gi (x.1,())with
  |none=>none
  |some v3=>
  match(!v3.1)with
  |true=>
   some (((0:Int),(0:Int),((0:Int),(0:Int),(0:Int),(0:Int),(0:Int),()),[],()),(2:Int),())
  |false=>
   match(decide ((IntKind.i64.wrap ((x.1.length:Int)-(3:Int)))<(1:Int)))with
   |true=>
    some (((0:Int),(0:Int),((0:Int),(0:Int),(0:Int),(0:Int),(0:Int),()),[],()),(6:Int),())
   |false=>
    ab (au x.1 (0:Int)) fun v4=>
    ab (aK x.1.length none (some (.dat (.int .i64) (IntKind.i64.wrap ((x.1.length:Int)-(3:Int)))))) fun v5=>
    ab (aK x.1.length (some (.dat (.int .i64) (IntKind.i64.wrap ((x.1.length:Int)-(3:Int))))) none) fun v6=>
    match gK ((IntKind.i64.wrap (Int.tdiv v4 (64:Int))),(List.drop v5.1 (List.take v5.2 x.1)),x.2.1,(x.2.2.1.1,x.2.2.1.2.1,x.2.2.1.2.2.1,x.2.2.1.2.2.2.1,x.2.2.1.2.2.2.2.1,()),())with
    |none=>none
    |some v7=>
    match jB (v7.1,())with
    |none=>none
    |some v8=>
    match bb (v8.1,(List.drop v6.1 (List.take v6.2 x.1)),())with
    |none=>none
    |some v9=>
    match(!v9.1)with
    |true=>
     some (((0:Int),(0:Int),((0:Int),(0:Int),(0:Int),(0:Int),(0:Int),()),[],()),(7:Int),())
    |false=>
     ab (aK x.1.length none (some (.dat (.int .i64) (IntKind.i64.wrap ((x.1.length:Int)-(3:Int)))))) fun v10=>
     match qj ((List.drop v10.1 (List.take v10.2 x.1)),())with
     |none=>none
     |some v11=>
     match(!v11.2.1)with
     |true=>
      some (((0:Int),(0:Int),((0:Int),(0:Int),(0:Int),(0:Int),(0:Int),()),[],()),(6:Int),())
     |false=>
      match fY (v11.1.1,())with
      |none=>none
      |some v12=>
      match v12.1 with
      |true=>
       match(!(dE ak (v11.1.2.2.1.1,v11.1.2.2.1.2.1,v11.1.2.2.1.2.2.1,v11.1.2.2.1.2.2.2.1,v11.1.2.2.1.2.2.2.2.1,()) (x.2.2.1.1,x.2.2.1.2.1,x.2.2.1.2.2.1,x.2.2.1.2.2.2.1,x.2.2.1.2.2.2.2.1,())))with
       |true=>
        some (((0:Int),(0:Int),((0:Int),(0:Int),(0:Int),(0:Int),(0:Int),()),[],()),(5:Int),())
       |false=>
        some ((v11.1.1,v11.1.2.1,(v11.1.2.2.1.1,v11.1.2.2.1.2.1,v11.1.2.2.1.2.2.1,v11.1.2.2.1.2.2.2.1,v11.1.2.2.1.2.2.2.2.1,()),v11.1.2.2.2.1,()),(0:Int),())
      |false=>
       some ((v11.1.1,v11.1.2.1,(v11.1.2.2.1.1,v11.1.2.2.1.2.1,v11.1.2.2.1.2.2.1,v11.1.2.2.1.2.2.2.1,v11.1.2.2.1.2.2.2.2.1,()),v11.1.2.2.2.1,()),(0:Int),())
noncomputable def KW:ae:=⟨_,PI,.unit,rfl,mH⟩
theorem I4:FnOK G0 Tryz.prog 97 KW:=an ao (sg pb (sg gt (sg vE (sg uA (sg kl (sg uu (sg QT (sg I3 (aR))))))))) Tryz.func97
noncomputable def pS(x:Ty.T Io):Option (Ty.T Bb):=
match mH (x.2.2.1,x.1.1,(x.2.1.1,x.2.1.2.1,x.2.1.2.2.1,x.2.1.2.2.2.1,x.2.1.2.2.2.2.1,()),())with
|none=>none
|some v1=>
match(v1.2.1==(0:Int))with
|true=>
 match cK ((x.1.1,x.1.2.1,x.1.2.2.1,x.1.2.2.2.1,()),(x.2.1.1,x.2.1.2.1,x.2.1.2.2.1,x.2.1.2.2.2.1,x.2.1.2.2.2.2.1,()),())with
 |none=>none
 |some v2=>
 match uw (v2.1,(v1.1.1,v1.1.2.1,(v1.1.2.2.1.1,v1.1.2.2.1.2.1,v1.1.2.2.1.2.2.1,v1.1.2.2.1.2.2.2.1,v1.1.2.2.1.2.2.2.2.1,()),v1.1.2.2.2.1,()),())with
 |none=>none
 |some v3=>
 match(!v3.1)with
 |true=>
  match((5:Int) != (0:Int))with
  |true=>
   some (((2:Int),((0:Int),(0:Int),((0:Int),(0:Int),(0:Int),(0:Int),(0:Int),()),[],()),()),(5:Int),())
  |false=>
   some (((3:Int),(v1.1.1,v1.1.2.1,(v1.1.2.2.1.1,v1.1.2.2.1.2.1,v1.1.2.2.1.2.2.1,v1.1.2.2.1.2.2.2.1,v1.1.2.2.1.2.2.2.2.1,()),v1.1.2.2.2.1,()),()),(0:Int),())
 |false=>
  match(v1.2.1 != (0:Int))with
  |true=>
   some (((2:Int),((0:Int),(0:Int),((0:Int),(0:Int),(0:Int),(0:Int),(0:Int),()),[],()),()),v1.2.1,())
  |false=>
   some (((3:Int),(v1.1.1,v1.1.2.1,(v1.1.2.2.1.1,v1.1.2.2.1.2.1,v1.1.2.2.1.2.2.1,v1.1.2.2.1.2.2.2.1,v1.1.2.2.1.2.2.2.2.1,()),v1.1.2.2.2.1,()),()),(0:Int),())
|false=>
 match(v1.2.1 != (0:Int))with
 |true=>
  some (((2:Int),((0:Int),(0:Int),((0:Int),(0:Int),(0:Int),(0:Int),(0:Int),()),[],()),()),v1.2.1,())
 |false=>
  some (((3:Int),(v1.1.1,v1.1.2.1,(v1.1.2.2.1.1,v1.1.2.2.1.2.1,v1.1.2.2.1.2.2.1,v1.1.2.2.1.2.2.2.1,v1.1.2.2.1.2.2.2.2.1,()),v1.1.2.2.2.1,()),()),(0:Int),())
noncomputable def QU:ae:=⟨_,Bb,.unit,rfl,pS⟩
theorem Hb:FnOK G0 Tryz.prog 47 QU:=an ao (sg iP (sg J1 (sg I4 (aR)))) Tryz.func47
noncomputable def jC(x:Ty.T Io):Option (Ty.T PD):=
match gi (x.2.2.1,())with
|none=>none
|some v1=>
match ko ((x.1.1,x.1.2.1,x.1.2.2.1,x.1.2.2.2.1,()),(x.2.1.1,x.2.1.2.1,x.2.1.2.2.1,x.2.1.2.2.2.1,x.2.1.2.2.2.2.1,()),v1.1,())with
|none=>none
|some v2=>
match(v2.1 != (0:Int))with
|true=>
 some (((0:Int),((0:Int),(0:Int),((0:Int),(0:Int),(0:Int),(0:Int),(0:Int),()),[],()),()),v2.1,())
|false=>
 match pS ((x.1.1,x.1.2.1,x.1.2.2.1,x.1.2.2.2.1,()),(x.2.1.1,x.2.1.2.1,x.2.1.2.2.1,x.2.1.2.2.2.1,x.2.1.2.2.2.2.1,()),x.2.2.1,())with
 |none=>none
 |some v3=>
 some ((v3.1.1,(v3.1.2.1.1,v3.1.2.1.2.1,(v3.1.2.1.2.2.1.1,v3.1.2.1.2.2.1.2.1,v3.1.2.1.2.2.1.2.2.1,v3.1.2.1.2.2.1.2.2.2.1,v3.1.2.1.2.2.1.2.2.2.2.1,()),v3.1.2.1.2.2.2.1,()),()),(0:Int),())
noncomputable def Fr:ae:=⟨_,PD,.unit,rfl,jC⟩
theorem Dx:FnOK G0 Tryz.prog 9 Fr:=an ao (sg uv (sg pb (sg Hb (aR)))) Tryz.func9
noncomputable def uB(x:Ty.T kh):Option (Ty.T br):=
aD (([]:List (Ty.T (.int .i64))).length+x.1.length) (
 some ((([]:List (Ty.T (.int .i64)))++x.1),()))
noncomputable def PS:ae:=⟨_,br,.unit,rfl,uB⟩
theorem NU:FnOK G0 Tryz.prog 183 PS:=an ao aR Tryz.func183
abbrev rN:Ty:=UG
noncomputable def gL(x:(Ty.T rN)):Option ((Ty.T rN) ⊕ ((Ty.T .unit) ⊕ (Ty.T ax))):=
match(decide (x.2.2.1<(x.1.length:Int)))with
|true=>
 ab (au x.1 x.2.2.1) fun v1=>
 ab (au x.2.1 x.2.2.1) fun v2=>
 match(v1 != v2)with
 |true=>
  some (.inr (.inr (false,())))
 |false=>
  some (.inl (x.1,x.2.1,(IntKind.i64.wrap (x.2.2.1+(1:Int))),()))
|false=>
 some (.inr (.inl (())))
noncomputable def bX(x:Ty.T PF):Option (Ty.T ax):=
match((x.1.length:Int) != (x.2.1.length:Int))with
|true=>
 some (false,())
|false=>
 match ac gL (x.1,x.2.1,(0:Int),())with
 |none=>none
 |some (.inl v3)=>
  some (true,())
 |some (.inr v4)=>
  some (v4.1,())
noncomputable def NV:ae:=⟨_,ax,.unit,rfl,bX⟩
noncomputable def Cd:FuncId→Option ae:=bU []
theorem I5:∀f s,Cd f=some s→FnOK G0 Tryz.prog f s:=aM trivial
def z7:aX:=⟨[0,1,5],rN,0,[],.unit,[4],ax⟩
noncomputable def Ce:List aJ:=[z7.spec gL]
theorem Hd:bq bI E0 Cd (bo Tryz.f191 Ce) Tryz.f191 0 z7 gL:=fun x=>by kernel_rfl
theorem Mk:FnOK G0 Tryz.prog 191 NV:=aP ao I5 Tryz.func191 Ce (by kernel_rfl) (by exact⟨(Hd).lok,trivial⟩) fun x=>by kernel_rfl
noncomputable def tc(x:Ty.T kh):Option (Ty.T vU):=
match cM (x.1,(0:Int),(16:Int),())with
|none=>none
|some v1=>
match cM (x.1,(16:Int),(4:Int),())with
|none=>none
|some v2=>
match cM (x.1,(20:Int),(4:Int),())with
|none=>none
|some v3=>
match cM (x.1,(24:Int),(8:Int),())with
|none=>none
|some v4=>
match cM (x.1,(32:Int),(32:Int),())with
|none=>none
|some v5=>
some ((v1.1,v2.1,v3.1,v4.1,v5.1,()),())
noncomputable def Ml:ae:=⟨_,vU,.unit,rfl,tc⟩
theorem KX:FnOK G0 Tryz.prog 208 Ml:=an ao (sg wH (aR)) Tryz.func208
end Go.Proofs.YtckljdhdadiphaaGreatDoor
