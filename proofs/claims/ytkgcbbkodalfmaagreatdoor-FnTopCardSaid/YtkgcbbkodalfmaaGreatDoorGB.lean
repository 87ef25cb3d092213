import Derived.Test.YtkgcbbkodalfmaaGreatDoorGA
namespace Go.Proofs.YtkgcbbkodalfmaaGreatDoor
open Go.RowKit
set_option linter.unusedVariables false
abbrev sj:Ty:=(.pair (.box ah) (.pair (.box an) (.pair (.box ai) (.pair (.box aB) (.pair (.ptr an) (.pair (.box ai) (.pair (.box (.pair (.int .i64) (.pair (.int .i64) (.pair ai (.pair (.own 2 (.int .i64)) .unit))))) (.pair (.int .i64) .unit))))))))
abbrev AL:Ty:=acm
noncomputable def aW(x:(Ty.T sj)):Option ((Ty.T sj) ⊕ ((Ty.T AL) ⊕ (Ty.T .unit))):=
match(decide (x.2.2.2.2.2.2.2.1<(x.2.2.2.2.2.2.1.2.2.2.1.length:Int)))with
|true=>
 aX (
  match aa (x.1,(256:Int),())with
  |none=>none
  |some v14=>
  ab (aq x.2.2.2.2.2.2.1.2.2.2.1 x.2.2.2.2.2.2.2.1) fun _=>
  match x.2.2.2.2.2.2.1.2.2.2.1[x.2.2.2.2.2.2.2.1.toNat]? with
  |none=>none
  |some v16=>
  some (.inl (v14.2.1,x.2.1,x.2.2.1,x.2.2.2.1,x.2.2.2.2.1,x.2.2.2.2.2.1,(x.2.2.2.2.2.2.1.1,x.2.2.2.2.2.2.1.2.1,x.2.2.2.2.2.2.1.2.2.1,(x.2.2.2.2.2.2.1.2.2.2.1.set x.2.2.2.2.2.2.2.1.toNat v14.1),()),(IntKind.i64.wrap (x.2.2.2.2.2.2.2.1+(1:Int))),())))
|false=>
 some (.inr (.inl (x.1,x.2.1,x.2.2.1,x.2.2.2.1,x.2.2.2.2.1,x.2.2.2.2.2.1,x.2.2.2.2.2.2.1,())))
noncomputable def bL(v17:Ty.T acm):Option (Ty.T RA):=
match aa (v17.1,(24:Int),())with
|none=>none
|some v19=>
match(v19.1==(0:Int))with
|true=>
 match ip (v19.2.1,())with
 |none=>none
 |some v20=>
 aN (
  some (v17.2.2.2.2.1,v17.2.2.2.2.2.1,(v17.2.2.2.2.2.2.1.1,v17.2.2.2.2.2.2.1.2.1,v20.1,v17.2.2.2.2.2.2.1.2.2.2.1,()),v20.2.1,())) (
  aX (
   some (v17.2.2.2.2.1,v17.2.2.2.2.2.1,(v17.2.2.2.2.2.2.1.1,v17.2.2.2.2.2.2.1.2.1,v20.1,v17.2.2.2.2.2.2.1.2.2.2.1,()),v20.2.1,())))
|false=>
 aN (
  some (v17.2.2.2.2.1,v17.2.2.2.2.2.1,v17.2.2.2.2.2.2.1,v19.2.1,())) (
  aX (
   some (v17.2.2.2.2.1,v17.2.2.2.2.2.1,v17.2.2.2.2.2.2.1,v19.2.1,())))
noncomputable def cl(v1:Ty.T VY)(v31:Ty.T Ff)(v32:Ty.T Ff)(v33:Ty.T Ff):Option (Ty.T RA):=
match b7 (v1.1,v1.2.1,v31.1,(IntKind.i64.wrap (v32.1*(IntKind.i64.wrap (Int.tdiv v33.1 (2:Int))))),())with
|none=>none
|some v34=>
match ac aW (v33.2.1,((0:Int),[],[],[],()),((0:Int),(0:Int),(0:Int),(0:Int),(0:Int),()),((0:Int),(0:Int),((0:Int),(0:Int),(0:Int),(0:Int),(0:Int),()),[],()),v1.1,v1.2.1,v34.1,(0:Int),())with
|none=>none
|some (.inl v35)=>
 bL v35
|some (.inr v39)=>
 none
noncomputable def b8(v1:Ty.T VY)(v10:Ty.T Ff)(v11:Ty.T Ff)(v12:Ty.T Ff):Option (Ty.T RA):=
match b7 (v1.1,(v1.2.1.1,v1.2.1.2.1,v1.2.1.2.2.1,v1.2.1.2.2.2.1,(0:Int),()),v10.1,(IntKind.i64.wrap (v11.1*(IntKind.i64.wrap (Int.tdiv v12.1 (2:Int))))),())with
|none=>none
|some v13=>
match ac aW (v12.2.1,((0:Int),[],[],[],()),((0:Int),(0:Int),(0:Int),(0:Int),(0:Int),()),((0:Int),(0:Int),((0:Int),(0:Int),(0:Int),(0:Int),(0:Int),()),[],()),v1.1,(v1.2.1.1,v1.2.1.2.1,v1.2.1.2.2.1,v1.2.1.2.2.2.1,(0:Int),()),v13.1,(0:Int),())with
|none=>none
|some (.inl v17)=>
 bL v17
|some (.inr v21)=>
 none
noncomputable def xm(v7:Ty.T Ff)(v1:Ty.T VY):Option (Ty.T RA):=
aN (
 aN (
  match aa (v7.2.1,(256:Int),())with
  |none=>none
  |some v31=>
  aN (
   match aa (v31.2.1,(8:Int),())with
   |none=>none
   |some v32=>
   aN (
    match aa (v32.2.1,(3:Int),())with
    |none=>none
    |some v33=>
    aX (
     cl v1 v31 v32 v33)) (
    match aa (v32.2.1,(3:Int),())with
    |none=>none
    |some v33=>
    cl v1 v31 v32 v33)) (
   match aa (v31.2.1,(8:Int),())with
   |none=>none
   |some v32=>
   match aa (v32.2.1,(3:Int),())with
   |none=>none
   |some v33=>
   cl v1 v31 v32 v33)) (
  match aa (v7.2.1,(256:Int),())with
  |none=>none
  |some v31=>
  match aa (v31.2.1,(8:Int),())with
  |none=>none
  |some v32=>
  match aa (v32.2.1,(3:Int),())with
  |none=>none
  |some v33=>
  cl v1 v31 v32 v33)) (
 aN (
  match aa (v7.2.1,(256:Int),())with
  |none=>none
  |some v31=>
  aN (
   aN (
    match aa (v31.2.1,(8:Int),())with
    |none=>none
    |some v32=>
    aN (
     match aa (v32.2.1,(3:Int),())with
     |none=>none
     |some v33=>
     aX (
      cl v1 v31 v32 v33)) (
     match aa (v32.2.1,(3:Int),())with
     |none=>none
     |some v33=>
     cl v1 v31 v32 v33)) (
    match aa (v31.2.1,(8:Int),())with
    |none=>none
    |some v32=>
    match aa (v32.2.1,(3:Int),())with
    |none=>none
    |some v33=>
    cl v1 v31 v32 v33)) (
   aN (
    match aa (v31.2.1,(8:Int),())with
    |none=>none
    |some v32=>
    aN (
     aN (
      match aa (v32.2.1,(3:Int),())with
      |none=>none
      |some v33=>
      aX (
       cl v1 v31 v32 v33)) (
      match aa (v32.2.1,(3:Int),())with
      |none=>none
      |some v33=>
      cl v1 v31 v32 v33)) (
     aN (
      match aa (v32.2.1,(3:Int),())with
      |none=>none
      |some v33=>
      aN (
       aX (
        cl v1 v31 v32 v33)) (
       cl v1 v31 v32 v33)) (
      aX (
       match aa (v32.2.1,(3:Int),())with
       |none=>none
       |some v33=>
       cl v1 v31 v32 v33)))) (
    aN (
     match aa (v31.2.1,(8:Int),())with
     |none=>none
     |some v32=>
     match aa (v32.2.1,(3:Int),())with
     |none=>none
     |some v33=>
     cl v1 v31 v32 v33) (
     match aa (v31.2.1,(8:Int),())with
     |none=>none
     |some v32=>
     aX (
      match aa (v32.2.1,(3:Int),())with
      |none=>none
      |some v33=>
      cl v1 v31 v32 v33))))) (
  aN (
   match aa (v7.2.1,(256:Int),())with
   |none=>none
   |some v31=>
   match aa (v31.2.1,(8:Int),())with
   |none=>none
   |some v32=>
   match aa (v32.2.1,(3:Int),())with
   |none=>none
   |some v33=>
   cl v1 v31 v32 v33) (
   match aa (v7.2.1,(256:Int),())with
   |none=>none
   |some v31=>
   aN (
    match aa (v31.2.1,(8:Int),())with
    |none=>none
    |some v32=>
    match aa (v32.2.1,(3:Int),())with
    |none=>none
    |some v33=>
    cl v1 v31 v32 v33) (
    match aa (v31.2.1,(8:Int),())with
    |none=>none
    |some v32=>
    aX (
     match aa (v32.2.1,(3:Int),())with
     |none=>none
     |some v33=>
     cl v1 v31 v32 v33)))))
noncomputable def tQ(x:Ty.T gB):Option (Ty.T RA):=
match yX (x.1,())with
|none=>none
|some v1=>
match tc (v1.1,v1.2.1,())with
|none=>none
|some v2=>
match(!v2.1)with
|true=>
 aN (
  match jy (v1.2.2.1,())with
  |none=>none
  |some v3=>
  some (v1.1,v1.2.1,v3.1,v3.2.1,())) (
  match jy (v1.2.2.1,())with
  |none=>none
  |some v3=>
  aX (
   some (v1.1,v1.2.1,v3.1,v3.2.1,())))
|false=>
 match aa (v1.2.2.1,(16:Int),())with
 |none=>none
 |some v4=>
 match(v4.1==(0:Int))with
 |true=>
  aN (
   match jy (v4.2.1,())with
   |none=>none
   |some v5=>
   some (v1.1,v1.2.1,v5.1,v5.2.1,())) (
   match jy (v4.2.1,())with
   |none=>none
   |some v5=>
   aX (
    some (v1.1,v1.2.1,v5.1,v5.2.1,())))
 |false=>
  match iq (v1.1,v1.2.1,())with
  |none=>none
  |some v6=>
  match(v6.1.2.1==(3:Int))with
  |true=>
   match aa (v4.2.1,(6:Int),())with
   |none=>none
   |some v7=>
   match(decide (v7.1>(0:Int)))with
   |true=>
    ab (aq v1.1.2.1 (0:Int)) fun v8=>
    if(IntKind.u64.wrap v8.1)<0 then none else
    ab (aq v1.1.2.1 (0:Int)) fun v9=>
    match v9.2.2.2.1 with
    |true=>
     aN (
      aN (
       match aa (v7.2.1,(256:Int),())with
       |none=>none
       |some v10=>
       aN (
        match aa (v10.2.1,(8:Int),())with
        |none=>none
        |some v11=>
        aN (
         match aa (v11.2.1,(3:Int),())with
         |none=>none
         |some v12=>
         aN (
          b8 v1 v10 v11 v12) (
          b8 v1 v10 v11 v12)) (
         match aa (v11.2.1,(3:Int),())with
         |none=>none
         |some v12=>
         b8 v1 v10 v11 v12)) (
        match aa (v10.2.1,(8:Int),())with
        |none=>none
        |some v11=>
        match aa (v11.2.1,(3:Int),())with
        |none=>none
        |some v12=>
        b8 v1 v10 v11 v12)) (
       match aa (v7.2.1,(256:Int),())with
       |none=>none
       |some v10=>
       match aa (v10.2.1,(8:Int),())with
       |none=>none
       |some v11=>
       match aa (v11.2.1,(3:Int),())with
       |none=>none
       |some v12=>
       b8 v1 v10 v11 v12)) (
      aN (
       match aa (v7.2.1,(256:Int),())with
       |none=>none
       |some v10=>
       aN (
        aN (
         match aa (v10.2.1,(8:Int),())with
         |none=>none
         |some v11=>
         aN (
          match aa (v11.2.1,(3:Int),())with
          |none=>none
          |some v12=>
          aX (
           b8 v1 v10 v11 v12)) (
          match aa (v11.2.1,(3:Int),())with
          |none=>none
          |some v12=>
          b8 v1 v10 v11 v12)) (
         match aa (v10.2.1,(8:Int),())with
         |none=>none
         |some v11=>
         match aa (v11.2.1,(3:Int),())with
         |none=>none
         |some v12=>
         b8 v1 v10 v11 v12)) (
        aN (
         match aa (v10.2.1,(8:Int),())with
         |none=>none
         |some v11=>
         aN (
          aN (
           match aa (v11.2.1,(3:Int),())with
           |none=>none
           |some v12=>
           aX (
            b8 v1 v10 v11 v12)) (
           match aa (v11.2.1,(3:Int),())with
           |none=>none
           |some v12=>
           b8 v1 v10 v11 v12)) (
          aN (
           match aa (v11.2.1,(3:Int),())with
           |none=>none
           |some v12=>
           aN (
            aX (
             b8 v1 v10 v11 v12)) (
            b8 v1 v10 v11 v12)) (
           aX (
            match aa (v11.2.1,(3:Int),())with
            |none=>none
            |some v12=>
            b8 v1 v10 v11 v12)))) (
         aN (
          match aa (v10.2.1,(8:Int),())with
          |none=>none
          |some v11=>
          match aa (v11.2.1,(3:Int),())with
          |none=>none
          |some v12=>
          b8 v1 v10 v11 v12) (
          match aa (v10.2.1,(8:Int),())with
          |none=>none
          |some v11=>
          aX (
           match aa (v11.2.1,(3:Int),())with
           |none=>none
           |some v12=>
           b8 v1 v10 v11 v12))))) (
       aN (
        match aa (v7.2.1,(256:Int),())with
        |none=>none
        |some v10=>
        match aa (v10.2.1,(8:Int),())with
        |none=>none
        |some v11=>
        match aa (v11.2.1,(3:Int),())with
        |none=>none
        |some v12=>
        b8 v1 v10 v11 v12) (
        match aa (v7.2.1,(256:Int),())with
        |none=>none
        |some v10=>
        aN (
         match aa (v10.2.1,(8:Int),())with
         |none=>none
         |some v11=>
         match aa (v11.2.1,(3:Int),())with
         |none=>none
         |some v12=>
         b8 v1 v10 v11 v12) (
         match aa (v10.2.1,(8:Int),())with
         |none=>none
         |some v11=>
         aX (
          match aa (v11.2.1,(3:Int),())with
          |none=>none
          |some v12=>
          b8 v1 v10 v11 v12)))))
    |false=>
     aN (
      aN (
       match aa (v7.2.1,(256:Int),())with
       |none=>none
       |some v22=>
       aN (
        match aa (v22.2.1,(8:Int),())with
        |none=>none
        |some v23=>
        aN (
         match aa (v23.2.1,(3:Int),())with
         |none=>none
         |some v24=>
         aX (
          match b7 (v1.1,(v1.2.1.1,v1.2.1.2.1,v1.2.1.2.2.1,v1.2.1.2.2.2.1,(IntKind.i64.wrap ((1:Int)*2^min (IntKind.u64.wrap v8.1).toNat IntKind.i64.bits)),()),v22.1,(IntKind.i64.wrap (v23.1*(IntKind.i64.wrap (Int.tdiv v24.1 (2:Int))))),())with
          |none=>none
          |some v25=>
          match ac aW (v24.2.1,((0:Int),[],[],[],()),((0:Int),(0:Int),(0:Int),(0:Int),(0:Int),()),((0:Int),(0:Int),((0:Int),(0:Int),(0:Int),(0:Int),(0:Int),()),[],()),v1.1,(v1.2.1.1,v1.2.1.2.1,v1.2.1.2.2.1,v1.2.1.2.2.2.1,(IntKind.i64.wrap ((1:Int)*2^min (IntKind.u64.wrap v8.1).toNat IntKind.i64.bits)),()),v25.1,(0:Int),())with
          |none=>none
          |some (.inl v26)=>
           bL v26
          |some (.inr v30)=>
           none)) (
         match aa (v23.2.1,(3:Int),())with
         |none=>none
         |some v24=>
         match b7 (v1.1,(v1.2.1.1,v1.2.1.2.1,v1.2.1.2.2.1,v1.2.1.2.2.2.1,(IntKind.i64.wrap ((1:Int)*2^min (IntKind.u64.wrap v8.1).toNat IntKind.i64.bits)),()),v22.1,(IntKind.i64.wrap (v23.1*(IntKind.i64.wrap (Int.tdiv v24.1 (2:Int))))),())with
         |none=>none
         |some v25=>
         match ac aW (v24.2.1,((0:Int),[],[],[],()),((0:Int),(0:Int),(0:Int),(0:Int),(0:Int),()),((0:Int),(0:Int),((0:Int),(0:Int),(0:Int),(0:Int),(0:Int),()),[],()),v1.1,(v1.2.1.1,v1.2.1.2.1,v1.2.1.2.2.1,v1.2.1.2.2.2.1,(IntKind.i64.wrap ((1:Int)*2^min (IntKind.u64.wrap v8.1).toNat IntKind.i64.bits)),()),v25.1,(0:Int),())with
         |none=>none
         |some (.inl v26)=>
          bL v26
         |some (.inr v30)=>
          none)) (
        match aa (v22.2.1,(8:Int),())with
        |none=>none
        |some v23=>
        match aa (v23.2.1,(3:Int),())with
        |none=>none
        |some v24=>
        match b7 (v1.1,(v1.2.1.1,v1.2.1.2.1,v1.2.1.2.2.1,v1.2.1.2.2.2.1,(IntKind.i64.wrap ((1:Int)*2^min (IntKind.u64.wrap v8.1).toNat IntKind.i64.bits)),()),v22.1,(IntKind.i64.wrap (v23.1*(IntKind.i64.wrap (Int.tdiv v24.1 (2:Int))))),())with
        |none=>none
        |some v25=>
        match ac aW (v24.2.1,((0:Int),[],[],[],()),((0:Int),(0:Int),(0:Int),(0:Int),(0:Int),()),((0:Int),(0:Int),((0:Int),(0:Int),(0:Int),(0:Int),(0:Int),()),[],()),v1.1,(v1.2.1.1,v1.2.1.2.1,v1.2.1.2.2.1,v1.2.1.2.2.2.1,(IntKind.i64.wrap ((1:Int)*2^min (IntKind.u64.wrap v8.1).toNat IntKind.i64.bits)),()),v25.1,(0:Int),())with
        |none=>none
        |some (.inl v26)=>
         bL v26
        |some (.inr v30)=>
         none)) (
       match aa (v7.2.1,(256:Int),())with
       |none=>none
       |some v22=>
       match aa (v22.2.1,(8:Int),())with
       |none=>none
       |some v23=>
       match aa (v23.2.1,(3:Int),())with
       |none=>none
       |some v24=>
       match b7 (v1.1,(v1.2.1.1,v1.2.1.2.1,v1.2.1.2.2.1,v1.2.1.2.2.2.1,(IntKind.i64.wrap ((1:Int)*2^min (IntKind.u64.wrap v8.1).toNat IntKind.i64.bits)),()),v22.1,(IntKind.i64.wrap (v23.1*(IntKind.i64.wrap (Int.tdiv v24.1 (2:Int))))),())with
       |none=>none
       |some v25=>
       match ac aW (v24.2.1,((0:Int),[],[],[],()),((0:Int),(0:Int),(0:Int),(0:Int),(0:Int),()),((0:Int),(0:Int),((0:Int),(0:Int),(0:Int),(0:Int),(0:Int),()),[],()),v1.1,(v1.2.1.1,v1.2.1.2.1,v1.2.1.2.2.1,v1.2.1.2.2.2.1,(IntKind.i64.wrap ((1:Int)*2^min (IntKind.u64.wrap v8.1).toNat IntKind.i64.bits)),()),v25.1,(0:Int),())with
       |none=>none
       |some (.inl v26)=>
        bL v26
       |some (.inr v30)=>
        none)) (
      aN (
       match aa (v7.2.1,(256:Int),())with
       |none=>none
       |some v22=>
       aN (
        aN (
         match aa (v22.2.1,(8:Int),())with
         |none=>none
         |some v23=>
         aN (
          match aa (v23.2.1,(3:Int),())with
          |none=>none
          |some v24=>
          aX (
           match b7 (v1.1,(v1.2.1.1,v1.2.1.2.1,v1.2.1.2.2.1,v1.2.1.2.2.2.1,(IntKind.i64.wrap ((1:Int)*2^min (IntKind.u64.wrap v8.1).toNat IntKind.i64.bits)),()),v22.1,(IntKind.i64.wrap (v23.1*(IntKind.i64.wrap (Int.tdiv v24.1 (2:Int))))),())with
           |none=>none
           |some v25=>
           match ac aW (v24.2.1,((0:Int),[],[],[],()),((0:Int),(0:Int),(0:Int),(0:Int),(0:Int),()),((0:Int),(0:Int),((0:Int),(0:Int),(0:Int),(0:Int),(0:Int),()),[],()),v1.1,(v1.2.1.1,v1.2.1.2.1,v1.2.1.2.2.1,v1.2.1.2.2.2.1,(IntKind.i64.wrap ((1:Int)*2^min (IntKind.u64.wrap v8.1).toNat IntKind.i64.bits)),()),v25.1,(0:Int),())with
           |none=>none
           |some (.inl v26)=>
            bL v26
           |some (.inr v30)=>
            none)) (
          match aa (v23.2.1,(3:Int),())with
          |none=>none
          |some v24=>
          match b7 (v1.1,(v1.2.1.1,v1.2.1.2.1,v1.2.1.2.2.1,v1.2.1.2.2.2.1,(IntKind.i64.wrap ((1:Int)*2^min (IntKind.u64.wrap v8.1).toNat IntKind.i64.bits)),()),v22.1,(IntKind.i64.wrap (v23.1*(IntKind.i64.wrap (Int.tdiv v24.1 (2:Int))))),())with
          |none=>none
          |some v25=>
          match ac aW (v24.2.1,((0:Int),[],[],[],()),((0:Int),(0:Int),(0:Int),(0:Int),(0:Int),()),((0:Int),(0:Int),((0:Int),(0:Int),(0:Int),(0:Int),(0:Int),()),[],()),v1.1,(v1.2.1.1,v1.2.1.2.1,v1.2.1.2.2.1,v1.2.1.2.2.2.1,(IntKind.i64.wrap ((1:Int)*2^min (IntKind.u64.wrap v8.1).toNat IntKind.i64.bits)),()),v25.1,(0:Int),())with
          |none=>none
          |some (.inl v26)=>
           bL v26
          |some (.inr v30)=>
           none)) (
         match aa (v22.2.1,(8:Int),())with
         |none=>none
         |some v23=>
         match aa (v23.2.1,(3:Int),())with
         |none=>none
         |some v24=>
         match b7 (v1.1,(v1.2.1.1,v1.2.1.2.1,v1.2.1.2.2.1,v1.2.1.2.2.2.1,(IntKind.i64.wrap ((1:Int)*2^min (IntKind.u64.wrap v8.1).toNat IntKind.i64.bits)),()),v22.1,(IntKind.i64.wrap (v23.1*(IntKind.i64.wrap (Int.tdiv v24.1 (2:Int))))),())with
         |none=>none
         |some v25=>
         match ac aW (v24.2.1,((0:Int),[],[],[],()),((0:Int),(0:Int),(0:Int),(0:Int),(0:Int),()),((0:Int),(0:Int),((0:Int),(0:Int),(0:Int),(0:Int),(0:Int),()),[],()),v1.1,(v1.2.1.1,v1.2.1.2.1,v1.2.1.2.2.1,v1.2.1.2.2.2.1,(IntKind.i64.wrap ((1:Int)*2^min (IntKind.u64.wrap v8.1).toNat IntKind.i64.bits)),()),v25.1,(0:Int),())with
         |none=>none
         |some (.inl v26)=>
          bL v26
         |some (.inr v30)=>
          none)) (
        aN (
         match aa (v22.2.1,(8:Int),())with
         |none=>none
         |some v23=>
         aN (
          aN (
           match aa (v23.2.1,(3:Int),())with
           |none=>none
           |some v24=>
           aX (
            match b7 (v1.1,(v1.2.1.1,v1.2.1.2.1,v1.2.1.2.2.1,v1.2.1.2.2.2.1,(IntKind.i64.wrap ((1:Int)*2^min (IntKind.u64.wrap v8.1).toNat IntKind.i64.bits)),()),v22.1,(IntKind.i64.wrap (v23.1*(IntKind.i64.wrap (Int.tdiv v24.1 (2:Int))))),())with
            |none=>none
            |some v25=>
            match ac aW (v24.2.1,((0:Int),[],[],[],()),((0:Int),(0:Int),(0:Int),(0:Int),(0:Int),()),((0:Int),(0:Int),((0:Int),(0:Int),(0:Int),(0:Int),(0:Int),()),[],()),v1.1,(v1.2.1.1,v1.2.1.2.1,v1.2.1.2.2.1,v1.2.1.2.2.2.1,(IntKind.i64.wrap ((1:Int)*2^min (IntKind.u64.wrap v8.1).toNat IntKind.i64.bits)),()),v25.1,(0:Int),())with
            |none=>none
            |some (.inl v26)=>
             bL v26
            |some (.inr v30)=>
             none)) (
           match aa (v23.2.1,(3:Int),())with
           |none=>none
           |some v24=>
           match b7 (v1.1,(v1.2.1.1,v1.2.1.2.1,v1.2.1.2.2.1,v1.2.1.2.2.2.1,(IntKind.i64.wrap ((1:Int)*2^min (IntKind.u64.wrap v8.1).toNat IntKind.i64.bits)),()),v22.1,(IntKind.i64.wrap (v23.1*(IntKind.i64.wrap (Int.tdiv v24.1 (2:Int))))),())with
           |none=>none
           |some v25=>
           match ac aW (v24.2.1,((0:Int),[],[],[],()),((0:Int),(0:Int),(0:Int),(0:Int),(0:Int),()),((0:Int),(0:Int),((0:Int),(0:Int),(0:Int),(0:Int),(0:Int),()),[],()),v1.1,(v1.2.1.1,v1.2.1.2.1,v1.2.1.2.2.1,v1.2.1.2.2.2.1,(IntKind.i64.wrap ((1:Int)*2^min (IntKind.u64.wrap v8.1).toNat IntKind.i64.bits)),()),v25.1,(0:Int),())with
           |none=>none
           |some (.inl v26)=>
            bL v26
           |some (.inr v30)=>
            none)) (
          aN (
           match aa (v23.2.1,(3:Int),())with
           |none=>none
           |some v24=>
           aN (
            aX (
             match b7 (v1.1,(v1.2.1.1,v1.2.1.2.1,v1.2.1.2.2.1,v1.2.1.2.2.2.1,(IntKind.i64.wrap ((1:Int)*2^min (IntKind.u64.wrap v8.1).toNat IntKind.i64.bits)),()),v22.1,(IntKind.i64.wrap (v23.1*(IntKind.i64.wrap (Int.tdiv v24.1 (2:Int))))),())with
             |none=>none
             |some v25=>
             match ac aW (v24.2.1,((0:Int),[],[],[],()),((0:Int),(0:Int),(0:Int),(0:Int),(0:Int),()),((0:Int),(0:Int),((0:Int),(0:Int),(0:Int),(0:Int),(0:Int),()),[],()),v1.1,(v1.2.1.1,v1.2.1.2.1,v1.2.1.2.2.1,v1.2.1.2.2.2.1,(IntKind.i64.wrap ((1:Int)*2^min (IntKind.u64.wrap v8.1).toNat IntKind.i64.bits)),()),v25.1,(0:Int),())with
             |none=>none
             |some (.inl v26)=>
              bL v26
             |some (.inr v30)=>
              none)) (
            match b7 (v1.1,(v1.2.1.1,v1.2.1.2.1,v1.2.1.2.2.1,v1.2.1.2.2.2.1,(IntKind.i64.wrap ((1:Int)*2^min (IntKind.u64.wrap v8.1).toNat IntKind.i64.bits)),()),v22.1,(IntKind.i64.wrap (v23.1*(IntKind.i64.wrap (Int.tdiv v24.1 (2:Int))))),())with
            |none=>none
            |some v25=>
            match ac aW (v24.2.1,((0:Int),[],[],[],()),((0:Int),(0:Int),(0:Int),(0:Int),(0:Int),()),((0:Int),(0:Int),((0:Int),(0:Int),(0:Int),(0:Int),(0:Int),()),[],()),v1.1,(v1.2.1.1,v1.2.1.2.1,v1.2.1.2.2.1,v1.2.1.2.2.2.1,(IntKind.i64.wrap ((1:Int)*2^min (IntKind.u64.wrap v8.1).toNat IntKind.i64.bits)),()),v25.1,(0:Int),())with
            |none=>none
            |some (.inl v26)=>
             bL v26
            |some (.inr v30)=>
             none)) (
           aX (
            match aa (v23.2.1,(3:Int),())with
            |none=>none
            |some v24=>
            match b7 (v1.1,(v1.2.1.1,v1.2.1.2.1,v1.2.1.2.2.1,v1.2.1.2.2.2.1,(IntKind.i64.wrap ((1:Int)*2^min (IntKind.u64.wrap v8.1).toNat IntKind.i64.bits)),()),v22.1,(IntKind.i64.wrap (v23.1*(IntKind.i64.wrap (Int.tdiv v24.1 (2:Int))))),())with
            |none=>none
            |some v25=>
            match ac aW (v24.2.1,((0:Int),[],[],[],()),((0:Int),(0:Int),(0:Int),(0:Int),(0:Int),()),((0:Int),(0:Int),((0:Int),(0:Int),(0:Int),(0:Int),(0:Int),()),[],()),v1.1,(v1.2.1.1,v1.2.1.2.1,v1.2.1.2.2.1,v1.2.1.2.2.2.1,(IntKind.i64.wrap ((1:Int)*2^min (IntKind.u64.wrap v8.1).toNat IntKind.i64.bits)),()),v25.1,(0:Int),())with
            |none=>none
            |some (.inl v26)=>
             bL v26
            |some (.inr v30)=>
             none)))) (
         aN (
          match aa (v22.2.1,(8:Int),())with
          |none=>none
          |some v23=>
          match aa (v23.2.1,(3:Int),())with
          |none=>none
          |some v24=>
          match b7 (v1.1,(v1.2.1.1,v1.2.1.2.1,v1.2.1.2.2.1,v1.2.1.2.2.2.1,(IntKind.i64.wrap ((1:Int)*2^min (IntKind.u64.wrap v8.1).toNat IntKind.i64.bits)),()),v22.1,(IntKind.i64.wrap (v23.1*(IntKind.i64.wrap (Int.tdiv v24.1 (2:Int))))),())with
          |none=>none
          |some v25=>
          match ac aW (v24.2.1,((0:Int),[],[],[],()),((0:Int),(0:Int),(0:Int),(0:Int),(0:Int),()),((0:Int),(0:Int),((0:Int),(0:Int),(0:Int),(0:Int),(0:Int),()),[],()),v1.1,(v1.2.1.1,v1.2.1.2.1,v1.2.1.2.2.1,v1.2.1.2.2.2.1,(IntKind.i64.wrap ((1:Int)*2^min (IntKind.u64.wrap v8.1).toNat IntKind.i64.bits)),()),v25.1,(0:Int),())with
          |none=>none
          |some (.inl v26)=>
           bL v26
          |some (.inr v30)=>
           none) (
          match aa (v22.2.1,(8:Int),())with
          |none=>none
          |some v23=>
          aX (
           match aa (v23.2.1,(3:Int),())with
           |none=>none
           |some v24=>
           match b7 (v1.1,(v1.2.1.1,v1.2.1.2.1,v1.2.1.2.2.1,v1.2.1.2.2.2.1,(IntKind.i64.wrap ((1:Int)*2^min (IntKind.u64.wrap v8.1).toNat IntKind.i64.bits)),()),v22.1,(IntKind.i64.wrap (v23.1*(IntKind.i64.wrap (Int.tdiv v24.1 (2:Int))))),())with
           |none=>none
           |some v25=>
           match ac aW (v24.2.1,((0:Int),[],[],[],()),((0:Int),(0:Int),(0:Int),(0:Int),(0:Int),()),((0:Int),(0:Int),((0:Int),(0:Int),(0:Int),(0:Int),(0:Int),()),[],()),v1.1,(v1.2.1.1,v1.2.1.2.1,v1.2.1.2.2.1,v1.2.1.2.2.2.1,(IntKind.i64.wrap ((1:Int)*2^min (IntKind.u64.wrap v8.1).toNat IntKind.i64.bits)),()),v25.1,(0:Int),())with
           |none=>none
           |some (.inl v26)=>
            bL v26
           |some (.inr v30)=>
            none))))) (
       aN (
        match aa (v7.2.1,(256:Int),())with
        |none=>none
        |some v22=>
        match aa (v22.2.1,(8:Int),())with
        |none=>none
        |some v23=>
        match aa (v23.2.1,(3:Int),())with
        |none=>none
        |some v24=>
        match b7 (v1.1,(v1.2.1.1,v1.2.1.2.1,v1.2.1.2.2.1,v1.2.1.2.2.2.1,(IntKind.i64.wrap ((1:Int)*2^min (IntKind.u64.wrap v8.1).toNat IntKind.i64.bits)),()),v22.1,(IntKind.i64.wrap (v23.1*(IntKind.i64.wrap (Int.tdiv v24.1 (2:Int))))),())with
        |none=>none
        |some v25=>
        match ac aW (v24.2.1,((0:Int),[],[],[],()),((0:Int),(0:Int),(0:Int),(0:Int),(0:Int),()),((0:Int),(0:Int),((0:Int),(0:Int),(0:Int),(0:Int),(0:Int),()),[],()),v1.1,(v1.2.1.1,v1.2.1.2.1,v1.2.1.2.2.1,v1.2.1.2.2.2.1,(IntKind.i64.wrap ((1:Int)*2^min (IntKind.u64.wrap v8.1).toNat IntKind.i64.bits)),()),v25.1,(0:Int),())with
        |none=>none
        |some (.inl v26)=>
         bL v26
        |some (.inr v30)=>
         none) (
        match aa (v7.2.1,(256:Int),())with
        |none=>none
        |some v22=>
        aN (
         match aa (v22.2.1,(8:Int),())with
         |none=>none
         |some v23=>
         match aa (v23.2.1,(3:Int),())with
         |none=>none
         |some v24=>
         match b7 (v1.1,(v1.2.1.1,v1.2.1.2.1,v1.2.1.2.2.1,v1.2.1.2.2.2.1,(IntKind.i64.wrap ((1:Int)*2^min (IntKind.u64.wrap v8.1).toNat IntKind.i64.bits)),()),v22.1,(IntKind.i64.wrap (v23.1*(IntKind.i64.wrap (Int.tdiv v24.1 (2:Int))))),())with
         |none=>none
         |some v25=>
         match ac aW (v24.2.1,((0:Int),[],[],[],()),((0:Int),(0:Int),(0:Int),(0:Int),(0:Int),()),((0:Int),(0:Int),((0:Int),(0:Int),(0:Int),(0:Int),(0:Int),()),[],()),v1.1,(v1.2.1.1,v1.2.1.2.1,v1.2.1.2.2.1,v1.2.1.2.2.2.1,(IntKind.i64.wrap ((1:Int)*2^min (IntKind.u64.wrap v8.1).toNat IntKind.i64.bits)),()),v25.1,(0:Int),())with
         |none=>none
         |some (.inl v26)=>
          bL v26
         |some (.inr v30)=>
          none) (
         match aa (v22.2.1,(8:Int),())with
         |none=>none
         |some v23=>
         aX (
          match aa (v23.2.1,(3:Int),())with
          |none=>none
          |some v24=>
          match b7 (v1.1,(v1.2.1.1,v1.2.1.2.1,v1.2.1.2.2.1,v1.2.1.2.2.2.1,(IntKind.i64.wrap ((1:Int)*2^min (IntKind.u64.wrap v8.1).toNat IntKind.i64.bits)),()),v22.1,(IntKind.i64.wrap (v23.1*(IntKind.i64.wrap (Int.tdiv v24.1 (2:Int))))),())with
          |none=>none
          |some v25=>
          match ac aW (v24.2.1,((0:Int),[],[],[],()),((0:Int),(0:Int),(0:Int),(0:Int),(0:Int),()),((0:Int),(0:Int),((0:Int),(0:Int),(0:Int),(0:Int),(0:Int),()),[],()),v1.1,(v1.2.1.1,v1.2.1.2.1,v1.2.1.2.2.1,v1.2.1.2.2.2.1,(IntKind.i64.wrap ((1:Int)*2^min (IntKind.u64.wrap v8.1).toNat IntKind.i64.bits)),()),v25.1,(0:Int),())with
          |none=>none
          |some (.inl v26)=>
           bL v26
          |some (.inr v30)=>
           none)))))
   |false=>
    xm v7 v1
  |false=>
   xm v4 v1
noncomputable def TI:ae:=⟨_,Cf,gB,rfl,tQ⟩
noncomputable def FK:FuncId→Option ae:=bC [(52,gg),(62,Il),(84,Im),(93,Dk),(94,AJ),(95,FJ),(96,zJ)]
theorem NJ:∀f s,FK f=some s→FnOK G0 Tryz.prog f s:=aD ⟨bK,RI,mB,NH,Lj,PU,xd,trivial⟩
def AM:aO:=⟨[0,2,3,4,5,6,7,8],sj,0,[0,2,3,4,5,6,7],AL,[],.unit⟩
noncomputable def FL:List aw:=[AM.spec aW]
theorem JB:bg Γ3 E3 FK (bc Tryz.f48 FL) Tryz.f48 0 AM aW:=fun x=>by kernel_rfl
theorem RL:FnOK G0 Tryz.prog 48 TI:=aJ adA NJ Tryz.func48 FL (by kernel_rfl) (by exact⟨(JB).lok,trivial⟩) fun x=>by kernel_rfl
noncomputable def pY(x:Ty.T Fe):Option (Ty.T aE):=
match jx ((x.1.1,x.1.2.1,x.1.2.2.1,x.1.2.2.2.1,()),())with
|none=>none
|some v1=>
match(!v1.1)with
|true=>
 some ((1:Int),())
|false=>
 match ir ((x.1.1,x.1.2.1,x.1.2.2.1,x.1.2.2.2.1,()),(x.2.1.1,x.2.1.2.1,x.2.1.2.2.1,x.2.1.2.2.2.1,x.2.1.2.2.2.2.1,()),())with
 |none=>none
 |some v2=>
 match(!v2.1)with
 |true=>
  some ((2:Int),())
 |false=>
  some ((0:Int),())
noncomputable def TJ:ae:=⟨_,aE,.unit,rfl,pY⟩
theorem FM:FnOK G0 Tryz.prog 132 TJ:=ak aj (sg zK (sg yY (aL))) Tryz.func132
noncomputable def eJ(x:(Ty.T tD)):Option ((Ty.T tD) ⊕ ((Ty.T .unit) ⊕ (Ty.T ao))):=
match(decide (x.2.2.1<(x.1.length:Int)))with
|true=>
 ab (aq x.1 x.2.2.1) fun v1=>
 match bE (v1,(0:Int),x.2.1,())with
 |none=>none
 |some v2=>
 match(!v2.1)with
 |true=>
  some (.inr (.inr (false,())))
 |false=>
  some (.inl (x.1,x.2.1,(IntKind.i64.wrap (x.2.2.1+(1:Int))),()))
|false=>
 some (.inr (.inl (())))
noncomputable def sk(x:Ty.T tD):Option (Ty.T ao):=
match(decide ((x.1.length:Int)>x.2.1))with
|true=>
 some (false,())
|false=>
 match ac eJ (x.1,x.2.2.1,(0:Int),())with
 |none=>none
 |some (.inl v3)=>
  some (true,())
 |some (.inr v4)=>
  some (v4.1,())
noncomputable def V4:ae:=⟨_,ao,.unit,rfl,sk⟩
noncomputable def Io:FuncId→Option ae:=bC [(70,lg)]
theorem PV:∀f s,Io f=some s→FnOK G0 Tryz.prog f s:=aD ⟨cT,trivial⟩
def FN:aO:=⟨[0,2,7],tD,0,[],.unit,[6],ao⟩
noncomputable def Ip:List aw:=[FN.spec eJ]
theorem NK:bg bi E0 Io (bc Tryz.f161 Ip) Tryz.f161 0 FN eJ:=fun x=>by kernel_rfl
theorem Iq:FnOK G0 Tryz.prog 161 V4:=aJ aj PV Tryz.func161 Ip (by kernel_rfl) (by exact⟨(NK).lok,trivial⟩) fun x=>by kernel_rfl
noncomputable def tR(x:Ty.T eG):Option (Ty.T ao):=
match sk (x.1,(1024:Int),(255:Int),())with
|none=>none
|some v1=>
some (v1.1,())
noncomputable def TK:ae:=⟨_,ao,.unit,rfl,tR⟩
theorem RM:FnOK G0 Tryz.prog 298 TK:=ak aj (sg Iq (aL)) Tryz.func298
noncomputable def cU(x:Ty.T Nn):Option (Ty.T ao):=
match tG (x.1.1,())with
|none=>none
|some v1=>
match(!v1.1)with
|true=>
 some (false,())
|false=>
 match bE (x.1.2.1,(0:Int),(7:Int),())with
 |none=>none
 |some v2=>
 match(!v2.1)with
 |true=>
  some (false,())
 |false=>
  match tH (x.1.1,(x.1.2.2.2.1.length:Int),())with
  |none=>none
  |some v3=>
  match(!v3.1)with
  |true=>
   some (false,())
  |false=>
   match tR (x.1.2.2.2.1,())with
   |none=>none
   |some v4=>
   match(!v4.1)with
   |true=>
    some (false,())
   |false=>
    match(x.1.1==(0:Int))with
    |true=>
     some ((ex ai (x.1.2.2.1.1,x.1.2.2.1.2.1,x.1.2.2.1.2.2.1,x.1.2.2.1.2.2.2.1,x.1.2.2.1.2.2.2.2.1,()) ((0:Int),(0:Int),(0:Int),(0:Int),(0:Int),())),())
    |false=>
     match(x.1.1==(3:Int))with
     |true=>
      match jk (x.1.2.2.1.2.2.2.2.1,())with
      |none=>none
      |some v5=>
      match lh ((x.1.2.2.1.1,x.1.2.2.1.2.1,x.1.2.2.1.2.2.1,x.1.2.2.1.2.2.2.1,x.1.2.2.1.2.2.2.2.1,()),())with
      |none=>none
      |some v6=>
      match v6.1 with
      |true=>
       match(x.1.2.2.1.2.1==(0:Int))with
       |true=>
        match((v5.1.length:Int)==(1:Int))with
        |true=>
         some ((x.1.2.1==(0:Int)),())
        |false=>
         some (false,())
       |false=>
        some (false,())
      |false=>
       some (false,())
     |false=>
      match lh ((x.1.2.2.1.1,x.1.2.2.1.2.1,x.1.2.2.1.2.2.1,x.1.2.2.1.2.2.2.1,x.1.2.2.1.2.2.2.2.1,()),())with
      |none=>none
      |some v7=>
      some (v7.1,())
noncomputable def TL:ae:=⟨_,ao,.unit,rfl,cU⟩
theorem FO:FnOK G0 Tryz.prog 266 TL:=ak aj (sg cT (sg FE (sg Ar (sg Fu (sg Fv (sg RM (aL))))))) Tryz.func266
noncomputable def dR(x:Ty.T Y8):Option (Ty.T ao):=
match eZ ((x.1.1,x.1.2.1,x.1.2.2.1,x.1.2.2.2.1,x.1.2.2.2.2.1,()),())with
|none=>none
|some v1=>
match v1.1 with
|true=>
 match cU ((x.2.1.1,x.2.1.2.1,(x.2.1.2.2.1.1,x.2.1.2.2.1.2.1,x.2.1.2.2.1.2.2.1,x.2.1.2.2.1.2.2.2.1,x.2.1.2.2.1.2.2.2.2.1,()),x.2.1.2.2.2.1,()),())with
 |none=>none
 |some v2=>
 match v2.1 with
 |true=>
  match(x.2.1.1==x.1.2.1)with
  |true=>
   match((x.2.1.2.2.2.1.length:Int)==x.1.2.2.1)with
   |true=>
    match x.1.2.2.2.2.1 with
    |true=>
     some (true,())
    |false=>
     some ((x.2.1.2.1==(0:Int)),())
   |false=>
    some (false,())
  |false=>
   some (false,())
 |false=>
  some (false,())
|false=>
 some (false,())
noncomputable def FP:ae:=⟨_,ao,.unit,rfl,dR⟩
theorem rS:FnOK G0 Tryz.prog 218 FP:=ak aj (sg vq (sg FO (aL))) Tryz.func218
noncomputable def lE(x:Ty.T Cf):Option (Ty.T ao):=
match iq ((x.1.1,x.1.2.1,x.1.2.2.1,x.1.2.2.2.1,()),(x.2.1.1,x.2.1.2.1,x.2.1.2.2.1,x.2.1.2.2.2.1,x.2.1.2.2.2.2.1,()),())with
|none=>none
|some v1=>
match dR (v1.1,(x.2.2.1.1,x.2.2.1.2.1,(x.2.2.1.2.2.1.1,x.2.2.1.2.2.1.2.1,x.2.2.1.2.2.1.2.2.1,x.2.2.1.2.2.1.2.2.2.1,x.2.2.1.2.2.1.2.2.2.2.1,()),x.2.2.1.2.2.2.1,()),())with
|none=>none
|some v2=>
match v2.1 with
|true=>
 match dP (x.2.2.1.1,())with
 |none=>none
 |some v3=>
 match(!v3.1)with
 |true=>
  some (true,())
 |false=>
  some ((ex ai (x.2.2.1.2.2.1.1,x.2.2.1.2.2.1.2.1,x.2.2.1.2.2.1.2.2.1,x.2.2.1.2.2.1.2.2.2.1,x.2.2.1.2.2.1.2.2.2.2.1,()) (x.2.1.1,x.2.1.2.1,x.2.1.2.2.1,x.2.1.2.2.2.1,x.2.1.2.2.2.2.1,())),())
|false=>
 some (false,())
noncomputable def Ll:ae:=⟨_,ao,.unit,rfl,lE⟩
theorem JC:FnOK G0 Tryz.prog 155 Ll:=ak aj (sg mB (sg iK (sg rS (aL)))) Tryz.func155
noncomputable def tS(x:Ty.T Cf):Option (Ty.T aE):=
match pY ((x.1.1,x.1.2.1,x.1.2.2.1,x.1.2.2.2.1,()),(x.2.1.1,x.2.1.2.1,x.2.1.2.2.1,x.2.1.2.2.2.1,x.2.1.2.2.2.2.1,()),())with
|none=>none
|some v1=>
match(v1.1==(0:Int))with
|true=>
 match lE ((x.1.1,x.1.2.1,x.1.2.2.1,x.1.2.2.2.1,()),(x.2.1.1,x.2.1.2.1,x.2.1.2.2.1,x.2.1.2.2.2.1,x.2.1.2.2.2.2.1,()),(x.2.2.1.1,x.2.2.1.2.1,(x.2.2.1.2.2.1.1,x.2.2.1.2.2.1.2.1,x.2.2.1.2.2.1.2.2.1,x.2.2.1.2.2.1.2.2.2.1,x.2.2.1.2.2.1.2.2.2.2.1,()),x.2.2.1.2.2.2.1,()),())with
 |none=>none
 |some v2=>
 match(!v2.1)with
 |true=>
  some ((5:Int),())
 |false=>
  some (v1.1,())
|false=>
 some (v1.1,())
noncomputable def TM:ae:=⟨_,aE,.unit,rfl,tS⟩
theorem RN:FnOK G0 Tryz.prog 97 TM:=ak aj (sg FM (sg JC (aL))) Tryz.func97
abbrev pp:Ty:=acd
abbrev xn:Ty:=Zh
noncomputable def fS(x:(Ty.T pp)):Option ((Ty.T pp) ⊕ ((Ty.T xn) ⊕ (Ty.T .unit))):=
ab (aq x.2.1 x.2.2.2.1) fun v1=>
match(decide (x.2.2.2.2.1<v1))with
|true=>
 ab (aq x.1 x.2.2.2.1) fun v2=>
 aI (x.2.2.1.length+ [v2].length) (
  some (.inl (x.1,x.2.1,(x.2.2.1++ [v2]),x.2.2.2.1,(IntKind.i64.wrap (x.2.2.2.2.1+(1:Int))),())))
|false=>
 some (.inr (.inl (x.1,x.2.1,x.2.2.1,x.2.2.2.1,())))
abbrev pq:Ty:=Zh
noncomputable def fT(x:(Ty.T pq)):Option ((Ty.T pq) ⊕ ((Ty.T a8) ⊕ (Ty.T .unit))):=
match(decide (x.2.2.2.1<(x.1.length:Int)))with
|true=>
 match ac fS (x.1,x.2.1,x.2.2.1,x.2.2.2.1,(0:Int),())with
 |none=>none
 |some (.inl v1)=>
  some (.inl (v1.1,v1.2.1,v1.2.2.1,(IntKind.i64.wrap (v1.2.2.2.1+(1:Int))),()))
 |some (.inr v3)=>
  some (.inr (.inr (())))
|false=>
 some (.inr (.inl (x.2.2.1,())))
noncomputable def xo(x:Ty.T Rz):Option (Ty.T a8):=
match ac fT (x.1,x.2.1,[],(0:Int),())with
|none=>none
|some (.inl v4)=>
 some (v4.1,())
|some (.inr v6)=>
 none
noncomputable def NL:ae:=⟨_,a8,.unit,rfl,xo⟩
noncomputable def qO:FuncId→Option ae:=bC []
theorem Hy:∀f s,qO f=some s→FnOK G0 Tryz.prog f s:=aD trivial
def xp:aO:=⟨[0,1,5,6],pq,0,[5],a8,[],.unit⟩
def xq:aO:=⟨[0,1,5,6,7],pp,2,[0,1,5,6],xn,[],.unit⟩
noncomputable def qP:List aw:=[xp.spec fT,xq.spec fS]
theorem FQ:bg bi E0 qO (bc Tryz.f156 qP) Tryz.f156 0 xp fT:=fun x=>by kernel_rfl
theorem FR:bg bi E0 qO (bc Tryz.f156 qP) Tryz.f156 1 xq fS:=fun x=>by kernel_rfl
theorem Lm:FnOK G0 Tryz.prog 156 NL:=aJ aj Hy Tryz.func156 qP (by kernel_rfl) (by exact⟨(FQ).lok,(FR).lok,trivial⟩) fun x=>by kernel_rfl
noncomputable def mD(x:Ty.T eG):Option (Ty.T a8):=
match fL ((x.1.length:Int),(8:Int),())with
|none=>none
|some v1=>
match xo (x.1,v1.1,())with
|none=>none
|some v2=>
some (v2.1,())
noncomputable def NM:ae:=⟨_,a8,.unit,rfl,mD⟩
theorem Ln:FnOK G0 Tryz.prog 98 NM:=ak aj (sg o7 (sg Lm (aL))) Tryz.func98
abbrev uG:Ty:=ab4
abbrev Dq:Ty:=RB
noncomputable def iP(x:(Ty.T uG)):Option ((Ty.T uG) ⊕ ((Ty.T Dq) ⊕ (Ty.T .unit))):=
match(decide (x.2.2.2.1≥(0:Int)))with
|true=>
 ab (aq x.1 x.2.2.1) fun v1=>
 if(IntKind.u64.wrap x.2.2.2.1)<0 then none else
 aI (x.2.1.length+ [(bits BinOp.and .i64 (Int.fdiv v1 (2^min (IntKind.u64.wrap x.2.2.2.1).toNat IntKind.i64.bits)) (1:Int))].length) (
  some (.inl (x.1,(x.2.1++ [(bits BinOp.and .i64 (Int.fdiv v1 (2^min (IntKind.u64.wrap x.2.2.2.1).toNat IntKind.i64.bits)) (1:Int))]),x.2.2.1,(IntKind.i64.wrap (x.2.2.2.1-(1:Int))),())))
|false=>
 some (.inr (.inl (x.1,x.2.1,x.2.2.1,())))
abbrev uH:Ty:=RB
noncomputable def iQ(x:(Ty.T uH)):Option ((Ty.T uH) ⊕ ((Ty.T a8) ⊕ (Ty.T .unit))):=
match(decide (x.2.2.1<(x.1.length:Int)))with
|true=>
 match ac iP (x.1,x.2.1,x.2.2.1,(7:Int),())with
 |none=>none
 |some (.inl v1)=>
  some (.inl (v1.1,v1.2.1,(IntKind.i64.wrap (v1.2.2.1+(1:Int))),()))
 |some (.inr v3)=>
  some (.inr (.inr (())))
|false=>
 some (.inr (.inl (x.2.1,())))
noncomputable def li(x:Ty.T eG):Option (Ty.T a8):=
match ac iQ (x.1,[],(0:Int),())with
|none=>none
|some (.inl v4)=>
 some (v4.1,())
|some (.inr v6)=>
 none
noncomputable def Ir:ae:=⟨_,a8,.unit,rfl,li⟩
noncomputable def xr:FuncId→Option ae:=bC []
theorem NN:∀f s,xr f=some s→FnOK G0 Tryz.prog f s:=aD trivial
def Dr:aO:=⟨[0,3,4],uH,0,[3],a8,[],.unit⟩
def Ds:aO:=⟨[0,3,4,5],uG,2,[0,3,4],Dq,[],.unit⟩
noncomputable def xt:List aw:=[Dr.spec iQ,Ds.spec iP]
theorem Lo:bg bi E0 xr (bc Tryz.f219 xt) Tryz.f219 0 Dr iQ:=fun x=>by kernel_rfl
theorem Lp:bg bi E0 xr (bc Tryz.f219 xt) Tryz.f219 1 Ds iP:=fun x=>by kernel_rfl
theorem xu:FnOK G0 Tryz.prog 219 Ir:=aJ aj NN Tryz.func219 xt (by kernel_rfl) (by exact⟨(Lo).lok,(Lp).lok,trivial⟩) fun x=>by kernel_rfl
abbrev sn:Ty:=RB
noncomputable def gP(x:(Ty.T sn)):Option ((Ty.T sn) ⊕ ((Ty.T a8) ⊕ (Ty.T .unit))):=
match(decide (x.2.2.1<(x.1.length:Int)))with
|true=>
 aI (x.2.1.length+ [(1:Int),(0:Int)].length) (
  ab (aH x.1.length (some (.dat (.int .i64) x.2.2.1)) (some (.dat (.int .i64) (IntKind.i64.wrap (x.2.2.1+(1:Int)))))) fun v1=>
  match li ((List.drop v1.1 (List.take v1.2 x.1)),())with
  |none=>none
  |some v2=>
  aI ((x.2.1++ [(1:Int),(0:Int)]).length+v2.1.length) (
   some (.inl (x.1,((x.2.1++ [(1:Int),(0:Int)])++v2.1),(IntKind.i64.wrap (x.2.2.1+(1:Int))),()))))
|false=>
 some (.inr (.inl (x.2.1,())))
noncomputable def qQ(x:Ty.T qB):Option (Ty.T a8):=
if 0≤x.2.1∧x.2.1≤x.2.1 then
 aI (x.2.1.toNat) (
  aI ((List.replicate x.2.1.toNat (0:Int)).length+ [(1:Int)].length) (
   match ac gP (x.1,((List.replicate x.2.1.toNat (0:Int))++ [(1:Int)]),(0:Int),())with
   |none=>none
   |some (.inl v3)=>
    aI (v3.1.length+ [(0:Int),(1:Int)].length) (
     some ((v3.1++ [(0:Int),(1:Int)]),()))
   |some (.inr v5)=>
    none))
else none
noncomputable def RO:ae:=⟨_,a8,.unit,rfl,qQ⟩
noncomputable def Dt:FuncId→Option ae:=bC [(219,Ir)]
theorem Lq:∀f s,Dt f=some s→FnOK G0 Tryz.prog f s:=aD ⟨xu,trivial⟩
def AN:aO:=⟨[0,5,6],sn,0,[5],a8,[],.unit⟩
noncomputable def Du:List aw:=[AN.spec gP]
theorem JD:bg bi E0 Dt (bc Tryz.f157 Du) Tryz.f157 0 AN gP:=fun x=>by kernel_rfl
theorem PW:FnOK G0 Tryz.prog 157 RO:=aJ aj Lq Tryz.func157 Du (by kernel_rfl) (by exact⟨(JD).lok,trivial⟩) fun x=>by kernel_rfl
noncomputable def gl(x:(Ty.T Y5)):Option ((Ty.T Y5) ⊕ ((Ty.T aE) ⊕ (Ty.T .unit))):=
match(decide (x.2.2.2.2.1<x.2.2.1))with
|true=>
 ab (aq x.1 (IntKind.i64.wrap (x.2.1+x.2.2.2.2.1))) fun v1=>
 some (.inl (x.1,x.2.1,x.2.2.1,(IntKind.i64.wrap ((IntKind.i64.wrap ((2:Int)*x.2.2.2.1))+v1)),(IntKind.i64.wrap (x.2.2.2.2.1+(1:Int))),()))
|false=>
 some (.inr (.inl (x.2.2.2.1,())))
noncomputable def de(x:Ty.T tD):Option (Ty.T aE):=
match ac gl (x.1,x.2.1,x.2.2.1,(0:Int),(0:Int),())with
|none=>none
|some (.inl v2)=>
 some (v2.1,())
|some (.inr v4)=>
 none
noncomputable def Dv:ae:=⟨_,aE,.unit,rfl,de⟩
noncomputable def AP:FuncId→Option ae:=bC []
theorem JE:∀f s,AP f=some s→FnOK G0 Tryz.prog f s:=aD trivial
def yZ:aO:=⟨[0,1,2,7,8],Y5,0,[7],aE,[],.unit⟩
noncomputable def AQ:List aw:=[yZ.spec gl]
theorem Hz:bg bi E0 AP (bc Tryz.f299 AQ) Tryz.f299 0 yZ gl:=fun x=>by kernel_rfl
theorem AS:FnOK G0 Tryz.prog 299 Dv:=aJ aj JE Tryz.func299 AQ (by kernel_rfl) (by exact⟨(Hz).lok,trivial⟩) fun x=>by kernel_rfl
abbrev so:Ty:=RB
noncomputable def gQ(x:(Ty.T so)):Option ((Ty.T so) ⊕ ((Ty.T a8) ⊕ (Ty.T .unit))):=
match(decide ((IntKind.i64.wrap (x.2.2.1+(8:Int)))≤(x.1.length:Int)))with
|true=>
 match de (x.1,x.2.2.1,(8:Int),())with
 |none=>none
 |some v1=>
 aI (x.2.1.length+ [v1.1].length) (
  some (.inl (x.1,(x.2.1++ [v1.1]),(IntKind.i64.wrap (x.2.2.1+(8:Int))),())))
|false=>
 some (.inr (.inl (x.2.1,())))
noncomputable def wh(x:Ty.T eG):Option (Ty.T a8):=
match ac gQ (x.1,[],(0:Int),())with
|none=>none
|some (.inl v2)=>
 some (v2.1,())
|some (.inr v4)=>
 none
noncomputable def RP:ae:=⟨_,a8,.unit,rfl,wh⟩
noncomputable def Dw:FuncId→Option ae:=bC [(299,Dv)]
theorem Lr:∀f s,Dw f=some s→FnOK G0 Tryz.prog f s:=aD ⟨AS,trivial⟩
def AU:aO:=⟨[0,3,4],so,0,[3],a8,[],.unit⟩
noncomputable def Dx:List aw:=[AU.spec gQ]
theorem JF:bg bi E0 Dw (bc Tryz.f267 Dx) Tryz.f267 0 AU gQ:=fun x=>by kernel_rfl
theorem PX:FnOK G0 Tryz.prog 267 RP:=aJ aj Lr Tryz.func267 Dx (by kernel_rfl) (by exact⟨(JF).lok,trivial⟩) fun x=>by kernel_rfl
abbrev qR:Ty:=Ze
noncomputable def iB(x:(Ty.T qR)):Option ((Ty.T qR) ⊕ ((Ty.T a8) ⊕ (Ty.T .unit))):=
match(decide (x.2.2.1≥(0:Int)))with
|true=>
 if(IntKind.u64.wrap x.2.2.1)<0 then none else
 aI (x.2.1.length+ [(bits BinOp.and .i64 (Int.fdiv x.1 (2^min (IntKind.u64.wrap x.2.2.1).toNat IntKind.i64.bits)) (1:Int))].length) (
  some (.inl (x.1,(x.2.1++ [(bits BinOp.and .i64 (Int.fdiv x.1 (2^min (IntKind.u64.wrap x.2.2.1).toNat IntKind.i64.bits)) (1:Int))]),(IntKind.i64.wrap (x.2.2.1-(1:Int))),())))
|false=>
 some (.inr (.inl (x.2.1,())))
noncomputable def em(x:Ty.T tD):Option (Ty.T a8):=
aI (([]:List (Ty.T (.int .i64))).length+x.1.length) (
 match ac iB (x.2.1,(([]:List (Ty.T (.int .i64)))++x.1),(IntKind.i64.wrap (x.2.2.1-(1:Int))),())with
 |none=>none
 |some (.inl v1)=>
  some (v1.1,())
 |some (.inr v3)=>
  none)
noncomputable def PY:ae:=⟨_,a8,.unit,rfl,em⟩
noncomputable def AW:FuncId→Option ae:=bC []
theorem JG:∀f s,AW f=some s→FnOK G0 Tryz.prog f s:=aD trivial
def y7:aO:=⟨[1,7,8],qR,0,[7],a8,[],.unit⟩
noncomputable def AX:List aw:=[y7.spec iB]
theorem HA:bg bi E0 AW (bc Tryz.f300 AX) Tryz.f300 0 y7 iB:=fun x=>by kernel_rfl
theorem NP:FnOK G0 Tryz.prog 300 PY:=aJ aj JG Tryz.func300 AX (by kernel_rfl) (by exact⟨(HA).lok,trivial⟩) fun x=>by kernel_rfl
noncomputable def mE(x:Ty.T zG):Option (Ty.T a8):=
match em ([],x.1.1,(16:Int),())with
|none=>none
|some v1=>
match em (v1.1,x.1.2.1,(4:Int),())with
|none=>none
|some v2=>
match em (v2.1,x.1.2.2.1,(4:Int),())with
|none=>none
|some v3=>
match em (v3.1,x.1.2.2.2.1,(8:Int),())with
|none=>none
|some v4=>
match em (v4.1,x.1.2.2.2.2.1,(32:Int),())with
|none=>none
|some v5=>
some (v5.1,())
noncomputable def TN:ae:=⟨_,a8,.unit,rfl,mE⟩
theorem FS:FnOK G0 Tryz.prog 268 TN:=ak aj (sg NP (aL)) Tryz.func268
noncomputable def bM(x:Ty.T Nn):Option (Ty.T a8):=
match dP (x.1.1,())with
|none=>none
|some v1=>
match v1.1 with
|true=>
 match mE ((x.1.2.2.1.1,x.1.2.2.1.2.1,x.1.2.2.1.2.2.1,x.1.2.2.1.2.2.2.1,x.1.2.2.1.2.2.2.2.1,()),())with
 |none=>none
 |some v2=>
 match wh (v2.1,())with
 |none=>none
 |some v3=>
 aI ([(IntKind.i64.wrap ((IntKind.i64.wrap (x.1.1*(64:Int)))+(IntKind.i64.wrap (x.1.2.1*(8:Int)))))].length+v3.1.length) (
  match fZ (x.1.1,())with
  |none=>none
  |some v4=>
  match v4.1 with
  |true=>
   aI (([(IntKind.i64.wrap ((IntKind.i64.wrap (x.1.1*(64:Int)))+(IntKind.i64.wrap (x.1.2.1*(8:Int)))))]++v3.1).length+ [(x.1.2.2.2.1.length:Int)].length) (
    aI ((([(IntKind.i64.wrap ((IntKind.i64.wrap (x.1.1*(64:Int)))+(IntKind.i64.wrap (x.1.2.1*(8:Int)))))]++v3.1)++ [(x.1.2.2.2.1.length:Int)]).length+x.1.2.2.2.1.length) (
     some (((([(IntKind.i64.wrap ((IntKind.i64.wrap (x.1.1*(64:Int)))+(IntKind.i64.wrap (x.1.2.1*(8:Int)))))]++v3.1)++ [(x.1.2.2.2.1.length:Int)])++x.1.2.2.2.1),())))
  |false=>
   some (([(IntKind.i64.wrap ((IntKind.i64.wrap (x.1.1*(64:Int)))+(IntKind.i64.wrap (x.1.2.1*(8:Int)))))]++v3.1),()))
|false=>
 match fZ (x.1.1,())with
 |none=>none
 |some v5=>
 match v5.1 with
 |true=>
  aI ([(IntKind.i64.wrap ((IntKind.i64.wrap (x.1.1*(64:Int)))+(IntKind.i64.wrap (x.1.2.1*(8:Int)))))].length+ [(x.1.2.2.2.1.length:Int)].length) (
   aI (([(IntKind.i64.wrap ((IntKind.i64.wrap (x.1.1*(64:Int)))+(IntKind.i64.wrap (x.1.2.1*(8:Int)))))]++ [(x.1.2.2.2.1.length:Int)]).length+x.1.2.2.2.1.length) (
    some ((([(IntKind.i64.wrap ((IntKind.i64.wrap (x.1.1*(64:Int)))+(IntKind.i64.wrap (x.1.2.1*(8:Int)))))]++ [(x.1.2.2.2.1.length:Int)])++x.1.2.2.2.1),())))
 |false=>
  some ([(IntKind.i64.wrap ((IntKind.i64.wrap (x.1.1*(64:Int)))+(IntKind.i64.wrap (x.1.2.1*(8:Int)))))],())
noncomputable def TO:ae:=⟨_,a8,.unit,rfl,bM⟩
theorem FT:FnOK G0 Tryz.prog 220 TO:=ak aj (sg iK (sg mp (sg PX (sg FS (aL))))) Tryz.func220
abbrev uI:Ty:=(.pair (.int .i64) (.pair (.list (.int .i64)) (.pair (.box bB) bB)))
noncomputable def fM(x:(Ty.T uI)):Option ((Ty.T uI) ⊕ ((Ty.T aE) ⊕ (Ty.T .unit))):=
match(decide (x.2.2.2.2.1<(x.2.1.length:Int)))with
|true=>
 if x.2.2.2.1=0 then none else
 ab (aq x.2.1 x.2.2.2.2.1) fun v1=>
 if x.2.2.2.1=0 then none else
 match((bits BinOp.xor .i64 (IntKind.i64.wrap (Int.tdiv x.1 x.2.2.2.1)) v1)==(1:Int))with
 |true=>
  some (.inl ((bits BinOp.xor .i64 (IntKind.i64.wrap ((Int.tmod x.1 x.2.2.2.1)*(2:Int))) x.2.2.1.2.1),x.2.1,(x.2.2.1.1,x.2.2.1.2.1,()),x.2.2.2.1,(IntKind.i64.wrap (x.2.2.2.2.1+(1:Int))),()))
 |false=>
  some (.inl ((IntKind.i64.wrap ((Int.tmod x.1 x.2.2.2.1)*(2:Int))),x.2.1,(x.2.2.1.1,x.2.2.1.2.1,()),x.2.2.2.1,(IntKind.i64.wrap (x.2.2.2.2.1+(1:Int))),()))
|false=>
 some (.inr (.inl (x.1,())))
noncomputable def pZ(x:Ty.T ab5):Option (Ty.T aE):=
if(IntKind.u64.wrap (IntKind.i64.wrap (x.1.1-(1:Int))))<0 then none else
match ac fM (x.2.1,x.2.2.1,(x.1.1,x.1.2.1,()),(IntKind.i64.wrap ((1:Int)*2^min (IntKind.u64.wrap (IntKind.i64.wrap (x.1.1-(1:Int)))).toNat IntKind.i64.bits)),(0:Int),())with
|none=>none
|some (.inl v2)=>
 some (v2.1,())
|some (.inr v4)=>
 none
noncomputable def TP:ae:=⟨_,aE,.unit,rfl,pZ⟩
noncomputable def FU:FuncId→Option ae:=bC []
theorem NQ:∀f s,FU f=some s→FnOK G0 Tryz.prog f s:=aD trivial
def Dy:aO:=⟨[1,2,3,7,8],uI,0,[1],aE,[],.unit⟩
noncomputable def FV:List aw:=[Dy.spec fM]
theorem Ls:bg bi E0 FU (bc Tryz.f269 FV) Tryz.f269 0 Dy fM:=fun x=>by kernel_rfl
theorem RQ:FnOK G0 Tryz.prog 269 TP:=aJ aj NQ Tryz.func269 FV (by kernel_rfl) (by exact⟨(Ls).lok,trivial⟩) fun x=>by kernel_rfl
noncomputable def lF(x:Ty.T .unit):Option (Ty.T VQ):=
some (((24:Int),(6122955:Int),()),())
noncomputable def Lt:ae:=⟨_,VQ,.unit,rfl,lF⟩
theorem JH:FnOK G0 Tryz.prog 270 Lt:=ak aj aL Tryz.func270
noncomputable def ks(x:Ty.T acb):Option (Ty.T aE):=
match(x.1==(0:Int))with
|true=>
 match lF (())with
 |none=>none
 |some v1=>
 match mE ((x.2.2.2.1.1,x.2.2.2.1.2.1,x.2.2.2.1.2.2.1,x.2.2.2.1.2.2.2.1,x.2.2.2.1.2.2.2.2.1,()),())with
 |none=>none
 |some v2=>
 match pZ (v1.1,x.2.2.1,v2.1,())with
 |none=>none
 |some v3=>
 match lF (())with
 |none=>none
 |some v4=>
 match li (x.2.1,())with
 |none=>none
 |some v5=>
 match pZ (v4.1,v3.1,v5.1,())with
 |none=>none
 |some v6=>
 some (v6.1,())
|false=>
 match lF (())with
 |none=>none
 |some v7=>
 match li (x.2.1,())with
 |none=>none
 |some v8=>
 match pZ (v7.1,x.2.2.1,v8.1,())with
 |none=>none
 |some v9=>
 some (v9.1,())
noncomputable def PZ:ae:=⟨_,aE,.unit,rfl,ks⟩
theorem AY:FnOK G0 Tryz.prog 221 PZ:=ak aj (sg xu (sg FS (sg RQ (sg JH (aL))))) Tryz.func221
noncomputable def qa(x:Ty.T ab1):Option (Ty.T a8):=
match bM ((x.1.1,x.1.2.1,(x.1.2.2.1.1,x.1.2.2.1.2.1,x.1.2.2.1.2.2.1,x.1.2.2.1.2.2.2.1,x.1.2.2.1.2.2.2.2.1,()),x.1.2.2.2.1,()),())with
|none=>none
|some v1=>
match ks (x.1.1,v1.1,x.2.1,(x.2.2.1.1,x.2.2.1.2.1,x.2.2.1.2.2.1,x.2.2.1.2.2.2.1,x.2.2.1.2.2.2.2.1,()),())with
|none=>none
|some v2=>
aI (v1.1.length+ [(IntKind.i64.wrap (Int.tdiv v2.1 (65536:Int))),(Int.tmod (IntKind.i64.wrap (Int.tdiv v2.1 (256:Int))) (256:Int)),(Int.tmod v2.1 (256:Int))].length) (
 some ((v1.1++ [(IntKind.i64.wrap (Int.tdiv v2.1 (65536:Int))),(Int.tmod (IntKind.i64.wrap (Int.tdiv v2.1 (256:Int))) (256:Int)),(Int.tmod v2.1 (256:Int))]),()))
noncomputable def TQ:ae:=⟨_,a8,.unit,rfl,qa⟩
theorem RR:FnOK G0 Tryz.prog 158 TQ:=ak aj (sg FT (sg AY (aL))) Tryz.func158
noncomputable def qS(x:Ty.T Cf):Option (Ty.T a8):=
aX (
 match fL ((8:Int),(1:Int),())with
 |none=>none
 |some v1=>
 match qa ((x.2.2.1.1,x.2.2.1.2.1,(x.2.2.1.2.2.1.1,x.2.2.1.2.2.1.2.1,x.2.2.1.2.2.1.2.2.1,x.2.2.1.2.2.1.2.2.2.1,x.2.2.1.2.2.1.2.2.2.2.1,()),x.2.2.1.2.2.2.1,()),x.1.1,(x.2.1.1,x.2.1.2.1,x.2.1.2.2.1,x.2.1.2.2.2.1,x.2.1.2.2.2.2.1,()),())with
 |none=>none
 |some v2=>
 match qQ (v2.1,(8:Int),())with
 |none=>none
 |some v3=>
 aI (v1.1.length+v3.1.length) (
  match iq ((x.1.1,x.1.2.1,x.1.2.2.1,x.1.2.2.2.1,()),(x.2.1.1,x.2.1.2.1,x.2.1.2.2.1,x.2.1.2.2.2.1,x.2.1.2.2.2.2.1,()),())with
  |none=>none
  |some v4=>
  match fL ((IntKind.i64.wrap (v4.1.2.2.2.1-((v1.1++v3.1).length:Int))),(1:Int),())with
  |none=>none
  |some v5=>
  aI ((v1.1++v3.1).length+v5.1.length) (
   some (((v1.1++v3.1)++v5.1),()))))
noncomputable def RS:ae:=⟨_,a8,.unit,rfl,qS⟩
theorem P0:FnOK G0 Tryz.prog 99 RS:=ak aj (sg mB (sg o7 (sg PW (sg RR (aL))))) Tryz.func99
noncomputable def iR(x:Ty.T Cf):Option (Ty.T ma):=
match tS ((x.1.1,x.1.2.1,x.1.2.2.1,x.1.2.2.2.1,()),(x.2.1.1,x.2.1.2.1,x.2.1.2.2.1,x.2.1.2.2.2.1,x.2.1.2.2.2.2.1,()),(x.2.2.1.1,x.2.2.1.2.1,(x.2.2.1.2.2.1.1,x.2.2.1.2.2.1.2.1,x.2.2.1.2.2.1.2.2.1,x.2.2.1.2.2.1.2.2.2.1,x.2.2.1.2.2.1.2.2.2.2.1,()),x.2.2.1.2.2.2.1,()),())with
|none=>none
|some v1=>
match(v1.1 != (0:Int))with
|true=>
 some ([],v1.1,())
|false=>
 match qS ((x.1.1,x.1.2.1,x.1.2.2.1,x.1.2.2.2.1,()),(x.2.1.1,x.2.1.2.1,x.2.1.2.2.1,x.2.1.2.2.2.1,x.2.1.2.2.2.2.1,()),(x.2.2.1.1,x.2.2.1.2.1,(x.2.2.1.2.2.1.1,x.2.2.1.2.2.1.2.1,x.2.2.1.2.2.1.2.2.1,x.2.2.1.2.2.1.2.2.2.1,x.2.2.1.2.2.1.2.2.2.2.1,()),x.2.2.1.2.2.2.1,()),())with
 |none=>none
 |some v2=>
 match mD (v2.1,())with
 |none=>none
 |some v3=>
 some (v3.1,(0:Int),())
noncomputable def Lu:ae:=⟨_,ma,.unit,rfl,iR⟩
theorem xv:FnOK G0 Tryz.prog 49 Lu:=ak aj (sg RN (sg Ln (sg P0 (aL)))) Tryz.func49
noncomputable def lT(x:Ty.T aE):Option (Ty.T abN):=
match(x.1==(2:Int))with
|true=>
 some (true,false,())
|false=>
 match(x.1==(3:Int))with
 |true=>
  some (true,false,())
 |false=>
  match(x.1==(4:Int))with
  |true=>
   some (true,true,())
  |false=>
   match(x.1==(6:Int))with
   |true=>
    some (true,true,())
   |false=>
    some (false,false,())
noncomputable def P1:ae:=⟨_,abN,.unit,rfl,lT⟩
theorem AZ:FnOK G0 Tryz.prog 160 P1:=ak aj aL Tryz.func160
noncomputable def td(x:Ty.T Rv):Option (Ty.T abV):=
match aa ((x.1.1,x.1.2.1,x.1.2.2.1,()),(6:Int),())with
|none=>none
|some v1=>
match aa ((v1.2.1.1,v1.2.1.2.1,v1.2.1.2.2.1,()),(IntKind.i64.wrap (x.2.1+(4:Int))),())with
|none=>none
|some v2=>
match lT ((IntKind.i64.wrap ((1:Int)+v1.1)),())with
|none=>none
|some v3=>
match v3.1 with
|true=>
 match aa ((v2.2.1.1,v2.2.1.2.1,v2.2.1.2.2.1,()),(12:Int),())with
 |none=>none
 |some v4=>
 match v3.2.1 with
 |true=>
  match aa ((v4.2.1.1,v4.2.1.2.1,v4.2.1.2.2.1,()),(2:Int),())with
  |none=>none
  |some v5=>
  some (((IntKind.i64.wrap ((1:Int)+v1.1)),(if v2.1<(8192:Int)then v2.1 else(8192:Int)),(IntKind.i64.wrap ((1:Int)+v4.1)),v5.1,()),(v5.2.1.1,v5.2.1.2.1,v5.2.1.2.2.1,()),())
 |false=>
  some (((IntKind.i64.wrap ((1:Int)+v1.1)),(if v2.1<(8192:Int)then v2.1 else(8192:Int)),(IntKind.i64.wrap ((1:Int)+v4.1)),(0:Int),()),(v4.2.1.1,v4.2.1.2.1,v4.2.1.2.2.1,()),())
|false=>
 match v3.2.1 with
 |true=>
  match aa ((v2.2.1.1,v2.2.1.2.1,v2.2.1.2.2.1,()),(2:Int),())with
  |none=>none
  |some v6=>
  some (((IntKind.i64.wrap ((1:Int)+v1.1)),(if v2.1<(8192:Int)then v2.1 else(8192:Int)),(0:Int),v6.1,()),(v6.2.1.1,v6.2.1.2.1,v6.2.1.2.2.1,()),())
 |false=>
  some (((IntKind.i64.wrap ((1:Int)+v1.1)),(if v2.1<(8192:Int)then v2.1 else(8192:Int)),(0:Int),(0:Int),()),(v2.2.1.1,v2.2.1.2.1,v2.2.1.2.2.1,()),())
noncomputable def P2:ae:=⟨_,Jf,gB,rfl,td⟩
theorem NR:FnOK G0 Tryz.prog 159 P2:=ak aj (sg bK (sg AZ (aL))) Tryz.func159
noncomputable def tT(x:Ty.T Rv):Option (Ty.T abV):=
match td ((x.1.1,x.1.2.1,x.1.2.2.1,()),x.2.1,())with
|none=>none
|some v1=>
match aa ((v1.2.1.1,v1.2.1.2.1,v1.2.1.2.2.1,()),(30:Int),())with
|none=>none
|some v2=>
match(v2.1==(0:Int))with
|true=>
 match aa ((v2.2.1.1,v2.2.1.2.1,v2.2.1.2.2.1,()),(2:Int),())with
 |none=>none
 |some v3=>
 ab (aq [(0:Int),(7:Int)] v3.1) fun _=>
 match [(0:Int),(7:Int)][v3.1.toNat]? with
 |none=>none
 |some v5=>
 some ((v5,v1.1.2.1,v1.1.2.2.1,v1.1.2.2.2.1,()),(v3.2.1.1,v3.2.1.2.1,v3.2.1.2.2.1,()),())
|false=>
 match(v2.1==(1:Int))with
 |true=>
  match aa ((v2.2.1.1,v2.2.1.2.1,v2.2.1.2.2.1,()),(3:Int),())with
  |none=>none
  |some v6=>
  ab (aq [(-1:Int),(8192:Int),(8193:Int)] v6.1) fun _=>
  match [(-1:Int),(8192:Int),(8193:Int)][v6.1.toNat]? with
  |none=>none
  |some v8=>
  some ((v1.1.1,v8,v1.1.2.2.1,v1.1.2.2.2.1,()),(v6.2.1.1,v6.2.1.2.1,v6.2.1.2.2.1,()),())
 |false=>
  match(v2.1==(2:Int))with
  |true=>
   match aa ((v2.2.1.1,v2.2.1.2.1,v2.2.1.2.2.1,()),(4:Int),())with
   |none=>none
   |some v9=>
   ab (aq [(-1:Int),(0:Int),(8192:Int),(8193:Int)] v9.1) fun _=>
   match [(-1:Int),(0:Int),(8192:Int),(8193:Int)][v9.1.toNat]? with
   |none=>none
   |some v11=>
   some ((v1.1.1,v1.1.2.1,v11,v1.1.2.2.2.1,()),(v9.2.1.1,v9.2.1.2.1,v9.2.1.2.2.1,()),())
  |false=>
   match(v2.1==(3:Int))with
   |true=>
    match aa ((v2.2.1.1,v2.2.1.2.1,v2.2.1.2.2.1,()),(3:Int),())with
    |none=>none
    |some v12=>
    ab (aq [(-1:Int),(1:Int),(2:Int)] v12.1) fun _=>
    match [(-1:Int),(1:Int),(2:Int)][v12.1.toNat]? with
    |none=>none
    |some v14=>
    some ((v1.1.1,v1.1.2.1,v1.1.2.2.1,v14,()),(v12.2.1.1,v12.2.1.2.1,v12.2.1.2.2.1,()),())
   |false=>
    some ((v1.1.1,v1.1.2.1,v1.1.2.2.1,v1.1.2.2.2.1,()),(v2.2.1.1,v2.2.1.2.1,v2.2.1.2.2.1,()),())
noncomputable def Iu:ae:=⟨_,Jf,gB,rfl,tT⟩
theorem RT:FnOK G0 Tryz.prog 100 Iu:=ak aj (sg bK (sg NR (aL))) Tryz.func100
noncomputable def mF(x:Ty.T Jf):Option (Ty.T ao):=
match bE (x.1.1,(1:Int),(6:Int),())with
|none=>none
|some v1=>
match(!v1.1)with
|true=>
 some (false,())
|false=>
 match bE (x.1.2.1,(0:Int),(8192:Int),())with
 |none=>none
 |some v2=>
 match(!v2.1)with
 |true=>
  some (false,())
 |false=>
  match lT (x.1.1,())with
  |none=>none
  |some v3=>
  match v3.1 with
  |true=>
   match bE (x.1.2.2.1,(1:Int),(8192:Int),())with
   |none=>none
   |some v4=>
   match(!v4.1)with
   |true=>
    some (false,())
   |false=>
    match(!v3.1)with
    |true=>
     match(x.1.2.2.1 != (0:Int))with
     |true=>
      some (false,())
     |false=>
      match bE (x.1.2.2.2.1,(0:Int),(1:Int),())with
      |none=>none
      |some v5=>
      match v5.1 with
      |true=>
       match v3.2.1 with
       |true=>
        some (true,())
       |false=>
        some ((x.1.2.2.2.1==(0:Int)),())
      |false=>
       some (false,())
    |false=>
     match bE (x.1.2.2.2.1,(0:Int),(1:Int),())with
     |none=>none
     |some v6=>
     match v6.1 with
     |true=>
      match v3.2.1 with
      |true=>
       some (true,())
      |false=>
       some ((x.1.2.2.2.1==(0:Int)),())
     |false=>
      some (false,())
  |false=>
   match(!v3.1)with
   |true=>
    match(x.1.2.2.1 != (0:Int))with
    |true=>
     some (false,())
    |false=>
     match bE (x.1.2.2.2.1,(0:Int),(1:Int),())with
     |none=>none
     |some v7=>
     match v7.1 with
     |true=>
      match v3.2.1 with
      |true=>
       some (true,())
      |false=>
       some ((x.1.2.2.2.1==(0:Int)),())
     |false=>
      some (false,())
   |false=>
    match bE (x.1.2.2.2.1,(0:Int),(1:Int),())with
    |none=>none
    |some v8=>
    match v8.1 with
    |true=>
     match v3.2.1 with
     |true=>
      some (true,())
     |false=>
      some ((x.1.2.2.2.1==(0:Int)),())
    |false=>
     some (false,())
noncomputable def zL:ae:=⟨_,ao,.unit,rfl,mF⟩
theorem FW:FnOK G0 Tryz.prog 101 zL:=ak aj (sg cT (sg AZ (aL))) Tryz.func101
abbrev uJ:Ty:=(.pair (.box ah) (.pair (.int .i64) (.pair (.own 43 av) (.pair (.int .i64) .unit))))
abbrev Dz:Ty:=Rx
noncomputable def iU(x:(Ty.T uJ)):Option ((Ty.T uJ) ⊕ ((Ty.T Dz) ⊕ (Ty.T .unit))):=
match(decide (x.2.2.2.1>(0:Int)))with
|true=>
 match tT ((x.1.1,x.1.2.1,x.1.2.2.1,()),x.2.1,())with
 |none=>none
 |some v2=>
 match mF ((v2.1.1,v2.1.2.1,v2.1.2.2.1,v2.1.2.2.2.1,()),())with
 |none=>none
 |some v3=>
 match v3.1 with
 |true=>
  aI (x.2.2.1.length+ [(v2.1.1,v2.1.2.1,v2.1.2.2.1,v2.1.2.2.2.1,())].length) (
   some (.inl ((v2.2.1.1,v2.2.1.2.1,v2.2.1.2.2.1,()),x.2.1,(x.2.2.1++ [(v2.1.1,v2.1.2.1,v2.1.2.2.1,v2.1.2.2.2.1,())]),(IntKind.i64.wrap (x.2.2.2.1-(1:Int))),())))
 |false=>
  match aa ((v2.2.1.1,v2.2.1.2.1,v2.2.1.2.2.1,()),(4:Int),())with
  |none=>none
  |some v4=>
  match(v4.1==(0:Int))with
  |true=>
   aI (x.2.2.1.length+ [(v2.1.1,v2.1.2.1,v2.1.2.2.1,v2.1.2.2.2.1,())].length) (
    some (.inl ((v4.2.1.1,v4.2.1.2.1,v4.2.1.2.2.1,()),x.2.1,(x.2.2.1++ [(v2.1.1,v2.1.2.1,v2.1.2.2.1,v2.1.2.2.2.1,())]),(IntKind.i64.wrap (x.2.2.2.1-(1:Int))),())))
  |false=>
   some (.inl ((v4.2.1.1,v4.2.1.2.1,v4.2.1.2.2.1,()),x.2.1,x.2.2.1,(IntKind.i64.wrap (x.2.2.2.1-(1:Int))),()))
|false=>
 some (.inr (.inl ((x.1.1,x.1.2.1,x.1.2.2.1,()),x.2.2.1,())))
abbrev uK:Ty:=Rx
abbrev DA:Ty:=Rx
noncomputable def iV(x:(Ty.T uK)):Option ((Ty.T uK) ⊕ ((Ty.T uK) ⊕ (Ty.T .unit))):=
match aa ((x.1.1,x.1.2.1,x.1.2.2.1,()),(2:Int),())with
|none=>none
|some v8=>
match(decide ((x.2.1.length:Int)<(IntKind.i64.wrap ((30:Int)+v8.1))))with
|true=>
 aI (x.2.1.length+ [((1:Int),(3:Int),(0:Int),(0:Int),())].length) (
  some (.inl ((v8.2.1.1,v8.2.1.2.1,v8.2.1.2.2.1,()),(x.2.1++ [((1:Int),(3:Int),(0:Int),(0:Int),())]),())))
|false=>
 some (.inr (.inl ((v8.2.1.1,v8.2.1.2.1,v8.2.1.2.2.1,()),x.2.1,())))
noncomputable def kb(x:Ty.T Rv):Option (Ty.T ab2):=
match aa ((x.1.1,x.1.2.1,x.1.2.2.1,()),(5:Int),())with
|none=>none
|some v1=>
match ac iU ((v1.2.1.1,v1.2.1.2.1,v1.2.1.2.2.1,()),x.2.1,[],v1.1,())with
|none=>none
|some (.inl v5)=>
 match aa ((v5.1.1,v5.1.2.1,v5.1.2.2.1,()),(40:Int),())with
 |none=>none
 |some v7=>
 match(v7.1==(0:Int))with
 |true=>
  match ac iV ((v7.2.1.1,v7.2.1.2.1,v7.2.1.2.2.1,()),v5.2.1,())with
  |none=>none
  |some (.inl v9)=>
   some (v9.2.1,(v9.1.1,v9.1.2.1,v9.1.2.2.1,()),())
  |some (.inr v11)=>
   none
 |false=>
  some (v5.2.1,(v7.2.1.1,v7.2.1.2.1,v7.2.1.2.2.1,()),())
|some (.inr v12)=>
 none
noncomputable def Iv:ae:=⟨_,abL,gB,rfl,kb⟩
noncomputable def xw:FuncId→Option ae:=bC [(52,gg),(100,Iu),(101,zL)]
theorem NS:∀f s,xw f=some s→FnOK G0 Tryz.prog f s:=aD ⟨bK,RT,FW,trivial⟩
def DB:aO:=⟨[0,1,5,6],uJ,0,[0,5],Dz,[],.unit⟩
def DC:aO:=⟨[0,5],DA,2,[0,5],DA,[],.unit⟩
noncomputable def xx:List aw:=[DB.spec iU,DC.spec iV]
theorem Lv:bg bi E0 xw (bc Tryz.f50 xx) Tryz.f50 0 DB iU:=fun x=>by kernel_rfl
theorem Lw:bg bi E0 xw (bc Tryz.f50 xx) Tryz.f50 1 DC iV:=fun x=>by kernel_rfl
theorem FX:FnOK G0 Tryz.prog 50 Iv:=aJ aj NS Tryz.func50 xx (by kernel_rfl) (by exact⟨(Lv).lok,(Lw).lok,trivial⟩) fun x=>by kernel_rfl
noncomputable def pr(x:Ty.T eG):Option (Ty.T ao):=
match sk (x.1,(8192:Int),(1:Int),())with
|none=>none
|some v1=>
some (v1.1,())
noncomputable def Lx:ae:=⟨_,ao,.unit,rfl,pr⟩
theorem tf:FnOK G0 Tryz.prog 102 Lx:=ak aj (sg Iq (aL)) Tryz.func102
abbrev qT:Ty:=(.pair (.list (.int .i64)) (.pair (.box av) (.pair (.int .i64) .unit)))
abbrev y8:Ty:=(.pair (.list (.int .i64)) (.pair (.box av) .unit))
noncomputable def eB(x:(Ty.T qT)):Option ((Ty.T qT) ⊕ ((Ty.T y8) ⊕ (Ty.T ao))):=
match(decide (x.2.2.1≤(IntKind.i64.wrap (x.2.1.2.1+(2:Int)))))with
|true=>
 ab (aq x.1 x.2.2.1) fun v2=>
 ab (aq x.1 x.2.1.2.1) fun v3=>
 match(v2 != v3)with
 |true=>
  some (.inr (.inr (false,())))
 |false=>
  some (.inl (x.1,(x.2.1.1,x.2.1.2.1,x.2.1.2.2.1,x.2.1.2.2.2.1,()),(IntKind.i64.wrap (x.2.2.1+(1:Int))),()))
|false=>
 some (.inr (.inl (x.1,(x.2.1.1,x.2.1.2.1,x.2.1.2.2.1,x.2.1.2.2.2.1,()),())))
noncomputable def oC(x:Ty.T VX):Option (Ty.T ao):=
match(x.2.1.1 != (3:Int))with
|true=>
 match(x.2.1.1 != (4:Int))with
 |true=>
  some (false,())
 |false=>
  match(x.2.1.2.2.1 != (1:Int))with
  |true=>
   some (false,())
  |false=>
   match bE (x.2.1.2.1,(2:Int),(IntKind.i64.wrap ((x.1.length:Int)-(3:Int))),())with
   |none=>none
   |some v1=>
   match(!v1.1)with
   |true=>
    some (false,())
   |false=>
    match ac eB (x.1,(x.2.1.1,x.2.1.2.1,x.2.1.2.2.1,x.2.1.2.2.2.1,()),(IntKind.i64.wrap (x.2.1.2.1-(2:Int))),())with
    |none=>none
    |some (.inl v4)=>
     match(v4.2.1.1==(3:Int))with
     |true=>
      some (true,())
     |false=>
      ab (aq v4.1 v4.2.1.2.1) fun v6=>
      some ((v4.2.1.2.2.2.1==v6),())
    |some (.inr v5)=>
     some (v5.1,())
|false=>
 match(x.2.1.2.2.1 != (1:Int))with
 |true=>
  some (false,())
 |false=>
  match bE (x.2.1.2.1,(2:Int),(IntKind.i64.wrap ((x.1.length:Int)-(3:Int))),())with
  |none=>none
  |some v7=>
  match(!v7.1)with
  |true=>
   some (false,())
  |false=>
   match ac eB (x.1,(x.2.1.1,x.2.1.2.1,x.2.1.2.2.1,x.2.1.2.2.2.1,()),(IntKind.i64.wrap (x.2.1.2.1-(2:Int))),())with
   |none=>none
   |some (.inl v8)=>
    match(v8.2.1.1==(3:Int))with
    |true=>
     some (true,())
    |false=>
     ab (aq v8.1 v8.2.1.2.1) fun v10=>
     some ((v8.2.1.2.2.2.1==v10),())
   |some (.inr v9)=>
    some (v9.1,())
noncomputable def DD:ae:=⟨_,ao,.unit,rfl,oC⟩
noncomputable def A0:FuncId→Option ae:=bC [(70,lg)]
theorem JI:∀f s,A0 f=some s→FnOK G0 Tryz.prog f s:=aD ⟨cT,trivial⟩
def y9:aO:=⟨[0,3,5],qT,0,[0,3],y8,[4],ao⟩
noncomputable def A1:List aw:=[y9.spec eB]
theorem HB:bg bi E0 A0 (bc Tryz.f103 A1) Tryz.f103 0 y9 eB:=fun x=>by kernel_rfl
theorem NT:FnOK G0 Tryz.prog 103 DD:=aJ aj JI Tryz.func103 A1 (by kernel_rfl) (by exact⟨(HB).lok,trivial⟩) fun x=>by kernel_rfl
noncomputable def kt(x:Ty.T eG):Option (Ty.T a8):=
aI (([]:List (Ty.T (.int .i64))).length+x.1.length) (
 some ((([]:List (Ty.T (.int .i64)))++x.1),()))
noncomputable def Co:ae:=⟨_,a8,.unit,rfl,kt⟩
theorem zM:FnOK G0 Tryz.prog 162 Co:=ak aj aL Tryz.func162
abbrev za:Ty:=RC
noncomputable def dF(x:(Ty.T za)):Option ((Ty.T za) ⊕ ((Ty.T a8) ⊕ (Ty.T .unit))):=
match(decide (x.2.2.2.1<x.2.1))with
|true=>
 match(x.1.1==(5:Int))with
 |true=>
  ab (aq x.2.2.1 x.2.2.2.1) fun _=>
  match x.2.2.1[x.2.2.2.1.toNat]? with
  |none=>none
  |some v3=>
  some (.inl ((x.1.1,x.1.2.1,x.1.2.2.1,x.1.2.2.2.1,()),x.2.1,(x.2.2.1.set x.2.2.2.1.toNat (1:Int)),(IntKind.i64.wrap (x.2.2.2.1+(1:Int))),()))
 |false=>
  match(x.1.1==(6:Int))with
  |true=>
   ab (aq x.2.2.1 x.2.2.2.1) fun _=>
   match x.2.2.1[x.2.2.2.1.toNat]? with
   |none=>none
   |some v5=>
   some (.inl ((x.1.1,x.1.2.1,x.1.2.2.1,x.1.2.2.2.1,()),x.2.1,(x.2.2.1.set x.2.2.2.1.toNat x.1.2.2.2.1),(IntKind.i64.wrap (x.2.2.2.1+(1:Int))),()))
  |false=>
   ab (aq x.2.2.1 x.2.2.2.1) fun _=>
   match x.2.2.1[x.2.2.2.1.toNat]? with
   |none=>none
   |some v7=>
   ab (aq x.2.2.1 x.2.2.2.1) fun _=>
   match x.2.2.1[x.2.2.2.1.toNat]? with
   |none=>none
   |some v9=>
   some (.inl ((x.1.1,x.1.2.1,x.1.2.2.1,x.1.2.2.2.1,()),x.2.1,(x.2.2.1.set x.2.2.2.1.toNat (IntKind.i64.wrap ((1:Int)-v7))),(IntKind.i64.wrap (x.2.2.2.1+(1:Int))),()))
|false=>
 some (.inr (.inl (x.2.2.1,())))
noncomputable def gm(x:Ty.T Zc):Option (Unit ⊕ (Ty.T eG)):=
match kt (x.1,())with
|none=>none
|some v1=>
match ac dF ((x.2.1.1,x.2.1.2.1,x.2.1.2.2.1,x.2.1.2.2.2.1,()),x.2.2.2.1,v1.1,x.2.2.1,())with
|none=>none
|some (.inl v2)=>
 some (.inr (v2.1,()))
|some (.inr v4)=>
 none
noncomputable def kP(x:Ty.T Zf):Option (Unit ⊕ (Ty.T eG)):=
match(x.2.1.1==(1:Int))with
|true=>
 match gm (x.1,(x.2.1.1,x.2.1.2.1,x.2.1.2.2.1,x.2.1.2.2.2.1,()),x.2.2.2.1,(if(IntKind.i64.wrap (x.2.1.2.1+(1:Int)))<x.2.2.1 then(IntKind.i64.wrap (x.2.1.2.1+(1:Int)))else x.2.2.1),())with
 |none=>none
 |some (.inl v6)=>none
 |some (.inr v5)=>
  some (.inr (v5.1,()))
|false=>
 match(x.2.1.1==(5:Int))with
 |true=>
  match gm (x.1,(x.2.1.1,x.2.1.2.1,x.2.1.2.2.1,x.2.1.2.2.2.1,()),x.2.2.2.1,x.2.2.1,())with
  |none=>none
  |some (.inl v8)=>none
  |some (.inr v7)=>
   some (.inr (v7.1,()))
 |false=>
  match(x.2.1.1==(3:Int))with
  |true=>
   ab (aH x.1.length none (some (.dat (.int .i64) x.2.2.2.1))) fun v9=>
   ab (aH x.1.length (some (.dat (.int .i64) x.2.2.2.2.1)) none) fun v10=>
   match kt ((List.drop v9.1 (List.take v9.2 x.1)),())with
   |none=>none
   |some v11=>
   aI (v11.1.length+(List.drop v10.1 (List.take v10.2 x.1)).length) (
    some (.inr ((v11.1++(List.drop v10.1 (List.take v10.2 x.1))),())))
  |false=>
   match(x.2.1.1==(4:Int))with
   |true=>
    match(decide (x.2.1.2.1>x.2.2.1))with
    |true=>
     match kt (x.1,())with
     |none=>none
     |some v12=>
     some (.inr (v12.1,()))
    |false=>
     ab (aH x.1.length none (some (.dat (.int .i64) x.2.2.2.1))) fun v13=>
     match kt ((List.drop v13.1 (List.take v13.2 x.1)),())with
     |none=>none
     |some v14=>
     match fL (x.2.1.2.2.1,x.2.1.2.2.2.1,())with
     |none=>none
     |some v15=>
     aI (v14.1.length+v15.1.length) (
      ab (aH x.1.length (some (.dat (.int .i64) x.2.2.2.1)) none) fun v16=>
      aI ((v14.1++v15.1).length+(List.drop v16.1 (List.take v16.2 x.1)).length) (
       ab (aH ((v14.1++v15.1)++(List.drop v16.1 (List.take v16.2 x.1))).length none (some (.dat (.int .i64) (if(8192:Int)<(((v14.1++v15.1)++(List.drop v16.1 (List.take v16.2 x.1))).length:Int)then(8192:Int)else(((v14.1++v15.1)++(List.drop v16.1 (List.take v16.2 x.1))).length:Int))))) fun v17=>
       some (.inr ((List.drop v17.1 (List.take v17.2 ((v14.1++v15.1)++(List.drop v16.1 (List.take v16.2 x.1))))),()))))
   |false=>
    match gm (x.1,(x.2.1.1,x.2.1.2.1,x.2.1.2.2.1,x.2.1.2.2.2.1,()),x.2.2.2.1,x.2.2.2.2.1,())with
    |none=>none
    |some (.inl v19)=>none
    |some (.inr v18)=>
     some (.inr (v18.1,()))
noncomputable def gn(x:Ty.T VX):Option (Ty.T eG):=
aX (
 match kP (x.1,(x.2.1.1,x.2.1.2.1,x.2.1.2.2.1,x.2.1.2.2.2.1,()),(x.1.length:Int),(if x.2.1.2.1<(x.1.length:Int)then x.2.1.2.1 else(x.1.length:Int)),(if(IntKind.i64.wrap (x.2.1.2.1+x.2.1.2.2.1))<(x.1.length:Int)then(IntKind.i64.wrap (x.2.1.2.1+x.2.1.2.2.1))else(x.1.length:Int)),())with
 |none=>none
 |some (.inl v21)=>none
 |some (.inr v20)=>
  some (v20.1,()))
noncomputable def qU:ae:=⟨_,eG,.unit,rfl,gn⟩
noncomputable def gD:FuncId→Option ae:=bC [(153,FI),(162,Co)]
theorem Ly:∀f s,gD f=some s→FnOK G0 Tryz.prog f s:=aD ⟨o7,zM,trivial⟩
noncomputable def zb:List (Nat×aw):=[(3,⟨[0,3,5,6,7],Zf,1000003,[],.unit,[4],eG,kP⟩),(16,⟨[0,3,6,7],Zc,1000016,[],.unit,[4],eG,gm⟩)]
noncomputable def lG:Nat→Option aw:=Rh (ch (fE Tryz.f104)) [⟨[3,7,9,10],RC,1,[9],a8,[],.unit,ac dF⟩] zb
theorem JJ(x):fA bi E0 gD lG Tryz.f104.ntmps (Xt Tryz.f104 2) (fz Tryz.f104.ntmps [0,3,5,6,7] Zf x) (Cc gD Tryz.f104.ntmps 1000003 [] .unit [4] eG)=kP x:=by kernel_rfl
theorem HD(x):fA bi E0 gD lG Tryz.f104.ntmps (Xt Tryz.f104 3) (fz Tryz.f104.ntmps [0,3,6,7] Zc x) (Cc gD Tryz.f104.ntmps 1000016 [] .unit [4] eG)=gm x:=by kernel_rfl
theorem HE(x):fA bi E0 gD lG Tryz.f104.ntmps (Nj Tryz.f104 0) (fz Tryz.f104.ntmps [3,7,9,10] RC x) (Cd gD Tryz.f104.ntmps [3,7,9,10] RC 1 [9] a8 [] .unit)=dF x:=by kernel_rfl
theorem DE:FnOK G0 Tryz.prog 104 qU:=abH (Λ:=lG) aj Ly Tryz.func104 (by kernel_rfl) (show Tryz.f104.body=some (fE Tryz.f104) by kernel_rfl) [⟨[3,7,9,10],RC,1,[9],a8,[],.unit,ac dF⟩] zb rfl (by kernel_rfl) (by exact⟨Rj (HE),trivial⟩) (by exact⟨trivial,trivial,UL JJ,UL HD,trivial,trivial,trivial,trivial,trivial,trivial,trivial,trivial,trivial,trivial,trivial,trivial,trivial,trivial,trivial,trivial,trivial,trivial,trivial,trivial,trivial,trivial,trivial⟩) (by kernel_rfl)
 fun x y h=>(show tv bi E0 gD lG Tryz.f104 qU x=gn x by kernel_rfl).trans h
abbrev lw:Ty:=(.pair (.box ah) (.pair (.own 43 av) bB))
abbrev qV:Ty:=Rx
noncomputable def cY(x:(Ty.T lw)):Option ((Ty.T lw) ⊕ ((Ty.T qV) ⊕ (Ty.T .unit))):=
match(decide (x.2.2.2.1<x.2.2.1))with
|true=>
 match(decide ((x.2.1.length:Int)<(25:Int)))with
 |true=>
  aI (x.2.1.length+ [((1:Int),x.2.2.2.1,(0:Int),(0:Int),())].length) (
   match aa ((x.1.1,x.1.2.1,x.1.2.2.1,()),(40:Int),())with
   |none=>none
   |some v5=>
   some (.inl ((v5.2.1.1,v5.2.1.2.1,v5.2.1.2.2.1,()),(x.2.1++ [((1:Int),x.2.2.2.1,(0:Int),(0:Int),())]),x.2.2.1,(IntKind.i64.wrap ((IntKind.i64.wrap (x.2.2.2.1+(6:Int)))+v5.1)),())))
 |false=>
  some (.inr (.inl ((x.1.1,x.1.2.1,x.1.2.2.1,()),x.2.1,())))
|false=>
 some (.inr (.inl ((x.1.1,x.1.2.1,x.1.2.2.1,()),x.2.1,())))
abbrev lx:Ty:=(.pair (.box ah) (.pair (.own 43 av) (.pair (.int .i64) (.pair (.list (.int .i64)) .unit))))
abbrev qW:Ty:=Rx
noncomputable def b9(x:(Ty.T lx)):Option ((Ty.T lx) ⊕ ((Ty.T qW) ⊕ (Ty.T .unit))):=
match(decide ((IntKind.i64.wrap (x.2.2.1+(3:Int)))<(x.2.2.2.1.length:Int)))with
|true=>
 match(decide ((x.2.1.length:Int)<(10:Int)))with
 |true=>
  match aa ((x.1.1,x.1.2.1,x.1.2.2.1,()),(2:Int),())with
  |none=>none
  |some v24=>
  match((IntKind.i64.wrap ((3:Int)+v24.1))==(4:Int))with
  |true=>
   ab (aq x.2.2.2.1 x.2.2.1) fun v25=>
   match oC (x.2.2.2.1,((IntKind.i64.wrap ((3:Int)+v24.1)),x.2.2.1,(1:Int),v25,()),())with
   |none=>none
   |some v26=>
   match(!v26.1)with
   |true=>
    match aa ((v24.2.1.1,v24.2.1.2.1,v24.2.1.2.2.1,()),(24:Int),())with
    |none=>none
    |some v27=>
    match(decide (v27.1>(0:Int)))with
    |true=>
     some (.inl ((v27.2.1.1,v27.2.1.2.1,v27.2.1.2.2.1,()),x.2.1,(IntKind.i64.wrap (x.2.2.1+(1:Int))),x.2.2.2.1,()))
    |false=>
     aI (x.2.1.length+ [((IntKind.i64.wrap ((3:Int)+v24.1)),x.2.2.1,(1:Int),v25,())].length) (
      match gn (x.2.2.2.1,((IntKind.i64.wrap ((3:Int)+v24.1)),x.2.2.1,(1:Int),v25,()),())with
      |none=>none
      |some v28=>
      match aa ((v27.2.1.1,v27.2.1.2.1,v27.2.1.2.2.1,()),(60:Int),())with
      |none=>none
      |some v29=>
      match aa ((v29.2.1.1,v29.2.1.2.1,v29.2.1.2.2.1,()),(30:Int),())with
      |none=>none
      |some v30=>
      some (.inl ((v30.2.1.1,v30.2.1.2.1,v30.2.1.2.2.1,()),(x.2.1++ [((IntKind.i64.wrap ((3:Int)+v24.1)),x.2.2.1,(1:Int),v25,())]),(IntKind.i64.wrap ((IntKind.i64.wrap ((IntKind.i64.wrap (x.2.2.1+(160:Int)))+v29.1))-(IntKind.i64.wrap ((IntKind.i64.wrap (Int.tdiv v30.1 (29:Int)))*(9:Int))))),v28.1,())))
   |false=>
    aI (x.2.1.length+ [((IntKind.i64.wrap ((3:Int)+v24.1)),x.2.2.1,(1:Int),v25,())].length) (
     match gn (x.2.2.2.1,((IntKind.i64.wrap ((3:Int)+v24.1)),x.2.2.1,(1:Int),v25,()),())with
     |none=>none
     |some v31=>
     match aa ((v24.2.1.1,v24.2.1.2.1,v24.2.1.2.2.1,()),(60:Int),())with
     |none=>none
     |some v32=>
     match aa ((v32.2.1.1,v32.2.1.2.1,v32.2.1.2.2.1,()),(30:Int),())with
     |none=>none
     |some v33=>
     some (.inl ((v33.2.1.1,v33.2.1.2.1,v33.2.1.2.2.1,()),(x.2.1++ [((IntKind.i64.wrap ((3:Int)+v24.1)),x.2.2.1,(1:Int),v25,())]),(IntKind.i64.wrap ((IntKind.i64.wrap ((IntKind.i64.wrap (x.2.2.1+(160:Int)))+v32.1))-(IntKind.i64.wrap ((IntKind.i64.wrap (Int.tdiv v33.1 (29:Int)))*(9:Int))))),v31.1,())))
  |false=>
   match oC (x.2.2.2.1,((IntKind.i64.wrap ((3:Int)+v24.1)),x.2.2.1,(1:Int),(0:Int),()),())with
   |none=>none
   |some v34=>
   match(!v34.1)with
   |true=>
    match aa ((v24.2.1.1,v24.2.1.2.1,v24.2.1.2.2.1,()),(24:Int),())with
    |none=>none
    |some v35=>
    match(decide (v35.1>(0:Int)))with
    |true=>
     some (.inl ((v35.2.1.1,v35.2.1.2.1,v35.2.1.2.2.1,()),x.2.1,(IntKind.i64.wrap (x.2.2.1+(1:Int))),x.2.2.2.1,()))
    |false=>
     aI (x.2.1.length+ [((IntKind.i64.wrap ((3:Int)+v24.1)),x.2.2.1,(1:Int),(0:Int),())].length) (
      match gn (x.2.2.2.1,((IntKind.i64.wrap ((3:Int)+v24.1)),x.2.2.1,(1:Int),(0:Int),()),())with
      |none=>none
      |some v36=>
      match aa ((v35.2.1.1,v35.2.1.2.1,v35.2.1.2.2.1,()),(60:Int),())with
      |none=>none
      |some v37=>
      match aa ((v37.2.1.1,v37.2.1.2.1,v37.2.1.2.2.1,()),(30:Int),())with
      |none=>none
      |some v38=>
      some (.inl ((v38.2.1.1,v38.2.1.2.1,v38.2.1.2.2.1,()),(x.2.1++ [((IntKind.i64.wrap ((3:Int)+v24.1)),x.2.2.1,(1:Int),(0:Int),())]),(IntKind.i64.wrap ((IntKind.i64.wrap ((IntKind.i64.wrap (x.2.2.1+(160:Int)))+v37.1))-(IntKind.i64.wrap ((IntKind.i64.wrap (Int.tdiv v38.1 (29:Int)))*(9:Int))))),v36.1,())))
   |false=>
    aI (x.2.1.length+ [((IntKind.i64.wrap ((3:Int)+v24.1)),x.2.2.1,(1:Int),(0:Int),())].length) (
     match gn (x.2.2.2.1,((IntKind.i64.wrap ((3:Int)+v24.1)),x.2.2.1,(1:Int),(0:Int),()),())with
     |none=>none
     |some v39=>
     match aa ((v24.2.1.1,v24.2.1.2.1,v24.2.1.2.2.1,()),(60:Int),())with
     |none=>none
     |some v40=>
     match aa ((v40.2.1.1,v40.2.1.2.1,v40.2.1.2.2.1,()),(30:Int),())with
     |none=>none
     |some v41=>
     some (.inl ((v41.2.1.1,v41.2.1.2.1,v41.2.1.2.2.1,()),(x.2.1++ [((IntKind.i64.wrap ((3:Int)+v24.1)),x.2.2.1,(1:Int),(0:Int),())]),(IntKind.i64.wrap ((IntKind.i64.wrap ((IntKind.i64.wrap (x.2.2.1+(160:Int)))+v40.1))-(IntKind.i64.wrap ((IntKind.i64.wrap (Int.tdiv v41.1 (29:Int)))*(9:Int))))),v39.1,())))
 |false=>
  some (.inr (.inl ((x.1.1,x.1.2.1,x.1.2.2.1,()),x.2.1,())))
|false=>
 some (.inr (.inl ((x.1.1,x.1.2.1,x.1.2.2.1,()),x.2.1,())))
noncomputable def iC(x:Ty.T (.pair (.box ah) (.pair (.list (.int .i64)) .unit))):Option (Ty.T ab2):=
match pr (x.2.1,())with
|none=>none
|some v1=>
match(!v1.1)with
|true=>
 some ([],(x.1.1,x.1.2.1,x.1.2.2.1,()),())
|false=>
 match aa ((x.1.1,x.1.2.1,x.1.2.2.1,()),(5:Int),())with
 |none=>none
 |some v2=>
 match(v2.1==(0:Int))with
 |true=>
  match kb ((v2.2.1.1,v2.2.1.2.1,v2.2.1.2.2.1,()),(x.2.1.length:Int),())with
  |none=>none
  |some v3=>
  some (v3.1,(v3.2.1.1,v3.2.1.2.1,v3.2.1.2.2.1,()),())
 |false=>
  match(v2.1==(1:Int))with
  |true=>
   match aa ((v2.2.1.1,v2.2.1.2.1,v2.2.1.2.2.1,()),(20:Int),())with
   |none=>none
   |some v4=>
   match ac cY ((v4.2.1.1,v4.2.1.2.1,v4.2.1.2.2.1,()),[],(x.2.1.length:Int),v4.1,())with
   |none=>none
   |some (.inl v6)=>
    match(decide ((v6.2.1.length:Int)>(1:Int)))with
    |true=>
     match aa ((v6.1.1,v6.1.2.1,v6.1.2.2.1,()),(12:Int),())with
     |none=>none
     |some v8=>
     match(v8.1==(0:Int))with
     |true=>
      ab (aq v6.2.1 (0:Int)) fun _=>
      match v6.2.1[(0:Int).toNat]? with
      |none=>none
      |some v10=>
      ab (aq v6.2.1 (1:Int)) fun _=>
      match v6.2.1[(1:Int).toNat]? with
      |none=>none
      |some v12=>
      some ((v6.2.1.set ((1:Int).toNat) (v12.1,(IntKind.i64.wrap (v10.2.1+(5:Int))),v12.2.2.1,v12.2.2.2.1,())),(v8.2.1.1,v8.2.1.2.1,v8.2.1.2.2.1,()),())
     |false=>
      some (v6.2.1,(v8.2.1.1,v8.2.1.2.1,v8.2.1.2.2.1,()),())
    |false=>
     some (v6.2.1,(v6.1.1,v6.1.2.1,v6.1.2.2.1,()),())
   |some (.inr v13)=>
    none
  |false=>
   match(v2.1==(2:Int))with
   |true=>
    match aa ((v2.2.1.1,v2.2.1.2.1,v2.2.1.2.2.1,()),(20:Int),())with
    |none=>none
    |some v14=>
    match ac cY ((v14.2.1.1,v14.2.1.2.1,v14.2.1.2.2.1,()),[],(x.2.1.length:Int),v14.1,())with
    |none=>none
    |some (.inl v15)=>
     match(decide ((v15.2.1.length:Int)>(1:Int)))with
     |true=>
      match aa ((v15.1.1,v15.1.2.1,v15.1.2.2.1,()),(12:Int),())with
      |none=>none
      |some v17=>
      match(v17.1==(0:Int))with
      |true=>
       ab (aq v15.2.1 (0:Int)) fun _=>
       match v15.2.1[(0:Int).toNat]? with
       |none=>none
       |some v19=>
       ab (aq v15.2.1 (1:Int)) fun _=>
       match v15.2.1[(1:Int).toNat]? with
       |none=>none
       |some v21=>
       some ((v15.2.1.set ((1:Int).toNat) (v21.1,(IntKind.i64.wrap (v19.2.1+(5:Int))),v21.2.2.1,v21.2.2.2.1,())),(v17.2.1.1,v17.2.1.2.1,v17.2.1.2.2.1,()),())
      |false=>
       some (v15.2.1,(v17.2.1.1,v17.2.1.2.1,v17.2.1.2.2.1,()),())
     |false=>
      some (v15.2.1,(v15.1.1,v15.1.2.1,v15.1.2.2.1,()),())
    |some (.inr v22)=>
     none
   |false=>
    match aa ((v2.2.1.1,v2.2.1.2.1,v2.2.1.2.2.1,()),(60:Int),())with
    |none=>none
    |some v23=>
    match ac b9 ((v23.2.1.1,v23.2.1.2.1,v23.2.1.2.2.1,()),[],v23.1,x.2.1,())with
    |none=>none
    |some (.inl v42)=>
     some (v42.2.1,(v42.1.1,v42.1.2.1,v42.1.2.2.1,()),())
    |some (.inr v44)=>
     none
noncomputable def HF:ae:=⟨_,abL,gB,rfl,iC⟩
noncomputable def mG:FuncId→Option ae:=bC [(50,Iv),(52,gg),(102,Lx),(103,DD),(104,qU)]
theorem Cp:∀f s,mG f=some s→FnOK G0 Tryz.prog f s:=aD ⟨FX,bK,tf,NT,DE,trivial⟩
def qX:aO:=⟨[0,5,6,7],lw,1,[0,5],qV,[],.unit⟩
def qY:aO:=⟨[0,5,8,9],lx,3,[0,5],qW,[],.unit⟩
noncomputable def mH:List aw:=[qX.spec cY,qY.spec b9]
theorem zN:bg bi E0 mG (bc Tryz.f51 mH) Tryz.f51 0 qX cY:=fun x=>by kernel_rfl
theorem zO:bg bi E0 mG (bc Tryz.f51 mH) Tryz.f51 1 qY b9:=fun x=>by kernel_rfl
theorem FY:FnOK G0 Tryz.prog 51 HF:=aJ aj Cp Tryz.func51 mH (by kernel_rfl) (by exact⟨(zN).lok,(zO).lok,trivial⟩) fun x=>by kernel_rfl
noncomputable def kQ(x:Ty.T VU):Option (Ty.T ach):=
match yH (x.1,())with
|none=>none
|some v1=>
match tQ ((v1.1.1,v1.1.2.1,v1.1.2.2.1,()),())with
|none=>none
|some v2=>
match iR ((v2.1.1,v2.1.2.1,v2.1.2.2.1,v2.1.2.2.2.1,()),(v2.2.1.1,v2.2.1.2.1,v2.2.1.2.2.1,v2.2.1.2.2.2.1,v2.2.1.2.2.2.2.1,()),(v2.2.2.1.1,v2.2.2.1.2.1,(v2.2.2.1.2.2.1.1,v2.2.2.1.2.2.1.2.1,v2.2.2.1.2.2.1.2.2.1,v2.2.2.1.2.2.1.2.2.2.1,v2.2.2.1.2.2.1.2.2.2.2.1,()),v2.2.2.1.2.2.2.1,()),())with
|none=>none
|some v3=>
match(v3.2.1 != (0:Int))with
|true=>
 aN (
  match kb ((v2.2.2.2.1.1,v2.2.2.2.1.2.1,v2.2.2.2.1.2.2.1,()),(100:Int),())with
  |none=>none
  |some v4=>
  some ((v2.1.1,v2.1.2.1,v2.1.2.2.1,v2.1.2.2.2.1,()),(v2.2.1.1,v2.2.1.2.1,v2.2.1.2.2.1,v2.2.1.2.2.2.1,v2.2.1.2.2.2.2.1,()),(v2.2.2.1.1,v2.2.2.1.2.1,(v2.2.2.1.2.2.1.1,v2.2.2.1.2.2.1.2.1,v2.2.2.1.2.2.1.2.2.1,v2.2.2.1.2.2.1.2.2.2.1,v2.2.2.1.2.2.1.2.2.2.2.1,()),v2.2.2.1.2.2.2.1,()),v4.1,[],())) (
  match kb ((v2.2.2.2.1.1,v2.2.2.2.1.2.1,v2.2.2.2.1.2.2.1,()),(100:Int),())with
  |none=>none
  |some v4=>
  aX (
   some ((v2.1.1,v2.1.2.1,v2.1.2.2.1,v2.1.2.2.2.1,()),(v2.2.1.1,v2.2.1.2.1,v2.2.1.2.2.1,v2.2.1.2.2.2.1,v2.2.1.2.2.2.2.1,()),(v2.2.2.1.1,v2.2.2.1.2.1,(v2.2.2.1.2.2.1.1,v2.2.2.1.2.2.1.2.1,v2.2.2.1.2.2.1.2.2.1,v2.2.2.1.2.2.1.2.2.2.1,v2.2.2.1.2.2.1.2.2.2.2.1,()),v2.2.2.1.2.2.2.1,()),v4.1,[],())))
|false=>
 match iC ((v2.2.2.2.1.1,v2.2.2.2.1.2.1,v2.2.2.2.1.2.2.1,()),v3.1,())with
 |none=>none
 |some v5=>
 match aa ((v5.2.1.1,v5.2.1.2.1,v5.2.1.2.2.1,()),(4:Int),())with
 |none=>none
 |some v6=>
 match(v6.1==(0:Int))with
 |true=>
  aN (
   match iC ((v6.2.1.1,v6.2.1.2.1,v6.2.1.2.2.1,()),v3.1,())with
   |none=>none
   |some v7=>
   some ((v2.1.1,v2.1.2.1,v2.1.2.2.1,v2.1.2.2.2.1,()),(v2.2.1.1,v2.2.1.2.1,v2.2.1.2.2.1,v2.2.1.2.2.2.1,v2.2.1.2.2.2.2.1,()),(v2.2.2.1.1,v2.2.2.1.2.1,(v2.2.2.1.2.2.1.1,v2.2.2.1.2.2.1.2.1,v2.2.2.1.2.2.1.2.2.1,v2.2.2.1.2.2.1.2.2.2.1,v2.2.2.1.2.2.1.2.2.2.2.1,()),v2.2.2.1.2.2.2.1,()),v5.1,v7.1,())) (
   match iC ((v6.2.1.1,v6.2.1.2.1,v6.2.1.2.2.1,()),v3.1,())with
   |none=>none
   |some v7=>
   aX (
    some ((v2.1.1,v2.1.2.1,v2.1.2.2.1,v2.1.2.2.2.1,()),(v2.2.1.1,v2.2.1.2.1,v2.2.1.2.2.1,v2.2.1.2.2.2.1,v2.2.1.2.2.2.2.1,()),(v2.2.2.1.1,v2.2.2.1.2.1,(v2.2.2.1.2.2.1.1,v2.2.2.1.2.2.1.2.1,v2.2.2.1.2.2.1.2.2.1,v2.2.2.1.2.2.1.2.2.2.1,v2.2.2.1.2.2.1.2.2.2.2.1,()),v2.2.2.1.2.2.2.1,()),v5.1,v7.1,())))
 |false=>
  match(v6.1==(1:Int))with
  |true=>
   aN (
    aN (
     some ((v2.1.1,v2.1.2.1,v2.1.2.2.1,v2.1.2.2.2.1,()),(v2.2.1.1,v2.2.1.2.1,v2.2.1.2.2.1,v2.2.1.2.2.2.1,v2.2.1.2.2.2.2.1,()),(v2.2.2.1.1,v2.2.2.1.2.1,(v2.2.2.1.2.2.1.1,v2.2.2.1.2.2.1.2.1,v2.2.2.1.2.2.1.2.2.1,v2.2.2.1.2.2.1.2.2.2.1,v2.2.2.1.2.2.1.2.2.2.2.1,()),v2.2.2.1.2.2.2.1,()),[((5:Int),(0:Int),(0:Int),(0:Int),())],v5.1,())) (
     aN (
      some ((v2.1.1,v2.1.2.1,v2.1.2.2.1,v2.1.2.2.2.1,()),(v2.2.1.1,v2.2.1.2.1,v2.2.1.2.2.1,v2.2.1.2.2.2.1,v2.2.1.2.2.2.2.1,()),(v2.2.2.1.1,v2.2.2.1.2.1,(v2.2.2.1.2.2.1.1,v2.2.2.1.2.2.1.2.1,v2.2.2.1.2.2.1.2.2.1,v2.2.2.1.2.2.1.2.2.2.1,v2.2.2.1.2.2.1.2.2.2.2.1,()),v2.2.2.1.2.2.2.1,()),[((5:Int),(0:Int),(0:Int),(0:Int),())],v5.1,())) (
      aX (
       some ((v2.1.1,v2.1.2.1,v2.1.2.2.1,v2.1.2.2.2.1,()),(v2.2.1.1,v2.2.1.2.1,v2.2.1.2.2.1,v2.2.1.2.2.2.1,v2.2.1.2.2.2.2.1,()),(v2.2.2.1.1,v2.2.2.1.2.1,(v2.2.2.1.2.2.1.1,v2.2.2.1.2.2.1.2.1,v2.2.2.1.2.2.1.2.2.1,v2.2.2.1.2.2.1.2.2.2.1,v2.2.2.1.2.2.1.2.2.2.2.1,()),v2.2.2.1.2.2.2.1,()),[((5:Int),(0:Int),(0:Int),(0:Int),())],v5.1,()))))) (
    aN (
     aX (
      some ((v2.1.1,v2.1.2.1,v2.1.2.2.1,v2.1.2.2.2.1,()),(v2.2.1.1,v2.2.1.2.1,v2.2.1.2.2.1,v2.2.1.2.2.2.1,v2.2.1.2.2.2.2.1,()),(v2.2.2.1.1,v2.2.2.1.2.1,(v2.2.2.1.2.2.1.1,v2.2.2.1.2.2.1.2.1,v2.2.2.1.2.2.1.2.2.1,v2.2.2.1.2.2.1.2.2.2.1,v2.2.2.1.2.2.1.2.2.2.2.1,()),v2.2.2.1.2.2.2.1,()),[((5:Int),(0:Int),(0:Int),(0:Int),())],v5.1,()))) (
     aN (
      aN (
       some ((v2.1.1,v2.1.2.1,v2.1.2.2.1,v2.1.2.2.2.1,()),(v2.2.1.1,v2.2.1.2.1,v2.2.1.2.2.1,v2.2.1.2.2.2.1,v2.2.1.2.2.2.2.1,()),(v2.2.2.1.1,v2.2.2.1.2.1,(v2.2.2.1.2.2.1.1,v2.2.2.1.2.2.1.2.1,v2.2.2.1.2.2.1.2.2.1,v2.2.2.1.2.2.1.2.2.2.1,v2.2.2.1.2.2.1.2.2.2.2.1,()),v2.2.2.1.2.2.2.1,()),[((5:Int),(0:Int),(0:Int),(0:Int),())],v5.1,())) (
       aX (
        some ((v2.1.1,v2.1.2.1,v2.1.2.2.1,v2.1.2.2.2.1,()),(v2.2.1.1,v2.2.1.2.1,v2.2.1.2.2.1,v2.2.1.2.2.2.1,v2.2.1.2.2.2.2.1,()),(v2.2.2.1.1,v2.2.2.1.2.1,(v2.2.2.1.2.2.1.1,v2.2.2.1.2.2.1.2.1,v2.2.2.1.2.2.1.2.2.1,v2.2.2.1.2.2.1.2.2.2.1,v2.2.2.1.2.2.1.2.2.2.2.1,()),v2.2.2.1.2.2.2.1,()),[((5:Int),(0:Int),(0:Int),(0:Int),())],v5.1,())))) (
      some ((v2.1.1,v2.1.2.1,v2.1.2.2.1,v2.1.2.2.2.1,()),(v2.2.1.1,v2.2.1.2.1,v2.2.1.2.2.1,v2.2.1.2.2.2.1,v2.2.1.2.2.2.2.1,()),(v2.2.2.1.1,v2.2.2.1.2.1,(v2.2.2.1.2.2.1.1,v2.2.2.1.2.2.1.2.1,v2.2.2.1.2.2.1.2.2.1,v2.2.2.1.2.2.1.2.2.2.1,v2.2.2.1.2.2.1.2.2.2.2.1,()),v2.2.2.1.2.2.2.1,()),[((5:Int),(0:Int),(0:Int),(0:Int),())],v5.1,()))))
  |false=>
   aN (
    match kb ((v6.2.1.1,v6.2.1.2.1,v6.2.1.2.2.1,()),(v3.1.length:Int),())with
    |none=>none
    |some v8=>
    some ((v2.1.1,v2.1.2.1,v2.1.2.2.1,v2.1.2.2.2.1,()),(v2.2.1.1,v2.2.1.2.1,v2.2.1.2.2.1,v2.2.1.2.2.2.1,v2.2.1.2.2.2.2.1,()),(v2.2.2.1.1,v2.2.2.1.2.1,(v2.2.2.1.2.2.1.1,v2.2.2.1.2.2.1.2.1,v2.2.2.1.2.2.1.2.2.1,v2.2.2.1.2.2.1.2.2.2.1,v2.2.2.1.2.2.1.2.2.2.2.1,()),v2.2.2.1.2.2.2.1,()),v5.1,v8.1,())) (
    aN (
     match kb ((v6.2.1.1,v6.2.1.2.1,v6.2.1.2.2.1,()),(v3.1.length:Int),())with
     |none=>none
     |some v8=>
     some ((v2.1.1,v2.1.2.1,v2.1.2.2.1,v2.1.2.2.2.1,()),(v2.2.1.1,v2.2.1.2.1,v2.2.1.2.2.1,v2.2.1.2.2.2.1,v2.2.1.2.2.2.2.1,()),(v2.2.2.1.1,v2.2.2.1.2.1,(v2.2.2.1.2.2.1.1,v2.2.2.1.2.2.1.2.1,v2.2.2.1.2.2.1.2.2.1,v2.2.2.1.2.2.1.2.2.2.1,v2.2.2.1.2.2.1.2.2.2.2.1,()),v2.2.2.1.2.2.2.1,()),v5.1,v8.1,())) (
     match kb ((v6.2.1.1,v6.2.1.2.1,v6.2.1.2.2.1,()),(v3.1.length:Int),())with
     |none=>none
     |some v8=>
     aX (
      some ((v2.1.1,v2.1.2.1,v2.1.2.2.1,v2.1.2.2.2.1,()),(v2.2.1.1,v2.2.1.2.1,v2.2.1.2.2.1,v2.2.1.2.2.2.1,v2.2.1.2.2.2.2.1,()),(v2.2.2.1.1,v2.2.2.1.2.1,(v2.2.2.1.2.2.1.1,v2.2.2.1.2.2.1.2.1,v2.2.2.1.2.2.1.2.2.1,v2.2.2.1.2.2.1.2.2.2.1,v2.2.2.1.2.2.1.2.2.2.2.1,()),v2.2.2.1.2.2.2.1,()),v5.1,v8.1,()))))
noncomputable def JK:ae:=⟨_,ach,.unit,rfl,kQ⟩
theorem HG:FnOK G0 Tryz.prog 9 JK:=ak aj (sg RD (sg RL (sg xv (sg FX (sg FY (sg bK (aL))))))) Tryz.func9
abbrev gH:Ty:=(.pair (.list al) (.pair (.fn (.pair al .unit) (.pair .bool .unit)) bB))
noncomputable def ci(x:(Ty.T gH)):Option ((Ty.T gH) ⊕ ((Ty.T .unit) ⊕ (Ty.T aE))):=
match(decide (x.2.2.2.1<x.2.2.1))with
|true=>
 ab (aq x.1 x.2.2.2.1) fun v1=>
 match x.2.1 (v1,())with
 |none=>none
 |some v2=>
 match v2.1 with
 |true=>
  some (.inr (.inr (x.2.2.2.1,())))
 |false=>
  some (.inl (x.1,x.2.1,x.2.2.1,(IntKind.i64.wrap (x.2.2.2.1+(1:Int))),()))
|false=>
 some (.inr (.inl (())))
noncomputable def dl(x:Ty.T ace):Option (Ty.T aE):=
match ac ci (x.1,x.2.1,(x.1.length:Int),(0:Int),())with
|none=>none
|some (.inl v3)=>
 some ((-1:Int),())
|some (.inr v4)=>
 some (v4.1,())
noncomputable def tU:ae:=⟨_,aE,.unit,rfl,dl⟩
noncomputable def kR:FuncId→Option ae:=bC []
theorem qZ:∀f s,kR f=some s→FnOK G0 Tryz.prog f s:=aD trivial
def kB:aO:=⟨[0,1,7,8],gH,0,[],.unit,[4],aE⟩
noncomputable def kS:List aw:=[kB.spec ci]
theorem qn:bg bi E0 kR (bc Tryz.f199 kS) Tryz.f199 0 kB ci:=fun x=>by kernel_rfl
theorem kT:FnOK G0 Tryz.prog 199 tU:=aJ aj qZ Tryz.func199 kS (by kernel_rfl) (by exact⟨(qn).lok,trivial⟩) fun x=>by kernel_rfl
noncomputable def rc(x:Ty.T (.pair al (.pair (.ptr (.int .i64)) (.pair (.ptr (.int .i64)) (.pair (.ptr (.int .i64)) .unit))))):Option (Ty.T ao):=
match(x.1.1==x.2.1)with
|true=>
 match(x.1.2.1==x.2.2.1)with
 |true=>
  some ((x.1.2.2.1==x.2.2.2.1),())
 |false=>
  some (false,())
|false=>
 some (false,())
noncomputable def NU:ae:=⟨_,ao,.unit,rfl,rc⟩
theorem Lz:FnOK G0 Tryz.prog 200 NU:=ak aj aL Tryz.func200
noncomputable def nl(x:Ty.T abW):Option (Ty.T aE):=
match dl (x.1,(fun z=>rc (z.1,x.2.1,x.2.2.1,x.2.2.2.1,())),())with
|none=>none
|some v1=>
some (v1.1,())
noncomputable def FZ:ae:=⟨_,aE,.unit,rfl,nl⟩
theorem DF:FnOK G0 Tryz.prog 139 FZ:=ak aj (sg kT (sg Lz (aL))) Tryz.func139
noncomputable def eC(x:Ty.T Fe):Option (Ty.T Fd):=
match nl (x.1.2.2.2.1,x.2.1.2.1,x.2.1.2.2.1,x.2.1.2.2.2.1,())with
|none=>none
|some v1=>
ab (aq x.1.2.2.2.1 v1.1) fun v2=>
some ((v2.2.2.2.1.1,v2.2.2.2.1.2.1,v2.2.2.2.1.2.2.1,v2.2.2.2.1.2.2.2.1,v2.2.2.2.1.2.2.2.2.1,()),())
noncomputable def HH:ae:=⟨_,Fd,.unit,rfl,eC⟩
theorem mI:FnOK G0 Tryz.prog 73 HH:=ak aj (sg DF (aL)) Tryz.func73
noncomputable def ca(x:Ty.T (.pair (.int .i64) bB)):Option (Ty.T ao):=
match(decide (x.1≥x.2.1))with
|true=>
 some ((decide (x.1≤x.2.2.1)),())
|false=>
 some (false,())
noncomputable def Cq:ae:=⟨_,ao,.unit,rfl,ca⟩
theorem dh:FnOK G0 Tryz.prog 68 Cq:=ak aj aL Tryz.func68
noncomputable def QF(x:Ty.T bB):Option (Ty.T ao):=
if x.2.1<0 then none else
some (((bits BinOp.and .i64 (Int.fdiv x.1 (2^min x.2.1.toNat IntKind.i64.bits)) (1:Int))==(1:Int)),())
noncomputable def aaF:ae:=⟨_,ao,.unit,rfl,QF⟩
theorem Zl:FnOK G0 Tryz.prog 78 aaF:=ak aj aL Tryz.func78
abbrev mJ:Ty:=(.pair (.int .i64) (.pair (.list au) bB))
noncomputable def eK(x:(Ty.T mJ)):Option ((Ty.T mJ) ⊕ ((Ty.T aE) ⊕ (Ty.T .unit))):=
match(decide (x.2.2.2.1<x.2.2.1))with
|true=>
 ab (aq x.2.1 x.2.2.2.1) fun v1=>
 match(!v1.2.2.2.1)with
 |true=>
  if v1.1<0 then none else
  some (.inl ((bits BinOp.or .i64 x.1 (IntKind.i64.wrap ((1:Int)*2^min v1.1.toNat IntKind.i64.bits))),x.2.1,x.2.2.1,(IntKind.i64.wrap (x.2.2.2.1+(1:Int))),()))
 |false=>
  some (.inl (x.1,x.2.1,x.2.2.1,(IntKind.i64.wrap (x.2.2.2.1+(1:Int))),()))
|false=>
 some (.inr (.inl (x.1,())))
noncomputable def jn(x:Ty.T Nr):Option (Ty.T aE):=
match ac eK ((0:Int),x.1,(x.1.length:Int),(0:Int),())with
|none=>none
|some (.inl v2)=>
 some (v2.1,())
|some (.inr v4)=>
 none
noncomputable def xy:ae:=⟨_,aE,.unit,rfl,jn⟩
noncomputable def vE:FuncId→Option ae:=bC []
theorem EA:∀f s,vE f=some s→FnOK G0 Tryz.prog f s:=aD trivial
def tV:aO:=⟨[3,6,7,8],mJ,0,[3],aE,[],.unit⟩
noncomputable def vF:List aw:=[tV.spec eK]
theorem Cr:bg bi E0 vE (bc Tryz.f141 vF) Tryz.f141 0 tV eK:=fun x=>by kernel_rfl
theorem oe:FnOK G0 Tryz.prog 141 xy:=aJ aj EA Tryz.func141 vF (by kernel_rfl) (by exact⟨(Cr).lok,trivial⟩) fun x=>by kernel_rfl
noncomputable def nm(x:Ty.T (.pair al (.pair (.ptr an) .unit))):Option (Ty.T ao):=
match jn (x.2.1.2.1,())with
|none=>none
|some v1=>
match QF (v1.1,x.1.2.2.2.1.1,())with
|none=>none
|some v2=>
some ((!v2.1),())
noncomputable def JL:ae:=⟨_,ao,.unit,rfl,nm⟩
theorem HI:FnOK G0 Tryz.prog 201 JL:=ak aj (sg Zl (sg oe (aL))) Tryz.func201
noncomputable def nn(x:Ty.T Y0):Option (Ty.T ao):=
match(x.1.2.2.2.1.2.1==(3:Int))with
|true=>
 some ((x.1.1 != (0:Int)),())
|false=>
 some (false,())
noncomputable def JM:ae:=⟨_,ao,.unit,rfl,nn⟩
theorem HJ:FnOK G0 Tryz.prog 202 JM:=ak aj aL Tryz.func202
noncomputable def xz(x:Ty.T aE):Option (Ty.T ao):=
match ca (x.1,(0:Int),(31:Int),())with
|none=>none
|some v1=>
some (v1.1,())
noncomputable def V5:ae:=⟨_,ao,.unit,rfl,xz⟩
theorem Iw:FnOK G0 Tryz.prog 77 V5:=ak aj (sg dh (aL)) Tryz.func77
noncomputable def xA(x:Ty.T abM):Option (Ty.T qA):=ab (KV x.1 x.2.1) fun s=>some (s,())
noncomputable def NV:ae:=⟨abM,qA,.unit,rfl,xA⟩
theorem LA:FnOK G0 Tryz.prog 291 NV:=FnOK.str2_str (lq Tryz.func291 (by kernel_rfl) (show Tryz.f291.body=some (fE Tryz.f291) by kernel_rfl)) (fun w s t y _ hy=>VL w s t y hy)
noncomputable def mK(x:Ty.T (.pair au .unit)):Option (Ty.T ao):=
match(decide ((x.1.2.1.length:Int)≥(1:Int)))with
|true=>
 match(decide ((x.1.2.1.length:Int)≤(6:Int)))with
 |true=>
  match xA (x.1.2.1,([97,98,99,100,101,102,103,104,105,106,107,108,109,110,111,112,113,114,115,116,117,118,119,120,121,122,48,49,50,51,52,53,54,55,56,57]:List UInt8),())with
  |none=>none
  |some v1=>
  match(v1.1== [])with
  |true=>
   match xz (x.1.1,())with
   |none=>none
   |some v2=>
   match v2.1 with
   |true=>
    match ca (x.1.2.2.1,(0:Int),(1000:Int),())with
    |none=>none
    |some v3=>
    some (v3.1,())
   |false=>
    some (false,())
  |false=>
   some (false,())
 |false=>
  some (false,())
|false=>
 some (false,())
noncomputable def A2:ae:=⟨_,ao,.unit,rfl,mK⟩
theorem LB:FnOK G0 Tryz.prog 252 A2:=ak aj (sg dh (sg Iw (sg LA (aL)))) Tryz.func252
abbrev gI:Ty:=(.pair (.list au) (.pair (.fn (.pair au .unit) (.pair .bool .unit)) bB))
noncomputable def cj(x:(Ty.T gI)):Option ((Ty.T gI) ⊕ ((Ty.T .unit) ⊕ (Ty.T aE))):=
match(decide (x.2.2.2.1<x.2.2.1))with
|true=>
 ab (aq x.1 x.2.2.2.1) fun v1=>
 match x.2.1 (v1,())with
 |none=>none
 |some v2=>
 match v2.1 with
 |true=>
  some (.inr (.inr (x.2.2.2.1,())))
 |false=>
  some (.inl (x.1,x.2.1,x.2.2.1,(IntKind.i64.wrap (x.2.2.2.1+(1:Int))),()))
|false=>
 some (.inr (.inl (())))
noncomputable def eE(x:Ty.T acf):Option (Ty.T aE):=
match ac cj (x.1,x.2.1,(x.1.length:Int),(0:Int),())with
|none=>none
|some (.inl v3)=>
 some ((-1:Int),())
|some (.inr v4)=>
 some (v4.1,())
noncomputable def tW:ae:=⟨_,aE,.unit,rfl,eE⟩
noncomputable def kU:FuncId→Option ae:=bC []
theorem re:∀f s,kU f=some s→FnOK G0 Tryz.prog f s:=aD trivial
def kC:aO:=⟨[0,1,7,8],gI,0,[],.unit,[4],aE⟩
noncomputable def kV:List aw:=[kC.spec cj]
theorem qo:bg bi E0 kU (bc Tryz.f292 kV) Tryz.f292 0 kC cj:=fun x=>by kernel_rfl
theorem sp:FnOK G0 Tryz.prog 292 tW:=aJ aj re Tryz.func292 kV (by kernel_rfl) (by exact⟨(qo).lok,trivial⟩) fun x=>by kernel_rfl
noncomputable def cQ(x:Ty.T acf):Option (Ty.T ao):=
match eE (x.1,x.2.1,())with
|none=>none
|some v1=>
some ((decide (v1.1≥(0:Int))),())
noncomputable def kd:ae:=⟨_,ao,.unit,rfl,cQ⟩
theorem qp:FnOK G0 Tryz.prog 253 kd:=ak aj (sg sp (aL)) Tryz.func253
noncomputable def ke(x:Ty.T (.pair au (.pair (.ptr au) .unit))):Option (Ty.T ao):=
some ((x.1.2.1==x.2.1.2.1),())
noncomputable def vG:ae:=⟨_,ao,.unit,rfl,ke⟩
theorem F0:FnOK G0 Tryz.prog 254 vG:=ak aj aL Tryz.func254
abbrev og:Ty:=(.pair (.list au) (.pair (.list au) bB))
noncomputable def fq(x:(Ty.T og)):Option ((Ty.T og) ⊕ ((Ty.T Nr) ⊕ (Ty.T ao))):=
match(decide (x.2.2.2.1<x.2.2.1))with
|true=>
 ab (aq x.2.1 x.2.2.2.1) fun v1=>
 match mK ((v1.1,v1.2.1,v1.2.2.1,v1.2.2.2.1,()),())with
 |none=>none
 |some v2=>
 match(!v2.1)with
 |true=>
  some (.inr (.inr (false,())))
 |false=>
  match(decide (x.2.2.2.1>(0:Int)))with
  |true=>
   ab (aq x.1 (IntKind.i64.wrap (x.2.2.2.1-(1:Int)))) fun v3=>
   match(decide (v3.1≥v1.1))with
   |true=>
    some (.inr (.inr (false,())))
   |false=>
    ab (aH x.1.length none (some (.dat (.int .i64) x.2.2.2.1))) fun v4=>
    match cQ ((List.drop v4.1 (List.take v4.2 x.1)),(fun z=>ke (z.1,(v1.1,v1.2.1,v1.2.2.1,v1.2.2.2.1,()),())),())with
    |none=>none
    |some v5=>
    match v5.1 with
    |true=>
     some (.inr (.inr (false,())))
    |false=>
     some (.inl (x.1,x.2.1,x.2.2.1,(IntKind.i64.wrap (x.2.2.2.1+(1:Int))),()))
  |false=>
   ab (aH x.1.length none (some (.dat (.int .i64) x.2.2.2.1))) fun v6=>
   match cQ ((List.drop v6.1 (List.take v6.2 x.1)),(fun z=>ke (z.1,(v1.1,v1.2.1,v1.2.2.1,v1.2.2.2.1,()),())),())with
   |none=>none
   |some v7=>
   match v7.1 with
   |true=>
    some (.inr (.inr (false,())))
   |false=>
    some (.inl (x.1,x.2.1,x.2.2.1,(IntKind.i64.wrap (x.2.2.2.1+(1:Int))),()))
|false=>
 some (.inr (.inl (x.1,())))
noncomputable def o8(x:Ty.T Nr):Option (Ty.T ao):=
match ac fq (x.1,x.1,(x.1.length:Int),(0:Int),())with
|none=>none
|some (.inl v8)=>
 match(decide ((v8.1.length:Int)≥(1:Int)))with
 |true=>
  some ((decide ((v8.1.length:Int)≤(32:Int))),())
 |false=>
  some (false,())
|some (.inr v9)=>
 some (v9.1,())
noncomputable def LC:ae:=⟨_,ao,.unit,rfl,o8⟩
noncomputable def xB:FuncId→Option ae:=bC [(252,A2),(253,kd),(254,vG)]
theorem F1:∀f s,xB f=some s→FnOK G0 Tryz.prog f s:=aD ⟨LB,qp,F0,trivial⟩
def vH:aO:=⟨[0,5,6,7],og,0,[0],Nr,[2],ao⟩
noncomputable def xC:List aw:=[vH.spec fq]
theorem EB:bg bi E0 xB (bc Tryz.f203 xC) Tryz.f203 0 vH fq:=fun x=>by kernel_rfl
theorem JN:FnOK G0 Tryz.prog 203 LC:=aJ aj F1 Tryz.func203 xC (by kernel_rfl) (by exact⟨(EB).lok,trivial⟩) fun x=>by kernel_rfl
abbrev ku:Ty:=Zb
noncomputable def di(x:(Ty.T ku)):Option ((Ty.T ku) ⊕ ((Ty.T .unit) ⊕ (Ty.T aE))):=
match(decide (x.2.2.2.1<x.2.2.1))with
|true=>
 ab (aq x.1 x.2.2.2.1) fun v1=>
 match(x.2.1==v1)with
 |true=>
  some (.inr (.inr (x.2.2.2.1,())))
 |false=>
  some (.inl (x.1,x.2.1,x.2.2.1,(IntKind.i64.wrap (x.2.2.2.1+(1:Int))),()))
|false=>
 some (.inr (.inl (())))
noncomputable def mL(x:Ty.T qB):Option (Ty.T aE):=
match ac di (x.1,x.2.1,(x.1.length:Int),(0:Int),())with
|none=>none
|some (.inl v2)=>
 some ((-1:Int),())
|some (.inr v3)=>
 some (v3.1,())
noncomputable def Cs:ae:=⟨_,aE,.unit,rfl,mL⟩
noncomputable def qb:FuncId→Option ae:=bC []
theorem yt:∀f s,qb f=some s→FnOK G0 Tryz.prog f s:=aD trivial
def oD:aO:=⟨[0,1,7,8],ku,0,[],.unit,[4],aE⟩
noncomputable def qc:List aw:=[oD.spec di]
theorem xD:bg bi E0 qb (bc Tryz.f264 qc) Tryz.f264 0 oD di:=fun x=>by kernel_rfl
theorem A3:FnOK G0 Tryz.prog 264 Cs:=aJ aj yt Tryz.func264 qc (by kernel_rfl) (by exact⟨(xD).lok,trivial⟩) fun x=>by kernel_rfl
noncomputable def iE(x:Ty.T qB):Option (Ty.T ao):=
match mL (x.1,x.2.1,())with
|none=>none
|some v1=>
some ((decide (v1.1≥(0:Int))),())
noncomputable def nI:ae:=⟨_,ao,.unit,rfl,iE⟩
theorem xE:FnOK G0 Tryz.prog 215 nI:=ak aj (sg A3 (aL)) Tryz.func215
abbrev su:Ty:=(.pair (.list (.int .i64)) (.pair (.int .i64) (.pair (.list (.int .i64)) bB)))
noncomputable def gR(x:(Ty.T su)):Option ((Ty.T su) ⊕ ((Ty.T .unit) ⊕ (Ty.T ao))):=
match(decide (x.2.2.2.2.1<x.2.2.2.1))with
|true=>
 ab (aq x.2.2.1 x.2.2.2.2.1) fun v1=>
 match(decide (v1<(0:Int)))with
 |true=>
  some (.inr (.inr (false,())))
 |false=>
  match(decide (v1≥x.2.1))with
  |true=>
   some (.inr (.inr (false,())))
  |false=>
   match(decide (x.2.2.2.2.1>(0:Int)))with
   |true=>
    ab (aq x.1 (IntKind.i64.wrap (x.2.2.2.2.1-(1:Int)))) fun v2=>
    match(decide (v2≥v1))with
    |true=>
     some (.inr (.inr (false,())))
    |false=>
     some (.inl (x.1,x.2.1,x.2.2.1,x.2.2.2.1,(IntKind.i64.wrap (x.2.2.2.2.1+(1:Int))),()))
   |false=>
    some (.inl (x.1,x.2.1,x.2.2.1,x.2.2.2.1,(IntKind.i64.wrap (x.2.2.2.2.1+(1:Int))),()))
|false=>
 some (.inr (.inl (())))
noncomputable def wi(x:Ty.T qB):Option (Ty.T ao):=
match ac gR (x.1,x.2.1,x.1,(x.1.length:Int),(0:Int),())with
|none=>none
|some (.inl v3)=>
 some (true,())
|some (.inr v4)=>
 some (v4.1,())
noncomputable def F2:ae:=⟨_,ao,.unit,rfl,wi⟩
noncomputable def DG:FuncId→Option ae:=bC []
theorem LD:∀f s,DG f=some s→FnOK G0 Tryz.prog f s:=aD trivial
def A4:aO:=⟨[0,1,7,8,9],su,0,[],.unit,[4],ao⟩
noncomputable def DH:List aw:=[A4.spec gR]
theorem JO:bg bi E0 DG (bc Tryz.f255 DH) Tryz.f255 0 A4 gR:=fun x=>by kernel_rfl
theorem P3:FnOK G0 Tryz.prog 255 F2:=aJ aj LD Tryz.func255 DH (by kernel_rfl) (by exact⟨(JO).lok,trivial⟩) fun x=>by kernel_rfl
abbrev oh:Ty:=(.pair (.list ay) (.pair (.list ay) bB))
noncomputable def fu(x:(Ty.T oh)):Option ((Ty.T oh) ⊕ ((Ty.T VT) ⊕ (Ty.T ao))):=
match(decide (x.2.2.2.1<x.2.2.1))with
|true=>
 ab (aq x.2.1 x.2.2.2.1) fun v1=>
 match ca (v1.1,(1:Int),(8:Int),())with
 |none=>none
 |some v2=>
 match(!v2.1)with
 |true=>
  some (.inr (.inr (false,())))
 |false=>
  match ca (v1.2.1,(1:Int),(16:Int),())with
  |none=>none
  |some v3=>
  match(!v3.1)with
  |true=>
   some (.inr (.inr (false,())))
  |false=>
   match wi (v1.2.2.1,(x.1.length:Int),())with
   |none=>none
   |some v4=>
   match(!v4.1)with
   |true=>
    some (.inr (.inr (false,())))
   |false=>
    match iE (v1.2.2.1,x.2.2.2.1,())with
    |none=>none
    |some v5=>
    match v5.1 with
    |true=>
     some (.inr (.inr (false,())))
    |false=>
     some (.inl (x.1,x.2.1,x.2.2.1,(IntKind.i64.wrap (x.2.2.2.1+(1:Int))),()))
|false=>
 some (.inr (.inl (x.1,())))
noncomputable def o9(x:Ty.T VT):Option (Ty.T ao):=
match ac fu (x.1,x.1,(x.1.length:Int),(0:Int),())with
|none=>none
|some (.inl v6)=>
 match(decide ((v6.1.length:Int)≥(1:Int)))with
 |true=>
  some ((decide ((v6.1.length:Int)≤(16:Int))),())
 |false=>
  some (false,())
|some (.inr v7)=>
 some (v7.1,())
noncomputable def LE:ae:=⟨_,ao,.unit,rfl,o9⟩
noncomputable def xF:FuncId→Option ae:=bC [(68,Cq),(215,nI),(255,F2)]
theorem F3:∀f s,xF f=some s→FnOK G0 Tryz.prog f s:=aD ⟨dh,xE,P3,trivial⟩
def vI:aO:=⟨[0,5,6,7],oh,0,[0],VT,[2],ao⟩
noncomputable def xG:List aw:=[vI.spec fu]
theorem EC:bg bi E0 xF (bc Tryz.f204 xG) Tryz.f204 0 vI fu:=fun x=>by kernel_rfl
theorem JP:FnOK G0 Tryz.prog 204 LE:=aJ aj F3 Tryz.func204 xG (by kernel_rfl) (by exact⟨(EC).lok,trivial⟩) fun x=>by kernel_rfl
noncomputable def xH(x:Ty.T aE):Option (Ty.T ao):=
match ca (x.1,(0:Int),(3:Int),())with
|none=>none
|some v1=>
some (v1.1,())
noncomputable def V6:ae:=⟨_,ao,.unit,rfl,xH⟩
theorem Ix:FnOK G0 Tryz.prog 260 V6:=ak aj (sg dh (aL)) Tryz.func260
noncomputable def mM(x:Ty.T bB):Option (Ty.T ao):=
match(x.1==(0:Int))with
|true=>
 match ca (x.2.1,(0:Int),(32:Int),())with
 |none=>none
 |some v1=>
 some (v1.1,())
|false=>
 match(x.1==(2:Int))with
 |true=>
  match ca (x.2.1,(1:Int),(32:Int),())with
  |none=>none
  |some v2=>
  some (v2.1,())
 |false=>
  some ((x.2.1==(0:Int)),())
noncomputable def NW:ae:=⟨_,ao,.unit,rfl,mM⟩
theorem zd:FnOK G0 Tryz.prog 261 NW:=ak aj (sg dh (aL)) Tryz.func261
noncomputable def ic(x:Ty.T aE):Option (Ty.T ao):=
some ((x.1 != (0:Int)),())
noncomputable def RU:ae:=⟨_,ao,.unit,rfl,ic⟩
theorem lH:FnOK G0 Tryz.prog 142 RU:=ak aj aL Tryz.func142
noncomputable def kf(x:Ty.T aE):Option (Ty.T ao):=
match(x.1==(0:Int))with
|true=>
 some (true,())
|false=>
 some ((x.1==(2:Int)),())
noncomputable def TR:ae:=⟨_,ao,.unit,rfl,kf⟩
theorem xI:FnOK G0 Tryz.prog 229 TR:=ak aj aL Tryz.func229
noncomputable def wj(x:Ty.T bB):Option (Ty.T aE):=
match ic (x.1,())with
|none=>none
|some v1=>
match v1.1 with
|true=>
 match kf (x.1,())with
 |none=>none
 |some v2=>
 match v2.1 with
 |true=>
  some ((IntKind.i64.wrap ((IntKind.i64.wrap ((1:Int)+(8:Int)))+(IntKind.i64.wrap ((1:Int)+x.2.1)))),())
 |false=>
  some ((IntKind.i64.wrap ((1:Int)+(8:Int))),())
|false=>
 match kf (x.1,())with
 |none=>none
 |some v3=>
 match v3.1 with
 |true=>
  some ((IntKind.i64.wrap ((1:Int)+(IntKind.i64.wrap ((1:Int)+x.2.1)))),())
 |false=>
  some ((1:Int),())
noncomputable def RV:ae:=⟨_,aE,.unit,rfl,wj⟩
theorem P4:FnOK G0 Tryz.prog 294 RV:=ak aj (sg lH (sg xI (aL))) Tryz.func294
noncomputable def lI(x:Ty.T bB):Option (Ty.T aE):=
match wj (x.1,x.2.1,())with
|none=>none
|some v1=>
some ((IntKind.i64.wrap ((11:Int)+(IntKind.i64.wrap ((10:Int)*(IntKind.i64.wrap (v1.1+(3:Int))))))),())
noncomputable def LF:ae:=⟨_,aE,.unit,rfl,lI⟩
theorem JQ:FnOK G0 Tryz.prog 262 LF:=ak aj (sg P4 (aL)) Tryz.func262
noncomputable def gb(x:Ty.T Fd):Option (Ty.T ao):=
match xz (x.1.1,())with
|none=>none
|some v1=>
match(!v1.1)with
|true=>
 some (false,())
|false=>
 match xH (x.1.2.1,())with
 |none=>none
 |some v2=>
 match(!v2.1)with
 |true=>
  some (false,())
 |false=>
  match mM (x.1.2.1,x.1.2.2.1,())with
  |none=>none
  |some v3=>
  match(!v3.1)with
  |true=>
   some (false,())
  |false=>
   match x.1.2.2.2.2.1 with
   |true=>
    match(x.1.2.1==(3:Int))with
    |true=>
     some (false,())
    |false=>
     match lI (x.1.2.1,x.1.2.2.1,())with
     |none=>none
     |some v4=>
     match ca (x.1.2.2.2.1,(IntKind.i64.wrap (v4.1+(20:Int))),(1000:Int),())with
     |none=>none
     |some v5=>
     some (v5.1,())
   |false=>
    match lI (x.1.2.1,x.1.2.2.1,())with
    |none=>none
    |some v6=>
    match ca (x.1.2.2.2.1,(IntKind.i64.wrap (v6.1+(20:Int))),(1000:Int),())with
    |none=>none
    |some v7=>
    some (v7.1,())
noncomputable def JR:ae:=⟨_,ao,.unit,rfl,gb⟩
theorem vJ:FnOK G0 Tryz.prog 211 JR:=ak aj (sg dh (sg Iw (sg Ix (sg zd (sg JQ (aL)))))) Tryz.func211
noncomputable def mN(x:Ty.T Y0):Option (Ty.T ao):=
match ca (x.1.1,(0:Int),(15:Int),())with
|none=>none
|some v1=>
match v1.1 with
|true=>
 match ca (x.1.2.1,(0:Int),(7:Int),())with
 |none=>none
 |some v2=>
 match v2.1 with
 |true=>
  match ca (x.1.2.2.1,(0:Int),(15:Int),())with
  |none=>none
  |some v3=>
  match v3.1 with
  |true=>
   match gb ((x.1.2.2.2.1.1,x.1.2.2.2.1.2.1,x.1.2.2.2.1.2.2.1,x.1.2.2.2.1.2.2.2.1,x.1.2.2.2.1.2.2.2.2.1,()),())with
   |none=>none
   |some v4=>
   some (v4.1,())
  |false=>
   some (false,())
 |false=>
  some (false,())
|false=>
 some (false,())
noncomputable def A5:ae:=⟨_,ao,.unit,rfl,mN⟩
theorem LG:FnOK G0 Tryz.prog 256 A5:=ak aj (sg dh (sg vJ (aL))) Tryz.func256
noncomputable def qd(x:Ty.T bB):Option (Ty.T aE):=
match(decide (x.1<x.2.1))with
|true=>
 some ((-1:Int),())
|false=>
 match(decide (x.1>x.2.1))with
 |true=>
  some ((1:Int),())
 |false=>
  some ((0:Int),())
noncomputable def TS:ae:=⟨_,aE,.unit,rfl,qd⟩
theorem RX:FnOK G0 Tryz.prog 293 TS:=ak aj aL Tryz.func293
noncomputable def jo(x:Ty.T abQ):Option (Ty.T aE):=
match(x.1.1 != x.2.1.1)with
|true=>
 match qd (x.1.1,x.2.1.1,())with
 |none=>none
 |some v1=>
 some (v1.1,())
|false=>
 match(x.1.2.1 != x.2.1.2.1)with
 |true=>
  match qd (x.1.2.1,x.2.1.2.1,())with
  |none=>none
  |some v2=>
  some (v2.1,())
 |false=>
  match qd (x.1.2.2.1,x.2.1.2.2.1,())with
  |none=>none
  |some v3=>
  some (v3.1,())
noncomputable def pt:ae:=⟨_,aE,.unit,rfl,jo⟩
theorem vK:FnOK G0 Tryz.prog 257 pt:=ak aj (sg RX (aL)) Tryz.func257
abbrev ol:Ty:=(.pair (.list al) (.pair (.list al) bB))
noncomputable def fv(x:(Ty.T ol)):Option ((Ty.T ol) ⊕ ((Ty.T Ru) ⊕ (Ty.T ao))):=
match(decide (x.2.2.2.1<x.2.2.1))with
|true=>
 ab (aq x.2.1 x.2.2.2.1) fun v1=>
 match mN ((v1.1,v1.2.1,v1.2.2.1,(v1.2.2.2.1.1,v1.2.2.2.1.2.1,v1.2.2.2.1.2.2.1,v1.2.2.2.1.2.2.2.1,v1.2.2.2.1.2.2.2.2.1,()),()),())with
 |none=>none
 |some v2=>
 match(!v2.1)with
 |true=>
  some (.inr (.inr (false,())))
 |false=>
  match(decide (x.2.2.2.1>(0:Int)))with
  |true=>
   ab (aq x.1 (IntKind.i64.wrap (x.2.2.2.1-(1:Int)))) fun v3=>
   match jo (v3,(v1.1,v1.2.1,v1.2.2.1,(v1.2.2.2.1.1,v1.2.2.2.1.2.1,v1.2.2.2.1.2.2.1,v1.2.2.2.1.2.2.2.1,v1.2.2.2.1.2.2.2.2.1,()),()),())with
   |none=>none
   |some v4=>
   match(decide (v4.1≥(0:Int)))with
   |true=>
    some (.inr (.inr (false,())))
   |false=>
    some (.inl (x.1,x.2.1,x.2.2.1,(IntKind.i64.wrap (x.2.2.2.1+(1:Int))),()))
  |false=>
   some (.inl (x.1,x.2.1,x.2.2.1,(IntKind.i64.wrap (x.2.2.2.1+(1:Int))),()))
|false=>
 some (.inr (.inl (x.1,())))
noncomputable def pb(x:Ty.T Ru):Option (Ty.T ao):=
match ac fv (x.1,x.1,(x.1.length:Int),(0:Int),())with
|none=>none
|some (.inl v5)=>
 some ((decide ((v5.1.length:Int)≤(120:Int))),())
|some (.inr v6)=>
 some (v6.1,())
noncomputable def LH:ae:=⟨_,ao,.unit,rfl,pb⟩
noncomputable def xJ:FuncId→Option ae:=bC [(256,A5),(257,pt)]
theorem F4:∀f s,xJ f=some s→FnOK G0 Tryz.prog f s:=aD ⟨LG,vK,trivial⟩
def vL:aO:=⟨[0,5,6,7],ol,0,[0],Ru,[2],ao⟩
noncomputable def xK:List aw:=[vL.spec fv]
theorem ED:bg bi E0 xJ (bc Tryz.f205 xK) Tryz.f205 0 vL fv:=fun x=>by kernel_rfl
theorem JS:FnOK G0 Tryz.prog 205 LH:=aJ aj F4 Tryz.func205 xK (by kernel_rfl) (by exact⟨(ED).lok,trivial⟩) fun x=>by kernel_rfl
abbrev pu:Ty:=(.pair (.box an) (.pair (.int .i64) (.pair (.int .i64) (.pair (.box ay) (.pair (.list ay) av)))))
abbrev xL:Ty:=ab6
noncomputable def eL(x:(Ty.T pu)):Option ((Ty.T pu) ⊕ ((Ty.T xL) ⊕ (Ty.T ao))):=
match(decide (x.2.2.2.2.2.2.2.2.1<x.2.2.2.2.2.2.2.1))with
|true=>
 match(x.2.1==(x.1.2.2.2.1.length:Int))with
 |true=>
  some (.inr (.inr (false,())))
 |false=>
  ab (aq x.1.2.2.2.1 x.2.1) fun v2=>
  if x.2.2.2.1.2.1=0 then none else
  if x.2.2.2.1.2.1=0 then none else
  match jo (v2,(x.2.2.1,(IntKind.i64.wrap (Int.tdiv x.2.2.2.2.2.2.2.2.1 x.2.2.2.1.2.1)),(Int.tmod x.2.2.2.2.2.2.2.2.1 x.2.2.2.1.2.1),((0:Int),(0:Int),(0:Int),(0:Int),false,()),()),())with
  |none=>none
  |some v3=>
  match(v3.1 != (0:Int))with
  |true=>
   some (.inr (.inr (false,())))
  |false=>
   some (.inl ((x.1.1,x.1.2.1,x.1.2.2.1,x.1.2.2.2.1,()),(IntKind.i64.wrap (x.2.1+(1:Int))),x.2.2.1,(x.2.2.2.1.1,x.2.2.2.1.2.1,x.2.2.2.1.2.2.1,()),x.2.2.2.2.1,x.2.2.2.2.2.1,x.2.2.2.2.2.2.1,x.2.2.2.2.2.2.2.1,(IntKind.i64.wrap (x.2.2.2.2.2.2.2.2.1+(1:Int))),()))
|false=>
 some (.inr (.inl ((x.1.1,x.1.2.1,x.1.2.2.1,x.1.2.2.2.1,()),x.2.1,x.2.2.2.2.1,x.2.2.2.2.2.1,x.2.2.2.2.2.2.1,())))
abbrev pv:Ty:=ab6
abbrev xM:Ty:=VW
noncomputable def dS(x:(Ty.T pv)):Option ((Ty.T pv) ⊕ ((Ty.T xM) ⊕ (Ty.T ao))):=
match(decide (x.2.2.2.2.1<x.2.2.2.1))with
|true=>
 ab (aq x.2.2.1 x.2.2.2.2.1) fun v1=>
 match ac eL ((x.1.1,x.1.2.1,x.1.2.2.1,x.1.2.2.2.1,()),x.2.1,x.2.2.2.2.1,(v1.1,v1.2.1,v1.2.2.1,()),x.2.2.1,x.2.2.2.1,x.2.2.2.2.1,(IntKind.i64.wrap (v1.1*v1.2.1)),(0:Int),())with
 |none=>none
 |some (.inl v2)=>
  some (.inl ((v2.1.1,v2.1.2.1,v2.1.2.2.1,v2.1.2.2.2.1,()),v2.2.1,v2.2.2.1,v2.2.2.2.1,(IntKind.i64.wrap (v2.2.2.2.2.1+(1:Int))),()))
 |some (.inr v3)=>
  some (.inr (.inr (v3.1,())))
|false=>
 some (.inr (.inl ((x.1.1,x.1.2.1,x.1.2.2.1,x.1.2.2.2.1,()),x.2.1,())))
noncomputable def mO(x:Ty.T r7):Option (Ty.T ao):=
match ac dS ((x.1.1,x.1.2.1,x.1.2.2.1,x.1.2.2.2.1,()),(0:Int),x.1.2.2.1,(x.1.2.2.1.length:Int),(0:Int),())with
|none=>none
|some (.inl v4)=>
 some ((v4.2.1==(v4.1.2.2.2.1.length:Int)),())
|some (.inr v5)=>
 some (v5.1,())
noncomputable def NX:ae:=⟨_,ao,.unit,rfl,mO⟩
noncomputable def rg:FuncId→Option ae:=bC [(257,pt)]
theorem HK:∀f s,rg f=some s→FnOK G0 Tryz.prog f s:=aD ⟨vK,trivial⟩
def xN:aO:=⟨[1,3,8,9,10],pv,0,[1,3],xM,[2],ao⟩
def xO:aO:=⟨[1,3,4,5,8,9,10,19,20],pu,2,[1,3,8,9,10],xL,[2],ao⟩
noncomputable def rh:List aw:=[xN.spec dS,xO.spec eL]
theorem F5:bg bi E0 rg (bc Tryz.f206 rh) Tryz.f206 0 xN dS:=fun x=>by kernel_rfl
theorem F6:bg bi E0 rg (bc Tryz.f206 rh) Tryz.f206 1 xO eL:=fun x=>by kernel_rfl
theorem LI:FnOK G0 Tryz.prog 206 NX:=aJ aj HK Tryz.func206 rh (by kernel_rfl) (by exact⟨(F5).lok,(F6).lok,trivial⟩) fun x=>by kernel_rfl
noncomputable def ct(x:Ty.T ace):Option (Ty.T ao):=
match dl (x.1,x.2.1,())with
|none=>none
|some v1=>
some ((decide (v1.1≥(0:Int))),())
noncomputable def ri:ae:=⟨_,ao,.unit,rfl,ct⟩
theorem qq:FnOK G0 Tryz.prog 207 ri:=ak aj (sg kT (aL)) Tryz.func207
abbrev sv:Ty:=(.pair (.box an) (.pair (.list al) bB))
noncomputable def gS(x:(Ty.T sv)):Option ((Ty.T sv) ⊕ ((Ty.T .unit) ⊕ (Ty.T ao))):=
match(decide (x.2.2.2.1<x.2.2.1))with
|true=>
 ab (aq x.2.1 x.2.2.2.1) fun v1=>
 aX (
  match nl (x.1.2.2.2.1,v1.1,(0:Int),v1.2.2.1,())with
  |none=>none
  |some v2=>
  ab (aq x.1.2.2.2.1 v2.1) fun v3=>
  match(v1.2.2.2.1.2.2.2.1 != v3.2.2.2.1.2.2.2.1)with
  |true=>
   some (.inr (.inr (false,())))
  |false=>
   some (.inl ((x.1.1,x.1.2.1,x.1.2.2.1,x.1.2.2.2.1,()),x.2.1,x.2.2.1,(IntKind.i64.wrap (x.2.2.2.1+(1:Int))),())))
|false=>
 some (.inr (.inl (())))
noncomputable def rj(x:Ty.T r7):Option (Ty.T ao):=
match ac gS ((x.1.1,x.1.2.1,x.1.2.2.1,x.1.2.2.2.1,()),x.1.2.2.2.1,(x.1.2.2.2.1.length:Int),(0:Int),())with
|none=>none
|some (.inl v4)=>
 some (true,())
|some (.inr v5)=>
 some (v5.1,())
noncomputable def RY:ae:=⟨_,ao,.unit,rfl,rj⟩
noncomputable def DI:FuncId→Option ae:=bC [(139,FZ)]
theorem LJ:∀f s,DI f=some s→FnOK G0 Tryz.prog f s:=aD ⟨DF,trivial⟩
def A6:aO:=⟨[1,7,8,9],sv,0,[],.unit,[2],ao⟩
noncomputable def DJ:List aw:=[A6.spec gS]
theorem JT:bg bi E0 DI (bc Tryz.f208 DJ) Tryz.f208 0 A6 gS:=fun x=>by kernel_rfl
theorem P5:FnOK G0 Tryz.prog 208 RY:=aJ aj LJ Tryz.func208 DJ (by kernel_rfl) (by exact⟨(JT).lok,trivial⟩) fun x=>by kernel_rfl
abbrev mP:Ty:=(.pair (.int .i64) (.pair (.list al) bB))
noncomputable def eM(x:(Ty.T mP)):Option ((Ty.T mP) ⊕ ((Ty.T aE) ⊕ (Ty.T .unit))):=
match(decide (x.2.2.2.1<x.2.2.1))with
|true=>
 ab (aq x.2.1 x.2.2.2.1) fun v1=>
 some (.inl ((IntKind.i64.wrap (x.1+v1.2.2.2.1.2.2.2.1)),x.2.1,x.2.2.1,(IntKind.i64.wrap (x.2.2.2.1+(1:Int))),()))
|false=>
 some (.inr (.inl (x.1,())))
noncomputable def np(x:Ty.T Ru):Option (Ty.T aE):=
match ac eM ((0:Int),x.1,(x.1.length:Int),(0:Int),())with
|none=>none
|some (.inl v2)=>
 some (v2.1,())
|some (.inr v4)=>
 none
noncomputable def xP:ae:=⟨_,aE,.unit,rfl,np⟩
noncomputable def vM:FuncId→Option ae:=bC []
theorem EE:∀f s,vM f=some s→FnOK G0 Tryz.prog f s:=aD trivial
def tX:aO:=⟨[3,6,7,8],mP,0,[3],aE,[],.unit⟩
noncomputable def vN:List aw:=[tX.spec eM]
theorem Ct:bg bi E0 vM (bc Tryz.f258 vN) Tryz.f258 0 tX eM:=fun x=>by kernel_rfl
theorem HL:FnOK G0 Tryz.prog 258 xP:=aJ aj EE Tryz.func258 vN (by kernel_rfl) (by exact⟨(Ct).lok,trivial⟩) fun x=>by kernel_rfl
end Go.Proofs.YtkgcbbkodalfmaaGreatDoor
