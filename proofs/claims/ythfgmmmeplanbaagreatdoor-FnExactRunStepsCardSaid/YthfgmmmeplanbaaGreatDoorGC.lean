import Derived.Test.YthfgmmmeplanbaaGreatDoorGB
namespace Go.Proofs.YthfgmmmeplanbaaGreatDoor
open Go.RowKit
set_option linter.unusedVariables false
noncomputable def s8(x:Ty.T (.pair ae (.pair ab (.pair ar .unit)))):Option (Ty.T (.pair (.pair (.int .i64) (.pair (.pair (.int .i64) (.pair (.int .i64) (.pair ab (.pair (.own 2 (.int .i64)) .unit)))) .unit)) (.pair ab .unit))):=
match KX x with
|none=>none
|some v1=>
bf (
 match fP (v1.1,x.2.2.1.2.2.1,())with
 |none=>none
 |some v2=>
 bf (
  match fP (v1.1,x.2.2.1.2.2.2.1,())with
  |none=>none
  |some v3=>
  ba (
   match i6 (x.1,x.2.1,v2.1,v3.1,())with
   |none=>none
   |some v4=>
   bf (
    bf (
     ba (
      match ay (x.1,x.2.1,())with
      |none=>none
      |some v5=>
      match bg (x.2.1.2.2.2.2.1,v5.1.1,(v4.1.1==(3:Int)),())with
      |none=>none
      |some v6=>
      ba (
       match be (x.1,(x.2.1.1,x.2.1.2.1,x.2.1.2.2.1,x.2.1.2.2.2.1,v6.1,()),())with
       |none=>none
       |some v7=>
       some (v4.1,v7.1,())))) (
     match ay (x.1,x.2.1,())with
     |none=>none
     |some v5=>
     match bg (x.2.1.2.2.2.2.1,v5.1.1,(v4.1.1==(3:Int)),())with
     |none=>none
     |some v6=>
     ba (
      match be (x.1,(x.2.1.1,x.2.1.2.1,x.2.1.2.2.1,x.2.1.2.2.2.1,v6.1,()),())with
      |none=>none
      |some v7=>
      some (v4.1,v7.1,())))) (
    bf (
     bf (
      ba (
       match ay (x.1,x.2.1,())with
       |none=>none
       |some v5=>
       match bg (x.2.1.2.2.2.2.1,v5.1.1,(v4.1.1==(3:Int)),())with
       |none=>none
       |some v6=>
       ba (
        match be (x.1,(x.2.1.1,x.2.1.2.1,x.2.1.2.2.1,x.2.1.2.2.2.1,v6.1,()),())with
        |none=>none
        |some v7=>
        some (v4.1,v7.1,())))) (
      bf (
       match ay (x.1,x.2.1,())with
       |none=>none
       |some v5=>
       ba (
        match bg (x.2.1.2.2.2.2.1,v5.1.1,(v4.1.1==(3:Int)),())with
        |none=>none
        |some v6=>
        ba (
         match be (x.1,(x.2.1.1,x.2.1.2.1,x.2.1.2.2.1,x.2.1.2.2.2.1,v6.1,()),())with
         |none=>none
         |some v7=>
         some (v4.1,v7.1,())))) (
       ba (
        match ay (x.1,x.2.1,())with
        |none=>none
        |some v5=>
        match bg (x.2.1.2.2.2.2.1,v5.1.1,(v4.1.1==(3:Int)),())with
        |none=>none
        |some v6=>
        ba (
         match be (x.1,(x.2.1.1,x.2.1.2.1,x.2.1.2.2.1,x.2.1.2.2.2.1,v6.1,()),())with
         |none=>none
         |some v7=>
         some (v4.1,v7.1,())))))) (
     bf (
      match ay (x.1,x.2.1,())with
      |none=>none
      |some v5=>
      match bg (x.2.1.2.2.2.2.1,v5.1.1,(v4.1.1==(3:Int)),())with
      |none=>none
      |some v6=>
      ba (
       match be (x.1,(x.2.1.1,x.2.1.2.1,x.2.1.2.2.1,x.2.1.2.2.2.1,v6.1,()),())with
       |none=>none
       |some v7=>
       some (v4.1,v7.1,()))) (
      ba (
       match ay (x.1,x.2.1,())with
       |none=>none
       |some v5=>
       match bg (x.2.1.2.2.2.2.1,v5.1.1,(v4.1.1==(3:Int)),())with
       |none=>none
       |some v6=>
       ba (
        match be (x.1,(x.2.1.1,x.2.1.2.1,x.2.1.2.2.1,x.2.1.2.2.2.1,v6.1,()),())with
        |none=>none
        |some v7=>
        some (v4.1,v7.1,())))))))) (
  match fP (v1.1,x.2.2.1.2.2.2.1,())with
  |none=>none
  |some v3=>
  match i6 (x.1,x.2.1,v2.1,v3.1,())with
  |none=>none
  |some v4=>
  bf (
   bf (
    ba (
     match ay (x.1,x.2.1,())with
     |none=>none
     |some v5=>
     match bg (x.2.1.2.2.2.2.1,v5.1.1,(v4.1.1==(3:Int)),())with
     |none=>none
     |some v6=>
     ba (
      match be (x.1,(x.2.1.1,x.2.1.2.1,x.2.1.2.2.1,x.2.1.2.2.2.1,v6.1,()),())with
      |none=>none
      |some v7=>
      some (v4.1,v7.1,())))) (
    match ay (x.1,x.2.1,())with
    |none=>none
    |some v5=>
    match bg (x.2.1.2.2.2.2.1,v5.1.1,(v4.1.1==(3:Int)),())with
    |none=>none
    |some v6=>
    ba (
     match be (x.1,(x.2.1.1,x.2.1.2.1,x.2.1.2.2.1,x.2.1.2.2.2.1,v6.1,()),())with
     |none=>none
     |some v7=>
     some (v4.1,v7.1,())))) (
   bf (
    bf (
     ba (
      match ay (x.1,x.2.1,())with
      |none=>none
      |some v5=>
      match bg (x.2.1.2.2.2.2.1,v5.1.1,(v4.1.1==(3:Int)),())with
      |none=>none
      |some v6=>
      ba (
       match be (x.1,(x.2.1.1,x.2.1.2.1,x.2.1.2.2.1,x.2.1.2.2.2.1,v6.1,()),())with
       |none=>none
       |some v7=>
       some (v4.1,v7.1,())))) (
     bf (
      match ay (x.1,x.2.1,())with
      |none=>none
      |some v5=>
      ba (
       match bg (x.2.1.2.2.2.2.1,v5.1.1,(v4.1.1==(3:Int)),())with
       |none=>none
       |some v6=>
       ba (
        match be (x.1,(x.2.1.1,x.2.1.2.1,x.2.1.2.2.1,x.2.1.2.2.2.1,v6.1,()),())with
        |none=>none
        |some v7=>
        some (v4.1,v7.1,())))) (
      ba (
       match ay (x.1,x.2.1,())with
       |none=>none
       |some v5=>
       match bg (x.2.1.2.2.2.2.1,v5.1.1,(v4.1.1==(3:Int)),())with
       |none=>none
       |some v6=>
       ba (
        match be (x.1,(x.2.1.1,x.2.1.2.1,x.2.1.2.2.1,x.2.1.2.2.2.1,v6.1,()),())with
        |none=>none
        |some v7=>
        some (v4.1,v7.1,())))))) (
    bf (
     match ay (x.1,x.2.1,())with
     |none=>none
     |some v5=>
     match bg (x.2.1.2.2.2.2.1,v5.1.1,(v4.1.1==(3:Int)),())with
     |none=>none
     |some v6=>
     ba (
      match be (x.1,(x.2.1.1,x.2.1.2.1,x.2.1.2.2.1,x.2.1.2.2.2.1,v6.1,()),())with
      |none=>none
      |some v7=>
      some (v4.1,v7.1,()))) (
     ba (
      match ay (x.1,x.2.1,())with
      |none=>none
      |some v5=>
      match bg (x.2.1.2.2.2.2.1,v5.1.1,(v4.1.1==(3:Int)),())with
      |none=>none
      |some v6=>
      ba (
       match be (x.1,(x.2.1.1,x.2.1.2.1,x.2.1.2.2.1,x.2.1.2.2.2.1,v6.1,()),())with
       |none=>none
       |some v7=>
       some (v4.1,v7.1,())))))))) (
 match fP (v1.1,x.2.2.1.2.2.1,())with
 |none=>none
 |some v2=>
 match fP (v1.1,x.2.2.1.2.2.2.1,())with
 |none=>none
 |some v3=>
 match i6 (x.1,x.2.1,v2.1,v3.1,())with
 |none=>none
 |some v4=>
 bf (
  bf (
   ba (
    match ay (x.1,x.2.1,())with
    |none=>none
    |some v5=>
    match bg (x.2.1.2.2.2.2.1,v5.1.1,(v4.1.1==(3:Int)),())with
    |none=>none
    |some v6=>
    ba (
     match be (x.1,(x.2.1.1,x.2.1.2.1,x.2.1.2.2.1,x.2.1.2.2.2.1,v6.1,()),())with
     |none=>none
     |some v7=>
     some (v4.1,v7.1,())))) (
   match ay (x.1,x.2.1,())with
   |none=>none
   |some v5=>
   match bg (x.2.1.2.2.2.2.1,v5.1.1,(v4.1.1==(3:Int)),())with
   |none=>none
   |some v6=>
   ba (
    match be (x.1,(x.2.1.1,x.2.1.2.1,x.2.1.2.2.1,x.2.1.2.2.2.1,v6.1,()),())with
    |none=>none
    |some v7=>
    some (v4.1,v7.1,())))) (
  bf (
   bf (
    ba (
     match ay (x.1,x.2.1,())with
     |none=>none
     |some v5=>
     match bg (x.2.1.2.2.2.2.1,v5.1.1,(v4.1.1==(3:Int)),())with
     |none=>none
     |some v6=>
     ba (
      match be (x.1,(x.2.1.1,x.2.1.2.1,x.2.1.2.2.1,x.2.1.2.2.2.1,v6.1,()),())with
      |none=>none
      |some v7=>
      some (v4.1,v7.1,())))) (
    bf (
     match ay (x.1,x.2.1,())with
     |none=>none
     |some v5=>
     ba (
      match bg (x.2.1.2.2.2.2.1,v5.1.1,(v4.1.1==(3:Int)),())with
      |none=>none
      |some v6=>
      ba (
       match be (x.1,(x.2.1.1,x.2.1.2.1,x.2.1.2.2.1,x.2.1.2.2.2.1,v6.1,()),())with
       |none=>none
       |some v7=>
       some (v4.1,v7.1,())))) (
     ba (
      match ay (x.1,x.2.1,())with
      |none=>none
      |some v5=>
      match bg (x.2.1.2.2.2.2.1,v5.1.1,(v4.1.1==(3:Int)),())with
      |none=>none
      |some v6=>
      ba (
       match be (x.1,(x.2.1.1,x.2.1.2.1,x.2.1.2.2.1,x.2.1.2.2.2.1,v6.1,()),())with
       |none=>none
       |some v7=>
       some (v4.1,v7.1,())))))) (
   bf (
    match ay (x.1,x.2.1,())with
    |none=>none
    |some v5=>
    match bg (x.2.1.2.2.2.2.1,v5.1.1,(v4.1.1==(3:Int)),())with
    |none=>none
    |some v6=>
    ba (
     match be (x.1,(x.2.1.1,x.2.1.2.1,x.2.1.2.2.1,x.2.1.2.2.2.1,v6.1,()),())with
     |none=>none
     |some v7=>
     some (v4.1,v7.1,()))) (
    ba (
     match ay (x.1,x.2.1,())with
     |none=>none
     |some v5=>
     match bg (x.2.1.2.2.2.2.1,v5.1.1,(v4.1.1==(3:Int)),())with
     |none=>none
     |some v6=>
     ba (
      match be (x.1,(x.2.1.1,x.2.1.2.1,x.2.1.2.2.1,x.2.1.2.2.2.1,v6.1,()),())with
      |none=>none
      |some v7=>
      some (v4.1,v7.1,())))))))
noncomputable def Eb:Spec:=⟨_,(.pair (.pair (.int .i64) (.pair (.pair (.int .i64) (.pair (.int .i64) (.pair ab (.pair (.own 2 (.int .i64)) .unit)))) .unit)) (.pair ab .unit)),.unit,rfl,s8⟩
theorem OX:FnOK G0 Tryz.prog 78 Eb:=aj ai (sg Ij (sg cX (sg Io (sg Ws (sg ME (sg MF (aC))))))) Tryz.func78
noncomputable def xj(x:Ty.T (.pair (.list ao) (.pair (.list (.int .i64)) .unit))):Option (Ty.T (.pair (.int .i64) .unit)):=
match kG (x.1,())with
|none=>none
|some v1=>
match(!v1.1)with
|true=>
 some ((1:Int),())
|false=>
 match ic (x.2.1,(0:Int),(IntKind.i64.wrap ((x.1.length:Int)-(1:Int))),())with
 |none=>none
 |some v2=>
 match(!v2.1)with
 |true=>
  some ((2:Int),())
 |false=>
  some ((0:Int),())
noncomputable def OY:Spec:=⟨_,(.pair (.int .i64) .unit),.unit,rfl,xj⟩
theorem MG:FnOK G0 Tryz.prog 162 OY:=aj ai (sg qa (sg uB (aC))) Tryz.func162
noncomputable def jr(x:Ty.T (.pair (.list ao) ah)):Option (Ty.T (.pair .bool .unit)):=
match xj (x.1,[x.2.1],())with
|none=>none
|some v1=>
match(v1.1==(0:Int))with
|true=>
 aa (au x.1 x.2.1) fun v2=>
 match eY (v2.2.2.1,x.2.2.1,())with
 |none=>none
 |some v3=>
 some (v3.1,())
|false=>
 some (false,())
noncomputable def Bx:Spec:=⟨_,(.pair .bool .unit),.unit,rfl,jr⟩
theorem MH:FnOK G0 Tryz.prog 119 Bx:=aj ai (sg MG (sg lG (aC))) Tryz.func119
noncomputable def e9(x:(Ty.T (.pair (.box ae) (.pair (.box ab) (.pair (.box ab) (.pair (.own 40 (.pair (.int .i64) (.pair (.pair (.int .i64) (.pair (.int .i64) (.pair ab (.pair (.own 2 (.int .i64)) .unit)))) .unit))) (.pair (.own 36 ab) (.pair (.int .i64) (.pair (.list ar) ah))))))))):Option ((Ty.T (.pair (.box ae) (.pair (.box ab) (.pair (.box ab) (.pair (.own 40 (.pair (.int .i64) (.pair (.pair (.int .i64) (.pair (.int .i64) (.pair ab (.pair (.own 2 (.int .i64)) .unit)))) .unit))) (.pair (.own 36 ab) (.pair (.int .i64) (.pair (.list ar) ah)))))))) ⊕ ((Ty.T (.pair (.box ab) (.pair (.box ab) (.pair (.own 40 (.pair (.int .i64) (.pair (.pair (.int .i64) (.pair (.int .i64) (.pair ab (.pair (.own 2 (.int .i64)) .unit)))) .unit))) (.pair (.own 36 ab) .unit))))) ⊕ (Ty.T .unit))):=
match(decide (x.2.2.2.2.2.2.2.2.1<x.2.2.2.2.2.2.2.1))with
|true=>
 aa (au x.2.2.2.2.2.2.1 x.2.2.2.2.2.2.2.2.1) fun v1=>
 match s8 (x.1,x.2.1,v1,())with
 |none=>none
 |some v2=>
 bf (
  bf (
   aM (x.2.2.2.1.length+ [v2.1].length) (
    aM (x.2.2.2.2.1.length+ [x.2.1].length) (
     match(decide ((IntKind.i64.wrap (v2.1.2.1.2.1-(1:Int)))≥(0:Int)))with
     |true=>
      match jr (x.1.2.2.1,x.2.1.2.1,(IntKind.i64.wrap (v2.1.2.1.2.1-(1:Int))),())with
      |none=>none
      |some v3=>
      match v3.1 with
      |true=>
       match(v2.2.1.2.2.1==(0:Int))with
       |true=>
        match(v2.2.1.2.2.2.1==(0:Int))with
        |true=>
         match(decide ((IntKind.i64.wrap (v2.1.2.1.2.1-(1:Int)))≥(0:Int)))with
         |true=>
          some (.inl (x.1,(v2.2.1.1,(IntKind.i64.wrap (v2.1.2.1.2.1-(1:Int))),v2.2.1.2.2.1,v2.2.1.2.2.2.1,v2.2.1.2.2.2.2.1,()),x.2.2.1,(x.2.2.2.1++ [v2.1]),(x.2.2.2.2.1++ [x.2.1]),(-1:Int),x.2.2.2.2.2.2.1,x.2.2.2.2.2.2.2.1,(IntKind.i64.wrap (x.2.2.2.2.2.2.2.2.1+(1:Int))),()))
         |false=>
          some (.inl (x.1,v2.2.1,x.2.2.1,(x.2.2.2.1++ [v2.1]),(x.2.2.2.2.1++ [x.2.1]),(IntKind.i64.wrap (v2.1.2.1.2.1-(1:Int))),x.2.2.2.2.2.2.1,x.2.2.2.2.2.2.2.1,(IntKind.i64.wrap (x.2.2.2.2.2.2.2.2.1+(1:Int))),()))
        |false=>
         some (.inl (x.1,v2.2.1,x.2.2.1,(x.2.2.2.1++ [v2.1]),(x.2.2.2.2.1++ [x.2.1]),(IntKind.i64.wrap (v2.1.2.1.2.1-(1:Int))),x.2.2.2.2.2.2.1,x.2.2.2.2.2.2.2.1,(IntKind.i64.wrap (x.2.2.2.2.2.2.2.2.1+(1:Int))),()))
       |false=>
        some (.inl (x.1,v2.2.1,x.2.2.1,(x.2.2.2.1++ [v2.1]),(x.2.2.2.2.1++ [x.2.1]),(IntKind.i64.wrap (v2.1.2.1.2.1-(1:Int))),x.2.2.2.2.2.2.1,x.2.2.2.2.2.2.2.1,(IntKind.i64.wrap (x.2.2.2.2.2.2.2.2.1+(1:Int))),()))
      |false=>
       match(v2.2.1.2.2.1==(0:Int))with
       |true=>
        match(v2.2.1.2.2.2.1==(0:Int))with
        |true=>
         match(decide (x.2.2.2.2.2.1≥(0:Int)))with
         |true=>
          some (.inl (x.1,(v2.2.1.1,x.2.2.2.2.2.1,v2.2.1.2.2.1,v2.2.1.2.2.2.1,v2.2.1.2.2.2.2.1,()),x.2.2.1,(x.2.2.2.1++ [v2.1]),(x.2.2.2.2.1++ [x.2.1]),(-1:Int),x.2.2.2.2.2.2.1,x.2.2.2.2.2.2.2.1,(IntKind.i64.wrap (x.2.2.2.2.2.2.2.2.1+(1:Int))),()))
         |false=>
          some (.inl (x.1,v2.2.1,x.2.2.1,(x.2.2.2.1++ [v2.1]),(x.2.2.2.2.1++ [x.2.1]),x.2.2.2.2.2.1,x.2.2.2.2.2.2.1,x.2.2.2.2.2.2.2.1,(IntKind.i64.wrap (x.2.2.2.2.2.2.2.2.1+(1:Int))),()))
        |false=>
         some (.inl (x.1,v2.2.1,x.2.2.1,(x.2.2.2.1++ [v2.1]),(x.2.2.2.2.1++ [x.2.1]),x.2.2.2.2.2.1,x.2.2.2.2.2.2.1,x.2.2.2.2.2.2.2.1,(IntKind.i64.wrap (x.2.2.2.2.2.2.2.2.1+(1:Int))),()))
       |false=>
        some (.inl (x.1,v2.2.1,x.2.2.1,(x.2.2.2.1++ [v2.1]),(x.2.2.2.2.1++ [x.2.1]),x.2.2.2.2.2.1,x.2.2.2.2.2.2.1,x.2.2.2.2.2.2.2.1,(IntKind.i64.wrap (x.2.2.2.2.2.2.2.2.1+(1:Int))),()))
     |false=>
      match(v2.2.1.2.2.1==(0:Int))with
      |true=>
       match(v2.2.1.2.2.2.1==(0:Int))with
       |true=>
        match(decide (x.2.2.2.2.2.1≥(0:Int)))with
        |true=>
         some (.inl (x.1,(v2.2.1.1,x.2.2.2.2.2.1,v2.2.1.2.2.1,v2.2.1.2.2.2.1,v2.2.1.2.2.2.2.1,()),x.2.2.1,(x.2.2.2.1++ [v2.1]),(x.2.2.2.2.1++ [x.2.1]),(-1:Int),x.2.2.2.2.2.2.1,x.2.2.2.2.2.2.2.1,(IntKind.i64.wrap (x.2.2.2.2.2.2.2.2.1+(1:Int))),()))
        |false=>
         some (.inl (x.1,v2.2.1,x.2.2.1,(x.2.2.2.1++ [v2.1]),(x.2.2.2.2.1++ [x.2.1]),x.2.2.2.2.2.1,x.2.2.2.2.2.2.1,x.2.2.2.2.2.2.2.1,(IntKind.i64.wrap (x.2.2.2.2.2.2.2.2.1+(1:Int))),()))
       |false=>
        some (.inl (x.1,v2.2.1,x.2.2.1,(x.2.2.2.1++ [v2.1]),(x.2.2.2.2.1++ [x.2.1]),x.2.2.2.2.2.1,x.2.2.2.2.2.2.1,x.2.2.2.2.2.2.2.1,(IntKind.i64.wrap (x.2.2.2.2.2.2.2.2.1+(1:Int))),()))
      |false=>
       some (.inl (x.1,v2.2.1,x.2.2.1,(x.2.2.2.1++ [v2.1]),(x.2.2.2.2.1++ [x.2.1]),x.2.2.2.2.2.1,x.2.2.2.2.2.2.1,x.2.2.2.2.2.2.2.1,(IntKind.i64.wrap (x.2.2.2.2.2.2.2.2.1+(1:Int))),()))))) (
   ba (
    aM (x.2.2.2.1.length+ [v2.1].length) (
     aM (x.2.2.2.2.1.length+ [x.2.1].length) (
      match(decide ((IntKind.i64.wrap (v2.1.2.1.2.1-(1:Int)))≥(0:Int)))with
      |true=>
       match jr (x.1.2.2.1,x.2.1.2.1,(IntKind.i64.wrap (v2.1.2.1.2.1-(1:Int))),())with
       |none=>none
       |some v3=>
       match v3.1 with
       |true=>
        match(v2.2.1.2.2.1==(0:Int))with
        |true=>
         match(v2.2.1.2.2.2.1==(0:Int))with
         |true=>
          match(decide ((IntKind.i64.wrap (v2.1.2.1.2.1-(1:Int)))≥(0:Int)))with
          |true=>
           some (.inl (x.1,(v2.2.1.1,(IntKind.i64.wrap (v2.1.2.1.2.1-(1:Int))),v2.2.1.2.2.1,v2.2.1.2.2.2.1,v2.2.1.2.2.2.2.1,()),x.2.2.1,(x.2.2.2.1++ [v2.1]),(x.2.2.2.2.1++ [x.2.1]),(-1:Int),x.2.2.2.2.2.2.1,x.2.2.2.2.2.2.2.1,(IntKind.i64.wrap (x.2.2.2.2.2.2.2.2.1+(1:Int))),()))
          |false=>
           some (.inl (x.1,v2.2.1,x.2.2.1,(x.2.2.2.1++ [v2.1]),(x.2.2.2.2.1++ [x.2.1]),(IntKind.i64.wrap (v2.1.2.1.2.1-(1:Int))),x.2.2.2.2.2.2.1,x.2.2.2.2.2.2.2.1,(IntKind.i64.wrap (x.2.2.2.2.2.2.2.2.1+(1:Int))),()))
         |false=>
          some (.inl (x.1,v2.2.1,x.2.2.1,(x.2.2.2.1++ [v2.1]),(x.2.2.2.2.1++ [x.2.1]),(IntKind.i64.wrap (v2.1.2.1.2.1-(1:Int))),x.2.2.2.2.2.2.1,x.2.2.2.2.2.2.2.1,(IntKind.i64.wrap (x.2.2.2.2.2.2.2.2.1+(1:Int))),()))
        |false=>
         some (.inl (x.1,v2.2.1,x.2.2.1,(x.2.2.2.1++ [v2.1]),(x.2.2.2.2.1++ [x.2.1]),(IntKind.i64.wrap (v2.1.2.1.2.1-(1:Int))),x.2.2.2.2.2.2.1,x.2.2.2.2.2.2.2.1,(IntKind.i64.wrap (x.2.2.2.2.2.2.2.2.1+(1:Int))),()))
       |false=>
        match(v2.2.1.2.2.1==(0:Int))with
        |true=>
         match(v2.2.1.2.2.2.1==(0:Int))with
         |true=>
          match(decide (x.2.2.2.2.2.1≥(0:Int)))with
          |true=>
           some (.inl (x.1,(v2.2.1.1,x.2.2.2.2.2.1,v2.2.1.2.2.1,v2.2.1.2.2.2.1,v2.2.1.2.2.2.2.1,()),x.2.2.1,(x.2.2.2.1++ [v2.1]),(x.2.2.2.2.1++ [x.2.1]),(-1:Int),x.2.2.2.2.2.2.1,x.2.2.2.2.2.2.2.1,(IntKind.i64.wrap (x.2.2.2.2.2.2.2.2.1+(1:Int))),()))
          |false=>
           some (.inl (x.1,v2.2.1,x.2.2.1,(x.2.2.2.1++ [v2.1]),(x.2.2.2.2.1++ [x.2.1]),x.2.2.2.2.2.1,x.2.2.2.2.2.2.1,x.2.2.2.2.2.2.2.1,(IntKind.i64.wrap (x.2.2.2.2.2.2.2.2.1+(1:Int))),()))
         |false=>
          some (.inl (x.1,v2.2.1,x.2.2.1,(x.2.2.2.1++ [v2.1]),(x.2.2.2.2.1++ [x.2.1]),x.2.2.2.2.2.1,x.2.2.2.2.2.2.1,x.2.2.2.2.2.2.2.1,(IntKind.i64.wrap (x.2.2.2.2.2.2.2.2.1+(1:Int))),()))
        |false=>
         some (.inl (x.1,v2.2.1,x.2.2.1,(x.2.2.2.1++ [v2.1]),(x.2.2.2.2.1++ [x.2.1]),x.2.2.2.2.2.1,x.2.2.2.2.2.2.1,x.2.2.2.2.2.2.2.1,(IntKind.i64.wrap (x.2.2.2.2.2.2.2.2.1+(1:Int))),()))
      |false=>
       match(v2.2.1.2.2.1==(0:Int))with
       |true=>
        match(v2.2.1.2.2.2.1==(0:Int))with
        |true=>
         match(decide (x.2.2.2.2.2.1≥(0:Int)))with
         |true=>
          some (.inl (x.1,(v2.2.1.1,x.2.2.2.2.2.1,v2.2.1.2.2.1,v2.2.1.2.2.2.1,v2.2.1.2.2.2.2.1,()),x.2.2.1,(x.2.2.2.1++ [v2.1]),(x.2.2.2.2.1++ [x.2.1]),(-1:Int),x.2.2.2.2.2.2.1,x.2.2.2.2.2.2.2.1,(IntKind.i64.wrap (x.2.2.2.2.2.2.2.2.1+(1:Int))),()))
         |false=>
          some (.inl (x.1,v2.2.1,x.2.2.1,(x.2.2.2.1++ [v2.1]),(x.2.2.2.2.1++ [x.2.1]),x.2.2.2.2.2.1,x.2.2.2.2.2.2.1,x.2.2.2.2.2.2.2.1,(IntKind.i64.wrap (x.2.2.2.2.2.2.2.2.1+(1:Int))),()))
        |false=>
         some (.inl (x.1,v2.2.1,x.2.2.1,(x.2.2.2.1++ [v2.1]),(x.2.2.2.2.1++ [x.2.1]),x.2.2.2.2.2.1,x.2.2.2.2.2.2.1,x.2.2.2.2.2.2.2.1,(IntKind.i64.wrap (x.2.2.2.2.2.2.2.2.1+(1:Int))),()))
       |false=>
        some (.inl (x.1,v2.2.1,x.2.2.1,(x.2.2.2.1++ [v2.1]),(x.2.2.2.2.1++ [x.2.1]),x.2.2.2.2.2.1,x.2.2.2.2.2.2.1,x.2.2.2.2.2.2.2.1,(IntKind.i64.wrap (x.2.2.2.2.2.2.2.2.1+(1:Int))),()))))))) (
  bf (
   ba (
    aM (x.2.2.2.1.length+ [v2.1].length) (
     aM (x.2.2.2.2.1.length+ [x.2.1].length) (
      match(decide ((IntKind.i64.wrap (v2.1.2.1.2.1-(1:Int)))≥(0:Int)))with
      |true=>
       match jr (x.1.2.2.1,x.2.1.2.1,(IntKind.i64.wrap (v2.1.2.1.2.1-(1:Int))),())with
       |none=>none
       |some v3=>
       match v3.1 with
       |true=>
        match(v2.2.1.2.2.1==(0:Int))with
        |true=>
         match(v2.2.1.2.2.2.1==(0:Int))with
         |true=>
          match(decide ((IntKind.i64.wrap (v2.1.2.1.2.1-(1:Int)))≥(0:Int)))with
          |true=>
           some (.inl (x.1,(v2.2.1.1,(IntKind.i64.wrap (v2.1.2.1.2.1-(1:Int))),v2.2.1.2.2.1,v2.2.1.2.2.2.1,v2.2.1.2.2.2.2.1,()),x.2.2.1,(x.2.2.2.1++ [v2.1]),(x.2.2.2.2.1++ [x.2.1]),(-1:Int),x.2.2.2.2.2.2.1,x.2.2.2.2.2.2.2.1,(IntKind.i64.wrap (x.2.2.2.2.2.2.2.2.1+(1:Int))),()))
          |false=>
           some (.inl (x.1,v2.2.1,x.2.2.1,(x.2.2.2.1++ [v2.1]),(x.2.2.2.2.1++ [x.2.1]),(IntKind.i64.wrap (v2.1.2.1.2.1-(1:Int))),x.2.2.2.2.2.2.1,x.2.2.2.2.2.2.2.1,(IntKind.i64.wrap (x.2.2.2.2.2.2.2.2.1+(1:Int))),()))
         |false=>
          some (.inl (x.1,v2.2.1,x.2.2.1,(x.2.2.2.1++ [v2.1]),(x.2.2.2.2.1++ [x.2.1]),(IntKind.i64.wrap (v2.1.2.1.2.1-(1:Int))),x.2.2.2.2.2.2.1,x.2.2.2.2.2.2.2.1,(IntKind.i64.wrap (x.2.2.2.2.2.2.2.2.1+(1:Int))),()))
        |false=>
         some (.inl (x.1,v2.2.1,x.2.2.1,(x.2.2.2.1++ [v2.1]),(x.2.2.2.2.1++ [x.2.1]),(IntKind.i64.wrap (v2.1.2.1.2.1-(1:Int))),x.2.2.2.2.2.2.1,x.2.2.2.2.2.2.2.1,(IntKind.i64.wrap (x.2.2.2.2.2.2.2.2.1+(1:Int))),()))
       |false=>
        match(v2.2.1.2.2.1==(0:Int))with
        |true=>
         match(v2.2.1.2.2.2.1==(0:Int))with
         |true=>
          match(decide (x.2.2.2.2.2.1≥(0:Int)))with
          |true=>
           some (.inl (x.1,(v2.2.1.1,x.2.2.2.2.2.1,v2.2.1.2.2.1,v2.2.1.2.2.2.1,v2.2.1.2.2.2.2.1,()),x.2.2.1,(x.2.2.2.1++ [v2.1]),(x.2.2.2.2.1++ [x.2.1]),(-1:Int),x.2.2.2.2.2.2.1,x.2.2.2.2.2.2.2.1,(IntKind.i64.wrap (x.2.2.2.2.2.2.2.2.1+(1:Int))),()))
          |false=>
           some (.inl (x.1,v2.2.1,x.2.2.1,(x.2.2.2.1++ [v2.1]),(x.2.2.2.2.1++ [x.2.1]),x.2.2.2.2.2.1,x.2.2.2.2.2.2.1,x.2.2.2.2.2.2.2.1,(IntKind.i64.wrap (x.2.2.2.2.2.2.2.2.1+(1:Int))),()))
         |false=>
          some (.inl (x.1,v2.2.1,x.2.2.1,(x.2.2.2.1++ [v2.1]),(x.2.2.2.2.1++ [x.2.1]),x.2.2.2.2.2.1,x.2.2.2.2.2.2.1,x.2.2.2.2.2.2.2.1,(IntKind.i64.wrap (x.2.2.2.2.2.2.2.2.1+(1:Int))),()))
        |false=>
         some (.inl (x.1,v2.2.1,x.2.2.1,(x.2.2.2.1++ [v2.1]),(x.2.2.2.2.1++ [x.2.1]),x.2.2.2.2.2.1,x.2.2.2.2.2.2.1,x.2.2.2.2.2.2.2.1,(IntKind.i64.wrap (x.2.2.2.2.2.2.2.2.1+(1:Int))),()))
      |false=>
       match(v2.2.1.2.2.1==(0:Int))with
       |true=>
        match(v2.2.1.2.2.2.1==(0:Int))with
        |true=>
         match(decide (x.2.2.2.2.2.1≥(0:Int)))with
         |true=>
          some (.inl (x.1,(v2.2.1.1,x.2.2.2.2.2.1,v2.2.1.2.2.1,v2.2.1.2.2.2.1,v2.2.1.2.2.2.2.1,()),x.2.2.1,(x.2.2.2.1++ [v2.1]),(x.2.2.2.2.1++ [x.2.1]),(-1:Int),x.2.2.2.2.2.2.1,x.2.2.2.2.2.2.2.1,(IntKind.i64.wrap (x.2.2.2.2.2.2.2.2.1+(1:Int))),()))
         |false=>
          some (.inl (x.1,v2.2.1,x.2.2.1,(x.2.2.2.1++ [v2.1]),(x.2.2.2.2.1++ [x.2.1]),x.2.2.2.2.2.1,x.2.2.2.2.2.2.1,x.2.2.2.2.2.2.2.1,(IntKind.i64.wrap (x.2.2.2.2.2.2.2.2.1+(1:Int))),()))
        |false=>
         some (.inl (x.1,v2.2.1,x.2.2.1,(x.2.2.2.1++ [v2.1]),(x.2.2.2.2.1++ [x.2.1]),x.2.2.2.2.2.1,x.2.2.2.2.2.2.1,x.2.2.2.2.2.2.2.1,(IntKind.i64.wrap (x.2.2.2.2.2.2.2.2.1+(1:Int))),()))
       |false=>
        some (.inl (x.1,v2.2.1,x.2.2.1,(x.2.2.2.1++ [v2.1]),(x.2.2.2.2.1++ [x.2.1]),x.2.2.2.2.2.1,x.2.2.2.2.2.2.1,x.2.2.2.2.2.2.2.1,(IntKind.i64.wrap (x.2.2.2.2.2.2.2.2.1+(1:Int))),())))))) (
   aM (x.2.2.2.1.length+ [v2.1].length) (
    aM (x.2.2.2.2.1.length+ [x.2.1].length) (
     match(decide ((IntKind.i64.wrap (v2.1.2.1.2.1-(1:Int)))≥(0:Int)))with
     |true=>
      match jr (x.1.2.2.1,x.2.1.2.1,(IntKind.i64.wrap (v2.1.2.1.2.1-(1:Int))),())with
      |none=>none
      |some v3=>
      match v3.1 with
      |true=>
       match(v2.2.1.2.2.1==(0:Int))with
       |true=>
        match(v2.2.1.2.2.2.1==(0:Int))with
        |true=>
         match(decide ((IntKind.i64.wrap (v2.1.2.1.2.1-(1:Int)))≥(0:Int)))with
         |true=>
          some (.inl (x.1,(v2.2.1.1,(IntKind.i64.wrap (v2.1.2.1.2.1-(1:Int))),v2.2.1.2.2.1,v2.2.1.2.2.2.1,v2.2.1.2.2.2.2.1,()),x.2.2.1,(x.2.2.2.1++ [v2.1]),(x.2.2.2.2.1++ [x.2.1]),(-1:Int),x.2.2.2.2.2.2.1,x.2.2.2.2.2.2.2.1,(IntKind.i64.wrap (x.2.2.2.2.2.2.2.2.1+(1:Int))),()))
         |false=>
          some (.inl (x.1,v2.2.1,x.2.2.1,(x.2.2.2.1++ [v2.1]),(x.2.2.2.2.1++ [x.2.1]),(IntKind.i64.wrap (v2.1.2.1.2.1-(1:Int))),x.2.2.2.2.2.2.1,x.2.2.2.2.2.2.2.1,(IntKind.i64.wrap (x.2.2.2.2.2.2.2.2.1+(1:Int))),()))
        |false=>
         some (.inl (x.1,v2.2.1,x.2.2.1,(x.2.2.2.1++ [v2.1]),(x.2.2.2.2.1++ [x.2.1]),(IntKind.i64.wrap (v2.1.2.1.2.1-(1:Int))),x.2.2.2.2.2.2.1,x.2.2.2.2.2.2.2.1,(IntKind.i64.wrap (x.2.2.2.2.2.2.2.2.1+(1:Int))),()))
       |false=>
        some (.inl (x.1,v2.2.1,x.2.2.1,(x.2.2.2.1++ [v2.1]),(x.2.2.2.2.1++ [x.2.1]),(IntKind.i64.wrap (v2.1.2.1.2.1-(1:Int))),x.2.2.2.2.2.2.1,x.2.2.2.2.2.2.2.1,(IntKind.i64.wrap (x.2.2.2.2.2.2.2.2.1+(1:Int))),()))
      |false=>
       match(v2.2.1.2.2.1==(0:Int))with
       |true=>
        match(v2.2.1.2.2.2.1==(0:Int))with
        |true=>
         match(decide (x.2.2.2.2.2.1≥(0:Int)))with
         |true=>
          some (.inl (x.1,(v2.2.1.1,x.2.2.2.2.2.1,v2.2.1.2.2.1,v2.2.1.2.2.2.1,v2.2.1.2.2.2.2.1,()),x.2.2.1,(x.2.2.2.1++ [v2.1]),(x.2.2.2.2.1++ [x.2.1]),(-1:Int),x.2.2.2.2.2.2.1,x.2.2.2.2.2.2.2.1,(IntKind.i64.wrap (x.2.2.2.2.2.2.2.2.1+(1:Int))),()))
         |false=>
          some (.inl (x.1,v2.2.1,x.2.2.1,(x.2.2.2.1++ [v2.1]),(x.2.2.2.2.1++ [x.2.1]),x.2.2.2.2.2.1,x.2.2.2.2.2.2.1,x.2.2.2.2.2.2.2.1,(IntKind.i64.wrap (x.2.2.2.2.2.2.2.2.1+(1:Int))),()))
        |false=>
         some (.inl (x.1,v2.2.1,x.2.2.1,(x.2.2.2.1++ [v2.1]),(x.2.2.2.2.1++ [x.2.1]),x.2.2.2.2.2.1,x.2.2.2.2.2.2.1,x.2.2.2.2.2.2.2.1,(IntKind.i64.wrap (x.2.2.2.2.2.2.2.2.1+(1:Int))),()))
       |false=>
        some (.inl (x.1,v2.2.1,x.2.2.1,(x.2.2.2.1++ [v2.1]),(x.2.2.2.2.1++ [x.2.1]),x.2.2.2.2.2.1,x.2.2.2.2.2.2.1,x.2.2.2.2.2.2.2.1,(IntKind.i64.wrap (x.2.2.2.2.2.2.2.2.1+(1:Int))),()))
     |false=>
      match(v2.2.1.2.2.1==(0:Int))with
      |true=>
       match(v2.2.1.2.2.2.1==(0:Int))with
       |true=>
        match(decide (x.2.2.2.2.2.1≥(0:Int)))with
        |true=>
         some (.inl (x.1,(v2.2.1.1,x.2.2.2.2.2.1,v2.2.1.2.2.1,v2.2.1.2.2.2.1,v2.2.1.2.2.2.2.1,()),x.2.2.1,(x.2.2.2.1++ [v2.1]),(x.2.2.2.2.1++ [x.2.1]),(-1:Int),x.2.2.2.2.2.2.1,x.2.2.2.2.2.2.2.1,(IntKind.i64.wrap (x.2.2.2.2.2.2.2.2.1+(1:Int))),()))
        |false=>
         some (.inl (x.1,v2.2.1,x.2.2.1,(x.2.2.2.1++ [v2.1]),(x.2.2.2.2.1++ [x.2.1]),x.2.2.2.2.2.1,x.2.2.2.2.2.2.1,x.2.2.2.2.2.2.2.1,(IntKind.i64.wrap (x.2.2.2.2.2.2.2.2.1+(1:Int))),()))
       |false=>
        some (.inl (x.1,v2.2.1,x.2.2.1,(x.2.2.2.1++ [v2.1]),(x.2.2.2.2.1++ [x.2.1]),x.2.2.2.2.2.1,x.2.2.2.2.2.2.1,x.2.2.2.2.2.2.2.1,(IntKind.i64.wrap (x.2.2.2.2.2.2.2.2.1+(1:Int))),()))
      |false=>
       some (.inl (x.1,v2.2.1,x.2.2.1,(x.2.2.2.1++ [v2.1]),(x.2.2.2.2.1++ [x.2.1]),x.2.2.2.2.2.1,x.2.2.2.2.2.2.1,x.2.2.2.2.2.2.2.1,(IntKind.i64.wrap (x.2.2.2.2.2.2.2.2.1+(1:Int))),()))))))
|false=>
 some (.inr (.inl (x.2.1,x.2.2.1,x.2.2.2.1,x.2.2.2.2.1,())))
noncomputable def mr(x:Ty.T (.pair ae (.pair ab (.pair (.list ar) .unit)))):Option (Ty.T (.pair (.own 40 (.pair (.int .i64) (.pair (.pair (.int .i64) (.pair (.int .i64) (.pair ab (.pair (.own 2 (.int .i64)) .unit)))) .unit))) (.pair (.own 36 ab) (.pair ab .unit)))):=
match ac e9 (x.1,x.2.1,((0:Int),(0:Int),(0:Int),(0:Int),(0:Int),()),[],[],(-1:Int),x.2.2.1,(x.2.2.1.length:Int),(0:Int),())with
|none=>none
|some (.inl v4)=>
 some (v4.2.2.1,v4.2.2.2.1,v4.1,())
|some (.inr v6)=>
 none
noncomputable def Ec:Spec:=⟨_,(.pair (.own 40 (.pair (.int .i64) (.pair (.pair (.int .i64) (.pair (.int .i64) (.pair ab (.pair (.own 2 (.int .i64)) .unit)))) .unit))) (.pair (.own 36 ab) (.pair ab .unit))),.unit,rfl,mr⟩
noncomputable def Bz:FuncId→Option Spec:=aX [(78,Eb),(119,Bx)]
theorem KZ:∀f s,Bz f=some s→FnOK G0 Tryz.prog f s:=aw ⟨OX,MH,trivial⟩
def yI:aG:=⟨[3,4,8,9,10,11,19,20,21],(.pair (.box ae) (.pair (.box ab) (.pair (.box ab) (.pair (.own 40 (.pair (.int .i64) (.pair (.pair (.int .i64) (.pair (.int .i64) (.pair ab (.pair (.own 2 (.int .i64)) .unit)))) .unit))) (.pair (.own 36 ab) (.pair (.int .i64) (.pair (.list ar) ah))))))),0,[4,8,9,10],(.pair (.box ab) (.pair (.box ab) (.pair (.own 40 (.pair (.int .i64) (.pair (.pair (.int .i64) (.pair (.int .i64) (.pair ab (.pair (.own 2 (.int .i64)) .unit)))) .unit))) (.pair (.own 36 ab) .unit)))),[],.unit⟩
noncomputable def BA:List a9z:=[yI.spec e9]
theorem Iu:aU eU E3 Bz (aR Tryz.f80 BA) Tryz.f80 0 yI e9:=fun x=>by kernel_rfl
theorem BC:FnOK G0 Tryz.prog 80 Ec:=ax ab6 KZ Tryz.func80 BA (by kernel_rfl) (by exact⟨(Iu).lok,trivial⟩) fun x=>by kernel_rfl
noncomputable def pw(x:Ty.T (.pair ae (.pair ab (.pair (.list ar) .unit)))):Option (Ty.T (.pair (.own 40 (.pair (.int .i64) (.pair (.pair (.int .i64) (.pair (.int .i64) (.pair ab (.pair (.own 2 (.int .i64)) .unit)))) .unit))) (.pair ab (.pair (.int .i64) .unit)))):=
match kR x with
|none=>none
|some v1=>
match(v1.1 != (0:Int))with
|true=>
 some ([],((0:Int),(0:Int),(0:Int),(0:Int),(0:Int),()),v1.1,())
|false=>
 match mr x with
 |none=>none
 |some v2=>
 some (v2.1,v2.2.2.1,(0:Int),())
noncomputable def QX:Spec:=⟨_,(.pair (.own 40 (.pair (.int .i64) (.pair (.pair (.int .i64) (.pair (.int .i64) (.pair ab (.pair (.own 2 (.int .i64)) .unit)))) .unit))) (.pair ab (.pair (.int .i64) .unit))),.unit,rfl,pw⟩
theorem OZ:FnOK G0 Tryz.prog 45 QX:=aj ab6 (sg yo (sg BC (aC))) Tryz.func45
noncomputable def abo(x:Ty.T (.pair aL (.pair aL .unit))):Option (Ty.T (.pair .bool .unit)):=
match(x.1.1 != x.2.1.1)with
|true=>
 some (false,())
|false=>
 match(x.1.2.1 != x.2.1.2.1)with
 |true=>
  some (false,())
 |false=>
  match wv (x.1.2.2.1,x.2.1.2.2.1,())with
  |none=>none
  |some v1=>
  match(!v1.1)with
  |true=>
   some (false,())
  |false=>
   match oO (x.1.2.2.2.1,x.2.1.2.2.2.1,())with
   |none=>none
   |some v2=>
   match(!v2.1)with
   |true=>
    some (false,())
   |false=>
    some (true,())
noncomputable def aca:Spec:=⟨_,(.pair .bool .unit),.unit,rfl,abo⟩
theorem ab7:FnOK G0 Tryz.prog 19 aca:=aj ai (sg Q5 (sg N4 (aC))) Tryz.func19
noncomputable def abn(x:Ty.T (.pair az (.pair az .unit))):Option (Ty.T (.pair .bool .unit)):=
match(x.1.1 != x.2.1.1)with
|true=>
 some (false,())
|false=>
 match abo (x.1.2.1,x.2.1.2.1,())with
 |none=>none
 |some v1=>
 match(!v1.1)with
 |true=>
  some (false,())
 |false=>
  some (true,())
noncomputable def abP:Spec:=⟨_,(.pair .bool .unit),.unit,rfl,abn⟩
theorem ab1:FnOK G0 Tryz.prog 17 abP:=aj ai (sg ab7 (aC)) Tryz.func17
noncomputable def abc(x:(Ty.T (.pair (.list az) (.pair (.list az) (.pair (.int .i64) .unit))))):Option ((Ty.T (.pair (.list az) (.pair (.list az) (.pair (.int .i64) .unit)))) ⊕ ((Ty.T .unit) ⊕ (Ty.T (.pair .bool .unit)))):=
match(decide (x.2.2.1<(x.1.length:Int)))with
|true=>
 aa (au x.1 x.2.2.1) fun v1=>
 aa (au x.2.1 x.2.2.1) fun v2=>
 match abn (v1,v2,())with
 |none=>none
 |some v3=>
 match(!v3.1)with
 |true=>
  some (.inr (.inr (false,())))
 |false=>
  some (.inl (x.1,x.2.1,(IntKind.i64.wrap (x.2.2.1+(1:Int))),()))
|false=>
 some (.inr (.inl (())))
noncomputable def abg(x:Ty.T (.pair (.list az) (.pair (.list az) .unit))):Option (Ty.T (.pair .bool .unit)):=
match((x.1.length:Int) != (x.2.1.length:Int))with
|true=>
 some (false,())
|false=>
 match ac abc (x.1,x.2.1,(0:Int),())with
 |none=>none
 |some (.inl v4)=>
  some (true,())
 |some (.inr v5)=>
  some (v5.1,())
noncomputable def abJ:Spec:=⟨_,(.pair .bool .unit),.unit,rfl,abg⟩
noncomputable def abE:FuncId→Option Spec:=aX [(17,abP)]
theorem abV:∀f s,abE f=some s→FnOK G0 Tryz.prog f s:=aw ⟨ab1,trivial⟩
def abx:aG:=⟨[0,1,5],(.pair (.list az) (.pair (.list az) (.pair (.int .i64) .unit))),0,[],.unit,[4],(.pair .bool .unit)⟩
noncomputable def abF:List a9z:=[abx.spec abc]
theorem abT:aU aV E0 abE (aR Tryz.f46 abF) Tryz.f46 0 abx abc:=fun x=>by kernel_rfl
theorem abZ:FnOK G0 Tryz.prog 46 abJ:=ax ai abV Tryz.func46 abF (by kernel_rfl) (by exact⟨(abT).lok,trivial⟩) fun x=>by kernel_rfl
noncomputable def aa9(x:(Ty.T (.pair (.own 40 (.pair (.int .i64) (.pair (.pair (.int .i64) (.pair (.int .i64) (.pair ab (.pair (.own 2 (.int .i64)) .unit)))) .unit))) ah))):Option ((Ty.T (.pair (.own 40 (.pair (.int .i64) (.pair (.pair (.int .i64) (.pair (.int .i64) (.pair ab (.pair (.own 2 (.int .i64)) .unit)))) .unit))) ah)) ⊕ ((Ty.T (.pair (.own 40 (.pair (.int .i64) (.pair (.pair (.int .i64) (.pair (.int .i64) (.pair ab (.pair (.own 2 (.int .i64)) .unit)))) .unit))) (.pair (.int .i64) .unit))) ⊕ (Ty.T .unit))):=
match(decide (x.2.2.1<(x.1.length:Int)))with
|true=>
 aa (au x.1 x.2.2.1) fun _=>
 match x.1[x.2.2.1.toNat]? with
 |none=>none
 |some v2=>
 aa (au (x.1.set x.2.2.1.toNat (x.2.1,v2.2)) x.2.2.1) fun _=>
 match(x.1.set x.2.2.1.toNat (x.2.1,v2.2))[x.2.2.1.toNat]? with
 |none=>none
 |some v4=>
 aa (au ((x.1.set x.2.2.1.toNat (x.2.1,v2.2)).set x.2.2.1.toNat (v4.1,(((IntKind.i64.wrap (x.2.1+(1:Int))),v4.2.1.2),v4.2.2))) x.2.2.1) fun _=>
 match((x.1.set x.2.2.1.toNat (x.2.1,v2.2)).set x.2.2.1.toNat (v4.1,(((IntKind.i64.wrap (x.2.1+(1:Int))),v4.2.1.2),v4.2.2)))[x.2.2.1.toNat]? with
 |none=>none
 |some v6=>
 aa (au (((x.1.set x.2.2.1.toNat (x.2.1,v2.2)).set x.2.2.1.toNat (v4.1,(((IntKind.i64.wrap (x.2.1+(1:Int))),v4.2.1.2),v4.2.2))).set x.2.2.1.toNat (v6.1,((v6.2.1.1,((IntKind.i64.wrap ((IntKind.i64.wrap (x.2.1+(1:Int)))+(1:Int))),v6.2.1.2.2)),v6.2.2))) x.2.2.1) fun _=>
 match(((x.1.set x.2.2.1.toNat (x.2.1,v2.2)).set x.2.2.1.toNat (v4.1,(((IntKind.i64.wrap (x.2.1+(1:Int))),v4.2.1.2),v4.2.2))).set x.2.2.1.toNat (v6.1,((v6.2.1.1,((IntKind.i64.wrap ((IntKind.i64.wrap (x.2.1+(1:Int)))+(1:Int))),v6.2.1.2.2)),v6.2.2)))[x.2.2.1.toNat]? with
 |none=>none
 |some v8=>
 aa (au ((((x.1.set x.2.2.1.toNat (x.2.1,v2.2)).set x.2.2.1.toNat (v4.1,(((IntKind.i64.wrap (x.2.1+(1:Int))),v4.2.1.2),v4.2.2))).set x.2.2.1.toNat (v6.1,((v6.2.1.1,((IntKind.i64.wrap ((IntKind.i64.wrap (x.2.1+(1:Int)))+(1:Int))),v6.2.1.2.2)),v6.2.2))).set x.2.2.1.toNat (v8.1,((v8.2.1.1,(v8.2.1.2.1,(((IntKind.i64.wrap ((IntKind.i64.wrap ((IntKind.i64.wrap (x.2.1+(1:Int)))+(1:Int)))+(1:Int))),v8.2.1.2.2.1.2),v8.2.1.2.2.2))),v8.2.2))) x.2.2.1) fun _=>
 match((((x.1.set x.2.2.1.toNat (x.2.1,v2.2)).set x.2.2.1.toNat (v4.1,(((IntKind.i64.wrap (x.2.1+(1:Int))),v4.2.1.2),v4.2.2))).set x.2.2.1.toNat (v6.1,((v6.2.1.1,((IntKind.i64.wrap ((IntKind.i64.wrap (x.2.1+(1:Int)))+(1:Int))),v6.2.1.2.2)),v6.2.2))).set x.2.2.1.toNat (v8.1,((v8.2.1.1,(v8.2.1.2.1,(((IntKind.i64.wrap ((IntKind.i64.wrap ((IntKind.i64.wrap (x.2.1+(1:Int)))+(1:Int)))+(1:Int))),v8.2.1.2.2.1.2),v8.2.1.2.2.2))),v8.2.2)))[x.2.2.1.toNat]? with
 |none=>none
 |some v10=>
 aa (au (((((x.1.set x.2.2.1.toNat (x.2.1,v2.2)).set x.2.2.1.toNat (v4.1,(((IntKind.i64.wrap (x.2.1+(1:Int))),v4.2.1.2),v4.2.2))).set x.2.2.1.toNat (v6.1,((v6.2.1.1,((IntKind.i64.wrap ((IntKind.i64.wrap (x.2.1+(1:Int)))+(1:Int))),v6.2.1.2.2)),v6.2.2))).set x.2.2.1.toNat (v8.1,((v8.2.1.1,(v8.2.1.2.1,(((IntKind.i64.wrap ((IntKind.i64.wrap ((IntKind.i64.wrap (x.2.1+(1:Int)))+(1:Int)))+(1:Int))),v8.2.1.2.2.1.2),v8.2.1.2.2.2))),v8.2.2))).set x.2.2.1.toNat (v10.1,((v10.2.1.1,(v10.2.1.2.1,((v10.2.1.2.2.1.1,((IntKind.i64.wrap ((IntKind.i64.wrap ((IntKind.i64.wrap ((IntKind.i64.wrap (x.2.1+(1:Int)))+(1:Int)))+(1:Int)))+(1:Int))),v10.2.1.2.2.1.2.2)),v10.2.1.2.2.2))),v10.2.2))) x.2.2.1) fun _=>
 match(((((x.1.set x.2.2.1.toNat (x.2.1,v2.2)).set x.2.2.1.toNat (v4.1,(((IntKind.i64.wrap (x.2.1+(1:Int))),v4.2.1.2),v4.2.2))).set x.2.2.1.toNat (v6.1,((v6.2.1.1,((IntKind.i64.wrap ((IntKind.i64.wrap (x.2.1+(1:Int)))+(1:Int))),v6.2.1.2.2)),v6.2.2))).set x.2.2.1.toNat (v8.1,((v8.2.1.1,(v8.2.1.2.1,(((IntKind.i64.wrap ((IntKind.i64.wrap ((IntKind.i64.wrap (x.2.1+(1:Int)))+(1:Int)))+(1:Int))),v8.2.1.2.2.1.2),v8.2.1.2.2.2))),v8.2.2))).set x.2.2.1.toNat (v10.1,((v10.2.1.1,(v10.2.1.2.1,((v10.2.1.2.2.1.1,((IntKind.i64.wrap ((IntKind.i64.wrap ((IntKind.i64.wrap ((IntKind.i64.wrap (x.2.1+(1:Int)))+(1:Int)))+(1:Int)))+(1:Int))),v10.2.1.2.2.1.2.2)),v10.2.1.2.2.2))),v10.2.2)))[x.2.2.1.toNat]? with
 |none=>none
 |some v12=>
 aa (au ((((((x.1.set x.2.2.1.toNat (x.2.1,v2.2)).set x.2.2.1.toNat (v4.1,(((IntKind.i64.wrap (x.2.1+(1:Int))),v4.2.1.2),v4.2.2))).set x.2.2.1.toNat (v6.1,((v6.2.1.1,((IntKind.i64.wrap ((IntKind.i64.wrap (x.2.1+(1:Int)))+(1:Int))),v6.2.1.2.2)),v6.2.2))).set x.2.2.1.toNat (v8.1,((v8.2.1.1,(v8.2.1.2.1,(((IntKind.i64.wrap ((IntKind.i64.wrap ((IntKind.i64.wrap (x.2.1+(1:Int)))+(1:Int)))+(1:Int))),v8.2.1.2.2.1.2),v8.2.1.2.2.2))),v8.2.2))).set x.2.2.1.toNat (v10.1,((v10.2.1.1,(v10.2.1.2.1,((v10.2.1.2.2.1.1,((IntKind.i64.wrap ((IntKind.i64.wrap ((IntKind.i64.wrap ((IntKind.i64.wrap (x.2.1+(1:Int)))+(1:Int)))+(1:Int)))+(1:Int))),v10.2.1.2.2.1.2.2)),v10.2.1.2.2.2))),v10.2.2))).set x.2.2.1.toNat (v12.1,((v12.2.1.1,(v12.2.1.2.1,((v12.2.1.2.2.1.1,(v12.2.1.2.2.1.2.1,((IntKind.i64.wrap ((IntKind.i64.wrap ((IntKind.i64.wrap ((IntKind.i64.wrap ((IntKind.i64.wrap (x.2.1+(1:Int)))+(1:Int)))+(1:Int)))+(1:Int)))+(1:Int))),v12.2.1.2.2.1.2.2.2))),v12.2.1.2.2.2))),v12.2.2))) x.2.2.1) fun _=>
 match((((((x.1.set x.2.2.1.toNat (x.2.1,v2.2)).set x.2.2.1.toNat (v4.1,(((IntKind.i64.wrap (x.2.1+(1:Int))),v4.2.1.2),v4.2.2))).set x.2.2.1.toNat (v6.1,((v6.2.1.1,((IntKind.i64.wrap ((IntKind.i64.wrap (x.2.1+(1:Int)))+(1:Int))),v6.2.1.2.2)),v6.2.2))).set x.2.2.1.toNat (v8.1,((v8.2.1.1,(v8.2.1.2.1,(((IntKind.i64.wrap ((IntKind.i64.wrap ((IntKind.i64.wrap (x.2.1+(1:Int)))+(1:Int)))+(1:Int))),v8.2.1.2.2.1.2),v8.2.1.2.2.2))),v8.2.2))).set x.2.2.1.toNat (v10.1,((v10.2.1.1,(v10.2.1.2.1,((v10.2.1.2.2.1.1,((IntKind.i64.wrap ((IntKind.i64.wrap ((IntKind.i64.wrap ((IntKind.i64.wrap (x.2.1+(1:Int)))+(1:Int)))+(1:Int)))+(1:Int))),v10.2.1.2.2.1.2.2)),v10.2.1.2.2.2))),v10.2.2))).set x.2.2.1.toNat (v12.1,((v12.2.1.1,(v12.2.1.2.1,((v12.2.1.2.2.1.1,(v12.2.1.2.2.1.2.1,((IntKind.i64.wrap ((IntKind.i64.wrap ((IntKind.i64.wrap ((IntKind.i64.wrap ((IntKind.i64.wrap (x.2.1+(1:Int)))+(1:Int)))+(1:Int)))+(1:Int)))+(1:Int))),v12.2.1.2.2.1.2.2.2))),v12.2.1.2.2.2))),v12.2.2)))[x.2.2.1.toNat]? with
 |none=>none
 |some v14=>
 aa (au (((((((x.1.set x.2.2.1.toNat (x.2.1,v2.2)).set x.2.2.1.toNat (v4.1,(((IntKind.i64.wrap (x.2.1+(1:Int))),v4.2.1.2),v4.2.2))).set x.2.2.1.toNat (v6.1,((v6.2.1.1,((IntKind.i64.wrap ((IntKind.i64.wrap (x.2.1+(1:Int)))+(1:Int))),v6.2.1.2.2)),v6.2.2))).set x.2.2.1.toNat (v8.1,((v8.2.1.1,(v8.2.1.2.1,(((IntKind.i64.wrap ((IntKind.i64.wrap ((IntKind.i64.wrap (x.2.1+(1:Int)))+(1:Int)))+(1:Int))),v8.2.1.2.2.1.2),v8.2.1.2.2.2))),v8.2.2))).set x.2.2.1.toNat (v10.1,((v10.2.1.1,(v10.2.1.2.1,((v10.2.1.2.2.1.1,((IntKind.i64.wrap ((IntKind.i64.wrap ((IntKind.i64.wrap ((IntKind.i64.wrap (x.2.1+(1:Int)))+(1:Int)))+(1:Int)))+(1:Int))),v10.2.1.2.2.1.2.2)),v10.2.1.2.2.2))),v10.2.2))).set x.2.2.1.toNat (v12.1,((v12.2.1.1,(v12.2.1.2.1,((v12.2.1.2.2.1.1,(v12.2.1.2.2.1.2.1,((IntKind.i64.wrap ((IntKind.i64.wrap ((IntKind.i64.wrap ((IntKind.i64.wrap ((IntKind.i64.wrap (x.2.1+(1:Int)))+(1:Int)))+(1:Int)))+(1:Int)))+(1:Int))),v12.2.1.2.2.1.2.2.2))),v12.2.1.2.2.2))),v12.2.2))).set x.2.2.1.toNat (v14.1,((v14.2.1.1,(v14.2.1.2.1,((v14.2.1.2.2.1.1,(v14.2.1.2.2.1.2.1,(v14.2.1.2.2.1.2.2.1,((IntKind.i64.wrap ((IntKind.i64.wrap ((IntKind.i64.wrap ((IntKind.i64.wrap ((IntKind.i64.wrap ((IntKind.i64.wrap (x.2.1+(1:Int)))+(1:Int)))+(1:Int)))+(1:Int)))+(1:Int)))+(1:Int))),v14.2.1.2.2.1.2.2.2.2)))),v14.2.1.2.2.2))),v14.2.2))) x.2.2.1) fun _=>
 match(((((((x.1.set x.2.2.1.toNat (x.2.1,v2.2)).set x.2.2.1.toNat (v4.1,(((IntKind.i64.wrap (x.2.1+(1:Int))),v4.2.1.2),v4.2.2))).set x.2.2.1.toNat (v6.1,((v6.2.1.1,((IntKind.i64.wrap ((IntKind.i64.wrap (x.2.1+(1:Int)))+(1:Int))),v6.2.1.2.2)),v6.2.2))).set x.2.2.1.toNat (v8.1,((v8.2.1.1,(v8.2.1.2.1,(((IntKind.i64.wrap ((IntKind.i64.wrap ((IntKind.i64.wrap (x.2.1+(1:Int)))+(1:Int)))+(1:Int))),v8.2.1.2.2.1.2),v8.2.1.2.2.2))),v8.2.2))).set x.2.2.1.toNat (v10.1,((v10.2.1.1,(v10.2.1.2.1,((v10.2.1.2.2.1.1,((IntKind.i64.wrap ((IntKind.i64.wrap ((IntKind.i64.wrap ((IntKind.i64.wrap (x.2.1+(1:Int)))+(1:Int)))+(1:Int)))+(1:Int))),v10.2.1.2.2.1.2.2)),v10.2.1.2.2.2))),v10.2.2))).set x.2.2.1.toNat (v12.1,((v12.2.1.1,(v12.2.1.2.1,((v12.2.1.2.2.1.1,(v12.2.1.2.2.1.2.1,((IntKind.i64.wrap ((IntKind.i64.wrap ((IntKind.i64.wrap ((IntKind.i64.wrap ((IntKind.i64.wrap (x.2.1+(1:Int)))+(1:Int)))+(1:Int)))+(1:Int)))+(1:Int))),v12.2.1.2.2.1.2.2.2))),v12.2.1.2.2.2))),v12.2.2))).set x.2.2.1.toNat (v14.1,((v14.2.1.1,(v14.2.1.2.1,((v14.2.1.2.2.1.1,(v14.2.1.2.2.1.2.1,(v14.2.1.2.2.1.2.2.1,((IntKind.i64.wrap ((IntKind.i64.wrap ((IntKind.i64.wrap ((IntKind.i64.wrap ((IntKind.i64.wrap ((IntKind.i64.wrap (x.2.1+(1:Int)))+(1:Int)))+(1:Int)))+(1:Int)))+(1:Int)))+(1:Int))),v14.2.1.2.2.1.2.2.2.2)))),v14.2.1.2.2.2))),v14.2.2)))[x.2.2.1.toNat]? with
 |none=>none
 |some v16=>
 aa (au ((((((((x.1.set x.2.2.1.toNat (x.2.1,v2.2)).set x.2.2.1.toNat (v4.1,(((IntKind.i64.wrap (x.2.1+(1:Int))),v4.2.1.2),v4.2.2))).set x.2.2.1.toNat (v6.1,((v6.2.1.1,((IntKind.i64.wrap ((IntKind.i64.wrap (x.2.1+(1:Int)))+(1:Int))),v6.2.1.2.2)),v6.2.2))).set x.2.2.1.toNat (v8.1,((v8.2.1.1,(v8.2.1.2.1,(((IntKind.i64.wrap ((IntKind.i64.wrap ((IntKind.i64.wrap (x.2.1+(1:Int)))+(1:Int)))+(1:Int))),v8.2.1.2.2.1.2),v8.2.1.2.2.2))),v8.2.2))).set x.2.2.1.toNat (v10.1,((v10.2.1.1,(v10.2.1.2.1,((v10.2.1.2.2.1.1,((IntKind.i64.wrap ((IntKind.i64.wrap ((IntKind.i64.wrap ((IntKind.i64.wrap (x.2.1+(1:Int)))+(1:Int)))+(1:Int)))+(1:Int))),v10.2.1.2.2.1.2.2)),v10.2.1.2.2.2))),v10.2.2))).set x.2.2.1.toNat (v12.1,((v12.2.1.1,(v12.2.1.2.1,((v12.2.1.2.2.1.1,(v12.2.1.2.2.1.2.1,((IntKind.i64.wrap ((IntKind.i64.wrap ((IntKind.i64.wrap ((IntKind.i64.wrap ((IntKind.i64.wrap (x.2.1+(1:Int)))+(1:Int)))+(1:Int)))+(1:Int)))+(1:Int))),v12.2.1.2.2.1.2.2.2))),v12.2.1.2.2.2))),v12.2.2))).set x.2.2.1.toNat (v14.1,((v14.2.1.1,(v14.2.1.2.1,((v14.2.1.2.2.1.1,(v14.2.1.2.2.1.2.1,(v14.2.1.2.2.1.2.2.1,((IntKind.i64.wrap ((IntKind.i64.wrap ((IntKind.i64.wrap ((IntKind.i64.wrap ((IntKind.i64.wrap ((IntKind.i64.wrap (x.2.1+(1:Int)))+(1:Int)))+(1:Int)))+(1:Int)))+(1:Int)))+(1:Int))),v14.2.1.2.2.1.2.2.2.2)))),v14.2.1.2.2.2))),v14.2.2))).set x.2.2.1.toNat (v16.1,((v16.2.1.1,(v16.2.1.2.1,((v16.2.1.2.2.1.1,(v16.2.1.2.2.1.2.1,(v16.2.1.2.2.1.2.2.1,(v16.2.1.2.2.1.2.2.2.1,((IntKind.i64.wrap ((IntKind.i64.wrap ((IntKind.i64.wrap ((IntKind.i64.wrap ((IntKind.i64.wrap ((IntKind.i64.wrap ((IntKind.i64.wrap (x.2.1+(1:Int)))+(1:Int)))+(1:Int)))+(1:Int)))+(1:Int)))+(1:Int)))+(1:Int))),v16.2.1.2.2.1.2.2.2.2.2))))),v16.2.1.2.2.2))),v16.2.2))) x.2.2.1) fun _=>
 match((((((((x.1.set x.2.2.1.toNat (x.2.1,v2.2)).set x.2.2.1.toNat (v4.1,(((IntKind.i64.wrap (x.2.1+(1:Int))),v4.2.1.2),v4.2.2))).set x.2.2.1.toNat (v6.1,((v6.2.1.1,((IntKind.i64.wrap ((IntKind.i64.wrap (x.2.1+(1:Int)))+(1:Int))),v6.2.1.2.2)),v6.2.2))).set x.2.2.1.toNat (v8.1,((v8.2.1.1,(v8.2.1.2.1,(((IntKind.i64.wrap ((IntKind.i64.wrap ((IntKind.i64.wrap (x.2.1+(1:Int)))+(1:Int)))+(1:Int))),v8.2.1.2.2.1.2),v8.2.1.2.2.2))),v8.2.2))).set x.2.2.1.toNat (v10.1,((v10.2.1.1,(v10.2.1.2.1,((v10.2.1.2.2.1.1,((IntKind.i64.wrap ((IntKind.i64.wrap ((IntKind.i64.wrap ((IntKind.i64.wrap (x.2.1+(1:Int)))+(1:Int)))+(1:Int)))+(1:Int))),v10.2.1.2.2.1.2.2)),v10.2.1.2.2.2))),v10.2.2))).set x.2.2.1.toNat (v12.1,((v12.2.1.1,(v12.2.1.2.1,((v12.2.1.2.2.1.1,(v12.2.1.2.2.1.2.1,((IntKind.i64.wrap ((IntKind.i64.wrap ((IntKind.i64.wrap ((IntKind.i64.wrap ((IntKind.i64.wrap (x.2.1+(1:Int)))+(1:Int)))+(1:Int)))+(1:Int)))+(1:Int))),v12.2.1.2.2.1.2.2.2))),v12.2.1.2.2.2))),v12.2.2))).set x.2.2.1.toNat (v14.1,((v14.2.1.1,(v14.2.1.2.1,((v14.2.1.2.2.1.1,(v14.2.1.2.2.1.2.1,(v14.2.1.2.2.1.2.2.1,((IntKind.i64.wrap ((IntKind.i64.wrap ((IntKind.i64.wrap ((IntKind.i64.wrap ((IntKind.i64.wrap ((IntKind.i64.wrap (x.2.1+(1:Int)))+(1:Int)))+(1:Int)))+(1:Int)))+(1:Int)))+(1:Int))),v14.2.1.2.2.1.2.2.2.2)))),v14.2.1.2.2.2))),v14.2.2))).set x.2.2.1.toNat (v16.1,((v16.2.1.1,(v16.2.1.2.1,((v16.2.1.2.2.1.1,(v16.2.1.2.2.1.2.1,(v16.2.1.2.2.1.2.2.1,(v16.2.1.2.2.1.2.2.2.1,((IntKind.i64.wrap ((IntKind.i64.wrap ((IntKind.i64.wrap ((IntKind.i64.wrap ((IntKind.i64.wrap ((IntKind.i64.wrap ((IntKind.i64.wrap (x.2.1+(1:Int)))+(1:Int)))+(1:Int)))+(1:Int)))+(1:Int)))+(1:Int)))+(1:Int))),v16.2.1.2.2.1.2.2.2.2.2))))),v16.2.1.2.2.2))),v16.2.2)))[x.2.2.1.toNat]? with
 |none=>none
 |some v18=>
 match lV (v18.2.1.2.2.2.1,(IntKind.i64.wrap ((IntKind.i64.wrap ((IntKind.i64.wrap ((IntKind.i64.wrap ((IntKind.i64.wrap ((IntKind.i64.wrap ((IntKind.i64.wrap ((IntKind.i64.wrap (x.2.1+(1:Int)))+(1:Int)))+(1:Int)))+(1:Int)))+(1:Int)))+(1:Int)))+(1:Int)))+(1:Int))),())with
 |none=>none
 |some v19=>
 some (.inl ((((((((((x.1.set x.2.2.1.toNat (x.2.1,v2.2)).set x.2.2.1.toNat (v4.1,(((IntKind.i64.wrap (x.2.1+(1:Int))),v4.2.1.2),v4.2.2))).set x.2.2.1.toNat (v6.1,((v6.2.1.1,((IntKind.i64.wrap ((IntKind.i64.wrap (x.2.1+(1:Int)))+(1:Int))),v6.2.1.2.2)),v6.2.2))).set x.2.2.1.toNat (v8.1,((v8.2.1.1,(v8.2.1.2.1,(((IntKind.i64.wrap ((IntKind.i64.wrap ((IntKind.i64.wrap (x.2.1+(1:Int)))+(1:Int)))+(1:Int))),v8.2.1.2.2.1.2),v8.2.1.2.2.2))),v8.2.2))).set x.2.2.1.toNat (v10.1,((v10.2.1.1,(v10.2.1.2.1,((v10.2.1.2.2.1.1,((IntKind.i64.wrap ((IntKind.i64.wrap ((IntKind.i64.wrap ((IntKind.i64.wrap (x.2.1+(1:Int)))+(1:Int)))+(1:Int)))+(1:Int))),v10.2.1.2.2.1.2.2)),v10.2.1.2.2.2))),v10.2.2))).set x.2.2.1.toNat (v12.1,((v12.2.1.1,(v12.2.1.2.1,((v12.2.1.2.2.1.1,(v12.2.1.2.2.1.2.1,((IntKind.i64.wrap ((IntKind.i64.wrap ((IntKind.i64.wrap ((IntKind.i64.wrap ((IntKind.i64.wrap (x.2.1+(1:Int)))+(1:Int)))+(1:Int)))+(1:Int)))+(1:Int))),v12.2.1.2.2.1.2.2.2))),v12.2.1.2.2.2))),v12.2.2))).set x.2.2.1.toNat (v14.1,((v14.2.1.1,(v14.2.1.2.1,((v14.2.1.2.2.1.1,(v14.2.1.2.2.1.2.1,(v14.2.1.2.2.1.2.2.1,((IntKind.i64.wrap ((IntKind.i64.wrap ((IntKind.i64.wrap ((IntKind.i64.wrap ((IntKind.i64.wrap ((IntKind.i64.wrap (x.2.1+(1:Int)))+(1:Int)))+(1:Int)))+(1:Int)))+(1:Int)))+(1:Int))),v14.2.1.2.2.1.2.2.2.2)))),v14.2.1.2.2.2))),v14.2.2))).set x.2.2.1.toNat (v16.1,((v16.2.1.1,(v16.2.1.2.1,((v16.2.1.2.2.1.1,(v16.2.1.2.2.1.2.1,(v16.2.1.2.2.1.2.2.1,(v16.2.1.2.2.1.2.2.2.1,((IntKind.i64.wrap ((IntKind.i64.wrap ((IntKind.i64.wrap ((IntKind.i64.wrap ((IntKind.i64.wrap ((IntKind.i64.wrap ((IntKind.i64.wrap (x.2.1+(1:Int)))+(1:Int)))+(1:Int)))+(1:Int)))+(1:Int)))+(1:Int)))+(1:Int))),v16.2.1.2.2.1.2.2.2.2.2))))),v16.2.1.2.2.2))),v16.2.2))).set x.2.2.1.toNat (v18.1,((v18.2.1.1,(v18.2.1.2.1,(v18.2.1.2.2.1,(v19.2.1,v18.2.1.2.2.2.2)))),v18.2.2))),v19.1,(IntKind.i64.wrap (x.2.2.1+(1:Int))),()))
|false=>
 some (.inr (.inl (x.1,x.2.1,())))
noncomputable def abj(x:Ty.T (.pair (.own 40 (.pair (.int .i64) (.pair (.pair (.int .i64) (.pair (.int .i64) (.pair ab (.pair (.own 2 (.int .i64)) .unit)))) .unit))) (.pair (.int .i64) .unit))):Option (Ty.T (.pair (.int .i64) (.pair (.own 40 (.pair (.int .i64) (.pair (.pair (.int .i64) (.pair (.int .i64) (.pair ab (.pair (.own 2 (.int .i64)) .unit)))) .unit))) .unit))):=
match ac aa9 (x.1,x.2.1,(0:Int),())with
|none=>none
|some (.inl v20)=>
 some (v20.2.1,v20.1,())
|some (.inr v22)=>
 none
noncomputable def aby:Spec:=⟨_,(.pair (.int .i64) .unit),(.pair (.own 40 (.pair (.int .i64) (.pair (.pair (.int .i64) (.pair (.int .i64) (.pair ab (.pair (.own 2 (.int .i64)) .unit)))) .unit))) .unit),rfl,abj⟩
noncomputable def abt:FuncId→Option Spec:=aX [(70,yM)]
theorem abQ:∀f s,abt f=some s→FnOK G0 Tryz.prog f s:=aw ⟨K4,trivial⟩
def abp:aG:=⟨[0,1,5],(.pair (.own 40 (.pair (.int .i64) (.pair (.pair (.int .i64) (.pair (.int .i64) (.pair ab (.pair (.own 2 (.int .i64)) .unit)))) .unit))) ah),0,[0,1],(.pair (.own 40 (.pair (.int .i64) (.pair (.pair (.int .i64) (.pair (.int .i64) (.pair ab (.pair (.own 2 (.int .i64)) .unit)))) .unit))) (.pair (.int .i64) .unit)),[],.unit⟩
noncomputable def abu:List a9z:=[abp.spec aa9]
theorem abL:aU eU E3 abt (aR Tryz.f47 abu) Tryz.f47 0 abp aa9:=fun x=>by kernel_rfl
theorem abW:FnOK G0 Tryz.prog 47 aby:=ax ab6 abQ Tryz.func47 abu (by kernel_rfl) (by exact⟨(abL).lok,trivial⟩) fun x=>by kernel_rfl
noncomputable def abf(x:(Ty.T (.pair (.list (.int .i64)) ah))):Option ((Ty.T (.pair (.list (.int .i64)) ah)) ⊕ ((Ty.T (.pair (.int .i64) .unit)) ⊕ (Ty.T (.pair (.int .i64) .unit)))):=
match(decide (x.2.2.1<(x.1.length:Int)))with
|true=>
 aa (au x.1 x.2.2.1) fun v1=>
 match(v1 != x.2.1)with
 |true=>
  some (.inr (.inr ((-1:Int),())))
 |false=>
  some (.inl (x.1,(IntKind.i64.wrap (x.2.1+(1:Int))),(IntKind.i64.wrap (x.2.2.1+(1:Int))),()))
|false=>
 some (.inr (.inl (x.2.1,())))
noncomputable def abi(x:Ty.T (.pair (.list (.int .i64)) (.pair (.int .i64) .unit))):Option (Ty.T (.pair (.int .i64) .unit)):=
match ac abf (x.1,x.2.1,(0:Int),())with
|none=>none
|some (.inl v2)=>
 some (v2.1,())
|some (.inr v3)=>
 some (v3.1,())
noncomputable def abK:Spec:=⟨_,(.pair (.int .i64) .unit),.unit,rfl,abi⟩
noncomputable def abG:FuncId→Option Spec:=aX []
theorem abX:∀f s,abG f=some s→FnOK G0 Tryz.prog f s:=aw trivial
def abz:aG:=⟨[0,1,5],(.pair (.list (.int .i64)) ah),0,[1],(.pair (.int .i64) .unit),[4],(.pair (.int .i64) .unit)⟩
noncomputable def abH:List a9z:=[abz.spec abf]
theorem abU:aU aV E0 abG (aR Tryz.f83 abH) Tryz.f83 0 abz abf:=fun x=>by kernel_rfl
theorem ab0:FnOK G0 Tryz.prog 83 abK:=ax ai abX Tryz.func83 abH (by kernel_rfl) (by exact⟨(abU).lok,trivial⟩) fun x=>by kernel_rfl
noncomputable def aba(x:(Ty.T (.pair (.list az) ah))):Option ((Ty.T (.pair (.list az) ah)) ⊕ ((Ty.T (.pair (.int .i64) .unit)) ⊕ (Ty.T (.pair (.int .i64) .unit)))):=
match(decide (x.2.2.1<(x.1.length:Int)))with
|true=>
 aa (au x.1 x.2.2.1) fun v1=>
 match(v1.1 != x.2.1)with
 |true=>
  some (.inr (.inr ((-1:Int),())))
 |false=>
  aa (au x.1 x.2.2.1) fun v2=>
  match(v2.2.1.1 != (IntKind.i64.wrap (x.2.1+(1:Int))))with
  |true=>
   some (.inr (.inr ((-1:Int),())))
  |false=>
   aa (au x.1 x.2.2.1) fun v3=>
   match(v3.2.1.2.1 != (IntKind.i64.wrap ((IntKind.i64.wrap (x.2.1+(1:Int)))+(1:Int))))with
   |true=>
    some (.inr (.inr ((-1:Int),())))
   |false=>
    aa (au x.1 x.2.2.1) fun v4=>
    match(v4.2.1.2.2.1.1 != (IntKind.i64.wrap ((IntKind.i64.wrap ((IntKind.i64.wrap (x.2.1+(1:Int)))+(1:Int)))+(1:Int))))with
    |true=>
     some (.inr (.inr ((-1:Int),())))
    |false=>
     aa (au x.1 x.2.2.1) fun v5=>
     match(v5.2.1.2.2.1.2.1 != (IntKind.i64.wrap ((IntKind.i64.wrap ((IntKind.i64.wrap ((IntKind.i64.wrap (x.2.1+(1:Int)))+(1:Int)))+(1:Int)))+(1:Int))))with
     |true=>
      some (.inr (.inr ((-1:Int),())))
     |false=>
      aa (au x.1 x.2.2.1) fun v6=>
      match(v6.2.1.2.2.1.2.2.1 != (IntKind.i64.wrap ((IntKind.i64.wrap ((IntKind.i64.wrap ((IntKind.i64.wrap ((IntKind.i64.wrap (x.2.1+(1:Int)))+(1:Int)))+(1:Int)))+(1:Int)))+(1:Int))))with
      |true=>
       some (.inr (.inr ((-1:Int),())))
      |false=>
       aa (au x.1 x.2.2.1) fun v7=>
       match(v7.2.1.2.2.1.2.2.2.1 != (IntKind.i64.wrap ((IntKind.i64.wrap ((IntKind.i64.wrap ((IntKind.i64.wrap ((IntKind.i64.wrap ((IntKind.i64.wrap (x.2.1+(1:Int)))+(1:Int)))+(1:Int)))+(1:Int)))+(1:Int)))+(1:Int))))with
       |true=>
        some (.inr (.inr ((-1:Int),())))
       |false=>
        aa (au x.1 x.2.2.1) fun v8=>
        match(v8.2.1.2.2.1.2.2.2.2.1 != (IntKind.i64.wrap ((IntKind.i64.wrap ((IntKind.i64.wrap ((IntKind.i64.wrap ((IntKind.i64.wrap ((IntKind.i64.wrap ((IntKind.i64.wrap (x.2.1+(1:Int)))+(1:Int)))+(1:Int)))+(1:Int)))+(1:Int)))+(1:Int)))+(1:Int))))with
        |true=>
         some (.inr (.inr ((-1:Int),())))
        |false=>
         aa (au x.1 x.2.2.1) fun v9=>
         match abi (v9.2.1.2.2.2.1,(IntKind.i64.wrap ((IntKind.i64.wrap ((IntKind.i64.wrap ((IntKind.i64.wrap ((IntKind.i64.wrap ((IntKind.i64.wrap ((IntKind.i64.wrap ((IntKind.i64.wrap (x.2.1+(1:Int)))+(1:Int)))+(1:Int)))+(1:Int)))+(1:Int)))+(1:Int)))+(1:Int)))+(1:Int))),())with
         |none=>none
         |some v10=>
         match(decide (v10.1<(0:Int)))with
         |true=>
          some (.inr (.inr ((-1:Int),())))
         |false=>
          some (.inl (x.1,v10.1,(IntKind.i64.wrap (x.2.2.1+(1:Int))),()))
|false=>
 some (.inr (.inl (x.2.1,())))
noncomputable def abh(x:Ty.T (.pair (.list az) (.pair (.int .i64) .unit))):Option (Ty.T (.pair (.int .i64) .unit)):=
match ac aba (x.1,x.2.1,(0:Int),())with
|none=>none
|some (.inl v11)=>
 some (v11.1,())
|some (.inr v12)=>
 some (v12.1,())
noncomputable def abA:Spec:=⟨_,(.pair (.int .i64) .unit),.unit,rfl,abh⟩
noncomputable def abv:FuncId→Option Spec:=aX [(83,abK)]
theorem abR:∀f s,abv f=some s→FnOK G0 Tryz.prog f s:=aw ⟨ab0,trivial⟩
def abq:aG:=⟨[0,1,5],(.pair (.list az) ah),0,[1],(.pair (.int .i64) .unit),[4],(.pair (.int .i64) .unit)⟩
noncomputable def abw:List a9z:=[abq.spec aba]
theorem abM:aU aV E0 abv (aR Tryz.f48 abw) Tryz.f48 0 abq aba:=fun x=>by kernel_rfl
theorem abY:FnOK G0 Tryz.prog 48 abA:=ax ai abR Tryz.func48 abw (by kernel_rfl) (by exact⟨(abM).lok,trivial⟩) fun x=>by kernel_rfl
noncomputable def la(x:Ty.T (.pair (.own 40 (.pair (.int .i64) (.pair (.pair (.int .i64) (.pair (.int .i64) (.pair ab (.pair (.own 2 (.int .i64)) .unit)))) .unit))) (.pair (.box ab) (.pair (.int .i64) (.pair (.own 40 (.pair (.int .i64) (.pair (.pair (.int .i64) (.pair (.int .i64) (.pair ab (.pair (.own 2 (.int .i64)) .unit)))) .unit))) (.pair (.int .i64) (.pair (.own 40 (.pair (.int .i64) (.pair (.pair (.int .i64) (.pair (.int .i64) (.pair ab (.pair (.own 2 (.int .i64)) .unit)))) .unit))) (.pair (.box ab) (.pair (.int .i64) .unit))))))))):Option (Unit ⊕ (Ty.T (.pair .bool .unit))):=
match abg (x.2.2.2.2.2.1,x.1,())with
|none=>none
|some v17=>
match(!v17.1)with
|true=>
 some (.inr (false,()))
|false=>
 match wv (x.2.2.2.2.2.2.1,x.2.1,())with
 |none=>none
 |some v18=>
 match(!v18.1)with
 |true=>
  some (.inr (false,()))
 |false=>
  match(x.2.2.2.2.2.2.2.1 != x.2.2.1)with
  |true=>
   some (.inr (false,()))
  |false=>
   match abh (x.2.2.2.1,(1:Int),())with
   |none=>none
   |some v19=>
   match(decide (v19.1<(0:Int)))with
   |true=>
    some (.inr (false,()))
   |false=>
    match(v19.1 != x.2.2.2.2.1)with
    |true=>
     some (.inr (false,()))
    |false=>
     some (.inr (true,()))
noncomputable def abb(x:Ty.T (.pair (.list ar) (.pair (.box ae) (.pair (.box ab) (.pair (.own 40 (.pair (.int .i64) (.pair (.pair (.int .i64) (.pair (.int .i64) (.pair ab (.pair (.own 2 (.int .i64)) .unit)))) .unit))) (.pair (.box ab) (.pair (.int .i64) (.pair (.box (.pair (.int .i64) (.pair (.own 143 ak) (.pair (.own 145 (.pair (.int .i64) (.pair (.int .i64) (.pair (.own 2 (.int .i64)) .unit)))) (.pair (.own 148 ag) .unit))))) (.pair (.own 76 (.pair (.int .i64) (.pair (.int .i64) (.pair (.own 105 al) (.pair (.own 105 al) .unit))))) (.pair (.own 40 (.pair (.int .i64) (.pair (.pair (.int .i64) (.pair (.int .i64) (.pair ab (.pair (.own 2 (.int .i64)) .unit)))) .unit))) (.pair (.box ab) (.pair (.int .i64) .unit)))))))))))):Option (Unit ⊕ (Ty.T (.pair .bool .unit))):=
match abg (x.2.2.2.2.2.2.2.2.1,x.2.2.2.1,())with
|none=>none
|some v5=>
match(!v5.1)with
|true=>
 some (.inr (false,()))
|false=>
 match wv (x.2.2.2.2.2.2.2.2.2.1,x.2.2.2.2.1,())with
 |none=>none
 |some v6=>
 match(!v6.1)with
 |true=>
  some (.inr (false,()))
 |false=>
  match(x.2.2.2.2.2.2.2.2.2.2.1 != x.2.2.2.2.2.1)with
  |true=>
   some (.inr (false,()))
  |false=>
   match jl (x.2.1,())with
   |none=>none
   |some v7=>
   match uc (x.2.2.2.2.2.2.1,v7.1,())with
   |none=>none
   |some v8=>
   match(!v8.1)with
   |true=>
    some (.inr (false,()))
   |false=>
    match ib (x.1,())with
    |none=>none
    |some v9=>
    match rg (x.2.2.2.2.2.2.2.1,v9.1,())with
    |none=>none
    |some v10=>
    match(!v10.1)with
    |true=>
     some (.inr (false,()))
    |false=>
     match td (x.2.2.2.2.2.2.1,(1:Int),())with
     |none=>none
     |some v11=>
     match qu (x.2.2.2.2.2.2.2.1,v11.1,())with
     |none=>none
     |some v12=>
     match(decide (v12.1<(0:Int)))with
     |true=>
      some (.inr (false,()))
     |false=>
      match abg (x.2.2.2.2.2.2.2.2.1,x.2.2.2.1,())with
      |none=>none
      |some v13=>
      match(!v13.1)with
      |true=>
       some (.inr (false,()))
      |false=>
       match wv (x.2.2.2.2.2.2.2.2.2.1,x.2.2.2.2.1,())with
       |none=>none
       |some v14=>
       match(!v14.1)with
       |true=>
        some (.inr (false,()))
       |false=>
        match(x.2.2.2.2.2.2.2.2.2.2.1 != x.2.2.2.2.2.1)with
        |true=>
         some (.inr (false,()))
        |false=>
         match abj (x.2.2.2.2.2.2.2.2.1,(1:Int),())with
         |none=>none
         |some v15=>
         match abh (v15.2.1,(1:Int),())with
         |none=>none
         |some v16=>
         match(decide (v16.1<(0:Int)))with
         |true=>
          some (.inr (false,()))
         |false=>
          match(v16.1 != v15.1)with
          |true=>
           some (.inr (false,()))
          |false=>
           bf (
            match jl (x.2.1,())with
            |none=>none
            |some v20=>
            bf (
             match jb (x.2.2.1,())with
             |none=>none
             |some v21=>
             bf (
              match ib (x.1,())with
              |none=>none
              |some v22=>
              ba (
               match pw (v20.1,v21.1,v22.1,())with
               |none=>none
               |some v23=>
               match la (x.2.2.2.1,x.2.2.2.2.1,x.2.2.2.2.2.1,v15.2.1,v15.1,v23.1,v23.2.1,v23.2.2.1,())with
               |none=>none
               |some (.inl v25)=>none
               |some (.inr v24)=>
                some (.inr (v24.1,())))) (
              match ib (x.1,())with
              |none=>none
              |some v22=>
              match pw (v20.1,v21.1,v22.1,())with
              |none=>none
              |some v23=>
              match la (x.2.2.2.1,x.2.2.2.2.1,x.2.2.2.2.2.1,v15.2.1,v15.1,v23.1,v23.2.1,v23.2.2.1,())with
              |none=>none
              |some (.inl v25)=>none
              |some (.inr v24)=>
               some (.inr (v24.1,())))) (
             match jb (x.2.2.1,())with
             |none=>none
             |some v21=>
             match ib (x.1,())with
             |none=>none
             |some v22=>
             match pw (v20.1,v21.1,v22.1,())with
             |none=>none
             |some v23=>
             match la (x.2.2.2.1,x.2.2.2.2.1,x.2.2.2.2.2.1,v15.2.1,v15.1,v23.1,v23.2.1,v23.2.2.1,())with
             |none=>none
             |some (.inl v25)=>none
             |some (.inr v24)=>
              some (.inr (v24.1,())))) (
            match jl (x.2.1,())with
            |none=>none
            |some v20=>
            match jb (x.2.2.1,())with
            |none=>none
            |some v21=>
            match ib (x.1,())with
            |none=>none
            |some v22=>
            match pw (v20.1,v21.1,v22.1,())with
            |none=>none
            |some v23=>
            match la (x.2.2.2.1,x.2.2.2.2.1,x.2.2.2.2.2.1,v15.2.1,v15.1,v23.1,v23.2.1,v23.2.2.1,())with
            |none=>none
            |some (.inl v25)=>none
            |some (.inr v24)=>
             some (.inr (v24.1,())))
noncomputable def aa7(x:Ty.T (.pair (.list ar) (.pair (.box ae) (.pair (.box ab) (.pair (.own 40 (.pair (.int .i64) (.pair (.pair (.int .i64) (.pair (.int .i64) (.pair ab (.pair (.own 2 (.int .i64)) .unit)))) .unit))) (.pair (.box ab) (.pair (.int .i64) .unit))))))):Option (Unit ⊕ (Ty.T (.pair .bool .unit))):=
match jl (x.2.1,())with
|none=>none
|some v3=>
match ib (x.1,())with
|none=>none
|some v4=>
bf (
 match jb (x.2.2.1,())with
 |none=>none
 |some v26=>
 ba (
  match pw (v3.1,v26.1,v4.1,())with
  |none=>none
  |some v27=>
  match abb (x.1,x.2.1,x.2.2.1,x.2.2.2.1,x.2.2.2.2.1,x.2.2.2.2.2.1,v3.1,v4.1,v27.1,v27.2.1,v27.2.2.1,())with
  |none=>none
  |some (.inl v29)=>none
  |some (.inr v28)=>
   some (.inr (v28.1,())))) (
 match jb (x.2.2.1,())with
 |none=>none
 |some v26=>
 match pw (v3.1,v26.1,v4.1,())with
 |none=>none
 |some v27=>
 match abb (x.1,x.2.1,x.2.2.1,x.2.2.2.1,x.2.2.2.2.1,x.2.2.2.2.2.1,v3.1,v4.1,v27.1,v27.2.1,v27.2.2.1,())with
 |none=>none
 |some (.inl v29)=>none
 |some (.inr v28)=>
  some (.inr (v28.1,())))
noncomputable def abe(x:Ty.T (.pair ae (.pair ab (.pair (.list ar) .unit)))):Option (Ty.T (.pair .bool .unit)):=
match nC (x.1,(1048576:Int),())with
|none=>none
|some v1=>
match(decide (v1.1<(0:Int)))with
|true=>
 some (true,())
|false=>
 match lv (x.2.2.1,v1.1,())with
 |none=>none
 |some v2=>
 match(decide (v2.1<(0:Int)))with
 |true=>
  some (true,())
 |false=>
  bf (
   match jl (x.1,())with
   |none=>none
   |some v30=>
   bf (
    match jb (x.2.1,())with
    |none=>none
    |some v31=>
    bf (
     match ib (x.2.2.1,())with
     |none=>none
     |some v32=>
     ba (
      match pB (v30.1,v31.1,v32.1,())with
      |none=>none
      |some v33=>
      match aa7 (x.2.2.1,x.1,x.2.1,v33.1,v33.2.1,v33.2.2.1,())with
      |none=>none
      |some (.inl v35)=>none
      |some (.inr v34)=>
       some (v34.1,()))) (
     match ib (x.2.2.1,())with
     |none=>none
     |some v32=>
     match pB (v30.1,v31.1,v32.1,())with
     |none=>none
     |some v33=>
     match aa7 (x.2.2.1,x.1,x.2.1,v33.1,v33.2.1,v33.2.2.1,())with
     |none=>none
     |some (.inl v35)=>none
     |some (.inr v34)=>
      some (v34.1,()))) (
    match jb (x.2.1,())with
    |none=>none
    |some v31=>
    match ib (x.2.2.1,())with
    |none=>none
    |some v32=>
    match pB (v30.1,v31.1,v32.1,())with
    |none=>none
    |some v33=>
    match aa7 (x.2.2.1,x.1,x.2.1,v33.1,v33.2.1,v33.2.2.1,())with
    |none=>none
    |some (.inl v35)=>none
    |some (.inr v34)=>
     some (v34.1,()))) (
   match jl (x.1,())with
   |none=>none
   |some v30=>
   match jb (x.2.1,())with
   |none=>none
   |some v31=>
   match ib (x.2.2.1,())with
   |none=>none
   |some v32=>
   match pB (v30.1,v31.1,v32.1,())with
   |none=>none
   |some v33=>
   match aa7 (x.2.2.1,x.1,x.2.1,v33.1,v33.2.1,v33.2.2.1,())with
   |none=>none
   |some (.inl v35)=>none
   |some (.inr v34)=>
    some (v34.1,()))
noncomputable def abm:Spec:=⟨_,(.pair .bool .unit),.unit,rfl,abe⟩
noncomputable def aa8:FuncId→Option Spec:=aX [(8,UT),(12,UU),(13,Se),(18,UV),(21,Q0),(26,Sg),(28,SH),(30,S4),(35,S5),(41,O4),(44,Em),(45,QX),(46,abJ),(47,aby),(48,abA)]
theorem abI:∀f s,aa8 f=some s→FnOK G0 Tryz.prog f s:=aw ⟨Ga,Gb,CJ,Gc,O2,CP,DG,Eg,Q5,MM,O3,OZ,abZ,abW,abY,trivial⟩
noncomputable def abk:List (Nat×a9z):=[(9,⟨[2,3,4,8,9,10],(.pair (.list ar) (.pair (.box ae) (.pair (.box ab) (.pair (.own 40 (.pair (.int .i64) (.pair (.pair (.int .i64) (.pair (.int .i64) (.pair ab (.pair (.own 2 (.int .i64)) .unit)))) .unit))) (.pair (.box ab) (.pair (.int .i64) .unit)))))),1000009,[],.unit,[6],(.pair .bool .unit),aa7⟩),(12,⟨[2,3,4,8,9,10,11,12,13,14,15],(.pair (.list ar) (.pair (.box ae) (.pair (.box ab) (.pair (.own 40 (.pair (.int .i64) (.pair (.pair (.int .i64) (.pair (.int .i64) (.pair ab (.pair (.own 2 (.int .i64)) .unit)))) .unit))) (.pair (.box ab) (.pair (.int .i64) (.pair (.box (.pair (.int .i64) (.pair (.own 143 ak) (.pair (.own 145 (.pair (.int .i64) (.pair (.int .i64) (.pair (.own 2 (.int .i64)) .unit)))) (.pair (.own 148 ag) .unit))))) (.pair (.own 76 (.pair (.int .i64) (.pair (.int .i64) (.pair (.own 105 al) (.pair (.own 105 al) .unit))))) (.pair (.own 40 (.pair (.int .i64) (.pair (.pair (.int .i64) (.pair (.int .i64) (.pair ab (.pair (.own 2 (.int .i64)) .unit)))) .unit))) (.pair (.box ab) (.pair (.int .i64) .unit))))))))))),1000012,[],.unit,[6],(.pair .bool .unit),abb⟩),(32,⟨[8,9,10,13,17,19,20,21],(.pair (.own 40 (.pair (.int .i64) (.pair (.pair (.int .i64) (.pair (.int .i64) (.pair ab (.pair (.own 2 (.int .i64)) .unit)))) .unit))) (.pair (.box ab) (.pair (.int .i64) (.pair (.own 40 (.pair (.int .i64) (.pair (.pair (.int .i64) (.pair (.int .i64) (.pair ab (.pair (.own 2 (.int .i64)) .unit)))) .unit))) (.pair (.int .i64) (.pair (.own 40 (.pair (.int .i64) (.pair (.pair (.int .i64) (.pair (.int .i64) (.pair ab (.pair (.own 2 (.int .i64)) .unit)))) .unit))) (.pair (.box ab) (.pair (.int .i64) .unit)))))))),1000032,[],.unit,[6],(.pair .bool .unit),la⟩)]
noncomputable def abd:Nat→Option a9z:=PT (bM (fS Tryz.f7)) [] abk
theorem abD(x):ew aV E0 aa8 abd Tryz.f7.ntmps (Wd Tryz.f7 10) (eu Tryz.f7.ntmps [2,3,4,8,9,10] (.pair (.list ar) (.pair (.box ae) (.pair (.box ab) (.pair (.own 40 (.pair (.int .i64) (.pair (.pair (.int .i64) (.pair (.int .i64) (.pair ab (.pair (.own 2 (.int .i64)) .unit)))) .unit))) (.pair (.box ab) (.pair (.int .i64) .unit)))))) x) (zx aa8 Tryz.f7.ntmps 1000009 [] .unit [6] (.pair .bool .unit))=aa7 x:=by kernel_rfl
theorem abB(x):ew aV E0 aa8 abd Tryz.f7.ntmps (Wd Tryz.f7 13) (eu Tryz.f7.ntmps [2,3,4,8,9,10,11,12,13,14,15] (.pair (.list ar) (.pair (.box ae) (.pair (.box ab) (.pair (.own 40 (.pair (.int .i64) (.pair (.pair (.int .i64) (.pair (.int .i64) (.pair ab (.pair (.own 2 (.int .i64)) .unit)))) .unit))) (.pair (.box ab) (.pair (.int .i64) (.pair (.box (.pair (.int .i64) (.pair (.own 143 ak) (.pair (.own 145 (.pair (.int .i64) (.pair (.int .i64) (.pair (.own 2 (.int .i64)) .unit)))) (.pair (.own 148 ag) .unit))))) (.pair (.own 76 (.pair (.int .i64) (.pair (.int .i64) (.pair (.own 105 al) (.pair (.own 105 al) .unit))))) (.pair (.own 40 (.pair (.int .i64) (.pair (.pair (.int .i64) (.pair (.int .i64) (.pair ab (.pair (.own 2 (.int .i64)) .unit)))) .unit))) (.pair (.box ab) (.pair (.int .i64) .unit))))))))))) x) (zx aa8 Tryz.f7.ntmps 1000012 [] .unit [6] (.pair .bool .unit))=abb x:=by kernel_rfl
theorem abC(x):ew aV E0 aa8 abd Tryz.f7.ntmps (Wd Tryz.f7 39) (eu Tryz.f7.ntmps [8,9,10,13,17,19,20,21] (.pair (.own 40 (.pair (.int .i64) (.pair (.pair (.int .i64) (.pair (.int .i64) (.pair ab (.pair (.own 2 (.int .i64)) .unit)))) .unit))) (.pair (.box ab) (.pair (.int .i64) (.pair (.own 40 (.pair (.int .i64) (.pair (.pair (.int .i64) (.pair (.int .i64) (.pair ab (.pair (.own 2 (.int .i64)) .unit)))) .unit))) (.pair (.int .i64) (.pair (.own 40 (.pair (.int .i64) (.pair (.pair (.int .i64) (.pair (.int .i64) (.pair ab (.pair (.own 2 (.int .i64)) .unit)))) .unit))) (.pair (.box ab) (.pair (.int .i64) .unit)))))))) x) (zx aa8 Tryz.f7.ntmps 1000032 [] .unit [6] (.pair .bool .unit))=la x:=by kernel_rfl
theorem abN:FnOK G0 Tryz.prog 7 abm:=ZB (Λ:=abd) ai abI Tryz.func7 (by kernel_rfl) (show Tryz.f7.body=some (fS Tryz.f7) by kernel_rfl) [] abk rfl (by kernel_rfl) (by exact trivial) (by exact⟨trivial,trivial,trivial,trivial,trivial,trivial,trivial,trivial,trivial,trivial,TN abD,trivial,trivial,TN abB,trivial,trivial,trivial,trivial,trivial,trivial,trivial,trivial,trivial,trivial,trivial,trivial,trivial,trivial,trivial,trivial,trivial,trivial,trivial,trivial,trivial,trivial,trivial,trivial,trivial,TN abC,trivial,trivial,trivial,trivial,trivial,trivial,trivial,trivial,trivial,trivial,trivial,trivial,trivial⟩) (by kernel_rfl)
 fun x y h=>(show tG aV E0 aa8 abd Tryz.f7 abm x=abe x by kernel_rfl).trans h
end Go.Proofs.YthfgmmmeplanbaaGreatDoor
