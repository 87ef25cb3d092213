import Derived.Test.YtckljdhdadiphaaGreatDoorGA
namespace Go.Proofs.YtckljdhdadiphaaGreatDoor
open Go.RowKit
set_option linter.unusedVariables false
abbrev tT:Ty:=(.pair (.box ah) (.pair (.own 103 aA) bM))
abbrev C8:Ty:=(.pair (.box ah) (.pair (.own 103 aA) .unit))
noncomputable def iA(x:(Ty.T tT)):Option ((Ty.T tT) ⊕ ((Ty.T C8) ⊕ (Ty.T .unit))):=
match(decide (x.2.2.2.1>(0:Int)))with
|true=>
 match kj 100 (x.2.2.1,())with
 |none=>none
 |some v3=>
 aH (([110]:List UInt8).length+v3.1.length) (
  match aa ((x.1.1,x.1.2.1,x.1.2.2.1,()),(200:Int),())with
  |none=>none
  |some v4=>
  match aa ((v4.2.1.1,v4.2.1.2.1,v4.2.1.2.2.1,()),(5:Int),())with
  |none=>none
  |some v5=>
  aH (x.2.1.length+ [(x.2.2.1,(([110]:List UInt8)++v3.1),v4.1,(v5.1==(0:Int)),())].length) (
   match aa ((v5.2.1.1,v5.2.1.2.1,v5.2.1.2.2.1,()),(3:Int),())with
   |none=>none
   |some v6=>
   some (.inl ((v6.2.1.1,v6.2.1.2.1,v6.2.1.2.2.1,()),(x.2.1++ [(x.2.2.1,(([110]:List UInt8)++v3.1),v4.1,(v5.1==(0:Int)),())]),(IntKind.i64.wrap ((IntKind.i64.wrap (x.2.2.1+(1:Int)))+v6.1)),(IntKind.i64.wrap (x.2.2.2.1-(1:Int))),()))))
|false=>
 some (.inr (.inl ((x.1.1,x.1.2.1,x.1.2.2.1,()),x.2.1,())))
noncomputable def sU(x:Ty.T dY):Option (Ty.T Z4):=
match aa ((x.1.1,x.1.2.1,x.1.2.2.1,()),(2:Int),())with
|none=>none
|some v1=>
match aa ((v1.2.1.1,v1.2.1.2.1,v1.2.1.2.2.1,()),(4:Int),())with
|none=>none
|some v2=>
match ac iA ((v2.2.1.1,v2.2.1.2.1,v2.2.1.2.2.1,()),[],v1.1,(IntKind.i64.wrap ((1:Int)+v2.1)),())with
|none=>none
|some (.inl v7)=>
 some (v7.2.1,(v7.1.1,v7.1.2.1,v7.1.2.2.1,()),())
|some (.inr v9)=>
 none
noncomputable def HW:ae:=⟨_,ZM,dY,rfl,sU⟩
noncomputable def Fv:FuncId→Option ae:=bH [(42,de),(256,K9)]
theorem Na:∀f s,Fv f=some s→FnOK G0 Tryz.prog f s:=aK ⟨bh,SI,trivial⟩
def C9:aX:=⟨[0,3,4,5],tT,0,[0,3],C8,[],.unit⟩
noncomputable def Fw:List aD:=[C9.spec iA]
theorem La:bi bm E0 Fv (be Tryz.f235 Fw) Tryz.f235 0 C9 iA:=fun x=>by kernel_rfl
theorem Fx:FnOK G0 Tryz.prog 235 HW:=aO ap Na Tryz.func235 Fw (by kernel_rfl) (by exact⟨(La).lok,trivial⟩) fun x=>by kernel_rfl
noncomputable def pB(x:Ty.T dY):Option (Ty.T Z0):=
match aa ((x.1.1,x.1.2.1,x.1.2.2.1,()),(4:Int),())with
|none=>none
|some v1=>
match aa ((v1.2.1.1,v1.2.1.2.1,v1.2.1.2.2.1,()),(4:Int),())with
|none=>none
|some v2=>
match aa ((v2.2.1.1,v2.2.1.2.1,v2.2.1.2.2.1,()),(2:Int),())with
|none=>none
|some v3=>
match fH (v2.1,())with
|none=>none
|some v4=>
match v4.1 with
|true=>
 match aa ((v3.2.1.1,v3.2.1.2.1,v3.2.1.2.2.1,()),(5:Int),())with
 |none=>none
 |some v5=>
 match(v2.1==(3:Int))with
 |true=>
  match dU (v2.1,(IntKind.i64.wrap ((1:Int)+v5.1)),())with
  |none=>none
  |some v6=>
  match aa ((v5.2.1.1,v5.2.1.2.1,v5.2.1.2.2.1,()),(200:Int),())with
  |none=>none
  |some v7=>
  some ((v1.1,v2.1,(IntKind.i64.wrap ((1:Int)+v5.1)),(IntKind.i64.wrap ((IntKind.i64.wrap (v6.1+(20:Int)))+v7.1)),false,()),(v7.2.1.1,v7.2.1.2.1,v7.2.1.2.2.1,()),())
 |false=>
  match dU (v2.1,(IntKind.i64.wrap ((1:Int)+v5.1)),())with
  |none=>none
  |some v8=>
  match aa ((v5.2.1.1,v5.2.1.2.1,v5.2.1.2.2.1,()),(200:Int),())with
  |none=>none
  |some v9=>
  some ((v1.1,v2.1,(IntKind.i64.wrap ((1:Int)+v5.1)),(IntKind.i64.wrap ((IntKind.i64.wrap (v8.1+(20:Int)))+v9.1)),(v3.1==(0:Int)),()),(v9.2.1.1,v9.2.1.2.1,v9.2.1.2.2.1,()),())
|false=>
 match(v2.1==(3:Int))with
 |true=>
  match dU (v2.1,(0:Int),())with
  |none=>none
  |some v10=>
  match aa ((v3.2.1.1,v3.2.1.2.1,v3.2.1.2.2.1,()),(200:Int),())with
  |none=>none
  |some v11=>
  some ((v1.1,v2.1,(0:Int),(IntKind.i64.wrap ((IntKind.i64.wrap (v10.1+(20:Int)))+v11.1)),false,()),(v11.2.1.1,v11.2.1.2.1,v11.2.1.2.2.1,()),())
 |false=>
  match dU (v2.1,(0:Int),())with
  |none=>none
  |some v12=>
  match aa ((v3.2.1.1,v3.2.1.2.1,v3.2.1.2.2.1,()),(200:Int),())with
  |none=>none
  |some v13=>
  some ((v1.1,v2.1,(0:Int),(IntKind.i64.wrap ((IntKind.i64.wrap (v12.1+(20:Int)))+v13.1)),(v3.1==(0:Int)),()),(v13.2.1.1,v13.2.1.2.1,v13.2.1.2.2.1,()),())
noncomputable def HX:ae:=⟨_,Et,dY,rfl,pB⟩
theorem Fy:FnOK G0 Tryz.prog 236 HX:=aq ap (sg bh (sg mi (sg tP (aU)))) Tryz.func236
abbrev rk:Ty:=Xw
abbrev Ac:Ty:=(.pair (.box ah) (.pair (.box ar) (.pair (.own 103 aA) (.pair (.own 2 (.int .i64)) (.pair (.own 141 aG) (.pair (.own 116 ao) (.pair (.int .i64) (.pair (.int .i64) (.pair (.box aG) (.pair (.own 2 (.int .i64)) .unit))))))))))
noncomputable def fI(x:(Ty.T rk)):Option ((Ty.T rk) ⊕ ((Ty.T Ac) ⊕ (Ty.T .unit))):=
match(decide (x.2.2.2.2.2.2.2.2.2.2.1<x.2.2.2.2.2.2.2.2.1.2.1))with
|true=>
 match aa ((x.1.1,x.1.2.1,x.1.2.2.1,()),(100:Int),())with
 |none=>none
 |some v12=>
 aH (x.2.2.2.2.2.2.2.2.2.1.length+ [(IntKind.i64.wrap ((260:Int)+v12.1))].length) (
  some (.inl ((v12.2.1.1,v12.2.1.2.1,v12.2.1.2.2.1,()),(x.2.1.1,x.2.1.2.1,x.2.1.2.2.1,x.2.1.2.2.2.1,()),x.2.2.1,x.2.2.2.1,x.2.2.2.2.1,x.2.2.2.2.2.1,x.2.2.2.2.2.2.1,x.2.2.2.2.2.2.2.1,(x.2.2.2.2.2.2.2.2.1.1,x.2.2.2.2.2.2.2.2.1.2.1,x.2.2.2.2.2.2.2.2.1.2.2.1,()),(x.2.2.2.2.2.2.2.2.2.1++ [(IntKind.i64.wrap ((260:Int)+v12.1))]),(IntKind.i64.wrap (x.2.2.2.2.2.2.2.2.2.2.1+(1:Int))),())))
|false=>
 some (.inr (.inl ((x.1.1,x.1.2.1,x.1.2.2.1,()),(x.2.1.1,x.2.1.2.1,x.2.1.2.2.1,x.2.1.2.2.2.1,()),x.2.2.1,x.2.2.2.1,x.2.2.2.2.1,x.2.2.2.2.2.1,x.2.2.2.2.2.2.1,x.2.2.2.2.2.2.2.1,(x.2.2.2.2.2.2.2.2.1.1,x.2.2.2.2.2.2.2.2.1.2.1,x.2.2.2.2.2.2.2.2.1.2.2.1,()),x.2.2.2.2.2.2.2.2.2.1,())))
abbrev rl:Ty:=(.pair (.box ah) (.pair (.box ar) (.pair (.own 103 aA) (.pair (.own 2 (.int .i64)) (.pair (.own 141 aG) (.pair (.own 116 ao) (.pair (.int .i64) (.pair (.int .i64) (.pair (.box aG) (.pair (.own 2 (.int .i64)) bM))))))))))
abbrev Ad:Ty:=Xw
noncomputable def eJ(x:(Ty.T rl)):Option ((Ty.T rl) ⊕ ((Ty.T Ad) ⊕ (Ty.T .unit))):=
match(decide (x.2.2.2.2.2.2.2.2.2.2.2.1<x.2.2.2.2.2.2.2.2.1.2.1))with
|true=>
 match pB ((x.1.1,x.1.2.1,x.1.2.2.1,()),())with
 |none=>none
 |some v15=>
 if(x.2.2.2.1.length:Int)=0 then none else
 ab (av x.2.2.2.1 (Int.tmod x.2.2.2.2.2.2.2.2.2.2.2.1 (x.2.2.2.1.length:Int))) fun _=>
 match x.2.2.2.1[(Int.tmod x.2.2.2.2.2.2.2.2.2.2.2.1 (x.2.2.2.1.length:Int)).toNat]? with
 |none=>none
 |some v17=>
 match(v15.1.2.1==(3:Int))with
 |true=>
  match(decide (x.2.2.2.2.2.2.2.1>(0:Int)))with
  |true=>
   ab (av x.2.2.2.2.2.2.2.2.2.1 x.2.2.2.2.2.2.2.2.2.2.2.1) fun _=>
   match x.2.2.2.2.2.2.2.2.2.1[x.2.2.2.2.2.2.2.2.2.2.2.1.toNat]? with
   |none=>none
   |some v19=>
   aH (x.2.2.2.2.2.1.length+ [(x.2.2.2.2.2.2.2.1,x.2.2.2.2.2.2.2.2.2.2.1,x.2.2.2.2.2.2.2.2.2.2.2.1,(v17,(1:Int),v15.1.2.2.1,v19,v15.1.2.2.2.2.1,()),())].length) (
    some (.inl ((v15.2.1.1,v15.2.1.2.1,v15.2.1.2.2.1,()),(x.2.1.1,x.2.1.2.1,x.2.1.2.2.1,x.2.1.2.2.2.1,()),x.2.2.1,x.2.2.2.1,x.2.2.2.2.1,(x.2.2.2.2.2.1++ [(x.2.2.2.2.2.2.2.1,x.2.2.2.2.2.2.2.2.2.2.1,x.2.2.2.2.2.2.2.2.2.2.2.1,(v17,(1:Int),v15.1.2.2.1,v19,v15.1.2.2.2.2.1,()),())]),x.2.2.2.2.2.2.1,x.2.2.2.2.2.2.2.1,(x.2.2.2.2.2.2.2.2.1.1,x.2.2.2.2.2.2.2.2.1.2.1,x.2.2.2.2.2.2.2.2.1.2.2.1,()),x.2.2.2.2.2.2.2.2.2.1,x.2.2.2.2.2.2.2.2.2.2.1,(IntKind.i64.wrap (x.2.2.2.2.2.2.2.2.2.2.2.1+(1:Int))),())))
  |false=>
   ab (av x.2.2.2.2.2.2.2.2.2.1 x.2.2.2.2.2.2.2.2.2.2.2.1) fun _=>
   match x.2.2.2.2.2.2.2.2.2.1[x.2.2.2.2.2.2.2.2.2.2.2.1.toNat]? with
   |none=>none
   |some v21=>
   aH (x.2.2.2.2.2.1.length+ [(x.2.2.2.2.2.2.2.1,x.2.2.2.2.2.2.2.2.2.2.1,x.2.2.2.2.2.2.2.2.2.2.2.1,(v17,v15.1.2.1,v15.1.2.2.1,v21,v15.1.2.2.2.2.1,()),())].length) (
    some (.inl ((v15.2.1.1,v15.2.1.2.1,v15.2.1.2.2.1,()),(x.2.1.1,x.2.1.2.1,x.2.1.2.2.1,x.2.1.2.2.2.1,()),x.2.2.1,x.2.2.2.1,x.2.2.2.2.1,(x.2.2.2.2.2.1++ [(x.2.2.2.2.2.2.2.1,x.2.2.2.2.2.2.2.2.2.2.1,x.2.2.2.2.2.2.2.2.2.2.2.1,(v17,v15.1.2.1,v15.1.2.2.1,v21,v15.1.2.2.2.2.1,()),())]),x.2.2.2.2.2.2.1,x.2.2.2.2.2.2.2.1,(x.2.2.2.2.2.2.2.2.1.1,x.2.2.2.2.2.2.2.2.1.2.1,x.2.2.2.2.2.2.2.2.1.2.2.1,()),x.2.2.2.2.2.2.2.2.2.1,x.2.2.2.2.2.2.2.2.2.2.1,(IntKind.i64.wrap (x.2.2.2.2.2.2.2.2.2.2.2.1+(1:Int))),())))
 |false=>
  ab (av x.2.2.2.2.2.2.2.2.2.1 x.2.2.2.2.2.2.2.2.2.2.2.1) fun _=>
  match x.2.2.2.2.2.2.2.2.2.1[x.2.2.2.2.2.2.2.2.2.2.2.1.toNat]? with
  |none=>none
  |some v23=>
  aH (x.2.2.2.2.2.1.length+ [(x.2.2.2.2.2.2.2.1,x.2.2.2.2.2.2.2.2.2.2.1,x.2.2.2.2.2.2.2.2.2.2.2.1,(v17,v15.1.2.1,v15.1.2.2.1,v23,v15.1.2.2.2.2.1,()),())].length) (
   some (.inl ((v15.2.1.1,v15.2.1.2.1,v15.2.1.2.2.1,()),(x.2.1.1,x.2.1.2.1,x.2.1.2.2.1,x.2.1.2.2.2.1,()),x.2.2.1,x.2.2.2.1,x.2.2.2.2.1,(x.2.2.2.2.2.1++ [(x.2.2.2.2.2.2.2.1,x.2.2.2.2.2.2.2.2.2.2.1,x.2.2.2.2.2.2.2.2.2.2.2.1,(v17,v15.1.2.1,v15.1.2.2.1,v23,v15.1.2.2.2.2.1,()),())]),x.2.2.2.2.2.2.1,x.2.2.2.2.2.2.2.1,(x.2.2.2.2.2.2.2.2.1.1,x.2.2.2.2.2.2.2.2.1.2.1,x.2.2.2.2.2.2.2.2.1.2.2.1,()),x.2.2.2.2.2.2.2.2.2.1,x.2.2.2.2.2.2.2.2.2.2.1,(IntKind.i64.wrap (x.2.2.2.2.2.2.2.2.2.2.2.1+(1:Int))),())))
|false=>
 some (.inr (.inl ((x.1.1,x.1.2.1,x.1.2.2.1,()),(x.2.1.1,x.2.1.2.1,x.2.1.2.2.1,x.2.1.2.2.2.1,()),x.2.2.1,x.2.2.2.1,x.2.2.2.2.1,x.2.2.2.2.2.1,x.2.2.2.2.2.2.1,x.2.2.2.2.2.2.2.1,(x.2.2.2.2.2.2.2.2.1.1,x.2.2.2.2.2.2.2.2.1.2.1,x.2.2.2.2.2.2.2.2.1.2.2.1,()),x.2.2.2.2.2.2.2.2.2.1,x.2.2.2.2.2.2.2.2.2.2.1,())))
abbrev rm:Ty:=Xw
abbrev Ae:Ty:=aak
noncomputable def fJ(x:(Ty.T rm)):Option ((Ty.T rm) ⊕ ((Ty.T Ae) ⊕ (Ty.T .unit))):=
match(decide (x.2.2.2.2.2.2.2.2.2.2.1<x.2.2.2.2.2.2.2.2.1.1))with
|true=>
 match ac eJ ((x.1.1,x.1.2.1,x.1.2.2.1,()),(x.2.1.1,x.2.1.2.1,x.2.1.2.2.1,x.2.1.2.2.2.1,()),x.2.2.1,x.2.2.2.1,x.2.2.2.2.1,x.2.2.2.2.2.1,x.2.2.2.2.2.2.1,x.2.2.2.2.2.2.2.1,(x.2.2.2.2.2.2.2.2.1.1,x.2.2.2.2.2.2.2.2.1.2.1,x.2.2.2.2.2.2.2.2.1.2.2.1,()),x.2.2.2.2.2.2.2.2.2.1,x.2.2.2.2.2.2.2.2.2.2.1,(0:Int),())with
 |none=>none
 |some (.inl v15)=>
  some (.inl ((v15.1.1,v15.1.2.1,v15.1.2.2.1,()),(v15.2.1.1,v15.2.1.2.1,v15.2.1.2.2.1,v15.2.1.2.2.2.1,()),v15.2.2.1,v15.2.2.2.1,v15.2.2.2.2.1,v15.2.2.2.2.2.1,v15.2.2.2.2.2.2.1,v15.2.2.2.2.2.2.2.1,(v15.2.2.2.2.2.2.2.2.1.1,v15.2.2.2.2.2.2.2.2.1.2.1,v15.2.2.2.2.2.2.2.2.1.2.2.1,()),v15.2.2.2.2.2.2.2.2.2.1,(IntKind.i64.wrap (v15.2.2.2.2.2.2.2.2.2.2.1+(1:Int))),()))
 |some (.inr v17)=>
  some (.inr (.inr (())))
|false=>
 some (.inr (.inl ((x.1.1,x.1.2.1,x.1.2.2.1,()),(x.2.1.1,x.2.1.2.1,x.2.1.2.2.1,x.2.1.2.2.2.1,()),x.2.2.1,x.2.2.2.1,x.2.2.2.2.1,x.2.2.2.2.2.1,x.2.2.2.2.2.2.1,x.2.2.2.2.2.2.2.1,())))
abbrev rn:Ty:=aak
abbrev Af:Ty:=(.pair (.box ah) (.pair (.box ar) (.pair (.own 103 aA) (.pair (.own 141 aG) (.pair (.own 116 ao) .unit)))))
noncomputable def dP(x:(Ty.T rn)):Option ((Ty.T rn) ⊕ ((Ty.T Af) ⊕ (Ty.T .unit))):=
match(decide (x.2.2.2.2.2.2.2.1<x.2.2.2.2.2.2.1))with
|true=>
 match aa ((x.1.1,x.1.2.1,x.1.2.2.1,()),(2:Int),())with
 |none=>none
 |some v10=>
 match aa ((v10.2.1.1,v10.2.1.2.1,v10.2.1.2.2.1,()),(2:Int),())with
 |none=>none
 |some v11=>
 match(decide (x.2.2.2.2.2.2.1>(1:Int)))with
 |true=>
  aH (x.2.2.2.2.1.length+ [((IntKind.i64.wrap ((1:Int)+v10.1)),(IntKind.i64.wrap ((x.2.2.2.1.length:Int)+v11.1)),[(IntKind.i64.wrap ((1:Int)-x.2.2.2.2.2.2.2.1))],())].length) (
   match ac fI ((v11.2.1.1,v11.2.1.2.1,v11.2.1.2.2.1,()),(x.2.1.1,x.2.1.2.1,x.2.1.2.2.1,x.2.1.2.2.2.1,()),x.2.2.1,x.2.2.2.1,(x.2.2.2.2.1++ [((IntKind.i64.wrap ((1:Int)+v10.1)),(IntKind.i64.wrap ((x.2.2.2.1.length:Int)+v11.1)),[(IntKind.i64.wrap ((1:Int)-x.2.2.2.2.2.2.2.1))],())]),x.2.2.2.2.2.1,x.2.2.2.2.2.2.1,x.2.2.2.2.2.2.2.1,((IntKind.i64.wrap ((1:Int)+v10.1)),(IntKind.i64.wrap ((x.2.2.2.1.length:Int)+v11.1)),[(IntKind.i64.wrap ((1:Int)-x.2.2.2.2.2.2.2.1))],()),[],(0:Int),())with
   |none=>none
   |some (.inl v12)=>
    match ac fJ ((v12.1.1,v12.1.2.1,v12.1.2.2.1,()),(v12.2.1.1,v12.2.1.2.1,v12.2.1.2.2.1,v12.2.1.2.2.2.1,()),v12.2.2.1,v12.2.2.2.1,v12.2.2.2.2.1,v12.2.2.2.2.2.1,v12.2.2.2.2.2.2.1,v12.2.2.2.2.2.2.2.1,(v12.2.2.2.2.2.2.2.2.1.1,v12.2.2.2.2.2.2.2.2.1.2.1,v12.2.2.2.2.2.2.2.2.1.2.2.1,()),v12.2.2.2.2.2.2.2.2.2.1,(0:Int),())with
    |none=>none
    |some (.inl v14)=>
     some (.inl ((v14.1.1,v14.1.2.1,v14.1.2.2.1,()),(v14.2.1.1,v14.2.1.2.1,v14.2.1.2.2.1,v14.2.1.2.2.2.1,()),v14.2.2.1,v14.2.2.2.1,v14.2.2.2.2.1,v14.2.2.2.2.2.1,v14.2.2.2.2.2.2.1,(IntKind.i64.wrap (v14.2.2.2.2.2.2.2.1+(1:Int))),()))
    |some (.inr v16)=>
     some (.inr (.inr (())))
   |some (.inr v17)=>
    some (.inr (.inr (()))))
 |false=>
  aH (x.2.2.2.2.1.length+([((IntKind.i64.wrap ((1:Int)+v10.1)),(IntKind.i64.wrap ((x.2.2.2.1.length:Int)+v11.1)),[],())]:List (Ty.T aG)).length) (
   match ac fI ((v11.2.1.1,v11.2.1.2.1,v11.2.1.2.2.1,()),(x.2.1.1,x.2.1.2.1,x.2.1.2.2.1,x.2.1.2.2.2.1,()),x.2.2.1,x.2.2.2.1,(x.2.2.2.2.1++([((IntKind.i64.wrap ((1:Int)+v10.1)),(IntKind.i64.wrap ((x.2.2.2.1.length:Int)+v11.1)),[],())]:List (Ty.T aG))),x.2.2.2.2.2.1,x.2.2.2.2.2.2.1,x.2.2.2.2.2.2.2.1,((IntKind.i64.wrap ((1:Int)+v10.1)),(IntKind.i64.wrap ((x.2.2.2.1.length:Int)+v11.1)),[],()),[],(0:Int),())with
   |none=>none
   |some (.inl v18)=>
    match ac fJ ((v18.1.1,v18.1.2.1,v18.1.2.2.1,()),(v18.2.1.1,v18.2.1.2.1,v18.2.1.2.2.1,v18.2.1.2.2.2.1,()),v18.2.2.1,v18.2.2.2.1,v18.2.2.2.2.1,v18.2.2.2.2.2.1,v18.2.2.2.2.2.2.1,v18.2.2.2.2.2.2.2.1,(v18.2.2.2.2.2.2.2.2.1.1,v18.2.2.2.2.2.2.2.2.1.2.1,v18.2.2.2.2.2.2.2.2.1.2.2.1,()),v18.2.2.2.2.2.2.2.2.2.1,(0:Int),())with
    |none=>none
    |some (.inl v20)=>
     some (.inl ((v20.1.1,v20.1.2.1,v20.1.2.2.1,()),(v20.2.1.1,v20.2.1.2.1,v20.2.1.2.2.1,v20.2.1.2.2.2.1,()),v20.2.2.1,v20.2.2.2.1,v20.2.2.2.2.1,v20.2.2.2.2.2.1,v20.2.2.2.2.2.2.1,(IntKind.i64.wrap (v20.2.2.2.2.2.2.2.1+(1:Int))),()))
    |some (.inr v22)=>
     some (.inr (.inr (())))
   |some (.inr v23)=>
    some (.inr (.inr (()))))
|false=>
 some (.inr (.inl ((x.1.1,x.1.2.1,x.1.2.2.1,()),(x.2.1.1,x.2.1.2.1,x.2.1.2.2.1,x.2.1.2.2.2.1,()),x.2.2.1,x.2.2.2.2.1,x.2.2.2.2.2.1,())))
noncomputable def yn(x:Ty.T dY):Option (Ty.T (.pair (.pair (.int .i64) (.pair (.own 103 aA) (.pair (.own 141 aG) (.pair (.own 116 ao) .unit)))) (.pair (.box ah) .unit))):=
match aa ((x.1.1,x.1.2.1,x.1.2.2.1,()),(4:Int),())with
|none=>none
|some v1=>
match(v1.1==(0:Int))with
|true=>
 match y7 (())with
 |none=>none
 |some v2=>
 some ((v2.1.1,v2.1.2.1,v2.1.2.2.1,v2.1.2.2.2.1,()),(v1.2.1.1,v1.2.1.2.1,v1.2.1.2.2.1,()),())
|false=>
 match sU ((v1.2.1.1,v1.2.1.2.1,v1.2.1.2.2.1,()),())with
 |none=>none
 |some v3=>
 ab (av v3.1 (0:Int)) fun _=>
 match v3.1[(0:Int).toNat]? with
 |none=>none
 |some v5=>
 match(decide (((v3.1.set ((0:Int).toNat) (v5.1,v5.2.1,v5.2.2.1,false,())).length:Int)>(3:Int)))with
 |true=>
  ab (aM (v3.1.set ((0:Int).toNat) (v5.1,v5.2.1,v5.2.2.1,false,())).length none (some (.dat (.int .i64) (3:Int)))) fun v6=>
  match cQ ((List.take v6.2 (v3.1.set ((0:Int).toNat) (v5.1,v5.2.1,v5.2.2.1,false,()))),())with
  |none=>none
  |some v7=>
  match ja (v7.1,())with
  |none=>none
  |some v8=>
  match aa ((v3.2.1.1,v3.2.1.2.1,v3.2.1.2.2.1,()),(2:Int),())with
  |none=>none
  |some v9=>
  match ac dP ((v9.2.1.1,v9.2.1.2.1,v9.2.1.2.2.1,()),((0:Int),[],[],[],()),(List.take v6.2 (v3.1.set ((0:Int).toNat) (v5.1,v5.2.1,v5.2.2.1,false,()))),v8.1,[],[],(IntKind.i64.wrap ((1:Int)+v9.1)),(0:Int),())with
  |none=>none
  |some (.inl v24)=>
   match aa ((v24.1.1,v24.1.2.1,v24.1.2.2.1,()),(5000:Int),())with
   |none=>none
   |some v26=>
   some (((IntKind.i64.wrap ((1:Int)+v26.1)),v24.2.2.1,v24.2.2.2.1,v24.2.2.2.2.1,()),(v26.2.1.1,v26.2.1.2.1,v26.2.1.2.2.1,()),())
  |some (.inr v27)=>
   none
 |false=>
  match cQ ((v3.1.set ((0:Int).toNat) (v5.1,v5.2.1,v5.2.2.1,false,())),())with
  |none=>none
  |some v28=>
  match ja (v28.1,())with
  |none=>none
  |some v29=>
  match aa ((v3.2.1.1,v3.2.1.2.1,v3.2.1.2.2.1,()),(2:Int),())with
  |none=>none
  |some v30=>
  match ac dP ((v30.2.1.1,v30.2.1.2.1,v30.2.1.2.2.1,()),((0:Int),[],[],[],()),(v3.1.set ((0:Int).toNat) (v5.1,v5.2.1,v5.2.2.1,false,())),v29.1,[],[],(IntKind.i64.wrap ((1:Int)+v30.1)),(0:Int),())with
  |none=>none
  |some (.inl v31)=>
   match aa ((v31.1.1,v31.1.2.1,v31.1.2.2.1,()),(5000:Int),())with
   |none=>none
   |some v33=>
   some (((IntKind.i64.wrap ((1:Int)+v33.1)),v31.2.2.1,v31.2.2.2.1,v31.2.2.2.2.1,()),(v33.2.1.1,v33.2.1.2.1,v33.2.1.2.2.1,()),())
  |some (.inr v34)=>
   none
noncomputable def HY:ae:=⟨_,Xv,dY,rfl,yn⟩
noncomputable def mw:FuncId→Option ae:=bH [(42,de),(146,oD),(213,CS),(234,C6),(235,HW),(236,HX)]
theorem Nb:∀f s,mw f=some s→FnOK G0 Tryz.prog f s:=aK ⟨bh,kG,zU,M9,Fx,Fy,trivial⟩
def Ag:aX:=⟨[0,2,3,4,6,7,8,9],rn,0,[0,2,3,6,7],Af,[],.unit⟩
def Ah:aX:=⟨[0,2,3,4,6,7,8,9,10,11,12],rk,2,[0,2,3,4,6,7,8,9,10,11],Ac,[],.unit⟩
def Ai:aX:=⟨[0,2,3,4,6,7,8,9,10,11,13],rm,4,[0,2,3,4,6,7,8,9],Ae,[],.unit⟩
def Aj:aX:=⟨[0,2,3,4,6,7,8,9,10,11,13,14],rl,6,[0,2,3,4,6,7,8,9,10,11,13],Ad,[],.unit⟩
noncomputable def my:List aD:=[Ag.spec dP,Ah.spec fI,Ai.spec fJ,Aj.spec eJ]
theorem Jo:bi VT E1 mw (be Tryz.f192 my) Tryz.f192 0 Ag dP:=fun x=>by kernel_rfl
theorem Jp:bi VT E1 mw (be Tryz.f192 my) Tryz.f192 1 Ah fI:=fun x=>by kernel_rfl
theorem Jq:bi VT E1 mw (be Tryz.f192 my) Tryz.f192 2 Ai fJ:=fun x=>by kernel_rfl
theorem Jr:bi VT E1 mw (be Tryz.f192 my) Tryz.f192 3 Aj eJ:=fun x=>by kernel_rfl
theorem QS:FnOK G0 Tryz.prog 192 HY:=aO abn Nb Tryz.func192 my (by kernel_rfl) (by exact⟨(Jo).lok,(Jp).lok,(Jq).lok,(Jr).lok,trivial⟩) fun x=>by kernel_rfl
noncomputable def qm(x:Ty.T dY):Option (Ty.T Z4):=
match sU ((x.1.1,x.1.2.1,x.1.2.2.1,()),())with
|none=>none
|some v1=>
match aa ((v1.2.1.1,v1.2.1.2.1,v1.2.1.2.2.1,()),(v1.1.length:Int),())with
|none=>none
|some v2=>
match aa ((v2.2.1.1,v2.2.1.2.1,v2.2.1.2.2.1,()),(24:Int),())with
|none=>none
|some v3=>
match(v3.1==(0:Int))with
|true=>
 match aa ((v3.2.1.1,v3.2.1.2.1,v3.2.1.2.2.1,()),(3:Int),())with
 |none=>none
 |some v4=>
 ab (av [(-1:Int),(31:Int),(32:Int)] v4.1) fun _=>
 match [(-1:Int),(31:Int),(32:Int)][v4.1.toNat]? with
 |none=>none
 |some v6=>
 ab (av v1.1 v2.1) fun _=>
 match v1.1[v2.1.toNat]? with
 |none=>none
 |some v8=>
 some ((v1.1.set v2.1.toNat (v6,v8.2.1,v8.2.2.1,v8.2.2.2.1,())),(v4.2.1.1,v4.2.1.2.1,v4.2.1.2.2.1,()),())
|false=>
 match(v3.1==(1:Int))with
 |true=>
  match aa ((v3.2.1.1,v3.2.1.2.1,v3.2.1.2.2.1,()),(5:Int),())with
  |none=>none
  |some v9=>
  ab (av [[],([115,101,118,101,110,110,55]:List UInt8),([115,105,120,120,120,54]:List UInt8),([78,49]:List UInt8),([110,48]:List UInt8)] v9.1) fun _=>
  match [[],([115,101,118,101,110,110,55]:List UInt8),([115,105,120,120,120,54]:List UInt8),([78,49]:List UInt8),([110,48]:List UInt8)][v9.1.toNat]? with
  |none=>none
  |some v11=>
  ab (av v1.1 v2.1) fun _=>
  match v1.1[v2.1.toNat]? with
  |none=>none
  |some v13=>
  some ((v1.1.set v2.1.toNat (v13.1,v11,v13.2.2.1,v13.2.2.2.1,())),(v9.2.1.1,v9.2.1.2.1,v9.2.1.2.2.1,()),())
 |false=>
  match(v3.1==(2:Int))with
  |true=>
   match aa ((v3.2.1.1,v3.2.1.2.1,v3.2.1.2.2.1,()),(3:Int),())with
   |none=>none
   |some v14=>
   ab (av [(-1:Int),(1000:Int),(1001:Int)] v14.1) fun _=>
   match [(-1:Int),(1000:Int),(1001:Int)][v14.1.toNat]? with
   |none=>none
   |some v16=>
   ab (av v1.1 v2.1) fun _=>
   match v1.1[v2.1.toNat]? with
   |none=>none
   |some v18=>
   some ((v1.1.set v2.1.toNat (v18.1,v18.2.1,v16,v18.2.2.2.1,())),(v14.2.1.1,v14.2.1.2.1,v14.2.1.2.2.1,()),())
  |false=>
   match(v3.1==(3:Int))with
   |true=>
    ab (av v1.1 v2.1) fun _=>
    match v1.1[v2.1.toNat]? with
    |none=>none
    |some v20=>
    aH (v1.1.length+ [v20].length) (
     some ((v1.1++ [v20]),(v3.2.1.1,v3.2.1.2.1,v3.2.1.2.2.1,()),()))
   |false=>
    match(v3.1==(4:Int))with
    |true=>
     some ([],(v3.2.1.1,v3.2.1.2.1,v3.2.1.2.2.1,()),())
    |false=>
     some (v1.1,(v3.2.1.1,v3.2.1.2.1,v3.2.1.2.2.1,()),())
noncomputable def Ak:ae:=⟨_,ZM,dY,rfl,qm⟩
theorem Lb:FnOK G0 Tryz.prog 193 Ak:=aq ap (sg bh (sg Fx (aU))) Tryz.func193
abbrev tU:Ty:=(.pair (.box ah) (.pair (.own 141 (.pair (.int .i64) (.pair (.int .i64) (.pair (.own 2 (.int .i64)) .unit)))) (.pair (.int .i64) (.pair (.int .i64) (.pair (.own 2 (.int .i64)) (.pair (.int .i64) .unit))))))
abbrev Da:Ty:=(.pair (.box ah) (.pair (.own 141 (.pair (.int .i64) (.pair (.int .i64) (.pair (.own 2 (.int .i64)) .unit)))) (.pair (.int .i64) (.pair (.int .i64) (.pair (.own 2 (.int .i64)) .unit)))))
noncomputable def gu(x:(Ty.T tU)):Option ((Ty.T tU) ⊕ ((Ty.T Da) ⊕ (Ty.T .unit))):=
match(decide (x.2.2.2.2.2.1<x.2.2.1))with
|true=>
 match(x.2.2.2.2.2.1 != x.2.2.2.1)with
 |true=>
  match aa ((x.1.1,x.1.2.1,x.1.2.2.1,()),(2:Int),())with
  |none=>none
  |some v2=>
  match(v2.1==(0:Int))with
  |true=>
   aH (x.2.2.2.2.1.length+ [x.2.2.2.2.2.1].length) (
    some (.inl ((v2.2.1.1,v2.2.1.2.1,v2.2.1.2.2.1,()),x.2.1,x.2.2.1,x.2.2.2.1,(x.2.2.2.2.1++ [x.2.2.2.2.2.1]),(IntKind.i64.wrap (x.2.2.2.2.2.1+(1:Int))),())))
  |false=>
   some (.inl ((v2.2.1.1,v2.2.1.2.1,v2.2.1.2.2.1,()),x.2.1,x.2.2.1,x.2.2.2.1,x.2.2.2.2.1,(IntKind.i64.wrap (x.2.2.2.2.2.1+(1:Int))),()))
 |false=>
  some (.inl ((x.1.1,x.1.2.1,x.1.2.2.1,()),x.2.1,x.2.2.1,x.2.2.2.1,x.2.2.2.2.1,(IntKind.i64.wrap (x.2.2.2.2.2.1+(1:Int))),()))
|false=>
 some (.inr (.inl ((x.1.1,x.1.2.1,x.1.2.2.1,()),x.2.1,x.2.2.1,x.2.2.2.1,x.2.2.2.2.1,())))
abbrev tV:Ty:=(.pair (.box ah) (.pair (.own 141 (.pair (.int .i64) (.pair (.int .i64) (.pair (.own 2 (.int .i64)) .unit)))) bM))
abbrev Db:Ty:=(.pair (.box ah) (.pair (.own 141 (.pair (.int .i64) (.pair (.int .i64) (.pair (.own 2 (.int .i64)) .unit)))) .unit))
noncomputable def jF(x:(Ty.T tV)):Option ((Ty.T tV) ⊕ ((Ty.T Db) ⊕ (Ty.T .unit))):=
match(decide (x.2.2.2.1<x.2.2.1))with
|true=>
 match ac gu ((x.1.1,x.1.2.1,x.1.2.2.1,()),x.2.1,x.2.2.1,x.2.2.2.1,[],(0:Int),())with
 |none=>none
 |some (.inl v2)=>
  match aa ((v2.1.1,v2.1.2.1,v2.1.2.2.1,()),(3:Int),())with
  |none=>none
  |some v4=>
  match aa ((v4.2.1.1,v4.2.1.2.1,v4.2.1.2.2.1,()),(4:Int),())with
  |none=>none
  |some v5=>
  aH (v2.2.1.length+ [((IntKind.i64.wrap ((1:Int)+v4.1)),(IntKind.i64.wrap ((1:Int)+v5.1)),v2.2.2.2.2.1,())].length) (
   some (.inl ((v5.2.1.1,v5.2.1.2.1,v5.2.1.2.2.1,()),(v2.2.1++ [((IntKind.i64.wrap ((1:Int)+v4.1)),(IntKind.i64.wrap ((1:Int)+v5.1)),v2.2.2.2.2.1,())]),v2.2.2.1,(IntKind.i64.wrap (v2.2.2.2.1+(1:Int))),())))
 |some (.inr v6)=>
  some (.inr (.inr (())))
|false=>
 some (.inr (.inl ((x.1.1,x.1.2.1,x.1.2.2.1,()),x.2.1,())))
noncomputable def yo(x:Ty.T dY):Option (Ty.T aaj):=
match aa ((x.1.1,x.1.2.1,x.1.2.2.1,()),(4:Int),())with
|none=>none
|some v1=>
match ac jF ((v1.2.1.1,v1.2.1.2.1,v1.2.1.2.2.1,()),[],(IntKind.i64.wrap ((1:Int)+v1.1)),(0:Int),())with
|none=>none
|some (.inl v7)=>
 some (v7.2.1,(v7.1.1,v7.1.2.1,v7.1.2.2.1,()),())
|some (.inr v9)=>
 none
noncomputable def SJ:ae:=⟨_,aaf,dY,rfl,yo⟩
noncomputable def xb:FuncId→Option ae:=bH [(42,de)]
theorem Nc:∀f s,xb f=some s→FnOK G0 Tryz.prog f s:=aK ⟨bh,trivial⟩
def Dc:aX:=⟨[0,3,4,5],tV,0,[0,3],Db,[],.unit⟩
def Dd:aX:=⟨[0,3,4,5,6,7],tU,2,[0,3,4,5,6],Da,[],.unit⟩
noncomputable def xd:List aD:=[Dc.spec jF,Dd.spec gu]
theorem Lc:bi Γ2 E2 xb (be Tryz.f237 xd) Tryz.f237 0 Dc jF:=fun x=>by kernel_rfl
theorem Ld:bi Γ2 E2 xb (be Tryz.f237 xd) Tryz.f237 1 Dd gu:=fun x=>by kernel_rfl
theorem QT:FnOK G0 Tryz.prog 237 SJ:=aO aam Nc Tryz.func237 xd (by kernel_rfl) (by exact⟨(Lc).lok,(Ld).lok,trivial⟩) fun x=>by kernel_rfl
noncomputable def qn(x:Ty.T dY):Option (Ty.T aaj):=
match yo ((x.1.1,x.1.2.1,x.1.2.2.1,()),())with
|none=>none
|some v1=>
match aa ((v1.2.1.1,v1.2.1.2.1,v1.2.1.2.2.1,()),(v1.1.length:Int),())with
|none=>none
|some v2=>
match aa ((v2.2.1.1,v2.2.1.2.1,v2.2.1.2.2.1,()),(24:Int),())with
|none=>none
|some v3=>
match(v3.1==(0:Int))with
|true=>
 match aa ((v3.2.1.1,v3.2.1.2.1,v3.2.1.2.2.1,()),(3:Int),())with
 |none=>none
 |some v4=>
 ab (av [(0:Int),(8:Int),(9:Int)] v4.1) fun _=>
 match [(0:Int),(8:Int),(9:Int)][v4.1.toNat]? with
 |none=>none
 |some v6=>
 ab (av v1.1 v2.1) fun _=>
 match v1.1[v2.1.toNat]? with
 |none=>none
 |some v8=>
 some ((v1.1.set v2.1.toNat (v6,v8.2)),(v4.2.1.1,v4.2.1.2.1,v4.2.1.2.2.1,()),())
|false=>
 match(v3.1==(1:Int))with
 |true=>
  match aa ((v3.2.1.1,v3.2.1.2.1,v3.2.1.2.2.1,()),(3:Int),())with
  |none=>none
  |some v9=>
  ab (av [(0:Int),(16:Int),(17:Int)] v9.1) fun _=>
  match [(0:Int),(16:Int),(17:Int)][v9.1.toNat]? with
  |none=>none
  |some v11=>
  ab (av v1.1 v2.1) fun _=>
  match v1.1[v2.1.toNat]? with
  |none=>none
  |some v13=>
  some ((v1.1.set v2.1.toNat (v13.1,(v11,v13.2.2))),(v9.2.1.1,v9.2.1.2.1,v9.2.1.2.2.1,()),())
 |false=>
  match(v3.1==(2:Int))with
  |true=>
   ab (av v1.1 v2.1) fun _=>
   al (
    match v1.1[v2.1.toNat]? with
    |none=>none
    |some v15=>
    al (
     an (
      match aa ((v3.2.1.1,v3.2.1.2.1,v3.2.1.2.2.1,()),(3:Int),())with
      |none=>none
      |some v16=>
      ab (av [v2.1,(v1.1.length:Int),(0:Int)] v16.1) fun _=>
      match [v2.1,(v1.1.length:Int),(0:Int)][v16.1.toNat]? with
      |none=>none
      |some v18=>
      aH (v15.2.2.1.length+ [v18].length) (
       ab (av v1.1 v2.1) fun _=>
       if v2.1.toNat=v2.1.toNat then
        some ((v1.1.set v2.1.toNat (v15.1,(v15.2.1,((v15.2.2.1++ [v18]),v15.2.2.2)))),(v16.2.1.1,v16.2.1.2.1,v16.2.1.2.2.1,()),())
       else none))) (
     match aa ((v3.2.1.1,v3.2.1.2.1,v3.2.1.2.2.1,()),(3:Int),())with
     |none=>none
     |some v16=>
     ab (av [v2.1,(v1.1.length:Int),(0:Int)] v16.1) fun _=>
     match [v2.1,(v1.1.length:Int),(0:Int)][v16.1.toNat]? with
     |none=>none
     |some v18=>
     aH (v15.2.2.1.length+ [v18].length) (
      ab (av v1.1 v2.1) fun _=>
      if v2.1.toNat=v2.1.toNat then
       some ((v1.1.set v2.1.toNat (v15.1,(v15.2.1,((v15.2.2.1++ [v18]),v15.2.2.2)))),(v16.2.1.1,v16.2.1.2.1,v16.2.1.2.2.1,()),())
      else none))) (
    al (
     al (
      match v1.1[v2.1.toNat]? with
      |none=>none
      |some v15=>
      an (
       match aa ((v3.2.1.1,v3.2.1.2.1,v3.2.1.2.2.1,()),(3:Int),())with
       |none=>none
       |some v16=>
       ab (av [v2.1,(v1.1.length:Int),(0:Int)] v16.1) fun _=>
       match [v2.1,(v1.1.length:Int),(0:Int)][v16.1.toNat]? with
       |none=>none
       |some v18=>
       aH (v15.2.2.1.length+ [v18].length) (
        ab (av v1.1 v2.1) fun _=>
        if v2.1.toNat=v2.1.toNat then
         some ((v1.1.set v2.1.toNat (v15.1,(v15.2.1,((v15.2.2.1++ [v18]),v15.2.2.2)))),(v16.2.1.1,v16.2.1.2.1,v16.2.1.2.2.1,()),())
        else none))) (
      al (
       al (
        match v1.1[v2.1.toNat]? with
        |none=>none
        |some v15=>
        match aa ((v3.2.1.1,v3.2.1.2.1,v3.2.1.2.2.1,()),(3:Int),())with
        |none=>none
        |some v16=>
        ab (av [v2.1,(v1.1.length:Int),(0:Int)] v16.1) fun _=>
        match [v2.1,(v1.1.length:Int),(0:Int)][v16.1.toNat]? with
        |none=>none
        |some v18=>
        aH (v15.2.2.1.length+ [v18].length) (
         ab (av v1.1 v2.1) fun _=>
         if v2.1.toNat=v2.1.toNat then
          some ((v1.1.set v2.1.toNat (v15.1,(v15.2.1,((v15.2.2.1++ [v18]),v15.2.2.2)))),(v16.2.1.1,v16.2.1.2.1,v16.2.1.2.2.1,()),())
         else none)) (
        match aa ((v3.2.1.1,v3.2.1.2.1,v3.2.1.2.2.1,()),(3:Int),())with
        |none=>none
        |some v15=>
        ab (av [v2.1,(v1.1.length:Int),(0:Int)] v15.1) fun _=>
        al (
         match v1.1[v2.1.toNat]? with
         |none=>none
         |some v17=>
         match [v2.1,(v1.1.length:Int),(0:Int)][v15.1.toNat]? with
         |none=>none
         |some v18=>
         aH (v17.2.2.1.length+ [v18].length) (
          ab (av v1.1 v2.1) fun _=>
          if v2.1.toNat=v2.1.toNat then
           some ((v1.1.set v2.1.toNat (v17.1,(v17.2.1,((v17.2.2.1++ [v18]),v17.2.2.2)))),(v15.2.1.1,v15.2.1.2.1,v15.2.1.2.2.1,()),())
          else none)) (
         match [v2.1,(v1.1.length:Int),(0:Int)][v15.1.toNat]? with
         |none=>none
         |some v17=>
         an (
          match v1.1[v2.1.toNat]? with
          |none=>none
          |some v18=>
          aH (v18.2.2.1.length+ [v17].length) (
           ab (av v1.1 v2.1) fun _=>
           if v2.1.toNat=v2.1.toNat then
            some ((v1.1.set v2.1.toNat (v18.1,(v18.2.1,((v18.2.2.1++ [v17]),v18.2.2.2)))),(v15.2.1.1,v15.2.1.2.1,v15.2.1.2.2.1,()),())
           else none))))) (
       match aa ((v3.2.1.1,v3.2.1.2.1,v3.2.1.2.2.1,()),(3:Int),())with
       |none=>none
       |some v15=>
       al (
        match v1.1[v2.1.toNat]? with
        |none=>none
        |some v16=>
        ab (av [v2.1,(v1.1.length:Int),(0:Int)] v15.1) fun _=>
        match [v2.1,(v1.1.length:Int),(0:Int)][v15.1.toNat]? with
        |none=>none
        |some v18=>
        aH (v16.2.2.1.length+ [v18].length) (
         ab (av v1.1 v2.1) fun _=>
         if v2.1.toNat=v2.1.toNat then
          some ((v1.1.set v2.1.toNat (v16.1,(v16.2.1,((v16.2.2.1++ [v18]),v16.2.2.2)))),(v15.2.1.1,v15.2.1.2.1,v15.2.1.2.2.1,()),())
         else none)) (
        ab (av [v2.1,(v1.1.length:Int),(0:Int)] v15.1) fun _=>
        al (
         match v1.1[v2.1.toNat]? with
         |none=>none
         |some v17=>
         match [v2.1,(v1.1.length:Int),(0:Int)][v15.1.toNat]? with
         |none=>none
         |some v18=>
         aH (v17.2.2.1.length+ [v18].length) (
          ab (av v1.1 v2.1) fun _=>
          if v2.1.toNat=v2.1.toNat then
           some ((v1.1.set v2.1.toNat (v17.1,(v17.2.1,((v17.2.2.1++ [v18]),v17.2.2.2)))),(v15.2.1.1,v15.2.1.2.1,v15.2.1.2.2.1,()),())
          else none)) (
         match [v2.1,(v1.1.length:Int),(0:Int)][v15.1.toNat]? with
         |none=>none
         |some v17=>
         an (
          match v1.1[v2.1.toNat]? with
          |none=>none
          |some v18=>
          aH (v18.2.2.1.length+ [v17].length) (
           ab (av v1.1 v2.1) fun _=>
           if v2.1.toNat=v2.1.toNat then
            some ((v1.1.set v2.1.toNat (v18.1,(v18.2.1,((v18.2.2.1++ [v17]),v18.2.2.2)))),(v15.2.1.1,v15.2.1.2.1,v15.2.1.2.2.1,()),())
           else none))))))) (
     match aa ((v3.2.1.1,v3.2.1.2.1,v3.2.1.2.2.1,()),(3:Int),())with
     |none=>none
     |some v15=>
     al (
      match v1.1[v2.1.toNat]? with
      |none=>none
      |some v16=>
      ab (av [v2.1,(v1.1.length:Int),(0:Int)] v15.1) fun _=>
      match [v2.1,(v1.1.length:Int),(0:Int)][v15.1.toNat]? with
      |none=>none
      |some v18=>
      aH (v16.2.2.1.length+ [v18].length) (
       ab (av v1.1 v2.1) fun _=>
       if v2.1.toNat=v2.1.toNat then
        some ((v1.1.set v2.1.toNat (v16.1,(v16.2.1,((v16.2.2.1++ [v18]),v16.2.2.2)))),(v15.2.1.1,v15.2.1.2.1,v15.2.1.2.2.1,()),())
       else none)) (
      al (
       match v1.1[v2.1.toNat]? with
       |none=>none
       |some v16=>
       ab (av [v2.1,(v1.1.length:Int),(0:Int)] v15.1) fun _=>
       match [v2.1,(v1.1.length:Int),(0:Int)][v15.1.toNat]? with
       |none=>none
       |some v18=>
       aH (v16.2.2.1.length+ [v18].length) (
        ab (av v1.1 v2.1) fun _=>
        if v2.1.toNat=v2.1.toNat then
         some ((v1.1.set v2.1.toNat (v16.1,(v16.2.1,((v16.2.2.1++ [v18]),v16.2.2.2)))),(v15.2.1.1,v15.2.1.2.1,v15.2.1.2.2.1,()),())
        else none)) (
       ab (av [v2.1,(v1.1.length:Int),(0:Int)] v15.1) fun _=>
       al (
        match v1.1[v2.1.toNat]? with
        |none=>none
        |some v17=>
        match [v2.1,(v1.1.length:Int),(0:Int)][v15.1.toNat]? with
        |none=>none
        |some v18=>
        aH (v17.2.2.1.length+ [v18].length) (
         ab (av v1.1 v2.1) fun _=>
         if v2.1.toNat=v2.1.toNat then
          some ((v1.1.set v2.1.toNat (v17.1,(v17.2.1,((v17.2.2.1++ [v18]),v17.2.2.2)))),(v15.2.1.1,v15.2.1.2.1,v15.2.1.2.2.1,()),())
         else none)) (
        match [v2.1,(v1.1.length:Int),(0:Int)][v15.1.toNat]? with
        |none=>none
        |some v17=>
        an (
         match v1.1[v2.1.toNat]? with
         |none=>none
         |some v18=>
         aH (v18.2.2.1.length+ [v17].length) (
          ab (av v1.1 v2.1) fun _=>
          if v2.1.toNat=v2.1.toNat then
           some ((v1.1.set v2.1.toNat (v18.1,(v18.2.1,((v18.2.2.1++ [v17]),v18.2.2.2)))),(v15.2.1.1,v15.2.1.2.1,v15.2.1.2.2.1,()),())
          else none)))))))
  |false=>
   match(v3.1==(3:Int))with
   |true=>
    some ([],(v3.2.1.1,v3.2.1.2.1,v3.2.1.2.2.1,()),())
   |false=>
    match(v3.1==(4:Int))with
    |true=>
     if 0≤(17:Int)∧(17:Int)≤(17:Int)then
      aH ((17:Int).toNat) (
       some ((List.replicate (17:Int).toNat ((0:Int),(0:Int),[],())),(v3.2.1.1,v3.2.1.2.1,v3.2.1.2.2.1,()),()))
     else none
    |false=>
     some (v1.1,(v3.2.1.1,v3.2.1.2.1,v3.2.1.2.2.1,()),())
noncomputable def Al:ae:=⟨_,aaf,dY,rfl,qn⟩
theorem Le:FnOK G0 Tryz.prog 194 Al:=aq aam (sg bh (sg QT (aU))) Tryz.func194
noncomputable def qo(x:Ty.T dY):Option (Ty.T Z0):=
match pB ((x.1.1,x.1.2.1,x.1.2.2.1,()),())with
|none=>none
|some v1=>
match aa ((v1.2.1.1,v1.2.1.2.1,v1.2.1.2.2.1,()),(30:Int),())with
|none=>none
|some v2=>
match(v2.1==(0:Int))with
|true=>
 match aa ((v2.2.1.1,v2.2.1.2.1,v2.2.1.2.2.1,()),(3:Int),())with
 |none=>none
 |some v3=>
 ab (av [(-1:Int),(31:Int),(32:Int)] v3.1) fun _=>
 match [(-1:Int),(31:Int),(32:Int)][v3.1.toNat]? with
 |none=>none
 |some v5=>
 some ((v5,v1.1.2.1,v1.1.2.2.1,v1.1.2.2.2.1,v1.1.2.2.2.2.1,()),(v3.2.1.1,v3.2.1.2.1,v3.2.1.2.2.1,()),())
|false=>
 match(v2.1==(1:Int))with
 |true=>
  match aa ((v2.2.1.1,v2.2.1.2.1,v2.2.1.2.2.1,()),(6:Int),())with
  |none=>none
  |some v6=>
  some ((v1.1.1,(IntKind.i64.wrap (v6.1-(1:Int))),v1.1.2.2.1,v1.1.2.2.2.1,v1.1.2.2.2.2.1,()),(v6.2.1.1,v6.2.1.2.1,v6.2.1.2.2.1,()),())
 |false=>
  match(v2.1==(2:Int))with
  |true=>
   match aa ((v2.2.1.1,v2.2.1.2.1,v2.2.1.2.2.1,()),(4:Int),())with
   |none=>none
   |some v7=>
   ab (av [(-1:Int),(0:Int),(32:Int),(33:Int)] v7.1) fun _=>
   match [(-1:Int),(0:Int),(32:Int),(33:Int)][v7.1.toNat]? with
   |none=>none
   |some v9=>
   some ((v1.1.1,v1.1.2.1,v9,v1.1.2.2.2.1,v1.1.2.2.2.2.1,()),(v7.2.1.1,v7.2.1.2.1,v7.2.1.2.2.1,()),())
  |false=>
   match(v2.1==(3:Int))with
   |true=>
    match dU (v1.1.2.1,v1.1.2.2.1,())with
    |none=>none
    |some v10=>
    match aa ((v2.2.1.1,v2.2.1.2.1,v2.2.1.2.2.1,()),(4:Int),())with
    |none=>none
    |some v11=>
    ab (av [(0:Int),(IntKind.i64.wrap ((IntKind.i64.wrap (v10.1+(20:Int)))-(1:Int))),(1000:Int),(1001:Int)] v11.1) fun _=>
    match [(0:Int),(IntKind.i64.wrap ((IntKind.i64.wrap (v10.1+(20:Int)))-(1:Int))),(1000:Int),(1001:Int)][v11.1.toNat]? with
    |none=>none
    |some v13=>
    some ((v1.1.1,v1.1.2.1,v1.1.2.2.1,v13,v1.1.2.2.2.2.1,()),(v11.2.1.1,v11.2.1.2.1,v11.2.1.2.2.1,()),())
   |false=>
    match(v2.1==(4:Int))with
    |true=>
     some ((v1.1.1,v1.1.2.1,v1.1.2.2.1,v1.1.2.2.2.1,(!v1.1.2.2.2.2.1),()),(v2.2.1.1,v2.2.1.2.1,v2.2.1.2.2.1,()),())
    |false=>
     some ((v1.1.1,v1.1.2.1,v1.1.2.2.1,v1.1.2.2.2.1,v1.1.2.2.2.2.1,()),(v2.2.1.1,v2.2.1.2.1,v2.2.1.2.2.1,()),())
noncomputable def Am:ae:=⟨_,Et,dY,rfl,qo⟩
theorem Lf:FnOK G0 Tryz.prog 195 Am:=aq ap (sg bh (sg tP (sg Fy (aU)))) Tryz.func195
abbrev nK:Ty:=(.pair (.box ah) (.pair (.box ar) (.pair (.box (.pair (.int .i64) (.pair (.own 103 aA) (.pair (.own 141 aG) (.pair (.own 116 ao) .unit))))) (.pair (.int .i64) .unit))))
abbrev uW:Ty:=(.pair (.box ah) (.pair (.box ar) (.pair (.box (.pair (.int .i64) (.pair (.own 103 aA) (.pair (.own 141 aG) (.pair (.own 116 ao) .unit))))) .unit)))
noncomputable def dR(x:(Ty.T nK)):Option ((Ty.T nK) ⊕ ((Ty.T uW) ⊕ (Ty.T .unit))):=
match(decide (x.2.2.2.1<(x.2.2.1.2.2.2.1.length:Int)))with
|true=>
 ab (av x.2.2.1.2.2.2.1 x.2.2.2.1) fun _=>
 match x.2.2.1.2.2.2.1[x.2.2.2.1.toNat]? with
 |none=>none
 |some v27=>
 some (.inl ((x.1.1,x.1.2.1,x.1.2.2.1,()),(x.2.1.1,x.2.1.2.1,x.2.1.2.2.1,x.2.1.2.2.2.1,()),(x.2.2.1.1,x.2.2.1.2.1,x.2.2.1.2.2.1,(x.2.2.1.2.2.2.1.set x.2.2.2.1.toNat (v27.1,v27.2.1,v27.2.2.1,(v27.2.2.2.1.1,v27.2.2.2.1.2.1,v27.2.2.2.1.2.2.1,(1000:Int),v27.2.2.2.1.2.2.2.2.1,()),())),()),(IntKind.i64.wrap (x.2.2.2.1+(1:Int))),()))
|false=>
 some (.inr (.inl ((x.1.1,x.1.2.1,x.1.2.2.1,()),(x.2.1.1,x.2.1.2.1,x.2.1.2.2.1,x.2.1.2.2.2.1,()),(x.2.2.1.1,x.2.2.1.2.1,x.2.2.1.2.2.1,x.2.2.1.2.2.2.1,()),())))
abbrev nL:Ty:=(.pair (.box ah) (.pair (.box ar) (.pair (.box (.pair (.int .i64) (.pair (.own 103 aA) (.pair (.own 141 aG) (.pair (.list ao) .unit))))) (.pair (.own 116 ao) (.pair (.int .i64) .unit)))))
abbrev uX:Ty:=(.pair (.box ah) (.pair (.box ar) (.pair (.box (.pair (.int .i64) (.pair (.own 103 aA) (.pair (.own 141 aG) (.pair (.list ao) .unit))))) (.pair (.own 116 ao) .unit))))
noncomputable def cw(x:(Ty.T nL)):Option ((Ty.T nL) ⊕ ((Ty.T uX) ⊕ (Ty.T .unit))):=
ab (av x.2.2.1.2.2.1 (0:Int)) fun _=>
match x.2.2.1.2.2.1[(0:Int).toNat]? with
|none=>none
|some v33=>
ab (av x.2.2.1.2.2.1 (0:Int)) fun _=>
match x.2.2.1.2.2.1[(0:Int).toNat]? with
|none=>none
|some v35=>
match(decide (x.2.2.2.2.1<(IntKind.i64.wrap (v33.1*v35.2.1))))with
|true=>
 al (
  ab (av x.2.2.1.2.2.1 (0:Int)) fun _=>
  al (
   match x.2.2.1.2.2.1[(0:Int).toNat]? with
   |none=>none
   |some v37=>
   if v37.2.1=0 then none else
   ab (av x.2.2.1.2.2.1 (0:Int)) fun _=>
   match x.2.2.1.2.2.1[(0:Int).toNat]? with
   |none=>none
   |some v39=>
   if v39.2.1=0 then none else
   aH (x.2.2.2.1.length+ [((0:Int),(IntKind.i64.wrap (Int.tdiv x.2.2.2.2.1 v37.2.1)),(Int.tmod x.2.2.2.2.1 v39.2.1),((0:Int),(1:Int),(0:Int),(1000:Int),false,()),())].length) (
    some (.inl ((x.1.1,x.1.2.1,x.1.2.2.1,()),(x.2.1.1,x.2.1.2.1,x.2.1.2.2.1,x.2.1.2.2.2.1,()),(x.2.2.1.1,x.2.2.1.2.1,x.2.2.1.2.2.1,x.2.2.1.2.2.2.1,()),(x.2.2.2.1++ [((0:Int),(IntKind.i64.wrap (Int.tdiv x.2.2.2.2.1 v37.2.1)),(Int.tmod x.2.2.2.2.1 v39.2.1),((0:Int),(1:Int),(0:Int),(1000:Int),false,()),())]),(IntKind.i64.wrap (x.2.2.2.2.1+(1:Int))),())))) (
   ab (av x.2.2.1.2.2.1 (0:Int)) fun _=>
   al (
    match x.2.2.1.2.2.1[(0:Int).toNat]? with
    |none=>none
    |some v38=>
    if v38.2.1=0 then none else
    match x.2.2.1.2.2.1[(0:Int).toNat]? with
    |none=>none
    |some v39=>
    if v39.2.1=0 then none else
    aH (x.2.2.2.1.length+ [((0:Int),(IntKind.i64.wrap (Int.tdiv x.2.2.2.2.1 v38.2.1)),(Int.tmod x.2.2.2.2.1 v39.2.1),((0:Int),(1:Int),(0:Int),(1000:Int),false,()),())].length) (
     some (.inl ((x.1.1,x.1.2.1,x.1.2.2.1,()),(x.2.1.1,x.2.1.2.1,x.2.1.2.2.1,x.2.1.2.2.2.1,()),(x.2.2.1.1,x.2.2.1.2.1,x.2.2.1.2.2.1,x.2.2.1.2.2.2.1,()),(x.2.2.2.1++ [((0:Int),(IntKind.i64.wrap (Int.tdiv x.2.2.2.2.1 v38.2.1)),(Int.tmod x.2.2.2.2.1 v39.2.1),((0:Int),(1:Int),(0:Int),(1000:Int),false,()),())]),(IntKind.i64.wrap (x.2.2.2.2.1+(1:Int))),())))) (
    match x.2.2.1.2.2.1[(0:Int).toNat]? with
    |none=>none
    |some v38=>
    if v38.2.1=0 then none else
    match x.2.2.1.2.2.1[(0:Int).toNat]? with
    |none=>none
    |some v39=>
    if v39.2.1=0 then none else
    aH (x.2.2.2.1.length+ [((0:Int),(IntKind.i64.wrap (Int.tdiv x.2.2.2.2.1 v39.2.1)),(Int.tmod x.2.2.2.2.1 v38.2.1),((0:Int),(1:Int),(0:Int),(1000:Int),false,()),())].length) (
     some (.inl ((x.1.1,x.1.2.1,x.1.2.2.1,()),(x.2.1.1,x.2.1.2.1,x.2.1.2.2.1,x.2.1.2.2.2.1,()),(x.2.2.1.1,x.2.2.1.2.1,x.2.2.1.2.2.1,x.2.2.1.2.2.2.1,()),(x.2.2.2.1++ [((0:Int),(IntKind.i64.wrap (Int.tdiv x.2.2.2.2.1 v39.2.1)),(Int.tmod x.2.2.2.2.1 v38.2.1),((0:Int),(1:Int),(0:Int),(1000:Int),false,()),())]),(IntKind.i64.wrap (x.2.2.2.2.1+(1:Int))),())))))) (
  ab (av x.2.2.1.2.2.1 (0:Int)) fun _=>
  al (
   ab (av x.2.2.1.2.2.1 (0:Int)) fun _=>
   al (
    match x.2.2.1.2.2.1[(0:Int).toNat]? with
    |none=>none
    |some v38=>
    if v38.2.1=0 then none else
    match x.2.2.1.2.2.1[(0:Int).toNat]? with
    |none=>none
    |some v39=>
    if v39.2.1=0 then none else
    aH (x.2.2.2.1.length+ [((0:Int),(IntKind.i64.wrap (Int.tdiv x.2.2.2.2.1 v38.2.1)),(Int.tmod x.2.2.2.2.1 v39.2.1),((0:Int),(1:Int),(0:Int),(1000:Int),false,()),())].length) (
     some (.inl ((x.1.1,x.1.2.1,x.1.2.2.1,()),(x.2.1.1,x.2.1.2.1,x.2.1.2.2.1,x.2.1.2.2.2.1,()),(x.2.2.1.1,x.2.2.1.2.1,x.2.2.1.2.2.1,x.2.2.1.2.2.2.1,()),(x.2.2.2.1++ [((0:Int),(IntKind.i64.wrap (Int.tdiv x.2.2.2.2.1 v38.2.1)),(Int.tmod x.2.2.2.2.1 v39.2.1),((0:Int),(1:Int),(0:Int),(1000:Int),false,()),())]),(IntKind.i64.wrap (x.2.2.2.2.1+(1:Int))),())))) (
    match x.2.2.1.2.2.1[(0:Int).toNat]? with
    |none=>none
    |some v38=>
    if v38.2.1=0 then none else
    match x.2.2.1.2.2.1[(0:Int).toNat]? with
    |none=>none
    |some v39=>
    if v39.2.1=0 then none else
    aH (x.2.2.2.1.length+ [((0:Int),(IntKind.i64.wrap (Int.tdiv x.2.2.2.2.1 v39.2.1)),(Int.tmod x.2.2.2.2.1 v38.2.1),((0:Int),(1:Int),(0:Int),(1000:Int),false,()),())].length) (
     some (.inl ((x.1.1,x.1.2.1,x.1.2.2.1,()),(x.2.1.1,x.2.1.2.1,x.2.1.2.2.1,x.2.1.2.2.2.1,()),(x.2.2.1.1,x.2.2.1.2.1,x.2.2.1.2.2.1,x.2.2.1.2.2.2.1,()),(x.2.2.2.1++ [((0:Int),(IntKind.i64.wrap (Int.tdiv x.2.2.2.2.1 v39.2.1)),(Int.tmod x.2.2.2.2.1 v38.2.1),((0:Int),(1:Int),(0:Int),(1000:Int),false,()),())]),(IntKind.i64.wrap (x.2.2.2.2.1+(1:Int))),()))))) (
   match x.2.2.1.2.2.1[(0:Int).toNat]? with
   |none=>none
   |some v37=>
   if v37.2.1=0 then none else
   ab (av x.2.2.1.2.2.1 (0:Int)) fun _=>
   match x.2.2.1.2.2.1[(0:Int).toNat]? with
   |none=>none
   |some v39=>
   if v39.2.1=0 then none else
   aH (x.2.2.2.1.length+ [((0:Int),(IntKind.i64.wrap (Int.tdiv x.2.2.2.2.1 v39.2.1)),(Int.tmod x.2.2.2.2.1 v37.2.1),((0:Int),(1:Int),(0:Int),(1000:Int),false,()),())].length) (
    some (.inl ((x.1.1,x.1.2.1,x.1.2.2.1,()),(x.2.1.1,x.2.1.2.1,x.2.1.2.2.1,x.2.1.2.2.2.1,()),(x.2.2.1.1,x.2.2.1.2.1,x.2.2.1.2.2.1,x.2.2.1.2.2.2.1,()),(x.2.2.2.1++ [((0:Int),(IntKind.i64.wrap (Int.tdiv x.2.2.2.2.1 v39.2.1)),(Int.tmod x.2.2.2.2.1 v37.2.1),((0:Int),(1:Int),(0:Int),(1000:Int),false,()),())]),(IntKind.i64.wrap (x.2.2.2.2.1+(1:Int))),())))))
|false=>
 some (.inr (.inl ((x.1.1,x.1.2.1,x.1.2.2.1,()),(x.2.1.1,x.2.1.2.1,x.2.1.2.2.1,x.2.1.2.2.2.1,()),(x.2.2.1.1,x.2.2.1.2.1,x.2.2.1.2.2.1,x.2.2.1.2.2.2.1,()),x.2.2.2.1,())))
noncomputable def mz(x:Ty.T dY):Option (Ty.T (.pair ar (.pair (.box ah) .unit))):=
match yn ((x.1.1,x.1.2.1,x.1.2.2.1,()),())with
|none=>none
|some v1=>
match aa ((v1.2.1.1,v1.2.1.2.1,v1.2.1.2.2.1,()),(v1.1.2.2.2.1.length:Int),())with
|none=>none
|some v2=>
match aa ((v2.2.1.1,v2.2.1.2.1,v2.2.1.2.2.1,()),(30:Int),())with
|none=>none
|some v3=>
match(v3.1==(0:Int))with
|true=>
 match aa ((v3.2.1.1,v3.2.1.2.1,v3.2.1.2.2.1,()),(3:Int),())with
 |none=>none
 |some v4=>
 ab (av [(0:Int),(16777215:Int),(16777216:Int)] v4.1) fun _=>
 match [(0:Int),(16777215:Int),(16777216:Int)][v4.1.toNat]? with
 |none=>none
 |some v6=>
 some ((v6,v1.1.2.1,v1.1.2.2.1,v1.1.2.2.2.1,()),(v4.2.1.1,v4.2.1.2.1,v4.2.1.2.2.1,()),())
|false=>
 match(v3.1==(1:Int))with
 |true=>
  match qm ((v3.2.1.1,v3.2.1.2.1,v3.2.1.2.2.1,()),())with
  |none=>none
  |some v7=>
  some ((v1.1.1,v7.1,v1.1.2.2.1,v1.1.2.2.2.1,()),(v7.2.1.1,v7.2.1.2.1,v7.2.1.2.2.1,()),())
 |false=>
  match(v3.1==(2:Int))with
  |true=>
   match qn ((v3.2.1.1,v3.2.1.2.1,v3.2.1.2.2.1,()),())with
   |none=>none
   |some v8=>
   some ((v1.1.1,v1.1.2.1,v8.1,v1.1.2.2.2.1,()),(v8.2.1.1,v8.2.1.2.1,v8.2.1.2.2.1,()),())
  |false=>
   match(v3.1==(3:Int))with
   |true=>
    ab (aM v1.1.2.2.2.1.length (some (.dat (.int .i64) (1:Int))) none) fun v9=>
    some ((v1.1.1,v1.1.2.1,v1.1.2.2.1,(List.drop v9.1 (List.take v9.2 v1.1.2.2.2.1)),()),(v3.2.1.1,v3.2.1.2.1,v3.2.1.2.2.1,()),())
   |false=>
    match(v3.1==(4:Int))with
    |true=>
     an (
      match qo ((v3.2.1.1,v3.2.1.2.1,v3.2.1.2.2.1,()),())with
      |none=>none
      |some v10=>
      ab (av v1.1.2.2.2.1 v2.1) fun _=>
      match v1.1.2.2.2.1[v2.1.toNat]? with
      |none=>none
      |some v12=>
      some ((v1.1.1,v1.1.2.1,v1.1.2.2.1,(v1.1.2.2.2.1.set v2.1.toNat (v12.1,v12.2.1,v12.2.2.1,(v10.1.1,v10.1.2.1,v10.1.2.2.1,v10.1.2.2.2.1,v10.1.2.2.2.2.1,()),())),()),(v10.2.1.1,v10.2.1.2.1,v10.2.1.2.2.1,()),()))
    |false=>
     match(v3.1==(5:Int))with
     |true=>
      al (
       ab (av v1.1.2.2.2.1 v2.1) fun _=>
       match v1.1.2.2.2.1[v2.1.toNat]? with
       |none=>none
       |some v14=>
       ab (av v1.1.2.2.2.1 v2.1) fun _=>
       match v1.1.2.2.2.1[v2.1.toNat]? with
       |none=>none
       |some v16=>
       some ((v1.1.1,v1.1.2.1,v1.1.2.2.1,(v1.1.2.2.2.1.set v2.1.toNat (v16.1,v16.2.1,v16.2.2.1,(v16.2.2.2.1.1,v16.2.2.2.1.2.1,v16.2.2.2.1.2.2.1,(IntKind.i64.wrap (v14.2.2.2.1.2.2.2.1+(1:Int))),v16.2.2.2.1.2.2.2.2.1,()),())),()),(v3.2.1.1,v3.2.1.2.1,v3.2.1.2.2.1,()),())) (
       ab (av v1.1.2.2.2.1 v2.1) fun _=>
       an (
        match v1.1.2.2.2.1[v2.1.toNat]? with
        |none=>none
        |some v14=>
        ab (av v1.1.2.2.2.1 v2.1) fun _=>
        match v1.1.2.2.2.1[v2.1.toNat]? with
        |none=>none
        |some v16=>
        some ((v1.1.1,v1.1.2.1,v1.1.2.2.1,(v1.1.2.2.2.1.set v2.1.toNat (v16.1,v16.2.1,v16.2.2.1,(v16.2.2.2.1.1,v16.2.2.2.1.2.1,v16.2.2.2.1.2.2.1,(IntKind.i64.wrap (v14.2.2.2.1.2.2.2.1+(1:Int))),v16.2.2.2.1.2.2.2.2.1,()),())),()),(v3.2.1.1,v3.2.1.2.1,v3.2.1.2.2.1,()),())))
     |false=>
      match(v3.1==(6:Int))with
      |true=>
       an (
        match aa ((v3.2.1.1,v3.2.1.2.1,v3.2.1.2.2.1,()),(9:Int),())with
        |none=>none
        |some v17=>
        ab (av v1.1.2.2.2.1 v2.1) fun _=>
        match v1.1.2.2.2.1[v2.1.toNat]? with
        |none=>none
        |some v19=>
        some ((v1.1.1,v1.1.2.1,v1.1.2.2.1,(v1.1.2.2.2.1.set v2.1.toNat (v19.1,v19.2.1,v19.2.2.1,(v17.1,v19.2.2.2.1.2.1,v19.2.2.2.1.2.2.1,v19.2.2.2.1.2.2.2.1,v19.2.2.2.1.2.2.2.2.1,()),())),()),(v17.2.1.1,v17.2.1.2.1,v17.2.1.2.2.1,()),()))
      |false=>
       match(v3.1==(7:Int))with
       |true=>
        ab (av v1.1.2.2.2.1 v2.1) fun _=>
        match v1.1.2.2.2.1[v2.1.toNat]? with
        |none=>none
        |some v21=>
        ab (av (v1.1.2.2.2.1.set v2.1.toNat (v21.1,v21.2.1,v21.2.2.1,(v21.2.2.2.1.1,(3:Int),v21.2.2.2.1.2.2.1,v21.2.2.2.1.2.2.2.1,v21.2.2.2.1.2.2.2.2.1,()),())) v2.1) fun _=>
        match(v1.1.2.2.2.1.set v2.1.toNat (v21.1,v21.2.1,v21.2.2.1,(v21.2.2.2.1.1,(3:Int),v21.2.2.2.1.2.2.1,v21.2.2.2.1.2.2.2.1,v21.2.2.2.1.2.2.2.2.1,()),()))[v2.1.toNat]? with
        |none=>none
        |some v23=>
        ab (av ((v1.1.2.2.2.1.set v2.1.toNat (v21.1,v21.2.1,v21.2.2.1,(v21.2.2.2.1.1,(3:Int),v21.2.2.2.1.2.2.1,v21.2.2.2.1.2.2.2.1,v21.2.2.2.1.2.2.2.2.1,()),())).set v2.1.toNat (v23.1,v23.2.1,v23.2.2.1,(v23.2.2.2.1.1,v23.2.2.2.1.2.1,(0:Int),v23.2.2.2.1.2.2.2.1,v23.2.2.2.1.2.2.2.2.1,()),())) v2.1) fun _=>
        match((v1.1.2.2.2.1.set v2.1.toNat (v21.1,v21.2.1,v21.2.2.1,(v21.2.2.2.1.1,(3:Int),v21.2.2.2.1.2.2.1,v21.2.2.2.1.2.2.2.1,v21.2.2.2.1.2.2.2.2.1,()),())).set v2.1.toNat (v23.1,v23.2.1,v23.2.2.1,(v23.2.2.2.1.1,v23.2.2.2.1.2.1,(0:Int),v23.2.2.2.1.2.2.2.1,v23.2.2.2.1.2.2.2.2.1,()),()))[v2.1.toNat]? with
        |none=>none
        |some v25=>
        some ((v1.1.1,v1.1.2.1,v1.1.2.2.1,(((v1.1.2.2.2.1.set v2.1.toNat (v21.1,v21.2.1,v21.2.2.1,(v21.2.2.2.1.1,(3:Int),v21.2.2.2.1.2.2.1,v21.2.2.2.1.2.2.2.1,v21.2.2.2.1.2.2.2.2.1,()),())).set v2.1.toNat (v23.1,v23.2.1,v23.2.2.1,(v23.2.2.2.1.1,v23.2.2.2.1.2.1,(0:Int),v23.2.2.2.1.2.2.2.1,v23.2.2.2.1.2.2.2.2.1,()),())).set v2.1.toNat (v25.1,v25.2.1,v25.2.2.1,(v25.2.2.2.1.1,v25.2.2.2.1.2.1,v25.2.2.2.1.2.2.1,v25.2.2.2.1.2.2.2.1,false,()),())),()),(v3.2.1.1,v3.2.1.2.1,v3.2.1.2.2.1,()),())
       |false=>
        match(v3.1==(8:Int))with
        |true=>
         match ac dR ((v3.2.1.1,v3.2.1.2.1,v3.2.1.2.2.1,()),((0:Int),[],[],[],()),(v1.1.1,v1.1.2.1,v1.1.2.2.1,v1.1.2.2.2.1,()),(0:Int),())with
         |none=>none
         |some (.inl v28)=>
          match aa ((v28.1.1,v28.1.2.1,v28.1.2.2.1,()),(2:Int),())with
          |none=>none
          |some v30=>
          match(v30.1==(0:Int))with
          |true=>
           match aa ((v30.2.1.1,v30.2.1.2.1,v30.2.1.2.2.1,()),(2:Int),())with
           |none=>none
           |some v31=>
           match(v31.1==(0:Int))with
           |true=>
            match ac cw ((v31.2.1.1,v31.2.1.2.1,v31.2.1.2.2.1,()),(v28.2.1.1,v28.2.1.2.1,v28.2.1.2.2.1,v28.2.1.2.2.2.1,()),((3:Int),[((0:Int),([97]:List UInt8),(0:Int),false,())],[((3:Int),(11:Int),[],())],[],()),[],(0:Int),())with
            |none=>none
            |some (.inl v40)=>
             some ((v40.2.2.1.1,v40.2.2.1.2.1,v40.2.2.1.2.2.1,v40.2.2.2.1,()),(v40.1.1,v40.1.2.1,v40.1.2.2.1,()),())
            |some (.inr v42)=>
             none
           |false=>
            match ac cw ((v31.2.1.1,v31.2.1.2.1,v31.2.1.2.2.1,()),(v28.2.1.1,v28.2.1.2.1,v28.2.1.2.2.1,v28.2.1.2.2.2.1,()),((3:Int),[((0:Int),([97]:List UInt8),(0:Int),false,())],[((2:Int),(16:Int),[],())],[],()),[],(0:Int),())with
            |none=>none
            |some (.inl v43)=>
             some ((v43.2.2.1.1,v43.2.2.1.2.1,v43.2.2.1.2.2.1,v43.2.2.2.1,()),(v43.1.1,v43.1.2.1,v43.1.2.2.1,()),())
            |some (.inr v45)=>
             none
          |false=>
           some ((v28.2.2.1.1,v28.2.2.1.2.1,v28.2.2.1.2.2.1,v28.2.2.1.2.2.2.1,()),(v30.2.1.1,v30.2.1.2.1,v30.2.1.2.2.1,()),())
         |some (.inr v46)=>
          none
        |false=>
         some ((v1.1.1,v1.1.2.1,v1.1.2.2.1,v1.1.2.2.2.1,()),(v3.2.1.1,v3.2.1.2.1,v3.2.1.2.2.1,()),())
noncomputable def Nd:ae:=⟨_,qU,dY,rfl,mz⟩
noncomputable def qp:FuncId→Option ae:=bH [(42,de),(192,HY),(193,Ak),(194,Al),(195,Am)]
theorem Hi:∀f s,qp f=some s→FnOK G0 Tryz.prog f s:=aK ⟨bh,QS,Lb,Le,Lf,trivial⟩
def uY:aX:=⟨[0,2,3,5],nK,1,[0,2,3],uW,[],.unit⟩
def uZ:aX:=⟨[0,2,3,6,7],nL,3,[0,2,3,6],uX,[],.unit⟩
noncomputable def qq:List aD:=[uY.spec dR,uZ.spec cw]
theorem D3:bi bm E0 qp (be Tryz.f144 qq) Tryz.f144 0 uY dR:=fun x=>by kernel_rfl
theorem D4:bi bm E0 qp (be Tryz.f144 qq) Tryz.f144 1 uZ cw:=fun x=>by kernel_rfl
theorem Lg:FnOK G0 Tryz.prog 144 Nd:=aO ap Hi Tryz.func144 qq (by kernel_rfl) (by exact⟨(D3).lok,(D4).lok,trivial⟩) fun x=>by kernel_rfl
noncomputable def az(x:Ty.T dY):Option (Ty.T ZR):=
match aa ((x.1.1,x.1.2.1,x.1.2.2.1,()),(200:Int),())with
|none=>none
|some v1=>
match aa ((v1.2.1.1,v1.2.1.2.1,v1.2.1.2.2.1,()),(3:Int),())with
|none=>none
|some v2=>
match aa ((v2.2.1.1,v2.2.1.2.1,v2.2.1.2.2.1,()),(3:Int),())with
|none=>none
|some v3=>
match aa ((v3.2.1.1,v3.2.1.2.1,v3.2.1.2.2.1,()),(6:Int),())with
|none=>none
|some v4=>
match aa ((v4.2.1.1,v4.2.1.2.1,v4.2.1.2.2.1,()),(256:Int),())with
|none=>none
|some v5=>
match aa ((v5.2.1.1,v5.2.1.2.1,v5.2.1.2.2.1,()),(8:Int),())with
|none=>none
|some v6=>
match(v6.1==(0:Int))with
|true=>
 match aa ((v6.2.1.1,v6.2.1.2.1,v6.2.1.2.2.1,()),(9:Int),())with
 |none=>none
 |some v7=>
 match aa ((v7.2.1.1,v7.2.1.2.1,v7.2.1.2.2.1,()),(16:Int),())with
 |none=>none
 |some v8=>
 match aa ((v8.2.1.1,v8.2.1.2.1,v8.2.1.2.2.1,()),(16:Int),())with
 |none=>none
 |some v9=>
 match aa ((v9.2.1.1,v9.2.1.2.1,v9.2.1.2.2.1,()),(256:Int),())with
 |none=>none
 |some v10=>
 match aa ((v10.2.1.1,v10.2.1.2.1,v10.2.1.2.2.1,()),(99:Int),())with
 |none=>none
 |some v11=>
 some (((IntKind.i64.wrap ((65535:Int)-v7.1)),v8.1,v9.1,v10.1,(IntKind.i64.wrap ((4294967295:Int)-v11.1)),()),(v11.2.1.1,v11.2.1.2.1,v11.2.1.2.2.1,()),())
|false=>
 some ((v1.1,v2.1,v3.1,v4.1,v5.1,()),(v6.2.1.1,v6.2.1.2.1,v6.2.1.2.2.1,()),())
noncomputable def y8:ae:=⟨_,yU,dY,rfl,az⟩
theorem xe:FnOK G0 Tryz.prog 91 y8:=aq ap (sg bh (aU)) Tryz.func91
noncomputable def mA(x:Ty.T dY):Option (Ty.T ZR):=
match az ((x.1.1,x.1.2.1,x.1.2.2.1,()),())with
|none=>none
|some v1=>
match aa ((v1.2.1.1,v1.2.1.2.1,v1.2.1.2.2.1,()),(30:Int),())with
|none=>none
|some v2=>
match(v2.1==(0:Int))with
|true=>
 match aa ((v2.2.1.1,v2.2.1.2.1,v2.2.1.2.2.1,()),(3:Int),())with
 |none=>none
 |some v3=>
 ab (av [(-1:Int),(65535:Int),(65536:Int)] v3.1) fun _=>
 match [(-1:Int),(65535:Int),(65536:Int)][v3.1.toNat]? with
 |none=>none
 |some v5=>
 some ((v5,v1.1.2.1,v1.1.2.2.1,v1.1.2.2.2.1,v1.1.2.2.2.2.1,()),(v3.2.1.1,v3.2.1.2.1,v3.2.1.2.2.1,()),())
|false=>
 match(v2.1==(1:Int))with
 |true=>
  match aa ((v2.2.1.1,v2.2.1.2.1,v2.2.1.2.2.1,()),(2:Int),())with
  |none=>none
  |some v6=>
  ab (av [(-1:Int),(16:Int)] v6.1) fun _=>
  match [(-1:Int),(16:Int)][v6.1.toNat]? with
  |none=>none
  |some v8=>
  some ((v1.1.1,v8,v1.1.2.2.1,v1.1.2.2.2.1,v1.1.2.2.2.2.1,()),(v6.2.1.1,v6.2.1.2.1,v6.2.1.2.2.1,()),())
 |false=>
  match(v2.1==(2:Int))with
  |true=>
   match aa ((v2.2.1.1,v2.2.1.2.1,v2.2.1.2.2.1,()),(2:Int),())with
   |none=>none
   |some v9=>
   ab (av [(-1:Int),(16:Int)] v9.1) fun _=>
   match [(-1:Int),(16:Int)][v9.1.toNat]? with
   |none=>none
   |some v11=>
   some ((v1.1.1,v1.1.2.1,v11,v1.1.2.2.2.1,v1.1.2.2.2.2.1,()),(v9.2.1.1,v9.2.1.2.1,v9.2.1.2.2.1,()),())
  |false=>
   match(v2.1==(3:Int))with
   |true=>
    match aa ((v2.2.1.1,v2.2.1.2.1,v2.2.1.2.2.1,()),(2:Int),())with
    |none=>none
    |some v12=>
    ab (av [(-1:Int),(256:Int)] v12.1) fun _=>
    match [(-1:Int),(256:Int)][v12.1.toNat]? with
    |none=>none
    |some v14=>
    some ((v1.1.1,v1.1.2.1,v1.1.2.2.1,v14,v1.1.2.2.2.2.1,()),(v12.2.1.1,v12.2.1.2.1,v12.2.1.2.2.1,()),())
   |false=>
    match(v2.1==(4:Int))with
    |true=>
     match aa ((v2.2.1.1,v2.2.1.2.1,v2.2.1.2.2.1,()),(2:Int),())with
     |none=>none
     |some v15=>
     ab (av [(-1:Int),(4294967296:Int)] v15.1) fun _=>
     match [(-1:Int),(4294967296:Int)][v15.1.toNat]? with
     |none=>none
     |some v17=>
     some ((v1.1.1,v1.1.2.1,v1.1.2.2.1,v1.1.2.2.2.1,v17,()),(v15.2.1.1,v15.2.1.2.1,v15.2.1.2.2.1,()),())
    |false=>
     some ((v1.1.1,v1.1.2.1,v1.1.2.2.1,v1.1.2.2.2.1,v1.1.2.2.2.2.1,()),(v2.2.1.1,v2.2.1.2.1,v2.2.1.2.2.1,()),())
noncomputable def Nf:ae:=⟨_,yU,dY,rfl,mA⟩
theorem yp:FnOK G0 Tryz.prog 145 Nf:=aq ap (sg bh (sg xe (aU))) Tryz.func145
noncomputable def yq(x:Ty.T dY):Option (Ty.T (.pair ar (.pair ak (.pair (.box ah) .unit)))):=
match mz ((x.1.1,x.1.2.1,x.1.2.2.1,()),())with
|none=>none
|some v1=>
match mA ((v1.2.1.1,v1.2.1.2.1,v1.2.1.2.2.1,()),())with
|none=>none
|some v2=>
match ix ((v1.1.1,v1.1.2.1,v1.1.2.2.1,v1.1.2.2.2.1,()),())with
|none=>none
|some v3=>
match(!v3.1)with
|true=>
 an (
  some ((v1.1.1,v1.1.2.1,v1.1.2.2.1,v1.1.2.2.2.1,()),(v2.1.1,v2.1.2.1,v2.1.2.2.1,v2.1.2.2.2.1,v2.1.2.2.2.2.1,()),(v2.2.1.1,v2.2.1.2.1,v2.2.1.2.2.1,()),()))
|false=>
 match aa ((v2.2.1.1,v2.2.1.2.1,v2.2.1.2.2.1,()),(16:Int),())with
 |none=>none
 |some v4=>
 match(v4.1==(0:Int))with
 |true=>
  an (
   some ((v1.1.1,v1.1.2.1,v1.1.2.2.1,v1.1.2.2.2.1,()),(v2.1.1,v2.1.2.1,v2.1.2.2.1,v2.1.2.2.2.1,v2.1.2.2.2.2.1,()),(v4.2.1.1,v4.2.1.2.1,v4.2.1.2.2.1,()),()))
 |false=>
  match aa ((v4.2.1.1,v4.2.1.2.1,v4.2.1.2.2.1,()),(65536:Int),())with
  |none=>none
  |some v5=>
  match aa ((v5.2.1.1,v5.2.1.2.1,v5.2.1.2.2.1,()),(v1.1.2.2.1.length:Int),())with
  |none=>none
  |some v6=>
  al (
   ab (av v1.1.2.2.1 v6.1) fun v7=>
   an (
    match aa ((v6.2.1.1,v6.2.1.2.1,v6.2.1.2.2.1,()),(30:Int),())with
    |none=>none
    |some v8=>
    match aa ((v8.2.1.1,v8.2.1.2.1,v8.2.1.2.2.1,()),(IntKind.i64.wrap (v7.1+(IntKind.i64.wrap (Int.tdiv v8.1 (29:Int))))),())with
    |none=>none
    |some v9=>
    al (
     ab (av v1.1.2.2.1 v6.1) fun v10=>
     an (
      match aa ((v9.2.1.1,v9.2.1.2.1,v9.2.1.2.2.1,()),(30:Int),())with
      |none=>none
      |some v11=>
      match aa ((v11.2.1.1,v11.2.1.2.1,v11.2.1.2.2.1,()),(IntKind.i64.wrap (v10.2.1+(IntKind.i64.wrap (Int.tdiv v11.1 (29:Int))))),())with
      |none=>none
      |some v12=>
      match cQ (v1.1.2.1,())with
      |none=>none
      |some v13=>
      match aa ((v12.2.1.1,v12.2.1.2.1,v12.2.1.2.2.1,()),(3:Int),())with
      |none=>none
      |some v14=>
      match(v14.1==(0:Int))with
      |true=>
       an (
        match aa ((v14.2.1.1,v14.2.1.2.1,v14.2.1.2.2.1,()),(256:Int),())with
        |none=>none
        |some v15=>
        match aa ((v15.2.1.1,v15.2.1.2.1,v15.2.1.2.2.1,()),(30:Int),())with
        |none=>none
        |some v16=>
        match(v16.1==(0:Int))with
        |true=>
         an (
          match aa ((v16.2.1.1,v16.2.1.2.1,v16.2.1.2.2.1,()),(10:Int),())with
          |none=>none
          |some v17=>
          if(IntKind.u64.wrap v17.1)<0 then none else
          an (
           some ((v1.1.1,v1.1.2.1,v1.1.2.2.1,v1.1.2.2.2.1,()),(v5.1,v6.1,v9.1,v12.1,(bits BinOp.xor .i64 (bits BinOp.and .i64 v13.1 v15.1) (IntKind.i64.wrap ((1:Int)*2^min (IntKind.u64.wrap v17.1).toNat IntKind.i64.bits))),()),(v17.2.1.1,v17.2.1.2.1,v17.2.1.2.2.1,()),())))
        |false=>
         an (
          some ((v1.1.1,v1.1.2.1,v1.1.2.2.1,v1.1.2.2.2.1,()),(v5.1,v6.1,v9.1,v12.1,(bits BinOp.and .i64 v13.1 v15.1),()),(v16.2.1.1,v16.2.1.2.1,v16.2.1.2.2.1,()),())))
      |false=>
       match aa ((v14.2.1.1,v14.2.1.2.1,v14.2.1.2.2.1,()),(30:Int),())with
       |none=>none
       |some v18=>
       match(v18.1==(0:Int))with
       |true=>
        an (
         match aa ((v18.2.1.1,v18.2.1.2.1,v18.2.1.2.2.1,()),(10:Int),())with
         |none=>none
         |some v19=>
         if(IntKind.u64.wrap v19.1)<0 then none else
         an (
          some ((v1.1.1,v1.1.2.1,v1.1.2.2.1,v1.1.2.2.2.1,()),(v5.1,v6.1,v9.1,v12.1,(bits BinOp.xor .i64 v13.1 (IntKind.i64.wrap ((1:Int)*2^min (IntKind.u64.wrap v19.1).toNat IntKind.i64.bits))),()),(v19.2.1.1,v19.2.1.2.1,v19.2.1.2.2.1,()),())))
       |false=>
        an (
         some ((v1.1.1,v1.1.2.1,v1.1.2.2.1,v1.1.2.2.2.1,()),(v5.1,v6.1,v9.1,v12.1,v13.1,()),(v18.2.1.1,v18.2.1.2.1,v18.2.1.2.2.1,()),())))) (
     match aa ((v9.2.1.1,v9.2.1.2.1,v9.2.1.2.2.1,()),(30:Int),())with
     |none=>none
     |some v10=>
     ab (av v1.1.2.2.1 v6.1) fun v11=>
     match aa ((v10.2.1.1,v10.2.1.2.1,v10.2.1.2.2.1,()),(IntKind.i64.wrap (v11.2.1+(IntKind.i64.wrap (Int.tdiv v10.1 (29:Int))))),())with
     |none=>none
     |some v12=>
     match cQ (v1.1.2.1,())with
     |none=>none
     |some v13=>
     match aa ((v12.2.1.1,v12.2.1.2.1,v12.2.1.2.2.1,()),(3:Int),())with
     |none=>none
     |some v14=>
     match(v14.1==(0:Int))with
     |true=>
      an (
       match aa ((v14.2.1.1,v14.2.1.2.1,v14.2.1.2.2.1,()),(256:Int),())with
       |none=>none
       |some v15=>
       match aa ((v15.2.1.1,v15.2.1.2.1,v15.2.1.2.2.1,()),(30:Int),())with
       |none=>none
       |some v16=>
       match(v16.1==(0:Int))with
       |true=>
        an (
         match aa ((v16.2.1.1,v16.2.1.2.1,v16.2.1.2.2.1,()),(10:Int),())with
         |none=>none
         |some v17=>
         if(IntKind.u64.wrap v17.1)<0 then none else
         an (
          some ((v1.1.1,v1.1.2.1,v1.1.2.2.1,v1.1.2.2.2.1,()),(v5.1,v6.1,v9.1,v12.1,(bits BinOp.xor .i64 (bits BinOp.and .i64 v13.1 v15.1) (IntKind.i64.wrap ((1:Int)*2^min (IntKind.u64.wrap v17.1).toNat IntKind.i64.bits))),()),(v17.2.1.1,v17.2.1.2.1,v17.2.1.2.2.1,()),())))
       |false=>
        an (
         some ((v1.1.1,v1.1.2.1,v1.1.2.2.1,v1.1.2.2.2.1,()),(v5.1,v6.1,v9.1,v12.1,(bits BinOp.and .i64 v13.1 v15.1),()),(v16.2.1.1,v16.2.1.2.1,v16.2.1.2.2.1,()),())))
     |false=>
      match aa ((v14.2.1.1,v14.2.1.2.1,v14.2.1.2.2.1,()),(30:Int),())with
      |none=>none
      |some v18=>
      match(v18.1==(0:Int))with
      |true=>
       an (
        match aa ((v18.2.1.1,v18.2.1.2.1,v18.2.1.2.2.1,()),(10:Int),())with
        |none=>none
        |some v19=>
        if(IntKind.u64.wrap v19.1)<0 then none else
        an (
         some ((v1.1.1,v1.1.2.1,v1.1.2.2.1,v1.1.2.2.2.1,()),(v5.1,v6.1,v9.1,v12.1,(bits BinOp.xor .i64 v13.1 (IntKind.i64.wrap ((1:Int)*2^min (IntKind.u64.wrap v19.1).toNat IntKind.i64.bits))),()),(v19.2.1.1,v19.2.1.2.1,v19.2.1.2.2.1,()),())))
      |false=>
       an (
        some ((v1.1.1,v1.1.2.1,v1.1.2.2.1,v1.1.2.2.2.1,()),(v5.1,v6.1,v9.1,v12.1,v13.1,()),(v18.2.1.1,v18.2.1.2.1,v18.2.1.2.2.1,()),()))))) (
   match aa ((v6.2.1.1,v6.2.1.2.1,v6.2.1.2.2.1,()),(30:Int),())with
   |none=>none
   |some v7=>
   ab (av v1.1.2.2.1 v6.1) fun v8=>
   match aa ((v7.2.1.1,v7.2.1.2.1,v7.2.1.2.2.1,()),(IntKind.i64.wrap (v8.1+(IntKind.i64.wrap (Int.tdiv v7.1 (29:Int))))),())with
   |none=>none
   |some v9=>
   al (
    ab (av v1.1.2.2.1 v6.1) fun v10=>
    an (
     match aa ((v9.2.1.1,v9.2.1.2.1,v9.2.1.2.2.1,()),(30:Int),())with
     |none=>none
     |some v11=>
     match aa ((v11.2.1.1,v11.2.1.2.1,v11.2.1.2.2.1,()),(IntKind.i64.wrap (v10.2.1+(IntKind.i64.wrap (Int.tdiv v11.1 (29:Int))))),())with
     |none=>none
     |some v12=>
     match cQ (v1.1.2.1,())with
     |none=>none
     |some v13=>
     match aa ((v12.2.1.1,v12.2.1.2.1,v12.2.1.2.2.1,()),(3:Int),())with
     |none=>none
     |some v14=>
     match(v14.1==(0:Int))with
     |true=>
      an (
       match aa ((v14.2.1.1,v14.2.1.2.1,v14.2.1.2.2.1,()),(256:Int),())with
       |none=>none
       |some v15=>
       match aa ((v15.2.1.1,v15.2.1.2.1,v15.2.1.2.2.1,()),(30:Int),())with
       |none=>none
       |some v16=>
       match(v16.1==(0:Int))with
       |true=>
        an (
         match aa ((v16.2.1.1,v16.2.1.2.1,v16.2.1.2.2.1,()),(10:Int),())with
         |none=>none
         |some v17=>
         if(IntKind.u64.wrap v17.1)<0 then none else
         an (
          some ((v1.1.1,v1.1.2.1,v1.1.2.2.1,v1.1.2.2.2.1,()),(v5.1,v6.1,v9.1,v12.1,(bits BinOp.xor .i64 (bits BinOp.and .i64 v13.1 v15.1) (IntKind.i64.wrap ((1:Int)*2^min (IntKind.u64.wrap v17.1).toNat IntKind.i64.bits))),()),(v17.2.1.1,v17.2.1.2.1,v17.2.1.2.2.1,()),())))
       |false=>
        an (
         some ((v1.1.1,v1.1.2.1,v1.1.2.2.1,v1.1.2.2.2.1,()),(v5.1,v6.1,v9.1,v12.1,(bits BinOp.and .i64 v13.1 v15.1),()),(v16.2.1.1,v16.2.1.2.1,v16.2.1.2.2.1,()),())))
     |false=>
      match aa ((v14.2.1.1,v14.2.1.2.1,v14.2.1.2.2.1,()),(30:Int),())with
      |none=>none
      |some v18=>
      match(v18.1==(0:Int))with
      |true=>
       an (
        match aa ((v18.2.1.1,v18.2.1.2.1,v18.2.1.2.2.1,()),(10:Int),())with
        |none=>none
        |some v19=>
        if(IntKind.u64.wrap v19.1)<0 then none else
        an (
         some ((v1.1.1,v1.1.2.1,v1.1.2.2.1,v1.1.2.2.2.1,()),(v5.1,v6.1,v9.1,v12.1,(bits BinOp.xor .i64 v13.1 (IntKind.i64.wrap ((1:Int)*2^min (IntKind.u64.wrap v19.1).toNat IntKind.i64.bits))),()),(v19.2.1.1,v19.2.1.2.1,v19.2.1.2.2.1,()),())))
      |false=>
       an (
        some ((v1.1.1,v1.1.2.1,v1.1.2.2.1,v1.1.2.2.2.1,()),(v5.1,v6.1,v9.1,v12.1,v13.1,()),(v18.2.1.1,v18.2.1.2.1,v18.2.1.2.2.1,()),())))) (
    match aa ((v9.2.1.1,v9.2.1.2.1,v9.2.1.2.2.1,()),(30:Int),())with
    |none=>none
    |some v10=>
    ab (av v1.1.2.2.1 v6.1) fun v11=>
    match aa ((v10.2.1.1,v10.2.1.2.1,v10.2.1.2.2.1,()),(IntKind.i64.wrap (v11.2.1+(IntKind.i64.wrap (Int.tdiv v10.1 (29:Int))))),())with
    |none=>none
    |some v12=>
    match cQ (v1.1.2.1,())with
    |none=>none
    |some v13=>
    match aa ((v12.2.1.1,v12.2.1.2.1,v12.2.1.2.2.1,()),(3:Int),())with
    |none=>none
    |some v14=>
    match(v14.1==(0:Int))with
    |true=>
     an (
      match aa ((v14.2.1.1,v14.2.1.2.1,v14.2.1.2.2.1,()),(256:Int),())with
      |none=>none
      |some v15=>
      match aa ((v15.2.1.1,v15.2.1.2.1,v15.2.1.2.2.1,()),(30:Int),())with
      |none=>none
      |some v16=>
      match(v16.1==(0:Int))with
      |true=>
       an (
        match aa ((v16.2.1.1,v16.2.1.2.1,v16.2.1.2.2.1,()),(10:Int),())with
        |none=>none
        |some v17=>
        if(IntKind.u64.wrap v17.1)<0 then none else
        an (
         some ((v1.1.1,v1.1.2.1,v1.1.2.2.1,v1.1.2.2.2.1,()),(v5.1,v6.1,v9.1,v12.1,(bits BinOp.xor .i64 (bits BinOp.and .i64 v13.1 v15.1) (IntKind.i64.wrap ((1:Int)*2^min (IntKind.u64.wrap v17.1).toNat IntKind.i64.bits))),()),(v17.2.1.1,v17.2.1.2.1,v17.2.1.2.2.1,()),())))
      |false=>
       an (
        some ((v1.1.1,v1.1.2.1,v1.1.2.2.1,v1.1.2.2.2.1,()),(v5.1,v6.1,v9.1,v12.1,(bits BinOp.and .i64 v13.1 v15.1),()),(v16.2.1.1,v16.2.1.2.1,v16.2.1.2.2.1,()),())))
    |false=>
     match aa ((v14.2.1.1,v14.2.1.2.1,v14.2.1.2.2.1,()),(30:Int),())with
     |none=>none
     |some v18=>
     match(v18.1==(0:Int))with
     |true=>
      an (
       match aa ((v18.2.1.1,v18.2.1.2.1,v18.2.1.2.2.1,()),(10:Int),())with
       |none=>none
       |some v19=>
       if(IntKind.u64.wrap v19.1)<0 then none else
       an (
        some ((v1.1.1,v1.1.2.1,v1.1.2.2.1,v1.1.2.2.2.1,()),(v5.1,v6.1,v9.1,v12.1,(bits BinOp.xor .i64 v13.1 (IntKind.i64.wrap ((1:Int)*2^min (IntKind.u64.wrap v19.1).toNat IntKind.i64.bits))),()),(v19.2.1.1,v19.2.1.2.1,v19.2.1.2.2.1,()),())))
     |false=>
      an (
       some ((v1.1.1,v1.1.2.1,v1.1.2.2.1,v1.1.2.2.2.1,()),(v5.1,v6.1,v9.1,v12.1,v13.1,()),(v18.2.1.1,v18.2.1.2.1,v18.2.1.2.2.1,()),()))))
noncomputable def HZ:ae:=⟨_,yV,dY,rfl,yq⟩
theorem QU:FnOK G0 Tryz.prog 86 HZ:=aq ap (sg bh (sg yZ (sg Lg (sg yp (sg kG (aU)))))) Tryz.func86
noncomputable def r7(x:Ty.T yV):Option (Ty.T ax):=
match ix ((x.1.1,x.1.2.1,x.1.2.2.1,x.1.2.2.2.1,()),())with
|none=>none
|some v1=>
match v1.1 with
|true=>
 match fZ ((x.1.1,x.1.2.1,x.1.2.2.1,x.1.2.2.2.1,()),(x.2.1.1,x.2.1.2.1,x.2.1.2.2.1,x.2.1.2.2.2.1,x.2.1.2.2.2.2.1,()),())with
 |none=>none
 |some v2=>
 some (v2.1,())
|false=>
 some (false,())
noncomputable def De:ae:=⟨_,ax,.unit,rfl,r7⟩
theorem Ng:FnOK G0 Tryz.prog 87 De:=aq ap (sg yZ (sg yf (aU))) Tryz.func87
abbrev mB:Ty:=UA
abbrev sV:Ty:=Ux
noncomputable def fK(x:(Ty.T mB)):Option ((Ty.T mB) ⊕ ((Ty.T sV) ⊕ (Ty.T .unit))):=
match(decide (x.2.2.1>(0:Int)))with
|true=>
 match aa ((x.1.1,x.1.2.1,x.1.2.2.1,()),(256:Int),())with
 |none=>none
 |some v2=>
 aH (x.2.1.length+ [v2.1].length) (
  some (.inl ((v2.2.1.1,v2.2.1.2.1,v2.2.1.2.2.1,()),(x.2.1++ [v2.1]),(IntKind.i64.wrap (x.2.2.1-(1:Int))),())))
|false=>
 some (.inr (.inl ((x.1.1,x.1.2.1,x.1.2.2.1,()),x.2.1,())))
noncomputable def gL(x:Ty.T IG):Option (Ty.T Uy):=
match aa ((x.1.1,x.1.2.1,x.1.2.2.1,()),(IntKind.i64.wrap (x.2.1+(1:Int))),())with
|none=>none
|some v1=>
match ac fK ((v1.2.1.1,v1.2.1.2.1,v1.2.1.2.2.1,()),[],v1.1,())with
|none=>none
|some (.inl v3)=>
 match aa ((v3.1.1,v3.1.2.1,v3.1.2.2.1,()),(40:Int),())with
 |none=>none
 |some v5=>
 match(v5.1==(0:Int))with
 |true=>
  match aa ((v5.2.1.1,v5.2.1.2.1,v5.2.1.2.2.1,()),(2:Int),())with
  |none=>none
  |some v6=>
  ab (av [(256:Int),(-1:Int)] v6.1) fun _=>
  match [(256:Int),(-1:Int)][v6.1.toNat]? with
  |none=>none
  |some v8=>
  aH (v3.2.1.length+ [v8].length) (
   some ((v3.2.1++ [v8]),(v6.2.1.1,v6.2.1.2.1,v6.2.1.2.2.1,()),()))
 |false=>
  match(v5.1==(1:Int))with
  |true=>
   match aa ((v5.2.1.1,v5.2.1.2.1,v5.2.1.2.2.1,()),(2:Int),())with
   |none=>none
   |some v9=>
   if 0≤(IntKind.i64.wrap ((1024:Int)+v9.1))∧(IntKind.i64.wrap ((1024:Int)+v9.1))≤(IntKind.i64.wrap ((1024:Int)+v9.1))then
    aH ((IntKind.i64.wrap ((1024:Int)+v9.1)).toNat) (
     some ((List.replicate (IntKind.i64.wrap ((1024:Int)+v9.1)).toNat (0:Int)),(v9.2.1.1,v9.2.1.2.1,v9.2.1.2.2.1,()),()))
   else none
  |false=>
   some (v3.2.1,(v5.2.1.1,v5.2.1.2.1,v5.2.1.2.2.1,()),())
|some (.inr v10)=>
 none
noncomputable def xf:ae:=⟨_,bG,dY,rfl,gL⟩
noncomputable def u0:FuncId→Option ae:=bH [(42,de)]
theorem D5:∀f s,u0 f=some s→FnOK G0 Tryz.prog f s:=aK ⟨bh,trivial⟩
def sW:aX:=⟨[0,5,6],mB,0,[0,5],sV,[],.unit⟩
noncomputable def u7:List aD:=[sW.spec fK]
theorem BM:bi bm E0 u0 (be Tryz.f41 u7) Tryz.f41 0 sW fK:=fun x=>by kernel_rfl
theorem u9:FnOK G0 Tryz.prog 41 xf:=aO ap D5 Tryz.func41 u7 (by kernel_rfl) (by exact⟨(BM).lok,trivial⟩) fun x=>by kernel_rfl
abbrev tW:Ty:=(.pair (.box ah) (.pair (.box ba) (.pair (.box ba) (.pair (.own 2 (.int .i64)) (.pair (.int .i64) .unit)))))
abbrev Df:Ty:=(.pair (.box ah) (.pair (.box ba) (.pair (.box ba) (.pair (.own 2 (.int .i64)) .unit))))
noncomputable def iB(x:(Ty.T tW)):Option ((Ty.T tW) ⊕ ((Ty.T Df) ⊕ (Ty.T .unit))):=
match(decide (x.2.2.2.2.1>(0:Int)))with
|true=>
 match aa ((x.1.1,x.1.2.1,x.1.2.2.1,()),(256:Int),())with
 |none=>none
 |some v7=>
 aH (x.2.2.2.1.length+ [v7.1].length) (
  some (.inl ((v7.2.1.1,v7.2.1.2.1,v7.2.1.2.2.1,()),(x.2.1.1,x.2.1.2.1,(x.2.1.2.2.1.1,x.2.1.2.2.1.2.1,x.2.1.2.2.1.2.2.1,x.2.1.2.2.1.2.2.2.1,x.2.1.2.2.1.2.2.2.2.1,()),x.2.1.2.2.2.1,()),(x.2.2.1.1,x.2.2.1.2.1,(x.2.2.1.2.2.1.1,x.2.2.1.2.2.1.2.1,x.2.2.1.2.2.1.2.2.1,x.2.2.1.2.2.1.2.2.2.1,x.2.2.1.2.2.1.2.2.2.2.1,()),x.2.2.1.2.2.2.1,()),(x.2.2.2.1++ [v7.1]),(IntKind.i64.wrap (x.2.2.2.2.1-(1:Int))),())))
|false=>
 some (.inr (.inl ((x.1.1,x.1.2.1,x.1.2.2.1,()),(x.2.1.1,x.2.1.2.1,(x.2.1.2.2.1.1,x.2.1.2.2.1.2.1,x.2.1.2.2.1.2.2.1,x.2.1.2.2.1.2.2.2.1,x.2.1.2.2.1.2.2.2.2.1,()),x.2.1.2.2.2.1,()),(x.2.2.1.1,x.2.2.1.2.1,(x.2.2.1.2.2.1.1,x.2.2.1.2.2.1.2.1,x.2.2.1.2.2.1.2.2.1,x.2.2.1.2.2.1.2.2.2.1,x.2.2.1.2.2.1.2.2.2.2.1,()),x.2.2.1.2.2.2.1,()),x.2.2.2.1,())))
noncomputable def sX(x:Ty.T dY):Option (Ty.T ZS):=
match aa ((x.1.1,x.1.2.1,x.1.2.2.1,()),(4:Int),())with
|none=>none
|some v1=>
match aa ((v1.2.1.1,v1.2.1.2.1,v1.2.1.2.2.1,()),(8:Int),())with
|none=>none
|some v2=>
match dj (v1.1,())with
|none=>none
|some v3=>
match v3.1 with
|true=>
 match az ((v2.2.1.1,v2.2.1.2.1,v2.2.1.2.2.1,()),())with
 |none=>none
 |some v4=>
 match fH (v1.1,())with
 |none=>none
 |some v5=>
 match v5.1 with
 |true=>
  match aa ((v4.2.1.1,v4.2.1.2.1,v4.2.1.2.2.1,()),(6:Int),())with
  |none=>none
  |some v6=>
  match ac iB ((v6.2.1.1,v6.2.1.2.1,v6.2.1.2.2.1,()),((0:Int),(0:Int),((0:Int),(0:Int),(0:Int),(0:Int),(0:Int),()),[],()),(v1.1,v2.1,(v4.1.1,v4.1.2.1,v4.1.2.2.1,v4.1.2.2.2.1,v4.1.2.2.2.2.1,()),[],()),[],(IntKind.i64.wrap ((1:Int)+v6.1)),())with
  |none=>none
  |some (.inl v8)=>
   match(v8.2.2.1.1==(3:Int))with
   |true=>
    match aa ((v8.1.1,v8.1.2.1,v8.1.2.2.1,()),(10:Int),())with
    |none=>none
    |some v10=>
    if(IntKind.u64.wrap v10.1)<0 then none else
    some ((v8.2.2.1.1,(0:Int),(v8.2.2.1.2.2.1.1,(0:Int),v8.2.2.1.2.2.1.2.2.1,v8.2.2.1.2.2.1.2.2.2.1,(IntKind.i64.wrap ((1:Int)*2^min (IntKind.u64.wrap v10.1).toNat IntKind.i64.bits)),()),v8.2.2.2.1,()),(v10.2.1.1,v10.2.1.2.1,v10.2.1.2.2.1,()),())
   |false=>
    some ((v8.2.2.1.1,v8.2.2.1.2.1,(v8.2.2.1.2.2.1.1,v8.2.2.1.2.2.1.2.1,v8.2.2.1.2.2.1.2.2.1,v8.2.2.1.2.2.1.2.2.2.1,v8.2.2.1.2.2.1.2.2.2.2.1,()),v8.2.2.2.1,()),(v8.1.1,v8.1.2.1,v8.1.2.2.1,()),())
  |some (.inr v11)=>
   none
 |false=>
  match(v1.1==(3:Int))with
  |true=>
   match aa ((v4.2.1.1,v4.2.1.2.1,v4.2.1.2.2.1,()),(10:Int),())with
   |none=>none
   |some v12=>
   if(IntKind.u64.wrap v12.1)<0 then none else
   some ((v1.1,(0:Int),(v4.1.1,(0:Int),v4.1.2.2.1,v4.1.2.2.2.1,(IntKind.i64.wrap ((1:Int)*2^min (IntKind.u64.wrap v12.1).toNat IntKind.i64.bits)),()),[],()),(v12.2.1.1,v12.2.1.2.1,v12.2.1.2.2.1,()),())
  |false=>
   some ((v1.1,v2.1,(v4.1.1,v4.1.2.1,v4.1.2.2.1,v4.1.2.2.2.1,v4.1.2.2.2.2.1,()),[],()),(v4.2.1.1,v4.2.1.2.1,v4.2.1.2.2.1,()),())
|false=>
 match fH (v1.1,())with
 |none=>none
 |some v13=>
 match v13.1 with
 |true=>
  match aa ((v2.2.1.1,v2.2.1.2.1,v2.2.1.2.2.1,()),(6:Int),())with
  |none=>none
  |some v14=>
  match ac iB ((v14.2.1.1,v14.2.1.2.1,v14.2.1.2.2.1,()),((0:Int),(0:Int),((0:Int),(0:Int),(0:Int),(0:Int),(0:Int),()),[],()),(v1.1,v2.1,((0:Int),(0:Int),(0:Int),(0:Int),(0:Int),()),[],()),[],(IntKind.i64.wrap ((1:Int)+v14.1)),())with
  |none=>none
  |some (.inl v15)=>
   match(v15.2.2.1.1==(3:Int))with
   |true=>
    match aa ((v15.1.1,v15.1.2.1,v15.1.2.2.1,()),(10:Int),())with
    |none=>none
    |some v17=>
    if(IntKind.u64.wrap v17.1)<0 then none else
    some ((v15.2.2.1.1,(0:Int),(v15.2.2.1.2.2.1.1,(0:Int),v15.2.2.1.2.2.1.2.2.1,v15.2.2.1.2.2.1.2.2.2.1,(IntKind.i64.wrap ((1:Int)*2^min (IntKind.u64.wrap v17.1).toNat IntKind.i64.bits)),()),v15.2.2.2.1,()),(v17.2.1.1,v17.2.1.2.1,v17.2.1.2.2.1,()),())
   |false=>
    some ((v15.2.2.1.1,v15.2.2.1.2.1,(v15.2.2.1.2.2.1.1,v15.2.2.1.2.2.1.2.1,v15.2.2.1.2.2.1.2.2.1,v15.2.2.1.2.2.1.2.2.2.1,v15.2.2.1.2.2.1.2.2.2.2.1,()),v15.2.2.2.1,()),(v15.1.1,v15.1.2.1,v15.1.2.2.1,()),())
  |some (.inr v18)=>
   none
 |false=>
  match(v1.1==(3:Int))with
  |true=>
   match aa ((v2.2.1.1,v2.2.1.2.1,v2.2.1.2.2.1,()),(10:Int),())with
   |none=>none
   |some v19=>
   if(IntKind.u64.wrap v19.1)<0 then none else
   some ((v1.1,(0:Int),((0:Int),(0:Int),(0:Int),(0:Int),(IntKind.i64.wrap ((1:Int)*2^min (IntKind.u64.wrap v19.1).toNat IntKind.i64.bits)),()),[],()),(v19.2.1.1,v19.2.1.2.1,v19.2.1.2.2.1,()),())
  |false=>
   some ((v1.1,v2.1,((0:Int),(0:Int),(0:Int),(0:Int),(0:Int),()),[],()),(v2.2.1.1,v2.2.1.2.1,v2.2.1.2.2.1,()),())
noncomputable def SK:ae:=⟨_,Ms,dY,rfl,sX⟩
noncomputable def Fz:FuncId→Option ae:=bH [(42,de),(91,y8),(94,E8),(95,HM)]
theorem Nh:∀f s,Fz f=some s→FnOK G0 Tryz.prog f s:=aK ⟨bh,xe,iv,mi,trivial⟩
def Dg:aX:=⟨[0,2,3,4,5],tW,0,[0,2,3,4],Df,[],.unit⟩
noncomputable def FA:List aD:=[Dg.spec iB]
theorem Lh:bi bm E0 Fz (be Tryz.f44 FA) Tryz.f44 0 Dg iB:=fun x=>by kernel_rfl
theorem QV:FnOK G0 Tryz.prog 44 SK:=aO ap Nh Tryz.func44 FA (by kernel_rfl) (by exact⟨(Lh).lok,trivial⟩) fun x=>by kernel_rfl
noncomputable def jt(x:Ty.T dY):Option (Ty.T ZS):=
match sX ((x.1.1,x.1.2.1,x.1.2.2.1,()),())with
|none=>none
|some v1=>
match aa ((v1.2.1.1,v1.2.1.2.1,v1.2.1.2.2.1,()),(30:Int),())with
|none=>none
|some v2=>
match(v2.1==(0:Int))with
|true=>
 match aa ((v2.2.1.1,v2.2.1.2.1,v2.2.1.2.2.1,()),(6:Int),())with
 |none=>none
 |some v3=>
 some (((IntKind.i64.wrap (v3.1-(1:Int))),v1.1.2.1,(v1.1.2.2.1.1,v1.1.2.2.1.2.1,v1.1.2.2.1.2.2.1,v1.1.2.2.1.2.2.2.1,v1.1.2.2.1.2.2.2.2.1,()),v1.1.2.2.2.1,()),(v3.2.1.1,v3.2.1.2.1,v3.2.1.2.2.1,()),())
|false=>
 match(v2.1==(1:Int))with
 |true=>
  match aa ((v2.2.1.1,v2.2.1.2.1,v2.2.1.2.2.1,()),(3:Int),())with
  |none=>none
  |some v4=>
  ab (av [(-1:Int),(1:Int),(8:Int)] v4.1) fun _=>
  match [(-1:Int),(1:Int),(8:Int)][v4.1.toNat]? with
  |none=>none
  |some v6=>
  some ((v1.1.1,v6,(v1.1.2.2.1.1,v1.1.2.2.1.2.1,v1.1.2.2.1.2.2.1,v1.1.2.2.1.2.2.2.1,v1.1.2.2.1.2.2.2.2.1,()),v1.1.2.2.2.1,()),(v4.2.1.1,v4.2.1.2.1,v4.2.1.2.2.1,()),())
 |false=>
  match(v2.1==(2:Int))with
  |true=>
   match mA ((v2.2.1.1,v2.2.1.2.1,v2.2.1.2.2.1,()),())with
   |none=>none
   |some v7=>
   some ((v1.1.1,v1.1.2.1,(v7.1.1,v7.1.2.1,v7.1.2.2.1,v7.1.2.2.2.1,v7.1.2.2.2.2.1,()),v1.1.2.2.2.1,()),(v7.2.1.1,v7.2.1.2.1,v7.2.1.2.2.1,()),())
  |false=>
   match(v2.1==(3:Int))with
   |true=>
    match gL ((v2.2.1.1,v2.2.1.2.1,v2.2.1.2.2.1,()),(3:Int),())with
    |none=>none
    |some v8=>
    some ((v1.1.1,v1.1.2.1,(v1.1.2.2.1.1,v1.1.2.2.1.2.1,v1.1.2.2.1.2.2.1,v1.1.2.2.1.2.2.2.1,v1.1.2.2.1.2.2.2.2.1,()),v8.1,()),(v8.2.1.1,v8.2.1.2.1,v8.2.1.2.2.1,()),())
   |false=>
    match(v2.1==(4:Int))with
    |true=>
     match aa ((v2.2.1.1,v2.2.1.2.1,v2.2.1.2.2.1,()),(2:Int),())with
     |none=>none
     |some v9=>
     if 0≤(IntKind.i64.wrap ((32:Int)+v9.1))∧(IntKind.i64.wrap ((32:Int)+v9.1))≤(IntKind.i64.wrap ((32:Int)+v9.1))then
      aH ((IntKind.i64.wrap ((32:Int)+v9.1)).toNat) (
       some ((v1.1.1,v1.1.2.1,(v1.1.2.2.1.1,v1.1.2.2.1.2.1,v1.1.2.2.1.2.2.1,v1.1.2.2.1.2.2.2.1,v1.1.2.2.1.2.2.2.2.1,()),(List.replicate (IntKind.i64.wrap ((32:Int)+v9.1)).toNat (0:Int)),()),(v9.2.1.1,v9.2.1.2.1,v9.2.1.2.2.1,()),()))
     else none
    |false=>
     some ((v1.1.1,v1.1.2.1,(v1.1.2.2.1.1,v1.1.2.2.1.2.1,v1.1.2.2.1.2.2.1,v1.1.2.2.1.2.2.2.1,v1.1.2.2.1.2.2.2.2.1,()),v1.1.2.2.2.1,()),(v2.2.1.1,v2.2.1.2.1,v2.2.1.2.2.1,()),())
noncomputable def An:ae:=⟨_,Ms,dY,rfl,jt⟩
theorem Li:FnOK G0 Tryz.prog 88 An:=aq ap (sg u9 (sg bh (sg QV (sg yp (aU))))) Tryz.func88
noncomputable def aw(x:Ty.T (.pair ar (.pair ak bM))):Option (Ty.T aag):=
match gr (x.1,x.2.1,())with
|none=>none
|some v1=>
an (
 match cB (v1.1.2.2.1,x.2.2.1,())with
 |none=>none
 |some v2=>
 match dj (v1.1.2.1,())with
 |none=>none
 |some v3=>
 match v3.1 with
 |true=>
  some ((v1.1.2.1,x.2.2.2.1,x.2.1,v2.1,()),())
 |false=>
  some ((v1.1.2.1,x.2.2.2.1,((0:Int),(0:Int),(0:Int),(0:Int),(0:Int),()),v2.1,()),()))
noncomputable def FB:ae:=⟨_,aag,.unit,rfl,aw⟩
theorem Pk:FnOK G0 Tryz.prog 90 FB:=aq ap (sg gt (sg mp (sg iv (aU)))) Tryz.func90
abbrev rp:Ty:=(.pair (.box ah) (.pair (.box ar) (.pair (.box ak) (.pair (.box ba) (.pair (.ptr ar) (.pair (.box ak) (.pair (.box (.pair (.int .i64) (.pair (.int .i64) (.pair ak (.pair (.own 2 (.int .i64)) .unit))))) (.pair (.int .i64) .unit))))))))
abbrev Ao:Ty:=(.pair (.box ah) (.pair (.box ar) (.pair (.box ak) (.pair (.box ba) (.pair (.ptr ar) (.pair (.box ak) (.pair (.box (.pair (.int .i64) (.pair (.int .i64) (.pair ak (.pair (.own 2 (.int .i64)) .unit))))) .unit)))))))
noncomputable def am(x:(Ty.T rp)):Option ((Ty.T rp) ⊕ ((Ty.T Ao) ⊕ (Ty.T .unit))):=
match(decide (x.2.2.2.2.2.2.2.1<(x.2.2.2.2.2.2.1.2.2.2.1.length:Int)))with
|true=>
 an (
  match aa (x.1,(256:Int),())with
  |none=>none
  |some v14=>
  ab (av x.2.2.2.2.2.2.1.2.2.2.1 x.2.2.2.2.2.2.2.1) fun _=>
  match x.2.2.2.2.2.2.1.2.2.2.1[x.2.2.2.2.2.2.2.1.toNat]? with
  |none=>none
  |some v16=>
  some (.inl (v14.2.1,x.2.1,x.2.2.1,x.2.2.2.1,x.2.2.2.2.1,x.2.2.2.2.2.1,(x.2.2.2.2.2.2.1.1,x.2.2.2.2.2.2.1.2.1,x.2.2.2.2.2.2.1.2.2.1,(x.2.2.2.2.2.2.1.2.2.2.1.set x.2.2.2.2.2.2.2.1.toNat v14.1),()),(IntKind.i64.wrap (x.2.2.2.2.2.2.2.1+(1:Int))),())))
|false=>
 some (.inr (.inl (x.1,x.2.1,x.2.2.1,x.2.2.2.1,x.2.2.2.2.1,x.2.2.2.2.2.1,x.2.2.2.2.2.2.1,())))
noncomputable def sY(x:Ty.T dY):Option (Ty.T (.pair ar (.pair ak (.pair ba (.pair (.box ah) .unit))))):=
match yq (x.1,())with
|none=>none
|some v1=>
match r7 (v1.1,v1.2.1,())with
|none=>none
|some v2=>
match(!v2.1)with
|true=>
 al (
  match jt (v1.2.2.1,())with
  |none=>none
  |some v3=>
  some (v1.1,v1.2.1,v3.1,v3.2.1,())) (
  match jt (v1.2.2.1,())with
  |none=>none
  |some v3=>
  an (
   some (v1.1,v1.2.1,v3.1,v3.2.1,())))
|false=>
 match aa (v1.2.2.1,(16:Int),())with
 |none=>none
 |some v4=>
 match(v4.1==(0:Int))with
 |true=>
  al (
   match jt (v4.2.1,())with
   |none=>none
   |some v5=>
   some (v1.1,v1.2.1,v5.1,v5.2.1,())) (
   match jt (v4.2.1,())with
   |none=>none
   |some v5=>
   an (
    some (v1.1,v1.2.1,v5.1,v5.2.1,())))
 |false=>
  match gr (v1.1,v1.2.1,())with
  |none=>none
  |some v6=>
  match(v6.1.2.1==(3:Int))with
  |true=>
   match aa (v4.2.1,(6:Int),())with
   |none=>none
   |some v7=>
   match(decide (v7.1>(0:Int)))with
   |true=>
    ab (av v1.1.2.1 (0:Int)) fun v8=>
    if(IntKind.u64.wrap v8.1)<0 then none else
    ab (av v1.1.2.1 (0:Int)) fun v9=>
    match v9.2.2.2.1 with
    |true=>
     al (
      al (
       match aa (v7.2.1,(256:Int),())with
       |none=>none
       |some v10=>
       al (
        match aa (v10.2.1,(8:Int),())with
        |none=>none
        |some v11=>
        al (
         match aa (v11.2.1,(3:Int),())with
         |none=>none
         |some v12=>
         al (
          match aw (v1.1,(v1.2.1.1,v1.2.1.2.1,v1.2.1.2.2.1,v1.2.1.2.2.2.1,(0:Int),()),v10.1,(IntKind.i64.wrap (v11.1*(IntKind.i64.wrap (Int.tdiv v12.1 (2:Int))))),())with
          |none=>none
          |some v13=>
          match ac am (v12.2.1,((0:Int),[],[],[],()),((0:Int),(0:Int),(0:Int),(0:Int),(0:Int),()),((0:Int),(0:Int),((0:Int),(0:Int),(0:Int),(0:Int),(0:Int),()),[],()),v1.1,(v1.2.1.1,v1.2.1.2.1,v1.2.1.2.2.1,v1.2.1.2.2.2.1,(0:Int),()),v13.1,(0:Int),())with
          |none=>none
          |some (.inl v17)=>
           match aa (v17.1,(24:Int),())with
           |none=>none
           |some v19=>
           match(v19.1==(0:Int))with
           |true=>
            match az (v19.2.1,())with
            |none=>none
            |some v20=>
            al (
             some (v17.2.2.2.2.1,v17.2.2.2.2.2.1,(v17.2.2.2.2.2.2.1.1,v17.2.2.2.2.2.2.1.2.1,v20.1,v17.2.2.2.2.2.2.1.2.2.2.1,()),v20.2.1,())) (
             an (
              some (v17.2.2.2.2.1,v17.2.2.2.2.2.1,(v17.2.2.2.2.2.2.1.1,v17.2.2.2.2.2.2.1.2.1,v20.1,v17.2.2.2.2.2.2.1.2.2.2.1,()),v20.2.1,())))
           |false=>
            al (
             some (v17.2.2.2.2.1,v17.2.2.2.2.2.1,v17.2.2.2.2.2.2.1,v19.2.1,())) (
             an (
              some (v17.2.2.2.2.1,v17.2.2.2.2.2.1,v17.2.2.2.2.2.2.1,v19.2.1,())))
          |some (.inr v21)=>
           none) (
          match aw (v1.1,(v1.2.1.1,v1.2.1.2.1,v1.2.1.2.2.1,v1.2.1.2.2.2.1,(0:Int),()),v10.1,(IntKind.i64.wrap (v11.1*(IntKind.i64.wrap (Int.tdiv v12.1 (2:Int))))),())with
          |none=>none
          |some v13=>
          match ac am (v12.2.1,((0:Int),[],[],[],()),((0:Int),(0:Int),(0:Int),(0:Int),(0:Int),()),((0:Int),(0:Int),((0:Int),(0:Int),(0:Int),(0:Int),(0:Int),()),[],()),v1.1,(v1.2.1.1,v1.2.1.2.1,v1.2.1.2.2.1,v1.2.1.2.2.2.1,(0:Int),()),v13.1,(0:Int),())with
          |none=>none
          |some (.inl v14)=>
           match aa (v14.1,(24:Int),())with
           |none=>none
           |some v16=>
           match(v16.1==(0:Int))with
           |true=>
            match az (v16.2.1,())with
            |none=>none
            |some v17=>
            al (
             some (v14.2.2.2.2.1,v14.2.2.2.2.2.1,(v14.2.2.2.2.2.2.1.1,v14.2.2.2.2.2.2.1.2.1,v17.1,v14.2.2.2.2.2.2.1.2.2.2.1,()),v17.2.1,())) (
             an (
              some (v14.2.2.2.2.1,v14.2.2.2.2.2.1,(v14.2.2.2.2.2.2.1.1,v14.2.2.2.2.2.2.1.2.1,v17.1,v14.2.2.2.2.2.2.1.2.2.2.1,()),v17.2.1,())))
           |false=>
            al (
             some (v14.2.2.2.2.1,v14.2.2.2.2.2.1,v14.2.2.2.2.2.2.1,v16.2.1,())) (
             an (
              some (v14.2.2.2.2.1,v14.2.2.2.2.2.1,v14.2.2.2.2.2.2.1,v16.2.1,())))
          |some (.inr v18)=>
           none)) (
         match aa (v11.2.1,(3:Int),())with
         |none=>none
         |some v12=>
         match aw (v1.1,(v1.2.1.1,v1.2.1.2.1,v1.2.1.2.2.1,v1.2.1.2.2.2.1,(0:Int),()),v10.1,(IntKind.i64.wrap (v11.1*(IntKind.i64.wrap (Int.tdiv v12.1 (2:Int))))),())with
         |none=>none
         |some v13=>
         match ac am (v12.2.1,((0:Int),[],[],[],()),((0:Int),(0:Int),(0:Int),(0:Int),(0:Int),()),((0:Int),(0:Int),((0:Int),(0:Int),(0:Int),(0:Int),(0:Int),()),[],()),v1.1,(v1.2.1.1,v1.2.1.2.1,v1.2.1.2.2.1,v1.2.1.2.2.2.1,(0:Int),()),v13.1,(0:Int),())with
         |none=>none
         |some (.inl v14)=>
          match aa (v14.1,(24:Int),())with
          |none=>none
          |some v16=>
          match(v16.1==(0:Int))with
          |true=>
           match az (v16.2.1,())with
           |none=>none
           |some v17=>
           al (
            some (v14.2.2.2.2.1,v14.2.2.2.2.2.1,(v14.2.2.2.2.2.2.1.1,v14.2.2.2.2.2.2.1.2.1,v17.1,v14.2.2.2.2.2.2.1.2.2.2.1,()),v17.2.1,())) (
            an (
             some (v14.2.2.2.2.1,v14.2.2.2.2.2.1,(v14.2.2.2.2.2.2.1.1,v14.2.2.2.2.2.2.1.2.1,v17.1,v14.2.2.2.2.2.2.1.2.2.2.1,()),v17.2.1,())))
          |false=>
           al (
            some (v14.2.2.2.2.1,v14.2.2.2.2.2.1,v14.2.2.2.2.2.2.1,v16.2.1,())) (
            an (
             some (v14.2.2.2.2.1,v14.2.2.2.2.2.1,v14.2.2.2.2.2.2.1,v16.2.1,())))
         |some (.inr v18)=>
          none)) (
        match aa (v10.2.1,(8:Int),())with
        |none=>none
        |some v11=>
        match aa (v11.2.1,(3:Int),())with
        |none=>none
        |some v12=>
        match aw (v1.1,(v1.2.1.1,v1.2.1.2.1,v1.2.1.2.2.1,v1.2.1.2.2.2.1,(0:Int),()),v10.1,(IntKind.i64.wrap (v11.1*(IntKind.i64.wrap (Int.tdiv v12.1 (2:Int))))),())with
        |none=>none
        |some v13=>
        match ac am (v12.2.1,((0:Int),[],[],[],()),((0:Int),(0:Int),(0:Int),(0:Int),(0:Int),()),((0:Int),(0:Int),((0:Int),(0:Int),(0:Int),(0:Int),(0:Int),()),[],()),v1.1,(v1.2.1.1,v1.2.1.2.1,v1.2.1.2.2.1,v1.2.1.2.2.2.1,(0:Int),()),v13.1,(0:Int),())with
        |none=>none
        |some (.inl v14)=>
         match aa (v14.1,(24:Int),())with
         |none=>none
         |some v16=>
         match(v16.1==(0:Int))with
         |true=>
          match az (v16.2.1,())with
          |none=>none
          |some v17=>
          al (
           some (v14.2.2.2.2.1,v14.2.2.2.2.2.1,(v14.2.2.2.2.2.2.1.1,v14.2.2.2.2.2.2.1.2.1,v17.1,v14.2.2.2.2.2.2.1.2.2.2.1,()),v17.2.1,())) (
           an (
            some (v14.2.2.2.2.1,v14.2.2.2.2.2.1,(v14.2.2.2.2.2.2.1.1,v14.2.2.2.2.2.2.1.2.1,v17.1,v14.2.2.2.2.2.2.1.2.2.2.1,()),v17.2.1,())))
         |false=>
          al (
           some (v14.2.2.2.2.1,v14.2.2.2.2.2.1,v14.2.2.2.2.2.2.1,v16.2.1,())) (
           an (
            some (v14.2.2.2.2.1,v14.2.2.2.2.2.1,v14.2.2.2.2.2.2.1,v16.2.1,())))
        |some (.inr v18)=>
         none)) (
       match aa (v7.2.1,(256:Int),())with
       |none=>none
       |some v10=>
       match aa (v10.2.1,(8:Int),())with
       |none=>none
       |some v11=>
       match aa (v11.2.1,(3:Int),())with
       |none=>none
       |some v12=>
       match aw (v1.1,(v1.2.1.1,v1.2.1.2.1,v1.2.1.2.2.1,v1.2.1.2.2.2.1,(0:Int),()),v10.1,(IntKind.i64.wrap (v11.1*(IntKind.i64.wrap (Int.tdiv v12.1 (2:Int))))),())with
       |none=>none
       |some v13=>
       match ac am (v12.2.1,((0:Int),[],[],[],()),((0:Int),(0:Int),(0:Int),(0:Int),(0:Int),()),((0:Int),(0:Int),((0:Int),(0:Int),(0:Int),(0:Int),(0:Int),()),[],()),v1.1,(v1.2.1.1,v1.2.1.2.1,v1.2.1.2.2.1,v1.2.1.2.2.2.1,(0:Int),()),v13.1,(0:Int),())with
       |none=>none
       |some (.inl v14)=>
        match aa (v14.1,(24:Int),())with
        |none=>none
        |some v16=>
        match(v16.1==(0:Int))with
        |true=>
         match az (v16.2.1,())with
         |none=>none
         |some v17=>
         al (
          some (v14.2.2.2.2.1,v14.2.2.2.2.2.1,(v14.2.2.2.2.2.2.1.1,v14.2.2.2.2.2.2.1.2.1,v17.1,v14.2.2.2.2.2.2.1.2.2.2.1,()),v17.2.1,())) (
          an (
           some (v14.2.2.2.2.1,v14.2.2.2.2.2.1,(v14.2.2.2.2.2.2.1.1,v14.2.2.2.2.2.2.1.2.1,v17.1,v14.2.2.2.2.2.2.1.2.2.2.1,()),v17.2.1,())))
        |false=>
         al (
          some (v14.2.2.2.2.1,v14.2.2.2.2.2.1,v14.2.2.2.2.2.2.1,v16.2.1,())) (
          an (
           some (v14.2.2.2.2.1,v14.2.2.2.2.2.1,v14.2.2.2.2.2.2.1,v16.2.1,())))
       |some (.inr v18)=>
        none)) (
      al (
       match aa (v7.2.1,(256:Int),())with
       |none=>none
       |some v10=>
       al (
        al (
         match aa (v10.2.1,(8:Int),())with
         |none=>none
         |some v11=>
         al (
          match aa (v11.2.1,(3:Int),())with
          |none=>none
          |some v12=>
          an (
           match aw (v1.1,(v1.2.1.1,v1.2.1.2.1,v1.2.1.2.2.1,v1.2.1.2.2.2.1,(0:Int),()),v10.1,(IntKind.i64.wrap (v11.1*(IntKind.i64.wrap (Int.tdiv v12.1 (2:Int))))),())with
           |none=>none
           |some v13=>
           match ac am (v12.2.1,((0:Int),[],[],[],()),((0:Int),(0:Int),(0:Int),(0:Int),(0:Int),()),((0:Int),(0:Int),((0:Int),(0:Int),(0:Int),(0:Int),(0:Int),()),[],()),v1.1,(v1.2.1.1,v1.2.1.2.1,v1.2.1.2.2.1,v1.2.1.2.2.2.1,(0:Int),()),v13.1,(0:Int),())with
           |none=>none
           |some (.inl v14)=>
            match aa (v14.1,(24:Int),())with
            |none=>none
            |some v16=>
            match(v16.1==(0:Int))with
            |true=>
             match az (v16.2.1,())with
             |none=>none
             |some v17=>
             al (
              some (v14.2.2.2.2.1,v14.2.2.2.2.2.1,(v14.2.2.2.2.2.2.1.1,v14.2.2.2.2.2.2.1.2.1,v17.1,v14.2.2.2.2.2.2.1.2.2.2.1,()),v17.2.1,())) (
              an (
               some (v14.2.2.2.2.1,v14.2.2.2.2.2.1,(v14.2.2.2.2.2.2.1.1,v14.2.2.2.2.2.2.1.2.1,v17.1,v14.2.2.2.2.2.2.1.2.2.2.1,()),v17.2.1,())))
            |false=>
             al (
              some (v14.2.2.2.2.1,v14.2.2.2.2.2.1,v14.2.2.2.2.2.2.1,v16.2.1,())) (
              an (
               some (v14.2.2.2.2.1,v14.2.2.2.2.2.1,v14.2.2.2.2.2.2.1,v16.2.1,())))
           |some (.inr v18)=>
            none)) (
          match aa (v11.2.1,(3:Int),())with
          |none=>none
          |some v12=>
          match aw (v1.1,(v1.2.1.1,v1.2.1.2.1,v1.2.1.2.2.1,v1.2.1.2.2.2.1,(0:Int),()),v10.1,(IntKind.i64.wrap (v11.1*(IntKind.i64.wrap (Int.tdiv v12.1 (2:Int))))),())with
          |none=>none
          |some v13=>
          match ac am (v12.2.1,((0:Int),[],[],[],()),((0:Int),(0:Int),(0:Int),(0:Int),(0:Int),()),((0:Int),(0:Int),((0:Int),(0:Int),(0:Int),(0:Int),(0:Int),()),[],()),v1.1,(v1.2.1.1,v1.2.1.2.1,v1.2.1.2.2.1,v1.2.1.2.2.2.1,(0:Int),()),v13.1,(0:Int),())with
          |none=>none
          |some (.inl v14)=>
           match aa (v14.1,(24:Int),())with
           |none=>none
           |some v16=>
           match(v16.1==(0:Int))with
           |true=>
            match az (v16.2.1,())with
            |none=>none
            |some v17=>
            al (
             some (v14.2.2.2.2.1,v14.2.2.2.2.2.1,(v14.2.2.2.2.2.2.1.1,v14.2.2.2.2.2.2.1.2.1,v17.1,v14.2.2.2.2.2.2.1.2.2.2.1,()),v17.2.1,())) (
             an (
              some (v14.2.2.2.2.1,v14.2.2.2.2.2.1,(v14.2.2.2.2.2.2.1.1,v14.2.2.2.2.2.2.1.2.1,v17.1,v14.2.2.2.2.2.2.1.2.2.2.1,()),v17.2.1,())))
           |false=>
            al (
             some (v14.2.2.2.2.1,v14.2.2.2.2.2.1,v14.2.2.2.2.2.2.1,v16.2.1,())) (
             an (
              some (v14.2.2.2.2.1,v14.2.2.2.2.2.1,v14.2.2.2.2.2.2.1,v16.2.1,())))
          |some (.inr v18)=>
           none)) (
         match aa (v10.2.1,(8:Int),())with
         |none=>none
         |some v11=>
         match aa (v11.2.1,(3:Int),())with
         |none=>none
         |some v12=>
         match aw (v1.1,(v1.2.1.1,v1.2.1.2.1,v1.2.1.2.2.1,v1.2.1.2.2.2.1,(0:Int),()),v10.1,(IntKind.i64.wrap (v11.1*(IntKind.i64.wrap (Int.tdiv v12.1 (2:Int))))),())with
         |none=>none
         |some v13=>
         match ac am (v12.2.1,((0:Int),[],[],[],()),((0:Int),(0:Int),(0:Int),(0:Int),(0:Int),()),((0:Int),(0:Int),((0:Int),(0:Int),(0:Int),(0:Int),(0:Int),()),[],()),v1.1,(v1.2.1.1,v1.2.1.2.1,v1.2.1.2.2.1,v1.2.1.2.2.2.1,(0:Int),()),v13.1,(0:Int),())with
         |none=>none
         |some (.inl v14)=>
          match aa (v14.1,(24:Int),())with
          |none=>none
          |some v16=>
          match(v16.1==(0:Int))with
          |true=>
           match az (v16.2.1,())with
           |none=>none
           |some v17=>
           al (
            some (v14.2.2.2.2.1,v14.2.2.2.2.2.1,(v14.2.2.2.2.2.2.1.1,v14.2.2.2.2.2.2.1.2.1,v17.1,v14.2.2.2.2.2.2.1.2.2.2.1,()),v17.2.1,())) (
            an (
             some (v14.2.2.2.2.1,v14.2.2.2.2.2.1,(v14.2.2.2.2.2.2.1.1,v14.2.2.2.2.2.2.1.2.1,v17.1,v14.2.2.2.2.2.2.1.2.2.2.1,()),v17.2.1,())))
          |false=>
           al (
            some (v14.2.2.2.2.1,v14.2.2.2.2.2.1,v14.2.2.2.2.2.2.1,v16.2.1,())) (
            an (
             some (v14.2.2.2.2.1,v14.2.2.2.2.2.1,v14.2.2.2.2.2.2.1,v16.2.1,())))
         |some (.inr v18)=>
          none)) (
        al (
         match aa (v10.2.1,(8:Int),())with
         |none=>none
         |some v11=>
         al (
          al (
           match aa (v11.2.1,(3:Int),())with
           |none=>none
           |some v12=>
           an (
            match aw (v1.1,(v1.2.1.1,v1.2.1.2.1,v1.2.1.2.2.1,v1.2.1.2.2.2.1,(0:Int),()),v10.1,(IntKind.i64.wrap (v11.1*(IntKind.i64.wrap (Int.tdiv v12.1 (2:Int))))),())with
            |none=>none
            |some v13=>
            match ac am (v12.2.1,((0:Int),[],[],[],()),((0:Int),(0:Int),(0:Int),(0:Int),(0:Int),()),((0:Int),(0:Int),((0:Int),(0:Int),(0:Int),(0:Int),(0:Int),()),[],()),v1.1,(v1.2.1.1,v1.2.1.2.1,v1.2.1.2.2.1,v1.2.1.2.2.2.1,(0:Int),()),v13.1,(0:Int),())with
            |none=>none
            |some (.inl v14)=>
             match aa (v14.1,(24:Int),())with
             |none=>none
             |some v16=>
             match(v16.1==(0:Int))with
             |true=>
              match az (v16.2.1,())with
              |none=>none
              |some v17=>
              al (
               some (v14.2.2.2.2.1,v14.2.2.2.2.2.1,(v14.2.2.2.2.2.2.1.1,v14.2.2.2.2.2.2.1.2.1,v17.1,v14.2.2.2.2.2.2.1.2.2.2.1,()),v17.2.1,())) (
               an (
                some (v14.2.2.2.2.1,v14.2.2.2.2.2.1,(v14.2.2.2.2.2.2.1.1,v14.2.2.2.2.2.2.1.2.1,v17.1,v14.2.2.2.2.2.2.1.2.2.2.1,()),v17.2.1,())))
             |false=>
              al (
               some (v14.2.2.2.2.1,v14.2.2.2.2.2.1,v14.2.2.2.2.2.2.1,v16.2.1,())) (
               an (
                some (v14.2.2.2.2.1,v14.2.2.2.2.2.1,v14.2.2.2.2.2.2.1,v16.2.1,())))
            |some (.inr v18)=>
             none)) (
           match aa (v11.2.1,(3:Int),())with
           |none=>none
           |some v12=>
           match aw (v1.1,(v1.2.1.1,v1.2.1.2.1,v1.2.1.2.2.1,v1.2.1.2.2.2.1,(0:Int),()),v10.1,(IntKind.i64.wrap (v11.1*(IntKind.i64.wrap (Int.tdiv v12.1 (2:Int))))),())with
           |none=>none
           |some v13=>
           match ac am (v12.2.1,((0:Int),[],[],[],()),((0:Int),(0:Int),(0:Int),(0:Int),(0:Int),()),((0:Int),(0:Int),((0:Int),(0:Int),(0:Int),(0:Int),(0:Int),()),[],()),v1.1,(v1.2.1.1,v1.2.1.2.1,v1.2.1.2.2.1,v1.2.1.2.2.2.1,(0:Int),()),v13.1,(0:Int),())with
           |none=>none
           |some (.inl v14)=>
            match aa (v14.1,(24:Int),())with
            |none=>none
            |some v16=>
            match(v16.1==(0:Int))with
            |true=>
             match az (v16.2.1,())with
             |none=>none
             |some v17=>
             al (
              some (v14.2.2.2.2.1,v14.2.2.2.2.2.1,(v14.2.2.2.2.2.2.1.1,v14.2.2.2.2.2.2.1.2.1,v17.1,v14.2.2.2.2.2.2.1.2.2.2.1,()),v17.2.1,())) (
              an (
               some (v14.2.2.2.2.1,v14.2.2.2.2.2.1,(v14.2.2.2.2.2.2.1.1,v14.2.2.2.2.2.2.1.2.1,v17.1,v14.2.2.2.2.2.2.1.2.2.2.1,()),v17.2.1,())))
            |false=>
             al (
              some (v14.2.2.2.2.1,v14.2.2.2.2.2.1,v14.2.2.2.2.2.2.1,v16.2.1,())) (
              an (
               some (v14.2.2.2.2.1,v14.2.2.2.2.2.1,v14.2.2.2.2.2.2.1,v16.2.1,())))
           |some (.inr v18)=>
            none)) (
          al (
           match aa (v11.2.1,(3:Int),())with
           |none=>none
           |some v12=>
           al (
            an (
             match aw (v1.1,(v1.2.1.1,v1.2.1.2.1,v1.2.1.2.2.1,v1.2.1.2.2.2.1,(0:Int),()),v10.1,(IntKind.i64.wrap (v11.1*(IntKind.i64.wrap (Int.tdiv v12.1 (2:Int))))),())with
             |none=>none
             |some v13=>
             match ac am (v12.2.1,((0:Int),[],[],[],()),((0:Int),(0:Int),(0:Int),(0:Int),(0:Int),()),((0:Int),(0:Int),((0:Int),(0:Int),(0:Int),(0:Int),(0:Int),()),[],()),v1.1,(v1.2.1.1,v1.2.1.2.1,v1.2.1.2.2.1,v1.2.1.2.2.2.1,(0:Int),()),v13.1,(0:Int),())with
             |none=>none
             |some (.inl v14)=>
              match aa (v14.1,(24:Int),())with
              |none=>none
              |some v16=>
              match(v16.1==(0:Int))with
              |true=>
               match az (v16.2.1,())with
               |none=>none
               |some v17=>
               al (
                some (v14.2.2.2.2.1,v14.2.2.2.2.2.1,(v14.2.2.2.2.2.2.1.1,v14.2.2.2.2.2.2.1.2.1,v17.1,v14.2.2.2.2.2.2.1.2.2.2.1,()),v17.2.1,())) (
                an (
                 some (v14.2.2.2.2.1,v14.2.2.2.2.2.1,(v14.2.2.2.2.2.2.1.1,v14.2.2.2.2.2.2.1.2.1,v17.1,v14.2.2.2.2.2.2.1.2.2.2.1,()),v17.2.1,())))
              |false=>
               al (
                some (v14.2.2.2.2.1,v14.2.2.2.2.2.1,v14.2.2.2.2.2.2.1,v16.2.1,())) (
                an (
                 some (v14.2.2.2.2.1,v14.2.2.2.2.2.1,v14.2.2.2.2.2.2.1,v16.2.1,())))
             |some (.inr v18)=>
              none)) (
            match aw (v1.1,(v1.2.1.1,v1.2.1.2.1,v1.2.1.2.2.1,v1.2.1.2.2.2.1,(0:Int),()),v10.1,(IntKind.i64.wrap (v11.1*(IntKind.i64.wrap (Int.tdiv v12.1 (2:Int))))),())with
            |none=>none
            |some v13=>
            match ac am (v12.2.1,((0:Int),[],[],[],()),((0:Int),(0:Int),(0:Int),(0:Int),(0:Int),()),((0:Int),(0:Int),((0:Int),(0:Int),(0:Int),(0:Int),(0:Int),()),[],()),v1.1,(v1.2.1.1,v1.2.1.2.1,v1.2.1.2.2.1,v1.2.1.2.2.2.1,(0:Int),()),v13.1,(0:Int),())with
            |none=>none
            |some (.inl v14)=>
             match aa (v14.1,(24:Int),())with
             |none=>none
             |some v16=>
             match(v16.1==(0:Int))with
             |true=>
              match az (v16.2.1,())with
              |none=>none
              |some v17=>
              al (
               some (v14.2.2.2.2.1,v14.2.2.2.2.2.1,(v14.2.2.2.2.2.2.1.1,v14.2.2.2.2.2.2.1.2.1,v17.1,v14.2.2.2.2.2.2.1.2.2.2.1,()),v17.2.1,())) (
               an (
                some (v14.2.2.2.2.1,v14.2.2.2.2.2.1,(v14.2.2.2.2.2.2.1.1,v14.2.2.2.2.2.2.1.2.1,v17.1,v14.2.2.2.2.2.2.1.2.2.2.1,()),v17.2.1,())))
             |false=>
              al (
               some (v14.2.2.2.2.1,v14.2.2.2.2.2.1,v14.2.2.2.2.2.2.1,v16.2.1,())) (
               an (
                some (v14.2.2.2.2.1,v14.2.2.2.2.2.1,v14.2.2.2.2.2.2.1,v16.2.1,())))
            |some (.inr v18)=>
             none)) (
           an (
            match aa (v11.2.1,(3:Int),())with
            |none=>none
            |some v12=>
            match aw (v1.1,(v1.2.1.1,v1.2.1.2.1,v1.2.1.2.2.1,v1.2.1.2.2.2.1,(0:Int),()),v10.1,(IntKind.i64.wrap (v11.1*(IntKind.i64.wrap (Int.tdiv v12.1 (2:Int))))),())with
            |none=>none
            |some v13=>
            match ac am (v12.2.1,((0:Int),[],[],[],()),((0:Int),(0:Int),(0:Int),(0:Int),(0:Int),()),((0:Int),(0:Int),((0:Int),(0:Int),(0:Int),(0:Int),(0:Int),()),[],()),v1.1,(v1.2.1.1,v1.2.1.2.1,v1.2.1.2.2.1,v1.2.1.2.2.2.1,(0:Int),()),v13.1,(0:Int),())with
            |none=>none
            |some (.inl v14)=>
             match aa (v14.1,(24:Int),())with
             |none=>none
             |some v16=>
             match(v16.1==(0:Int))with
             |true=>
              match az (v16.2.1,())with
              |none=>none
              |some v17=>
              al (
               some (v14.2.2.2.2.1,v14.2.2.2.2.2.1,(v14.2.2.2.2.2.2.1.1,v14.2.2.2.2.2.2.1.2.1,v17.1,v14.2.2.2.2.2.2.1.2.2.2.1,()),v17.2.1,())) (
               an (
                some (v14.2.2.2.2.1,v14.2.2.2.2.2.1,(v14.2.2.2.2.2.2.1.1,v14.2.2.2.2.2.2.1.2.1,v17.1,v14.2.2.2.2.2.2.1.2.2.2.1,()),v17.2.1,())))
             |false=>
              al (
               some (v14.2.2.2.2.1,v14.2.2.2.2.2.1,v14.2.2.2.2.2.2.1,v16.2.1,())) (
               an (
                some (v14.2.2.2.2.1,v14.2.2.2.2.2.1,v14.2.2.2.2.2.2.1,v16.2.1,())))
            |some (.inr v18)=>
             none)))) (
         al (
          match aa (v10.2.1,(8:Int),())with
          |none=>none
          |some v11=>
          match aa (v11.2.1,(3:Int),())with
          |none=>none
          |some v12=>
          match aw (v1.1,(v1.2.1.1,v1.2.1.2.1,v1.2.1.2.2.1,v1.2.1.2.2.2.1,(0:Int),()),v10.1,(IntKind.i64.wrap (v11.1*(IntKind.i64.wrap (Int.tdiv v12.1 (2:Int))))),())with
          |none=>none
          |some v13=>
          match ac am (v12.2.1,((0:Int),[],[],[],()),((0:Int),(0:Int),(0:Int),(0:Int),(0:Int),()),((0:Int),(0:Int),((0:Int),(0:Int),(0:Int),(0:Int),(0:Int),()),[],()),v1.1,(v1.2.1.1,v1.2.1.2.1,v1.2.1.2.2.1,v1.2.1.2.2.2.1,(0:Int),()),v13.1,(0:Int),())with
          |none=>none
          |some (.inl v14)=>
           match aa (v14.1,(24:Int),())with
           |none=>none
           |some v16=>
           match(v16.1==(0:Int))with
           |true=>
            match az (v16.2.1,())with
            |none=>none
            |some v17=>
            al (
             some (v14.2.2.2.2.1,v14.2.2.2.2.2.1,(v14.2.2.2.2.2.2.1.1,v14.2.2.2.2.2.2.1.2.1,v17.1,v14.2.2.2.2.2.2.1.2.2.2.1,()),v17.2.1,())) (
             an (
              some (v14.2.2.2.2.1,v14.2.2.2.2.2.1,(v14.2.2.2.2.2.2.1.1,v14.2.2.2.2.2.2.1.2.1,v17.1,v14.2.2.2.2.2.2.1.2.2.2.1,()),v17.2.1,())))
           |false=>
            al (
             some (v14.2.2.2.2.1,v14.2.2.2.2.2.1,v14.2.2.2.2.2.2.1,v16.2.1,())) (
             an (
              some (v14.2.2.2.2.1,v14.2.2.2.2.2.1,v14.2.2.2.2.2.2.1,v16.2.1,())))
          |some (.inr v18)=>
           none) (
          match aa (v10.2.1,(8:Int),())with
          |none=>none
          |some v11=>
          an (
           match aa (v11.2.1,(3:Int),())with
           |none=>none
           |some v12=>
           match aw (v1.1,(v1.2.1.1,v1.2.1.2.1,v1.2.1.2.2.1,v1.2.1.2.2.2.1,(0:Int),()),v10.1,(IntKind.i64.wrap (v11.1*(IntKind.i64.wrap (Int.tdiv v12.1 (2:Int))))),())with
           |none=>none
           |some v13=>
           match ac am (v12.2.1,((0:Int),[],[],[],()),((0:Int),(0:Int),(0:Int),(0:Int),(0:Int),()),((0:Int),(0:Int),((0:Int),(0:Int),(0:Int),(0:Int),(0:Int),()),[],()),v1.1,(v1.2.1.1,v1.2.1.2.1,v1.2.1.2.2.1,v1.2.1.2.2.2.1,(0:Int),()),v13.1,(0:Int),())with
           |none=>none
           |some (.inl v14)=>
            match aa (v14.1,(24:Int),())with
            |none=>none
            |some v16=>
            match(v16.1==(0:Int))with
            |true=>
             match az (v16.2.1,())with
             |none=>none
             |some v17=>
             al (
              some (v14.2.2.2.2.1,v14.2.2.2.2.2.1,(v14.2.2.2.2.2.2.1.1,v14.2.2.2.2.2.2.1.2.1,v17.1,v14.2.2.2.2.2.2.1.2.2.2.1,()),v17.2.1,())) (
              an (
               some (v14.2.2.2.2.1,v14.2.2.2.2.2.1,(v14.2.2.2.2.2.2.1.1,v14.2.2.2.2.2.2.1.2.1,v17.1,v14.2.2.2.2.2.2.1.2.2.2.1,()),v17.2.1,())))
            |false=>
             al (
              some (v14.2.2.2.2.1,v14.2.2.2.2.2.1,v14.2.2.2.2.2.2.1,v16.2.1,())) (
              an (
               some (v14.2.2.2.2.1,v14.2.2.2.2.2.1,v14.2.2.2.2.2.2.1,v16.2.1,())))
           |some (.inr v18)=>
            none))))) (
       al (
        match aa (v7.2.1,(256:Int),())with
        |none=>none
        |some v10=>
        match aa (v10.2.1,(8:Int),())with
        |none=>none
        |some v11=>
        match aa (v11.2.1,(3:Int),())with
        |none=>none
        |some v12=>
        match aw (v1.1,(v1.2.1.1,v1.2.1.2.1,v1.2.1.2.2.1,v1.2.1.2.2.2.1,(0:Int),()),v10.1,(IntKind.i64.wrap (v11.1*(IntKind.i64.wrap (Int.tdiv v12.1 (2:Int))))),())with
        |none=>none
        |some v13=>
        match ac am (v12.2.1,((0:Int),[],[],[],()),((0:Int),(0:Int),(0:Int),(0:Int),(0:Int),()),((0:Int),(0:Int),((0:Int),(0:Int),(0:Int),(0:Int),(0:Int),()),[],()),v1.1,(v1.2.1.1,v1.2.1.2.1,v1.2.1.2.2.1,v1.2.1.2.2.2.1,(0:Int),()),v13.1,(0:Int),())with
        |none=>none
        |some (.inl v14)=>
         match aa (v14.1,(24:Int),())with
         |none=>none
         |some v16=>
         match(v16.1==(0:Int))with
         |true=>
          match az (v16.2.1,())with
          |none=>none
          |some v17=>
          al (
           some (v14.2.2.2.2.1,v14.2.2.2.2.2.1,(v14.2.2.2.2.2.2.1.1,v14.2.2.2.2.2.2.1.2.1,v17.1,v14.2.2.2.2.2.2.1.2.2.2.1,()),v17.2.1,())) (
           an (
            some (v14.2.2.2.2.1,v14.2.2.2.2.2.1,(v14.2.2.2.2.2.2.1.1,v14.2.2.2.2.2.2.1.2.1,v17.1,v14.2.2.2.2.2.2.1.2.2.2.1,()),v17.2.1,())))
         |false=>
          al (
           some (v14.2.2.2.2.1,v14.2.2.2.2.2.1,v14.2.2.2.2.2.2.1,v16.2.1,())) (
           an (
            some (v14.2.2.2.2.1,v14.2.2.2.2.2.1,v14.2.2.2.2.2.2.1,v16.2.1,())))
        |some (.inr v18)=>
         none) (
        match aa (v7.2.1,(256:Int),())with
        |none=>none
        |some v10=>
        al (
         match aa (v10.2.1,(8:Int),())with
         |none=>none
         |some v11=>
         match aa (v11.2.1,(3:Int),())with
         |none=>none
         |some v12=>
         match aw (v1.1,(v1.2.1.1,v1.2.1.2.1,v1.2.1.2.2.1,v1.2.1.2.2.2.1,(0:Int),()),v10.1,(IntKind.i64.wrap (v11.1*(IntKind.i64.wrap (Int.tdiv v12.1 (2:Int))))),())with
         |none=>none
         |some v13=>
         match ac am (v12.2.1,((0:Int),[],[],[],()),((0:Int),(0:Int),(0:Int),(0:Int),(0:Int),()),((0:Int),(0:Int),((0:Int),(0:Int),(0:Int),(0:Int),(0:Int),()),[],()),v1.1,(v1.2.1.1,v1.2.1.2.1,v1.2.1.2.2.1,v1.2.1.2.2.2.1,(0:Int),()),v13.1,(0:Int),())with
         |none=>none
         |some (.inl v14)=>
          match aa (v14.1,(24:Int),())with
          |none=>none
          |some v16=>
          match(v16.1==(0:Int))with
          |true=>
           match az (v16.2.1,())with
           |none=>none
           |some v17=>
           al (
            some (v14.2.2.2.2.1,v14.2.2.2.2.2.1,(v14.2.2.2.2.2.2.1.1,v14.2.2.2.2.2.2.1.2.1,v17.1,v14.2.2.2.2.2.2.1.2.2.2.1,()),v17.2.1,())) (
            an (
             some (v14.2.2.2.2.1,v14.2.2.2.2.2.1,(v14.2.2.2.2.2.2.1.1,v14.2.2.2.2.2.2.1.2.1,v17.1,v14.2.2.2.2.2.2.1.2.2.2.1,()),v17.2.1,())))
          |false=>
           al (
            some (v14.2.2.2.2.1,v14.2.2.2.2.2.1,v14.2.2.2.2.2.2.1,v16.2.1,())) (
            an (
             some (v14.2.2.2.2.1,v14.2.2.2.2.2.1,v14.2.2.2.2.2.2.1,v16.2.1,())))
         |some (.inr v18)=>
          none) (
         match aa (v10.2.1,(8:Int),())with
         |none=>none
         |some v11=>
         an (
          match aa (v11.2.1,(3:Int),())with
          |none=>none
          |some v12=>
          match aw (v1.1,(v1.2.1.1,v1.2.1.2.1,v1.2.1.2.2.1,v1.2.1.2.2.2.1,(0:Int),()),v10.1,(IntKind.i64.wrap (v11.1*(IntKind.i64.wrap (Int.tdiv v12.1 (2:Int))))),())with
          |none=>none
          |some v13=>
          match ac am (v12.2.1,((0:Int),[],[],[],()),((0:Int),(0:Int),(0:Int),(0:Int),(0:Int),()),((0:Int),(0:Int),((0:Int),(0:Int),(0:Int),(0:Int),(0:Int),()),[],()),v1.1,(v1.2.1.1,v1.2.1.2.1,v1.2.1.2.2.1,v1.2.1.2.2.2.1,(0:Int),()),v13.1,(0:Int),())with
          |none=>none
          |some (.inl v14)=>
           match aa (v14.1,(24:Int),())with
           |none=>none
           |some v16=>
           match(v16.1==(0:Int))with
           |true=>
            match az (v16.2.1,())with
            |none=>none
            |some v17=>
            al (
             some (v14.2.2.2.2.1,v14.2.2.2.2.2.1,(v14.2.2.2.2.2.2.1.1,v14.2.2.2.2.2.2.1.2.1,v17.1,v14.2.2.2.2.2.2.1.2.2.2.1,()),v17.2.1,())) (
             an (
              some (v14.2.2.2.2.1,v14.2.2.2.2.2.1,(v14.2.2.2.2.2.2.1.1,v14.2.2.2.2.2.2.1.2.1,v17.1,v14.2.2.2.2.2.2.1.2.2.2.1,()),v17.2.1,())))
           |false=>
            al (
             some (v14.2.2.2.2.1,v14.2.2.2.2.2.1,v14.2.2.2.2.2.2.1,v16.2.1,())) (
             an (
              some (v14.2.2.2.2.1,v14.2.2.2.2.2.1,v14.2.2.2.2.2.2.1,v16.2.1,())))
          |some (.inr v18)=>
           none)))))
    |false=>
     al (
      al (
       match aa (v7.2.1,(256:Int),())with
       |none=>none
       |some v22=>
       al (
        match aa (v22.2.1,(8:Int),())with
        |none=>none
        |some v23=>
        al (
         match aa (v23.2.1,(3:Int),())with
         |none=>none
         |some v24=>
         an (
          match aw (v1.1,(v1.2.1.1,v1.2.1.2.1,v1.2.1.2.2.1,v1.2.1.2.2.2.1,(IntKind.i64.wrap ((1:Int)*2^min (IntKind.u64.wrap v8.1).toNat IntKind.i64.bits)),()),v22.1,(IntKind.i64.wrap (v23.1*(IntKind.i64.wrap (Int.tdiv v24.1 (2:Int))))),())with
          |none=>none
          |some v25=>
          match ac am (v24.2.1,((0:Int),[],[],[],()),((0:Int),(0:Int),(0:Int),(0:Int),(0:Int),()),((0:Int),(0:Int),((0:Int),(0:Int),(0:Int),(0:Int),(0:Int),()),[],()),v1.1,(v1.2.1.1,v1.2.1.2.1,v1.2.1.2.2.1,v1.2.1.2.2.2.1,(IntKind.i64.wrap ((1:Int)*2^min (IntKind.u64.wrap v8.1).toNat IntKind.i64.bits)),()),v25.1,(0:Int),())with
          |none=>none
          |some (.inl v26)=>
           match aa (v26.1,(24:Int),())with
           |none=>none
           |some v28=>
           match(v28.1==(0:Int))with
           |true=>
            match az (v28.2.1,())with
            |none=>none
            |some v29=>
            al (
             some (v26.2.2.2.2.1,v26.2.2.2.2.2.1,(v26.2.2.2.2.2.2.1.1,v26.2.2.2.2.2.2.1.2.1,v29.1,v26.2.2.2.2.2.2.1.2.2.2.1,()),v29.2.1,())) (
             an (
              some (v26.2.2.2.2.1,v26.2.2.2.2.2.1,(v26.2.2.2.2.2.2.1.1,v26.2.2.2.2.2.2.1.2.1,v29.1,v26.2.2.2.2.2.2.1.2.2.2.1,()),v29.2.1,())))
           |false=>
            al (
             some (v26.2.2.2.2.1,v26.2.2.2.2.2.1,v26.2.2.2.2.2.2.1,v28.2.1,())) (
             an (
              some (v26.2.2.2.2.1,v26.2.2.2.2.2.1,v26.2.2.2.2.2.2.1,v28.2.1,())))
          |some (.inr v30)=>
           none)) (
         match aa (v23.2.1,(3:Int),())with
         |none=>none
         |some v24=>
         match aw (v1.1,(v1.2.1.1,v1.2.1.2.1,v1.2.1.2.2.1,v1.2.1.2.2.2.1,(IntKind.i64.wrap ((1:Int)*2^min (IntKind.u64.wrap v8.1).toNat IntKind.i64.bits)),()),v22.1,(IntKind.i64.wrap (v23.1*(IntKind.i64.wrap (Int.tdiv v24.1 (2:Int))))),())with
         |none=>none
         |some v25=>
         match ac am (v24.2.1,((0:Int),[],[],[],()),((0:Int),(0:Int),(0:Int),(0:Int),(0:Int),()),((0:Int),(0:Int),((0:Int),(0:Int),(0:Int),(0:Int),(0:Int),()),[],()),v1.1,(v1.2.1.1,v1.2.1.2.1,v1.2.1.2.2.1,v1.2.1.2.2.2.1,(IntKind.i64.wrap ((1:Int)*2^min (IntKind.u64.wrap v8.1).toNat IntKind.i64.bits)),()),v25.1,(0:Int),())with
         |none=>none
         |some (.inl v26)=>
          match aa (v26.1,(24:Int),())with
          |none=>none
          |some v28=>
          match(v28.1==(0:Int))with
          |true=>
           match az (v28.2.1,())with
           |none=>none
           |some v29=>
           al (
            some (v26.2.2.2.2.1,v26.2.2.2.2.2.1,(v26.2.2.2.2.2.2.1.1,v26.2.2.2.2.2.2.1.2.1,v29.1,v26.2.2.2.2.2.2.1.2.2.2.1,()),v29.2.1,())) (
            an (
             some (v26.2.2.2.2.1,v26.2.2.2.2.2.1,(v26.2.2.2.2.2.2.1.1,v26.2.2.2.2.2.2.1.2.1,v29.1,v26.2.2.2.2.2.2.1.2.2.2.1,()),v29.2.1,())))
          |false=>
           al (
            some (v26.2.2.2.2.1,v26.2.2.2.2.2.1,v26.2.2.2.2.2.2.1,v28.2.1,())) (
            an (
             some (v26.2.2.2.2.1,v26.2.2.2.2.2.1,v26.2.2.2.2.2.2.1,v28.2.1,())))
         |some (.inr v30)=>
          none)) (
        match aa (v22.2.1,(8:Int),())with
        |none=>none
        |some v23=>
        match aa (v23.2.1,(3:Int),())with
        |none=>none
        |some v24=>
        match aw (v1.1,(v1.2.1.1,v1.2.1.2.1,v1.2.1.2.2.1,v1.2.1.2.2.2.1,(IntKind.i64.wrap ((1:Int)*2^min (IntKind.u64.wrap v8.1).toNat IntKind.i64.bits)),()),v22.1,(IntKind.i64.wrap (v23.1*(IntKind.i64.wrap (Int.tdiv v24.1 (2:Int))))),())with
        |none=>none
        |some v25=>
        match ac am (v24.2.1,((0:Int),[],[],[],()),((0:Int),(0:Int),(0:Int),(0:Int),(0:Int),()),((0:Int),(0:Int),((0:Int),(0:Int),(0:Int),(0:Int),(0:Int),()),[],()),v1.1,(v1.2.1.1,v1.2.1.2.1,v1.2.1.2.2.1,v1.2.1.2.2.2.1,(IntKind.i64.wrap ((1:Int)*2^min (IntKind.u64.wrap v8.1).toNat IntKind.i64.bits)),()),v25.1,(0:Int),())with
        |none=>none
        |some (.inl v26)=>
         match aa (v26.1,(24:Int),())with
         |none=>none
         |some v28=>
         match(v28.1==(0:Int))with
         |true=>
          match az (v28.2.1,())with
          |none=>none
          |some v29=>
          al (
           some (v26.2.2.2.2.1,v26.2.2.2.2.2.1,(v26.2.2.2.2.2.2.1.1,v26.2.2.2.2.2.2.1.2.1,v29.1,v26.2.2.2.2.2.2.1.2.2.2.1,()),v29.2.1,())) (
           an (
            some (v26.2.2.2.2.1,v26.2.2.2.2.2.1,(v26.2.2.2.2.2.2.1.1,v26.2.2.2.2.2.2.1.2.1,v29.1,v26.2.2.2.2.2.2.1.2.2.2.1,()),v29.2.1,())))
         |false=>
          al (
           some (v26.2.2.2.2.1,v26.2.2.2.2.2.1,v26.2.2.2.2.2.2.1,v28.2.1,())) (
           an (
            some (v26.2.2.2.2.1,v26.2.2.2.2.2.1,v26.2.2.2.2.2.2.1,v28.2.1,())))
        |some (.inr v30)=>
         none)) (
       match aa (v7.2.1,(256:Int),())with
       |none=>none
       |some v22=>
       match aa (v22.2.1,(8:Int),())with
       |none=>none
       |some v23=>
       match aa (v23.2.1,(3:Int),())with
       |none=>none
       |some v24=>
       match aw (v1.1,(v1.2.1.1,v1.2.1.2.1,v1.2.1.2.2.1,v1.2.1.2.2.2.1,(IntKind.i64.wrap ((1:Int)*2^min (IntKind.u64.wrap v8.1).toNat IntKind.i64.bits)),()),v22.1,(IntKind.i64.wrap (v23.1*(IntKind.i64.wrap (Int.tdiv v24.1 (2:Int))))),())with
       |none=>none
       |some v25=>
       match ac am (v24.2.1,((0:Int),[],[],[],()),((0:Int),(0:Int),(0:Int),(0:Int),(0:Int),()),((0:Int),(0:Int),((0:Int),(0:Int),(0:Int),(0:Int),(0:Int),()),[],()),v1.1,(v1.2.1.1,v1.2.1.2.1,v1.2.1.2.2.1,v1.2.1.2.2.2.1,(IntKind.i64.wrap ((1:Int)*2^min (IntKind.u64.wrap v8.1).toNat IntKind.i64.bits)),()),v25.1,(0:Int),())with
       |none=>none
       |some (.inl v26)=>
        match aa (v26.1,(24:Int),())with
        |none=>none
        |some v28=>
        match(v28.1==(0:Int))with
        |true=>
         match az (v28.2.1,())with
         |none=>none
         |some v29=>
         al (
          some (v26.2.2.2.2.1,v26.2.2.2.2.2.1,(v26.2.2.2.2.2.2.1.1,v26.2.2.2.2.2.2.1.2.1,v29.1,v26.2.2.2.2.2.2.1.2.2.2.1,()),v29.2.1,())) (
          an (
           some (v26.2.2.2.2.1,v26.2.2.2.2.2.1,(v26.2.2.2.2.2.2.1.1,v26.2.2.2.2.2.2.1.2.1,v29.1,v26.2.2.2.2.2.2.1.2.2.2.1,()),v29.2.1,())))
        |false=>
         al (
          some (v26.2.2.2.2.1,v26.2.2.2.2.2.1,v26.2.2.2.2.2.2.1,v28.2.1,())) (
          an (
           some (v26.2.2.2.2.1,v26.2.2.2.2.2.1,v26.2.2.2.2.2.2.1,v28.2.1,())))
       |some (.inr v30)=>
        none)) (
      al (
       match aa (v7.2.1,(256:Int),())with
       |none=>none
       |some v22=>
       al (
        al (
         match aa (v22.2.1,(8:Int),())with
         |none=>none
         |some v23=>
         al (
          match aa (v23.2.1,(3:Int),())with
          |none=>none
          |some v24=>
          an (
           match aw (v1.1,(v1.2.1.1,v1.2.1.2.1,v1.2.1.2.2.1,v1.2.1.2.2.2.1,(IntKind.i64.wrap ((1:Int)*2^min (IntKind.u64.wrap v8.1).toNat IntKind.i64.bits)),()),v22.1,(IntKind.i64.wrap (v23.1*(IntKind.i64.wrap (Int.tdiv v24.1 (2:Int))))),())with
           |none=>none
           |some v25=>
           match ac am (v24.2.1,((0:Int),[],[],[],()),((0:Int),(0:Int),(0:Int),(0:Int),(0:Int),()),((0:Int),(0:Int),((0:Int),(0:Int),(0:Int),(0:Int),(0:Int),()),[],()),v1.1,(v1.2.1.1,v1.2.1.2.1,v1.2.1.2.2.1,v1.2.1.2.2.2.1,(IntKind.i64.wrap ((1:Int)*2^min (IntKind.u64.wrap v8.1).toNat IntKind.i64.bits)),()),v25.1,(0:Int),())with
           |none=>none
           |some (.inl v26)=>
            match aa (v26.1,(24:Int),())with
            |none=>none
            |some v28=>
            match(v28.1==(0:Int))with
            |true=>
             match az (v28.2.1,())with
             |none=>none
             |some v29=>
             al (
              some (v26.2.2.2.2.1,v26.2.2.2.2.2.1,(v26.2.2.2.2.2.2.1.1,v26.2.2.2.2.2.2.1.2.1,v29.1,v26.2.2.2.2.2.2.1.2.2.2.1,()),v29.2.1,())) (
              an (
               some (v26.2.2.2.2.1,v26.2.2.2.2.2.1,(v26.2.2.2.2.2.2.1.1,v26.2.2.2.2.2.2.1.2.1,v29.1,v26.2.2.2.2.2.2.1.2.2.2.1,()),v29.2.1,())))
            |false=>
             al (
              some (v26.2.2.2.2.1,v26.2.2.2.2.2.1,v26.2.2.2.2.2.2.1,v28.2.1,())) (
              an (
               some (v26.2.2.2.2.1,v26.2.2.2.2.2.1,v26.2.2.2.2.2.2.1,v28.2.1,())))
           |some (.inr v30)=>
            none)) (
          match aa (v23.2.1,(3:Int),())with
          |none=>none
          |some v24=>
          match aw (v1.1,(v1.2.1.1,v1.2.1.2.1,v1.2.1.2.2.1,v1.2.1.2.2.2.1,(IntKind.i64.wrap ((1:Int)*2^min (IntKind.u64.wrap v8.1).toNat IntKind.i64.bits)),()),v22.1,(IntKind.i64.wrap (v23.1*(IntKind.i64.wrap (Int.tdiv v24.1 (2:Int))))),())with
          |none=>none
          |some v25=>
          match ac am (v24.2.1,((0:Int),[],[],[],()),((0:Int),(0:Int),(0:Int),(0:Int),(0:Int),()),((0:Int),(0:Int),((0:Int),(0:Int),(0:Int),(0:Int),(0:Int),()),[],()),v1.1,(v1.2.1.1,v1.2.1.2.1,v1.2.1.2.2.1,v1.2.1.2.2.2.1,(IntKind.i64.wrap ((1:Int)*2^min (IntKind.u64.wrap v8.1).toNat IntKind.i64.bits)),()),v25.1,(0:Int),())with
          |none=>none
          |some (.inl v26)=>
           match aa (v26.1,(24:Int),())with
           |none=>none
           |some v28=>
           match(v28.1==(0:Int))with
           |true=>
            match az (v28.2.1,())with
            |none=>none
            |some v29=>
            al (
             some (v26.2.2.2.2.1,v26.2.2.2.2.2.1,(v26.2.2.2.2.2.2.1.1,v26.2.2.2.2.2.2.1.2.1,v29.1,v26.2.2.2.2.2.2.1.2.2.2.1,()),v29.2.1,())) (
             an (
              some (v26.2.2.2.2.1,v26.2.2.2.2.2.1,(v26.2.2.2.2.2.2.1.1,v26.2.2.2.2.2.2.1.2.1,v29.1,v26.2.2.2.2.2.2.1.2.2.2.1,()),v29.2.1,())))
           |false=>
            al (
             some (v26.2.2.2.2.1,v26.2.2.2.2.2.1,v26.2.2.2.2.2.2.1,v28.2.1,())) (
             an (
              some (v26.2.2.2.2.1,v26.2.2.2.2.2.1,v26.2.2.2.2.2.2.1,v28.2.1,())))
          |some (.inr v30)=>
           none)) (
         match aa (v22.2.1,(8:Int),())with
         |none=>none
         |some v23=>
         match aa (v23.2.1,(3:Int),())with
         |none=>none
         |some v24=>
         match aw (v1.1,(v1.2.1.1,v1.2.1.2.1,v1.2.1.2.2.1,v1.2.1.2.2.2.1,(IntKind.i64.wrap ((1:Int)*2^min (IntKind.u64.wrap v8.1).toNat IntKind.i64.bits)),()),v22.1,(IntKind.i64.wrap (v23.1*(IntKind.i64.wrap (Int.tdiv v24.1 (2:Int))))),())with
         |none=>none
         |some v25=>
         match ac am (v24.2.1,((0:Int),[],[],[],()),((0:Int),(0:Int),(0:Int),(0:Int),(0:Int),()),((0:Int),(0:Int),((0:Int),(0:Int),(0:Int),(0:Int),(0:Int),()),[],()),v1.1,(v1.2.1.1,v1.2.1.2.1,v1.2.1.2.2.1,v1.2.1.2.2.2.1,(IntKind.i64.wrap ((1:Int)*2^min (IntKind.u64.wrap v8.1).toNat IntKind.i64.bits)),()),v25.1,(0:Int),())with
         |none=>none
         |some (.inl v26)=>
          match aa (v26.1,(24:Int),())with
          |none=>none
          |some v28=>
          match(v28.1==(0:Int))with
          |true=>
           match az (v28.2.1,())with
           |none=>none
           |some v29=>
           al (
            some (v26.2.2.2.2.1,v26.2.2.2.2.2.1,(v26.2.2.2.2.2.2.1.1,v26.2.2.2.2.2.2.1.2.1,v29.1,v26.2.2.2.2.2.2.1.2.2.2.1,()),v29.2.1,())) (
            an (
             some (v26.2.2.2.2.1,v26.2.2.2.2.2.1,(v26.2.2.2.2.2.2.1.1,v26.2.2.2.2.2.2.1.2.1,v29.1,v26.2.2.2.2.2.2.1.2.2.2.1,()),v29.2.1,())))
          |false=>
           al (
            some (v26.2.2.2.2.1,v26.2.2.2.2.2.1,v26.2.2.2.2.2.2.1,v28.2.1,())) (
            an (
             some (v26.2.2.2.2.1,v26.2.2.2.2.2.1,v26.2.2.2.2.2.2.1,v28.2.1,())))
         |some (.inr v30)=>
          none)) (
        al (
         match aa (v22.2.1,(8:Int),())with
         |none=>none
         |some v23=>
         al (
          al (
           match aa (v23.2.1,(3:Int),())with
           |none=>none
           |some v24=>
           an (
            match aw (v1.1,(v1.2.1.1,v1.2.1.2.1,v1.2.1.2.2.1,v1.2.1.2.2.2.1,(IntKind.i64.wrap ((1:Int)*2^min (IntKind.u64.wrap v8.1).toNat IntKind.i64.bits)),()),v22.1,(IntKind.i64.wrap (v23.1*(IntKind.i64.wrap (Int.tdiv v24.1 (2:Int))))),())with
            |none=>none
            |some v25=>
            match ac am (v24.2.1,((0:Int),[],[],[],()),((0:Int),(0:Int),(0:Int),(0:Int),(0:Int),()),((0:Int),(0:Int),((0:Int),(0:Int),(0:Int),(0:Int),(0:Int),()),[],()),v1.1,(v1.2.1.1,v1.2.1.2.1,v1.2.1.2.2.1,v1.2.1.2.2.2.1,(IntKind.i64.wrap ((1:Int)*2^min (IntKind.u64.wrap v8.1).toNat IntKind.i64.bits)),()),v25.1,(0:Int),())with
            |none=>none
            |some (.inl v26)=>
             match aa (v26.1,(24:Int),())with
             |none=>none
             |some v28=>
             match(v28.1==(0:Int))with
             |true=>
              match az (v28.2.1,())with
              |none=>none
              |some v29=>
              al (
               some (v26.2.2.2.2.1,v26.2.2.2.2.2.1,(v26.2.2.2.2.2.2.1.1,v26.2.2.2.2.2.2.1.2.1,v29.1,v26.2.2.2.2.2.2.1.2.2.2.1,()),v29.2.1,())) (
               an (
                some (v26.2.2.2.2.1,v26.2.2.2.2.2.1,(v26.2.2.2.2.2.2.1.1,v26.2.2.2.2.2.2.1.2.1,v29.1,v26.2.2.2.2.2.2.1.2.2.2.1,()),v29.2.1,())))
             |false=>
              al (
               some (v26.2.2.2.2.1,v26.2.2.2.2.2.1,v26.2.2.2.2.2.2.1,v28.2.1,())) (
               an (
                some (v26.2.2.2.2.1,v26.2.2.2.2.2.1,v26.2.2.2.2.2.2.1,v28.2.1,())))
            |some (.inr v30)=>
             none)) (
           match aa (v23.2.1,(3:Int),())with
           |none=>none
           |some v24=>
           match aw (v1.1,(v1.2.1.1,v1.2.1.2.1,v1.2.1.2.2.1,v1.2.1.2.2.2.1,(IntKind.i64.wrap ((1:Int)*2^min (IntKind.u64.wrap v8.1).toNat IntKind.i64.bits)),()),v22.1,(IntKind.i64.wrap (v23.1*(IntKind.i64.wrap (Int.tdiv v24.1 (2:Int))))),())with
           |none=>none
           |some v25=>
           match ac am (v24.2.1,((0:Int),[],[],[],()),((0:Int),(0:Int),(0:Int),(0:Int),(0:Int),()),((0:Int),(0:Int),((0:Int),(0:Int),(0:Int),(0:Int),(0:Int),()),[],()),v1.1,(v1.2.1.1,v1.2.1.2.1,v1.2.1.2.2.1,v1.2.1.2.2.2.1,(IntKind.i64.wrap ((1:Int)*2^min (IntKind.u64.wrap v8.1).toNat IntKind.i64.bits)),()),v25.1,(0:Int),())with
           |none=>none
           |some (.inl v26)=>
            match aa (v26.1,(24:Int),())with
            |none=>none
            |some v28=>
            match(v28.1==(0:Int))with
            |true=>
             match az (v28.2.1,())with
             |none=>none
             |some v29=>
             al (
              some (v26.2.2.2.2.1,v26.2.2.2.2.2.1,(v26.2.2.2.2.2.2.1.1,v26.2.2.2.2.2.2.1.2.1,v29.1,v26.2.2.2.2.2.2.1.2.2.2.1,()),v29.2.1,())) (
              an (
               some (v26.2.2.2.2.1,v26.2.2.2.2.2.1,(v26.2.2.2.2.2.2.1.1,v26.2.2.2.2.2.2.1.2.1,v29.1,v26.2.2.2.2.2.2.1.2.2.2.1,()),v29.2.1,())))
            |false=>
             al (
              some (v26.2.2.2.2.1,v26.2.2.2.2.2.1,v26.2.2.2.2.2.2.1,v28.2.1,())) (
              an (
               some (v26.2.2.2.2.1,v26.2.2.2.2.2.1,v26.2.2.2.2.2.2.1,v28.2.1,())))
           |some (.inr v30)=>
            none)) (
          al (
           match aa (v23.2.1,(3:Int),())with
           |none=>none
           |some v24=>
           al (
            an (
             match aw (v1.1,(v1.2.1.1,v1.2.1.2.1,v1.2.1.2.2.1,v1.2.1.2.2.2.1,(IntKind.i64.wrap ((1:Int)*2^min (IntKind.u64.wrap v8.1).toNat IntKind.i64.bits)),()),v22.1,(IntKind.i64.wrap (v23.1*(IntKind.i64.wrap (Int.tdiv v24.1 (2:Int))))),())with
             |none=>none
             |some v25=>
             match ac am (v24.2.1,((0:Int),[],[],[],()),((0:Int),(0:Int),(0:Int),(0:Int),(0:Int),()),((0:Int),(0:Int),((0:Int),(0:Int),(0:Int),(0:Int),(0:Int),()),[],()),v1.1,(v1.2.1.1,v1.2.1.2.1,v1.2.1.2.2.1,v1.2.1.2.2.2.1,(IntKind.i64.wrap ((1:Int)*2^min (IntKind.u64.wrap v8.1).toNat IntKind.i64.bits)),()),v25.1,(0:Int),())with
             |none=>none
             |some (.inl v26)=>
              match aa (v26.1,(24:Int),())with
              |none=>none
              |some v28=>
              match(v28.1==(0:Int))with
              |true=>
               match az (v28.2.1,())with
               |none=>none
               |some v29=>
               al (
                some (v26.2.2.2.2.1,v26.2.2.2.2.2.1,(v26.2.2.2.2.2.2.1.1,v26.2.2.2.2.2.2.1.2.1,v29.1,v26.2.2.2.2.2.2.1.2.2.2.1,()),v29.2.1,())) (
                an (
                 some (v26.2.2.2.2.1,v26.2.2.2.2.2.1,(v26.2.2.2.2.2.2.1.1,v26.2.2.2.2.2.2.1.2.1,v29.1,v26.2.2.2.2.2.2.1.2.2.2.1,()),v29.2.1,())))
              |false=>
               al (
                some (v26.2.2.2.2.1,v26.2.2.2.2.2.1,v26.2.2.2.2.2.2.1,v28.2.1,())) (
                an (
                 some (v26.2.2.2.2.1,v26.2.2.2.2.2.1,v26.2.2.2.2.2.2.1,v28.2.1,())))
             |some (.inr v30)=>
              none)) (
            match aw (v1.1,(v1.2.1.1,v1.2.1.2.1,v1.2.1.2.2.1,v1.2.1.2.2.2.1,(IntKind.i64.wrap ((1:Int)*2^min (IntKind.u64.wrap v8.1).toNat IntKind.i64.bits)),()),v22.1,(IntKind.i64.wrap (v23.1*(IntKind.i64.wrap (Int.tdiv v24.1 (2:Int))))),())with
            |none=>none
            |some v25=>
            match ac am (v24.2.1,((0:Int),[],[],[],()),((0:Int),(0:Int),(0:Int),(0:Int),(0:Int),()),((0:Int),(0:Int),((0:Int),(0:Int),(0:Int),(0:Int),(0:Int),()),[],()),v1.1,(v1.2.1.1,v1.2.1.2.1,v1.2.1.2.2.1,v1.2.1.2.2.2.1,(IntKind.i64.wrap ((1:Int)*2^min (IntKind.u64.wrap v8.1).toNat IntKind.i64.bits)),()),v25.1,(0:Int),())with
            |none=>none
            |some (.inl v26)=>
             match aa (v26.1,(24:Int),())with
             |none=>none
             |some v28=>
             match(v28.1==(0:Int))with
             |true=>
              match az (v28.2.1,())with
              |none=>none
              |some v29=>
              al (
               some (v26.2.2.2.2.1,v26.2.2.2.2.2.1,(v26.2.2.2.2.2.2.1.1,v26.2.2.2.2.2.2.1.2.1,v29.1,v26.2.2.2.2.2.2.1.2.2.2.1,()),v29.2.1,())) (
               an (
                some (v26.2.2.2.2.1,v26.2.2.2.2.2.1,(v26.2.2.2.2.2.2.1.1,v26.2.2.2.2.2.2.1.2.1,v29.1,v26.2.2.2.2.2.2.1.2.2.2.1,()),v29.2.1,())))
             |false=>
              al (
               some (v26.2.2.2.2.1,v26.2.2.2.2.2.1,v26.2.2.2.2.2.2.1,v28.2.1,())) (
               an (
                some (v26.2.2.2.2.1,v26.2.2.2.2.2.1,v26.2.2.2.2.2.2.1,v28.2.1,())))
            |some (.inr v30)=>
             none)) (
           an (
            match aa (v23.2.1,(3:Int),())with
            |none=>none
            |some v24=>
            match aw (v1.1,(v1.2.1.1,v1.2.1.2.1,v1.2.1.2.2.1,v1.2.1.2.2.2.1,(IntKind.i64.wrap ((1:Int)*2^min (IntKind.u64.wrap v8.1).toNat IntKind.i64.bits)),()),v22.1,(IntKind.i64.wrap (v23.1*(IntKind.i64.wrap (Int.tdiv v24.1 (2:Int))))),())with
            |none=>none
            |some v25=>
            match ac am (v24.2.1,((0:Int),[],[],[],()),((0:Int),(0:Int),(0:Int),(0:Int),(0:Int),()),((0:Int),(0:Int),((0:Int),(0:Int),(0:Int),(0:Int),(0:Int),()),[],()),v1.1,(v1.2.1.1,v1.2.1.2.1,v1.2.1.2.2.1,v1.2.1.2.2.2.1,(IntKind.i64.wrap ((1:Int)*2^min (IntKind.u64.wrap v8.1).toNat IntKind.i64.bits)),()),v25.1,(0:Int),())with
            |none=>none
            |some (.inl v26)=>
             match aa (v26.1,(24:Int),())with
             |none=>none
             |some v28=>
             match(v28.1==(0:Int))with
             |true=>
              match az (v28.2.1,())with
              |none=>none
              |some v29=>
              al (
               some (v26.2.2.2.2.1,v26.2.2.2.2.2.1,(v26.2.2.2.2.2.2.1.1,v26.2.2.2.2.2.2.1.2.1,v29.1,v26.2.2.2.2.2.2.1.2.2.2.1,()),v29.2.1,())) (
               an (
                some (v26.2.2.2.2.1,v26.2.2.2.2.2.1,(v26.2.2.2.2.2.2.1.1,v26.2.2.2.2.2.2.1.2.1,v29.1,v26.2.2.2.2.2.2.1.2.2.2.1,()),v29.2.1,())))
             |false=>
              al (
               some (v26.2.2.2.2.1,v26.2.2.2.2.2.1,v26.2.2.2.2.2.2.1,v28.2.1,())) (
               an (
                some (v26.2.2.2.2.1,v26.2.2.2.2.2.1,v26.2.2.2.2.2.2.1,v28.2.1,())))
            |some (.inr v30)=>
             none)))) (
         al (
          match aa (v22.2.1,(8:Int),())with
          |none=>none
          |some v23=>
          match aa (v23.2.1,(3:Int),())with
          |none=>none
          |some v24=>
          match aw (v1.1,(v1.2.1.1,v1.2.1.2.1,v1.2.1.2.2.1,v1.2.1.2.2.2.1,(IntKind.i64.wrap ((1:Int)*2^min (IntKind.u64.wrap v8.1).toNat IntKind.i64.bits)),()),v22.1,(IntKind.i64.wrap (v23.1*(IntKind.i64.wrap (Int.tdiv v24.1 (2:Int))))),())with
          |none=>none
          |some v25=>
          match ac am (v24.2.1,((0:Int),[],[],[],()),((0:Int),(0:Int),(0:Int),(0:Int),(0:Int),()),((0:Int),(0:Int),((0:Int),(0:Int),(0:Int),(0:Int),(0:Int),()),[],()),v1.1,(v1.2.1.1,v1.2.1.2.1,v1.2.1.2.2.1,v1.2.1.2.2.2.1,(IntKind.i64.wrap ((1:Int)*2^min (IntKind.u64.wrap v8.1).toNat IntKind.i64.bits)),()),v25.1,(0:Int),())with
          |none=>none
          |some (.inl v26)=>
           match aa (v26.1,(24:Int),())with
           |none=>none
           |some v28=>
           match(v28.1==(0:Int))with
           |true=>
            match az (v28.2.1,())with
            |none=>none
            |some v29=>
            al (
             some (v26.2.2.2.2.1,v26.2.2.2.2.2.1,(v26.2.2.2.2.2.2.1.1,v26.2.2.2.2.2.2.1.2.1,v29.1,v26.2.2.2.2.2.2.1.2.2.2.1,()),v29.2.1,())) (
             an (
              some (v26.2.2.2.2.1,v26.2.2.2.2.2.1,(v26.2.2.2.2.2.2.1.1,v26.2.2.2.2.2.2.1.2.1,v29.1,v26.2.2.2.2.2.2.1.2.2.2.1,()),v29.2.1,())))
           |false=>
            al (
             some (v26.2.2.2.2.1,v26.2.2.2.2.2.1,v26.2.2.2.2.2.2.1,v28.2.1,())) (
             an (
              some (v26.2.2.2.2.1,v26.2.2.2.2.2.1,v26.2.2.2.2.2.2.1,v28.2.1,())))
          |some (.inr v30)=>
           none) (
          match aa (v22.2.1,(8:Int),())with
          |none=>none
          |some v23=>
          an (
           match aa (v23.2.1,(3:Int),())with
           |none=>none
           |some v24=>
           match aw (v1.1,(v1.2.1.1,v1.2.1.2.1,v1.2.1.2.2.1,v1.2.1.2.2.2.1,(IntKind.i64.wrap ((1:Int)*2^min (IntKind.u64.wrap v8.1).toNat IntKind.i64.bits)),()),v22.1,(IntKind.i64.wrap (v23.1*(IntKind.i64.wrap (Int.tdiv v24.1 (2:Int))))),())with
           |none=>none
           |some v25=>
           match ac am (v24.2.1,((0:Int),[],[],[],()),((0:Int),(0:Int),(0:Int),(0:Int),(0:Int),()),((0:Int),(0:Int),((0:Int),(0:Int),(0:Int),(0:Int),(0:Int),()),[],()),v1.1,(v1.2.1.1,v1.2.1.2.1,v1.2.1.2.2.1,v1.2.1.2.2.2.1,(IntKind.i64.wrap ((1:Int)*2^min (IntKind.u64.wrap v8.1).toNat IntKind.i64.bits)),()),v25.1,(0:Int),())with
           |none=>none
           |some (.inl v26)=>
            match aa (v26.1,(24:Int),())with
            |none=>none
            |some v28=>
            match(v28.1==(0:Int))with
            |true=>
             match az (v28.2.1,())with
             |none=>none
             |some v29=>
             al (
              some (v26.2.2.2.2.1,v26.2.2.2.2.2.1,(v26.2.2.2.2.2.2.1.1,v26.2.2.2.2.2.2.1.2.1,v29.1,v26.2.2.2.2.2.2.1.2.2.2.1,()),v29.2.1,())) (
              an (
               some (v26.2.2.2.2.1,v26.2.2.2.2.2.1,(v26.2.2.2.2.2.2.1.1,v26.2.2.2.2.2.2.1.2.1,v29.1,v26.2.2.2.2.2.2.1.2.2.2.1,()),v29.2.1,())))
            |false=>
             al (
              some (v26.2.2.2.2.1,v26.2.2.2.2.2.1,v26.2.2.2.2.2.2.1,v28.2.1,())) (
              an (
               some (v26.2.2.2.2.1,v26.2.2.2.2.2.1,v26.2.2.2.2.2.2.1,v28.2.1,())))
           |some (.inr v30)=>
            none))))) (
       al (
        match aa (v7.2.1,(256:Int),())with
        |none=>none
        |some v22=>
        match aa (v22.2.1,(8:Int),())with
        |none=>none
        |some v23=>
        match aa (v23.2.1,(3:Int),())with
        |none=>none
        |some v24=>
        match aw (v1.1,(v1.2.1.1,v1.2.1.2.1,v1.2.1.2.2.1,v1.2.1.2.2.2.1,(IntKind.i64.wrap ((1:Int)*2^min (IntKind.u64.wrap v8.1).toNat IntKind.i64.bits)),()),v22.1,(IntKind.i64.wrap (v23.1*(IntKind.i64.wrap (Int.tdiv v24.1 (2:Int))))),())with
        |none=>none
        |some v25=>
        match ac am (v24.2.1,((0:Int),[],[],[],()),((0:Int),(0:Int),(0:Int),(0:Int),(0:Int),()),((0:Int),(0:Int),((0:Int),(0:Int),(0:Int),(0:Int),(0:Int),()),[],()),v1.1,(v1.2.1.1,v1.2.1.2.1,v1.2.1.2.2.1,v1.2.1.2.2.2.1,(IntKind.i64.wrap ((1:Int)*2^min (IntKind.u64.wrap v8.1).toNat IntKind.i64.bits)),()),v25.1,(0:Int),())with
        |none=>none
        |some (.inl v26)=>
         match aa (v26.1,(24:Int),())with
         |none=>none
         |some v28=>
         match(v28.1==(0:Int))with
         |true=>
          match az (v28.2.1,())with
          |none=>none
          |some v29=>
          al (
           some (v26.2.2.2.2.1,v26.2.2.2.2.2.1,(v26.2.2.2.2.2.2.1.1,v26.2.2.2.2.2.2.1.2.1,v29.1,v26.2.2.2.2.2.2.1.2.2.2.1,()),v29.2.1,())) (
           an (
            some (v26.2.2.2.2.1,v26.2.2.2.2.2.1,(v26.2.2.2.2.2.2.1.1,v26.2.2.2.2.2.2.1.2.1,v29.1,v26.2.2.2.2.2.2.1.2.2.2.1,()),v29.2.1,())))
         |false=>
          al (
           some (v26.2.2.2.2.1,v26.2.2.2.2.2.1,v26.2.2.2.2.2.2.1,v28.2.1,())) (
           an (
            some (v26.2.2.2.2.1,v26.2.2.2.2.2.1,v26.2.2.2.2.2.2.1,v28.2.1,())))
        |some (.inr v30)=>
         none) (
        match aa (v7.2.1,(256:Int),())with
        |none=>none
        |some v22=>
        al (
         match aa (v22.2.1,(8:Int),())with
         |none=>none
         |some v23=>
         match aa (v23.2.1,(3:Int),())with
         |none=>none
         |some v24=>
         match aw (v1.1,(v1.2.1.1,v1.2.1.2.1,v1.2.1.2.2.1,v1.2.1.2.2.2.1,(IntKind.i64.wrap ((1:Int)*2^min (IntKind.u64.wrap v8.1).toNat IntKind.i64.bits)),()),v22.1,(IntKind.i64.wrap (v23.1*(IntKind.i64.wrap (Int.tdiv v24.1 (2:Int))))),())with
         |none=>none
         |some v25=>
         match ac am (v24.2.1,((0:Int),[],[],[],()),((0:Int),(0:Int),(0:Int),(0:Int),(0:Int),()),((0:Int),(0:Int),((0:Int),(0:Int),(0:Int),(0:Int),(0:Int),()),[],()),v1.1,(v1.2.1.1,v1.2.1.2.1,v1.2.1.2.2.1,v1.2.1.2.2.2.1,(IntKind.i64.wrap ((1:Int)*2^min (IntKind.u64.wrap v8.1).toNat IntKind.i64.bits)),()),v25.1,(0:Int),())with
         |none=>none
         |some (.inl v26)=>
          match aa (v26.1,(24:Int),())with
          |none=>none
          |some v28=>
          match(v28.1==(0:Int))with
          |true=>
           match az (v28.2.1,())with
           |none=>none
           |some v29=>
           al (
            some (v26.2.2.2.2.1,v26.2.2.2.2.2.1,(v26.2.2.2.2.2.2.1.1,v26.2.2.2.2.2.2.1.2.1,v29.1,v26.2.2.2.2.2.2.1.2.2.2.1,()),v29.2.1,())) (
            an (
             some (v26.2.2.2.2.1,v26.2.2.2.2.2.1,(v26.2.2.2.2.2.2.1.1,v26.2.2.2.2.2.2.1.2.1,v29.1,v26.2.2.2.2.2.2.1.2.2.2.1,()),v29.2.1,())))
          |false=>
           al (
            some (v26.2.2.2.2.1,v26.2.2.2.2.2.1,v26.2.2.2.2.2.2.1,v28.2.1,())) (
            an (
             some (v26.2.2.2.2.1,v26.2.2.2.2.2.1,v26.2.2.2.2.2.2.1,v28.2.1,())))
         |some (.inr v30)=>
          none) (
         match aa (v22.2.1,(8:Int),())with
         |none=>none
         |some v23=>
         an (
          match aa (v23.2.1,(3:Int),())with
          |none=>none
          |some v24=>
          match aw (v1.1,(v1.2.1.1,v1.2.1.2.1,v1.2.1.2.2.1,v1.2.1.2.2.2.1,(IntKind.i64.wrap ((1:Int)*2^min (IntKind.u64.wrap v8.1).toNat IntKind.i64.bits)),()),v22.1,(IntKind.i64.wrap (v23.1*(IntKind.i64.wrap (Int.tdiv v24.1 (2:Int))))),())with
          |none=>none
          |some v25=>
          match ac am (v24.2.1,((0:Int),[],[],[],()),((0:Int),(0:Int),(0:Int),(0:Int),(0:Int),()),((0:Int),(0:Int),((0:Int),(0:Int),(0:Int),(0:Int),(0:Int),()),[],()),v1.1,(v1.2.1.1,v1.2.1.2.1,v1.2.1.2.2.1,v1.2.1.2.2.2.1,(IntKind.i64.wrap ((1:Int)*2^min (IntKind.u64.wrap v8.1).toNat IntKind.i64.bits)),()),v25.1,(0:Int),())with
          |none=>none
          |some (.inl v26)=>
           match aa (v26.1,(24:Int),())with
           |none=>none
           |some v28=>
           match(v28.1==(0:Int))with
           |true=>
            match az (v28.2.1,())with
            |none=>none
            |some v29=>
            al (
             some (v26.2.2.2.2.1,v26.2.2.2.2.2.1,(v26.2.2.2.2.2.2.1.1,v26.2.2.2.2.2.2.1.2.1,v29.1,v26.2.2.2.2.2.2.1.2.2.2.1,()),v29.2.1,())) (
             an (
              some (v26.2.2.2.2.1,v26.2.2.2.2.2.1,(v26.2.2.2.2.2.2.1.1,v26.2.2.2.2.2.2.1.2.1,v29.1,v26.2.2.2.2.2.2.1.2.2.2.1,()),v29.2.1,())))
           |false=>
            al (
             some (v26.2.2.2.2.1,v26.2.2.2.2.2.1,v26.2.2.2.2.2.2.1,v28.2.1,())) (
             an (
              some (v26.2.2.2.2.1,v26.2.2.2.2.2.1,v26.2.2.2.2.2.2.1,v28.2.1,())))
          |some (.inr v30)=>
           none)))))
   |false=>
    al (
     al (
      match aa (v7.2.1,(256:Int),())with
      |none=>none
      |some v31=>
      al (
       match aa (v31.2.1,(8:Int),())with
       |none=>none
       |some v32=>
       al (
        match aa (v32.2.1,(3:Int),())with
        |none=>none
        |some v33=>
        an (
         match aw (v1.1,v1.2.1,v31.1,(IntKind.i64.wrap (v32.1*(IntKind.i64.wrap (Int.tdiv v33.1 (2:Int))))),())with
         |none=>none
         |some v34=>
         match ac am (v33.2.1,((0:Int),[],[],[],()),((0:Int),(0:Int),(0:Int),(0:Int),(0:Int),()),((0:Int),(0:Int),((0:Int),(0:Int),(0:Int),(0:Int),(0:Int),()),[],()),v1.1,v1.2.1,v34.1,(0:Int),())with
         |none=>none
         |some (.inl v35)=>
          match aa (v35.1,(24:Int),())with
          |none=>none
          |some v37=>
          match(v37.1==(0:Int))with
          |true=>
           match az (v37.2.1,())with
           |none=>none
           |some v38=>
           al (
            some (v35.2.2.2.2.1,v35.2.2.2.2.2.1,(v35.2.2.2.2.2.2.1.1,v35.2.2.2.2.2.2.1.2.1,v38.1,v35.2.2.2.2.2.2.1.2.2.2.1,()),v38.2.1,())) (
            an (
             some (v35.2.2.2.2.1,v35.2.2.2.2.2.1,(v35.2.2.2.2.2.2.1.1,v35.2.2.2.2.2.2.1.2.1,v38.1,v35.2.2.2.2.2.2.1.2.2.2.1,()),v38.2.1,())))
          |false=>
           al (
            some (v35.2.2.2.2.1,v35.2.2.2.2.2.1,v35.2.2.2.2.2.2.1,v37.2.1,())) (
            an (
             some (v35.2.2.2.2.1,v35.2.2.2.2.2.1,v35.2.2.2.2.2.2.1,v37.2.1,())))
         |some (.inr v39)=>
          none)) (
        match aa (v32.2.1,(3:Int),())with
        |none=>none
        |some v33=>
        match aw (v1.1,v1.2.1,v31.1,(IntKind.i64.wrap (v32.1*(IntKind.i64.wrap (Int.tdiv v33.1 (2:Int))))),())with
        |none=>none
        |some v34=>
        match ac am (v33.2.1,((0:Int),[],[],[],()),((0:Int),(0:Int),(0:Int),(0:Int),(0:Int),()),((0:Int),(0:Int),((0:Int),(0:Int),(0:Int),(0:Int),(0:Int),()),[],()),v1.1,v1.2.1,v34.1,(0:Int),())with
        |none=>none
        |some (.inl v35)=>
         match aa (v35.1,(24:Int),())with
         |none=>none
         |some v37=>
         match(v37.1==(0:Int))with
         |true=>
          match az (v37.2.1,())with
          |none=>none
          |some v38=>
          al (
           some (v35.2.2.2.2.1,v35.2.2.2.2.2.1,(v35.2.2.2.2.2.2.1.1,v35.2.2.2.2.2.2.1.2.1,v38.1,v35.2.2.2.2.2.2.1.2.2.2.1,()),v38.2.1,())) (
           an (
            some (v35.2.2.2.2.1,v35.2.2.2.2.2.1,(v35.2.2.2.2.2.2.1.1,v35.2.2.2.2.2.2.1.2.1,v38.1,v35.2.2.2.2.2.2.1.2.2.2.1,()),v38.2.1,())))
         |false=>
          al (
           some (v35.2.2.2.2.1,v35.2.2.2.2.2.1,v35.2.2.2.2.2.2.1,v37.2.1,())) (
           an (
            some (v35.2.2.2.2.1,v35.2.2.2.2.2.1,v35.2.2.2.2.2.2.1,v37.2.1,())))
        |some (.inr v39)=>
         none)) (
       match aa (v31.2.1,(8:Int),())with
       |none=>none
       |some v32=>
       match aa (v32.2.1,(3:Int),())with
       |none=>none
       |some v33=>
       match aw (v1.1,v1.2.1,v31.1,(IntKind.i64.wrap (v32.1*(IntKind.i64.wrap (Int.tdiv v33.1 (2:Int))))),())with
       |none=>none
       |some v34=>
       match ac am (v33.2.1,((0:Int),[],[],[],()),((0:Int),(0:Int),(0:Int),(0:Int),(0:Int),()),((0:Int),(0:Int),((0:Int),(0:Int),(0:Int),(0:Int),(0:Int),()),[],()),v1.1,v1.2.1,v34.1,(0:Int),())with
       |none=>none
       |some (.inl v35)=>
        match aa (v35.1,(24:Int),())with
        |none=>none
        |some v37=>
        match(v37.1==(0:Int))with
        |true=>
         match az (v37.2.1,())with
         |none=>none
         |some v38=>
         al (
          some (v35.2.2.2.2.1,v35.2.2.2.2.2.1,(v35.2.2.2.2.2.2.1.1,v35.2.2.2.2.2.2.1.2.1,v38.1,v35.2.2.2.2.2.2.1.2.2.2.1,()),v38.2.1,())) (
          an (
           some (v35.2.2.2.2.1,v35.2.2.2.2.2.1,(v35.2.2.2.2.2.2.1.1,v35.2.2.2.2.2.2.1.2.1,v38.1,v35.2.2.2.2.2.2.1.2.2.2.1,()),v38.2.1,())))
        |false=>
         al (
          some (v35.2.2.2.2.1,v35.2.2.2.2.2.1,v35.2.2.2.2.2.2.1,v37.2.1,())) (
          an (
           some (v35.2.2.2.2.1,v35.2.2.2.2.2.1,v35.2.2.2.2.2.2.1,v37.2.1,())))
       |some (.inr v39)=>
        none)) (
      match aa (v7.2.1,(256:Int),())with
      |none=>none
      |some v31=>
      match aa (v31.2.1,(8:Int),())with
      |none=>none
      |some v32=>
      match aa (v32.2.1,(3:Int),())with
      |none=>none
      |some v33=>
      match aw (v1.1,v1.2.1,v31.1,(IntKind.i64.wrap (v32.1*(IntKind.i64.wrap (Int.tdiv v33.1 (2:Int))))),())with
      |none=>none
      |some v34=>
      match ac am (v33.2.1,((0:Int),[],[],[],()),((0:Int),(0:Int),(0:Int),(0:Int),(0:Int),()),((0:Int),(0:Int),((0:Int),(0:Int),(0:Int),(0:Int),(0:Int),()),[],()),v1.1,v1.2.1,v34.1,(0:Int),())with
      |none=>none
      |some (.inl v35)=>
       match aa (v35.1,(24:Int),())with
       |none=>none
       |some v37=>
       match(v37.1==(0:Int))with
       |true=>
        match az (v37.2.1,())with
        |none=>none
        |some v38=>
        al (
         some (v35.2.2.2.2.1,v35.2.2.2.2.2.1,(v35.2.2.2.2.2.2.1.1,v35.2.2.2.2.2.2.1.2.1,v38.1,v35.2.2.2.2.2.2.1.2.2.2.1,()),v38.2.1,())) (
         an (
          some (v35.2.2.2.2.1,v35.2.2.2.2.2.1,(v35.2.2.2.2.2.2.1.1,v35.2.2.2.2.2.2.1.2.1,v38.1,v35.2.2.2.2.2.2.1.2.2.2.1,()),v38.2.1,())))
       |false=>
        al (
         some (v35.2.2.2.2.1,v35.2.2.2.2.2.1,v35.2.2.2.2.2.2.1,v37.2.1,())) (
         an (
          some (v35.2.2.2.2.1,v35.2.2.2.2.2.1,v35.2.2.2.2.2.2.1,v37.2.1,())))
      |some (.inr v39)=>
       none)) (
     al (
      match aa (v7.2.1,(256:Int),())with
      |none=>none
      |some v31=>
      al (
       al (
        match aa (v31.2.1,(8:Int),())with
        |none=>none
        |some v32=>
        al (
         match aa (v32.2.1,(3:Int),())with
         |none=>none
         |some v33=>
         an (
          match aw (v1.1,v1.2.1,v31.1,(IntKind.i64.wrap (v32.1*(IntKind.i64.wrap (Int.tdiv v33.1 (2:Int))))),())with
          |none=>none
          |some v34=>
          match ac am (v33.2.1,((0:Int),[],[],[],()),((0:Int),(0:Int),(0:Int),(0:Int),(0:Int),()),((0:Int),(0:Int),((0:Int),(0:Int),(0:Int),(0:Int),(0:Int),()),[],()),v1.1,v1.2.1,v34.1,(0:Int),())with
          |none=>none
          |some (.inl v35)=>
           match aa (v35.1,(24:Int),())with
           |none=>none
           |some v37=>
           match(v37.1==(0:Int))with
           |true=>
            match az (v37.2.1,())with
            |none=>none
            |some v38=>
            al (
             some (v35.2.2.2.2.1,v35.2.2.2.2.2.1,(v35.2.2.2.2.2.2.1.1,v35.2.2.2.2.2.2.1.2.1,v38.1,v35.2.2.2.2.2.2.1.2.2.2.1,()),v38.2.1,())) (
             an (
              some (v35.2.2.2.2.1,v35.2.2.2.2.2.1,(v35.2.2.2.2.2.2.1.1,v35.2.2.2.2.2.2.1.2.1,v38.1,v35.2.2.2.2.2.2.1.2.2.2.1,()),v38.2.1,())))
           |false=>
            al (
             some (v35.2.2.2.2.1,v35.2.2.2.2.2.1,v35.2.2.2.2.2.2.1,v37.2.1,())) (
             an (
              some (v35.2.2.2.2.1,v35.2.2.2.2.2.1,v35.2.2.2.2.2.2.1,v37.2.1,())))
          |some (.inr v39)=>
           none)) (
         match aa (v32.2.1,(3:Int),())with
         |none=>none
         |some v33=>
         match aw (v1.1,v1.2.1,v31.1,(IntKind.i64.wrap (v32.1*(IntKind.i64.wrap (Int.tdiv v33.1 (2:Int))))),())with
         |none=>none
         |some v34=>
         match ac am (v33.2.1,((0:Int),[],[],[],()),((0:Int),(0:Int),(0:Int),(0:Int),(0:Int),()),((0:Int),(0:Int),((0:Int),(0:Int),(0:Int),(0:Int),(0:Int),()),[],()),v1.1,v1.2.1,v34.1,(0:Int),())with
         |none=>none
         |some (.inl v35)=>
          match aa (v35.1,(24:Int),())with
          |none=>none
          |some v37=>
          match(v37.1==(0:Int))with
          |true=>
           match az (v37.2.1,())with
           |none=>none
           |some v38=>
           al (
            some (v35.2.2.2.2.1,v35.2.2.2.2.2.1,(v35.2.2.2.2.2.2.1.1,v35.2.2.2.2.2.2.1.2.1,v38.1,v35.2.2.2.2.2.2.1.2.2.2.1,()),v38.2.1,())) (
            an (
             some (v35.2.2.2.2.1,v35.2.2.2.2.2.1,(v35.2.2.2.2.2.2.1.1,v35.2.2.2.2.2.2.1.2.1,v38.1,v35.2.2.2.2.2.2.1.2.2.2.1,()),v38.2.1,())))
          |false=>
           al (
            some (v35.2.2.2.2.1,v35.2.2.2.2.2.1,v35.2.2.2.2.2.2.1,v37.2.1,())) (
            an (
             some (v35.2.2.2.2.1,v35.2.2.2.2.2.1,v35.2.2.2.2.2.2.1,v37.2.1,())))
         |some (.inr v39)=>
          none)) (
        match aa (v31.2.1,(8:Int),())with
        |none=>none
        |some v32=>
        match aa (v32.2.1,(3:Int),())with
        |none=>none
        |some v33=>
        match aw (v1.1,v1.2.1,v31.1,(IntKind.i64.wrap (v32.1*(IntKind.i64.wrap (Int.tdiv v33.1 (2:Int))))),())with
        |none=>none
        |some v34=>
        match ac am (v33.2.1,((0:Int),[],[],[],()),((0:Int),(0:Int),(0:Int),(0:Int),(0:Int),()),((0:Int),(0:Int),((0:Int),(0:Int),(0:Int),(0:Int),(0:Int),()),[],()),v1.1,v1.2.1,v34.1,(0:Int),())with
        |none=>none
        |some (.inl v35)=>
         match aa (v35.1,(24:Int),())with
         |none=>none
         |some v37=>
         match(v37.1==(0:Int))with
         |true=>
          match az (v37.2.1,())with
          |none=>none
          |some v38=>
          al (
           some (v35.2.2.2.2.1,v35.2.2.2.2.2.1,(v35.2.2.2.2.2.2.1.1,v35.2.2.2.2.2.2.1.2.1,v38.1,v35.2.2.2.2.2.2.1.2.2.2.1,()),v38.2.1,())) (
           an (
            some (v35.2.2.2.2.1,v35.2.2.2.2.2.1,(v35.2.2.2.2.2.2.1.1,v35.2.2.2.2.2.2.1.2.1,v38.1,v35.2.2.2.2.2.2.1.2.2.2.1,()),v38.2.1,())))
         |false=>
          al (
           some (v35.2.2.2.2.1,v35.2.2.2.2.2.1,v35.2.2.2.2.2.2.1,v37.2.1,())) (
           an (
            some (v35.2.2.2.2.1,v35.2.2.2.2.2.1,v35.2.2.2.2.2.2.1,v37.2.1,())))
        |some (.inr v39)=>
         none)) (
       al (
        match aa (v31.2.1,(8:Int),())with
        |none=>none
        |some v32=>
        al (
         al (
          match aa (v32.2.1,(3:Int),())with
          |none=>none
          |some v33=>
          an (
           match aw (v1.1,v1.2.1,v31.1,(IntKind.i64.wrap (v32.1*(IntKind.i64.wrap (Int.tdiv v33.1 (2:Int))))),())with
           |none=>none
           |some v34=>
           match ac am (v33.2.1,((0:Int),[],[],[],()),((0:Int),(0:Int),(0:Int),(0:Int),(0:Int),()),((0:Int),(0:Int),((0:Int),(0:Int),(0:Int),(0:Int),(0:Int),()),[],()),v1.1,v1.2.1,v34.1,(0:Int),())with
           |none=>none
           |some (.inl v35)=>
            match aa (v35.1,(24:Int),())with
            |none=>none
            |some v37=>
            match(v37.1==(0:Int))with
            |true=>
             match az (v37.2.1,())with
             |none=>none
             |some v38=>
             al (
              some (v35.2.2.2.2.1,v35.2.2.2.2.2.1,(v35.2.2.2.2.2.2.1.1,v35.2.2.2.2.2.2.1.2.1,v38.1,v35.2.2.2.2.2.2.1.2.2.2.1,()),v38.2.1,())) (
              an (
               some (v35.2.2.2.2.1,v35.2.2.2.2.2.1,(v35.2.2.2.2.2.2.1.1,v35.2.2.2.2.2.2.1.2.1,v38.1,v35.2.2.2.2.2.2.1.2.2.2.1,()),v38.2.1,())))
            |false=>
             al (
              some (v35.2.2.2.2.1,v35.2.2.2.2.2.1,v35.2.2.2.2.2.2.1,v37.2.1,())) (
              an (
               some (v35.2.2.2.2.1,v35.2.2.2.2.2.1,v35.2.2.2.2.2.2.1,v37.2.1,())))
           |some (.inr v39)=>
            none)) (
          match aa (v32.2.1,(3:Int),())with
          |none=>none
          |some v33=>
          match aw (v1.1,v1.2.1,v31.1,(IntKind.i64.wrap (v32.1*(IntKind.i64.wrap (Int.tdiv v33.1 (2:Int))))),())with
          |none=>none
          |some v34=>
          match ac am (v33.2.1,((0:Int),[],[],[],()),((0:Int),(0:Int),(0:Int),(0:Int),(0:Int),()),((0:Int),(0:Int),((0:Int),(0:Int),(0:Int),(0:Int),(0:Int),()),[],()),v1.1,v1.2.1,v34.1,(0:Int),())with
          |none=>none
          |some (.inl v35)=>
           match aa (v35.1,(24:Int),())with
           |none=>none
           |some v37=>
           match(v37.1==(0:Int))with
           |true=>
            match az (v37.2.1,())with
            |none=>none
            |some v38=>
            al (
             some (v35.2.2.2.2.1,v35.2.2.2.2.2.1,(v35.2.2.2.2.2.2.1.1,v35.2.2.2.2.2.2.1.2.1,v38.1,v35.2.2.2.2.2.2.1.2.2.2.1,()),v38.2.1,())) (
             an (
              some (v35.2.2.2.2.1,v35.2.2.2.2.2.1,(v35.2.2.2.2.2.2.1.1,v35.2.2.2.2.2.2.1.2.1,v38.1,v35.2.2.2.2.2.2.1.2.2.2.1,()),v38.2.1,())))
           |false=>
            al (
             some (v35.2.2.2.2.1,v35.2.2.2.2.2.1,v35.2.2.2.2.2.2.1,v37.2.1,())) (
             an (
              some (v35.2.2.2.2.1,v35.2.2.2.2.2.1,v35.2.2.2.2.2.2.1,v37.2.1,())))
          |some (.inr v39)=>
           none)) (
         al (
          match aa (v32.2.1,(3:Int),())with
          |none=>none
          |some v33=>
          al (
           an (
            match aw (v1.1,v1.2.1,v31.1,(IntKind.i64.wrap (v32.1*(IntKind.i64.wrap (Int.tdiv v33.1 (2:Int))))),())with
            |none=>none
            |some v34=>
            match ac am (v33.2.1,((0:Int),[],[],[],()),((0:Int),(0:Int),(0:Int),(0:Int),(0:Int),()),((0:Int),(0:Int),((0:Int),(0:Int),(0:Int),(0:Int),(0:Int),()),[],()),v1.1,v1.2.1,v34.1,(0:Int),())with
            |none=>none
            |some (.inl v35)=>
             match aa (v35.1,(24:Int),())with
             |none=>none
             |some v37=>
             match(v37.1==(0:Int))with
             |true=>
              match az (v37.2.1,())with
              |none=>none
              |some v38=>
              al (
               some (v35.2.2.2.2.1,v35.2.2.2.2.2.1,(v35.2.2.2.2.2.2.1.1,v35.2.2.2.2.2.2.1.2.1,v38.1,v35.2.2.2.2.2.2.1.2.2.2.1,()),v38.2.1,())) (
               an (
                some (v35.2.2.2.2.1,v35.2.2.2.2.2.1,(v35.2.2.2.2.2.2.1.1,v35.2.2.2.2.2.2.1.2.1,v38.1,v35.2.2.2.2.2.2.1.2.2.2.1,()),v38.2.1,())))
             |false=>
              al (
               some (v35.2.2.2.2.1,v35.2.2.2.2.2.1,v35.2.2.2.2.2.2.1,v37.2.1,())) (
               an (
                some (v35.2.2.2.2.1,v35.2.2.2.2.2.1,v35.2.2.2.2.2.2.1,v37.2.1,())))
            |some (.inr v39)=>
             none)) (
           match aw (v1.1,v1.2.1,v31.1,(IntKind.i64.wrap (v32.1*(IntKind.i64.wrap (Int.tdiv v33.1 (2:Int))))),())with
           |none=>none
           |some v34=>
           match ac am (v33.2.1,((0:Int),[],[],[],()),((0:Int),(0:Int),(0:Int),(0:Int),(0:Int),()),((0:Int),(0:Int),((0:Int),(0:Int),(0:Int),(0:Int),(0:Int),()),[],()),v1.1,v1.2.1,v34.1,(0:Int),())with
           |none=>none
           |some (.inl v35)=>
            match aa (v35.1,(24:Int),())with
            |none=>none
            |some v37=>
            match(v37.1==(0:Int))with
            |true=>
             match az (v37.2.1,())with
             |none=>none
             |some v38=>
             al (
              some (v35.2.2.2.2.1,v35.2.2.2.2.2.1,(v35.2.2.2.2.2.2.1.1,v35.2.2.2.2.2.2.1.2.1,v38.1,v35.2.2.2.2.2.2.1.2.2.2.1,()),v38.2.1,())) (
              an (
               some (v35.2.2.2.2.1,v35.2.2.2.2.2.1,(v35.2.2.2.2.2.2.1.1,v35.2.2.2.2.2.2.1.2.1,v38.1,v35.2.2.2.2.2.2.1.2.2.2.1,()),v38.2.1,())))
            |false=>
             al (
              some (v35.2.2.2.2.1,v35.2.2.2.2.2.1,v35.2.2.2.2.2.2.1,v37.2.1,())) (
              an (
               some (v35.2.2.2.2.1,v35.2.2.2.2.2.1,v35.2.2.2.2.2.2.1,v37.2.1,())))
           |some (.inr v39)=>
            none)) (
          an (
           match aa (v32.2.1,(3:Int),())with
           |none=>none
           |some v33=>
           match aw (v1.1,v1.2.1,v31.1,(IntKind.i64.wrap (v32.1*(IntKind.i64.wrap (Int.tdiv v33.1 (2:Int))))),())with
           |none=>none
           |some v34=>
           match ac am (v33.2.1,((0:Int),[],[],[],()),((0:Int),(0:Int),(0:Int),(0:Int),(0:Int),()),((0:Int),(0:Int),((0:Int),(0:Int),(0:Int),(0:Int),(0:Int),()),[],()),v1.1,v1.2.1,v34.1,(0:Int),())with
           |none=>none
           |some (.inl v35)=>
            match aa (v35.1,(24:Int),())with
            |none=>none
            |some v37=>
            match(v37.1==(0:Int))with
            |true=>
             match az (v37.2.1,())with
             |none=>none
             |some v38=>
             al (
              some (v35.2.2.2.2.1,v35.2.2.2.2.2.1,(v35.2.2.2.2.2.2.1.1,v35.2.2.2.2.2.2.1.2.1,v38.1,v35.2.2.2.2.2.2.1.2.2.2.1,()),v38.2.1,())) (
              an (
               some (v35.2.2.2.2.1,v35.2.2.2.2.2.1,(v35.2.2.2.2.2.2.1.1,v35.2.2.2.2.2.2.1.2.1,v38.1,v35.2.2.2.2.2.2.1.2.2.2.1,()),v38.2.1,())))
            |false=>
             al (
              some (v35.2.2.2.2.1,v35.2.2.2.2.2.1,v35.2.2.2.2.2.2.1,v37.2.1,())) (
              an (
               some (v35.2.2.2.2.1,v35.2.2.2.2.2.1,v35.2.2.2.2.2.2.1,v37.2.1,())))
           |some (.inr v39)=>
            none)))) (
        al (
         match aa (v31.2.1,(8:Int),())with
         |none=>none
         |some v32=>
         match aa (v32.2.1,(3:Int),())with
         |none=>none
         |some v33=>
         match aw (v1.1,v1.2.1,v31.1,(IntKind.i64.wrap (v32.1*(IntKind.i64.wrap (Int.tdiv v33.1 (2:Int))))),())with
         |none=>none
         |some v34=>
         match ac am (v33.2.1,((0:Int),[],[],[],()),((0:Int),(0:Int),(0:Int),(0:Int),(0:Int),()),((0:Int),(0:Int),((0:Int),(0:Int),(0:Int),(0:Int),(0:Int),()),[],()),v1.1,v1.2.1,v34.1,(0:Int),())with
         |none=>none
         |some (.inl v35)=>
          match aa (v35.1,(24:Int),())with
          |none=>none
          |some v37=>
          match(v37.1==(0:Int))with
          |true=>
           match az (v37.2.1,())with
           |none=>none
           |some v38=>
           al (
            some (v35.2.2.2.2.1,v35.2.2.2.2.2.1,(v35.2.2.2.2.2.2.1.1,v35.2.2.2.2.2.2.1.2.1,v38.1,v35.2.2.2.2.2.2.1.2.2.2.1,()),v38.2.1,())) (
            an (
             some (v35.2.2.2.2.1,v35.2.2.2.2.2.1,(v35.2.2.2.2.2.2.1.1,v35.2.2.2.2.2.2.1.2.1,v38.1,v35.2.2.2.2.2.2.1.2.2.2.1,()),v38.2.1,())))
          |false=>
           al (
            some (v35.2.2.2.2.1,v35.2.2.2.2.2.1,v35.2.2.2.2.2.2.1,v37.2.1,())) (
            an (
             some (v35.2.2.2.2.1,v35.2.2.2.2.2.1,v35.2.2.2.2.2.2.1,v37.2.1,())))
         |some (.inr v39)=>
          none) (
         match aa (v31.2.1,(8:Int),())with
         |none=>none
         |some v32=>
         an (
          match aa (v32.2.1,(3:Int),())with
          |none=>none
          |some v33=>
          match aw (v1.1,v1.2.1,v31.1,(IntKind.i64.wrap (v32.1*(IntKind.i64.wrap (Int.tdiv v33.1 (2:Int))))),())with
          |none=>none
          |some v34=>
          match ac am (v33.2.1,((0:Int),[],[],[],()),((0:Int),(0:Int),(0:Int),(0:Int),(0:Int),()),((0:Int),(0:Int),((0:Int),(0:Int),(0:Int),(0:Int),(0:Int),()),[],()),v1.1,v1.2.1,v34.1,(0:Int),())with
          |none=>none
          |some (.inl v35)=>
           match aa (v35.1,(24:Int),())with
           |none=>none
           |some v37=>
           match(v37.1==(0:Int))with
           |true=>
            match az (v37.2.1,())with
            |none=>none
            |some v38=>
            al (
             some (v35.2.2.2.2.1,v35.2.2.2.2.2.1,(v35.2.2.2.2.2.2.1.1,v35.2.2.2.2.2.2.1.2.1,v38.1,v35.2.2.2.2.2.2.1.2.2.2.1,()),v38.2.1,())) (
             an (
              some (v35.2.2.2.2.1,v35.2.2.2.2.2.1,(v35.2.2.2.2.2.2.1.1,v35.2.2.2.2.2.2.1.2.1,v38.1,v35.2.2.2.2.2.2.1.2.2.2.1,()),v38.2.1,())))
           |false=>
            al (
             some (v35.2.2.2.2.1,v35.2.2.2.2.2.1,v35.2.2.2.2.2.2.1,v37.2.1,())) (
             an (
              some (v35.2.2.2.2.1,v35.2.2.2.2.2.1,v35.2.2.2.2.2.2.1,v37.2.1,())))
          |some (.inr v39)=>
           none))))) (
      al (
       match aa (v7.2.1,(256:Int),())with
       |none=>none
       |some v31=>
       match aa (v31.2.1,(8:Int),())with
       |none=>none
       |some v32=>
       match aa (v32.2.1,(3:Int),())with
       |none=>none
       |some v33=>
       match aw (v1.1,v1.2.1,v31.1,(IntKind.i64.wrap (v32.1*(IntKind.i64.wrap (Int.tdiv v33.1 (2:Int))))),())with
       |none=>none
       |some v34=>
       match ac am (v33.2.1,((0:Int),[],[],[],()),((0:Int),(0:Int),(0:Int),(0:Int),(0:Int),()),((0:Int),(0:Int),((0:Int),(0:Int),(0:Int),(0:Int),(0:Int),()),[],()),v1.1,v1.2.1,v34.1,(0:Int),())with
       |none=>none
       |some (.inl v35)=>
        match aa (v35.1,(24:Int),())with
        |none=>none
        |some v37=>
        match(v37.1==(0:Int))with
        |true=>
         match az (v37.2.1,())with
         |none=>none
         |some v38=>
         al (
          some (v35.2.2.2.2.1,v35.2.2.2.2.2.1,(v35.2.2.2.2.2.2.1.1,v35.2.2.2.2.2.2.1.2.1,v38.1,v35.2.2.2.2.2.2.1.2.2.2.1,()),v38.2.1,())) (
          an (
           some (v35.2.2.2.2.1,v35.2.2.2.2.2.1,(v35.2.2.2.2.2.2.1.1,v35.2.2.2.2.2.2.1.2.1,v38.1,v35.2.2.2.2.2.2.1.2.2.2.1,()),v38.2.1,())))
        |false=>
         al (
          some (v35.2.2.2.2.1,v35.2.2.2.2.2.1,v35.2.2.2.2.2.2.1,v37.2.1,())) (
          an (
           some (v35.2.2.2.2.1,v35.2.2.2.2.2.1,v35.2.2.2.2.2.2.1,v37.2.1,())))
       |some (.inr v39)=>
        none) (
       match aa (v7.2.1,(256:Int),())with
       |none=>none
       |some v31=>
       al (
        match aa (v31.2.1,(8:Int),())with
        |none=>none
        |some v32=>
        match aa (v32.2.1,(3:Int),())with
        |none=>none
        |some v33=>
        match aw (v1.1,v1.2.1,v31.1,(IntKind.i64.wrap (v32.1*(IntKind.i64.wrap (Int.tdiv v33.1 (2:Int))))),())with
        |none=>none
        |some v34=>
        match ac am (v33.2.1,((0:Int),[],[],[],()),((0:Int),(0:Int),(0:Int),(0:Int),(0:Int),()),((0:Int),(0:Int),((0:Int),(0:Int),(0:Int),(0:Int),(0:Int),()),[],()),v1.1,v1.2.1,v34.1,(0:Int),())with
        |none=>none
        |some (.inl v35)=>
         match aa (v35.1,(24:Int),())with
         |none=>none
         |some v37=>
         match(v37.1==(0:Int))with
         |true=>
          match az (v37.2.1,())with
          |none=>none
          |some v38=>
          al (
           some (v35.2.2.2.2.1,v35.2.2.2.2.2.1,(v35.2.2.2.2.2.2.1.1,v35.2.2.2.2.2.2.1.2.1,v38.1,v35.2.2.2.2.2.2.1.2.2.2.1,()),v38.2.1,())) (
           an (
            some (v35.2.2.2.2.1,v35.2.2.2.2.2.1,(v35.2.2.2.2.2.2.1.1,v35.2.2.2.2.2.2.1.2.1,v38.1,v35.2.2.2.2.2.2.1.2.2.2.1,()),v38.2.1,())))
         |false=>
          al (
           some (v35.2.2.2.2.1,v35.2.2.2.2.2.1,v35.2.2.2.2.2.2.1,v37.2.1,())) (
           an (
            some (v35.2.2.2.2.1,v35.2.2.2.2.2.1,v35.2.2.2.2.2.2.1,v37.2.1,())))
        |some (.inr v39)=>
         none) (
        match aa (v31.2.1,(8:Int),())with
        |none=>none
        |some v32=>
        an (
         match aa (v32.2.1,(3:Int),())with
         |none=>none
         |some v33=>
         match aw (v1.1,v1.2.1,v31.1,(IntKind.i64.wrap (v32.1*(IntKind.i64.wrap (Int.tdiv v33.1 (2:Int))))),())with
         |none=>none
         |some v34=>
         match ac am (v33.2.1,((0:Int),[],[],[],()),((0:Int),(0:Int),(0:Int),(0:Int),(0:Int),()),((0:Int),(0:Int),((0:Int),(0:Int),(0:Int),(0:Int),(0:Int),()),[],()),v1.1,v1.2.1,v34.1,(0:Int),())with
         |none=>none
         |some (.inl v35)=>
          match aa (v35.1,(24:Int),())with
          |none=>none
          |some v37=>
          match(v37.1==(0:Int))with
          |true=>
           match az (v37.2.1,())with
           |none=>none
           |some v38=>
           al (
            some (v35.2.2.2.2.1,v35.2.2.2.2.2.1,(v35.2.2.2.2.2.2.1.1,v35.2.2.2.2.2.2.1.2.1,v38.1,v35.2.2.2.2.2.2.1.2.2.2.1,()),v38.2.1,())) (
            an (
             some (v35.2.2.2.2.1,v35.2.2.2.2.2.1,(v35.2.2.2.2.2.2.1.1,v35.2.2.2.2.2.2.1.2.1,v38.1,v35.2.2.2.2.2.2.1.2.2.2.1,()),v38.2.1,())))
          |false=>
           al (
            some (v35.2.2.2.2.1,v35.2.2.2.2.2.1,v35.2.2.2.2.2.2.1,v37.2.1,())) (
            an (
             some (v35.2.2.2.2.1,v35.2.2.2.2.2.1,v35.2.2.2.2.2.2.1,v37.2.1,())))
         |some (.inr v39)=>
          none)))))
  |false=>
   al (
    al (
     match aa (v4.2.1,(256:Int),())with
     |none=>none
     |some v40=>
     al (
      match aa (v40.2.1,(8:Int),())with
      |none=>none
      |some v41=>
      al (
       match aa (v41.2.1,(3:Int),())with
       |none=>none
       |some v42=>
       an (
        match aw (v1.1,v1.2.1,v40.1,(IntKind.i64.wrap (v41.1*(IntKind.i64.wrap (Int.tdiv v42.1 (2:Int))))),())with
        |none=>none
        |some v43=>
        match ac am (v42.2.1,((0:Int),[],[],[],()),((0:Int),(0:Int),(0:Int),(0:Int),(0:Int),()),((0:Int),(0:Int),((0:Int),(0:Int),(0:Int),(0:Int),(0:Int),()),[],()),v1.1,v1.2.1,v43.1,(0:Int),())with
        |none=>none
        |some (.inl v44)=>
         match aa (v44.1,(24:Int),())with
         |none=>none
         |some v46=>
         match(v46.1==(0:Int))with
         |true=>
          match az (v46.2.1,())with
          |none=>none
          |some v47=>
          al (
           some (v44.2.2.2.2.1,v44.2.2.2.2.2.1,(v44.2.2.2.2.2.2.1.1,v44.2.2.2.2.2.2.1.2.1,v47.1,v44.2.2.2.2.2.2.1.2.2.2.1,()),v47.2.1,())) (
           an (
            some (v44.2.2.2.2.1,v44.2.2.2.2.2.1,(v44.2.2.2.2.2.2.1.1,v44.2.2.2.2.2.2.1.2.1,v47.1,v44.2.2.2.2.2.2.1.2.2.2.1,()),v47.2.1,())))
         |false=>
          al (
           some (v44.2.2.2.2.1,v44.2.2.2.2.2.1,v44.2.2.2.2.2.2.1,v46.2.1,())) (
           an (
            some (v44.2.2.2.2.1,v44.2.2.2.2.2.1,v44.2.2.2.2.2.2.1,v46.2.1,())))
        |some (.inr v48)=>
         none)) (
       match aa (v41.2.1,(3:Int),())with
       |none=>none
       |some v42=>
       match aw (v1.1,v1.2.1,v40.1,(IntKind.i64.wrap (v41.1*(IntKind.i64.wrap (Int.tdiv v42.1 (2:Int))))),())with
       |none=>none
       |some v43=>
       match ac am (v42.2.1,((0:Int),[],[],[],()),((0:Int),(0:Int),(0:Int),(0:Int),(0:Int),()),((0:Int),(0:Int),((0:Int),(0:Int),(0:Int),(0:Int),(0:Int),()),[],()),v1.1,v1.2.1,v43.1,(0:Int),())with
       |none=>none
       |some (.inl v44)=>
        match aa (v44.1,(24:Int),())with
        |none=>none
        |some v46=>
        match(v46.1==(0:Int))with
        |true=>
         match az (v46.2.1,())with
         |none=>none
         |some v47=>
         al (
          some (v44.2.2.2.2.1,v44.2.2.2.2.2.1,(v44.2.2.2.2.2.2.1.1,v44.2.2.2.2.2.2.1.2.1,v47.1,v44.2.2.2.2.2.2.1.2.2.2.1,()),v47.2.1,())) (
          an (
           some (v44.2.2.2.2.1,v44.2.2.2.2.2.1,(v44.2.2.2.2.2.2.1.1,v44.2.2.2.2.2.2.1.2.1,v47.1,v44.2.2.2.2.2.2.1.2.2.2.1,()),v47.2.1,())))
        |false=>
         al (
          some (v44.2.2.2.2.1,v44.2.2.2.2.2.1,v44.2.2.2.2.2.2.1,v46.2.1,())) (
          an (
           some (v44.2.2.2.2.1,v44.2.2.2.2.2.1,v44.2.2.2.2.2.2.1,v46.2.1,())))
       |some (.inr v48)=>
        none)) (
      match aa (v40.2.1,(8:Int),())with
      |none=>none
      |some v41=>
      match aa (v41.2.1,(3:Int),())with
      |none=>none
      |some v42=>
      match aw (v1.1,v1.2.1,v40.1,(IntKind.i64.wrap (v41.1*(IntKind.i64.wrap (Int.tdiv v42.1 (2:Int))))),())with
      |none=>none
      |some v43=>
      match ac am (v42.2.1,((0:Int),[],[],[],()),((0:Int),(0:Int),(0:Int),(0:Int),(0:Int),()),((0:Int),(0:Int),((0:Int),(0:Int),(0:Int),(0:Int),(0:Int),()),[],()),v1.1,v1.2.1,v43.1,(0:Int),())with
      |none=>none
      |some (.inl v44)=>
       match aa (v44.1,(24:Int),())with
       |none=>none
       |some v46=>
       match(v46.1==(0:Int))with
       |true=>
        match az (v46.2.1,())with
        |none=>none
        |some v47=>
        al (
         some (v44.2.2.2.2.1,v44.2.2.2.2.2.1,(v44.2.2.2.2.2.2.1.1,v44.2.2.2.2.2.2.1.2.1,v47.1,v44.2.2.2.2.2.2.1.2.2.2.1,()),v47.2.1,())) (
         an (
          some (v44.2.2.2.2.1,v44.2.2.2.2.2.1,(v44.2.2.2.2.2.2.1.1,v44.2.2.2.2.2.2.1.2.1,v47.1,v44.2.2.2.2.2.2.1.2.2.2.1,()),v47.2.1,())))
       |false=>
        al (
         some (v44.2.2.2.2.1,v44.2.2.2.2.2.1,v44.2.2.2.2.2.2.1,v46.2.1,())) (
         an (
          some (v44.2.2.2.2.1,v44.2.2.2.2.2.1,v44.2.2.2.2.2.2.1,v46.2.1,())))
      |some (.inr v48)=>
       none)) (
     match aa (v4.2.1,(256:Int),())with
     |none=>none
     |some v40=>
     match aa (v40.2.1,(8:Int),())with
     |none=>none
     |some v41=>
     match aa (v41.2.1,(3:Int),())with
     |none=>none
     |some v42=>
     match aw (v1.1,v1.2.1,v40.1,(IntKind.i64.wrap (v41.1*(IntKind.i64.wrap (Int.tdiv v42.1 (2:Int))))),())with
     |none=>none
     |some v43=>
     match ac am (v42.2.1,((0:Int),[],[],[],()),((0:Int),(0:Int),(0:Int),(0:Int),(0:Int),()),((0:Int),(0:Int),((0:Int),(0:Int),(0:Int),(0:Int),(0:Int),()),[],()),v1.1,v1.2.1,v43.1,(0:Int),())with
     |none=>none
     |some (.inl v44)=>
      match aa (v44.1,(24:Int),())with
      |none=>none
      |some v46=>
      match(v46.1==(0:Int))with
      |true=>
       match az (v46.2.1,())with
       |none=>none
       |some v47=>
       al (
        some (v44.2.2.2.2.1,v44.2.2.2.2.2.1,(v44.2.2.2.2.2.2.1.1,v44.2.2.2.2.2.2.1.2.1,v47.1,v44.2.2.2.2.2.2.1.2.2.2.1,()),v47.2.1,())) (
        an (
         some (v44.2.2.2.2.1,v44.2.2.2.2.2.1,(v44.2.2.2.2.2.2.1.1,v44.2.2.2.2.2.2.1.2.1,v47.1,v44.2.2.2.2.2.2.1.2.2.2.1,()),v47.2.1,())))
      |false=>
       al (
        some (v44.2.2.2.2.1,v44.2.2.2.2.2.1,v44.2.2.2.2.2.2.1,v46.2.1,())) (
        an (
         some (v44.2.2.2.2.1,v44.2.2.2.2.2.1,v44.2.2.2.2.2.2.1,v46.2.1,())))
     |some (.inr v48)=>
      none)) (
    al (
     match aa (v4.2.1,(256:Int),())with
     |none=>none
     |some v40=>
     al (
      al (
       match aa (v40.2.1,(8:Int),())with
       |none=>none
       |some v41=>
       al (
        match aa (v41.2.1,(3:Int),())with
        |none=>none
        |some v42=>
        an (
         match aw (v1.1,v1.2.1,v40.1,(IntKind.i64.wrap (v41.1*(IntKind.i64.wrap (Int.tdiv v42.1 (2:Int))))),())with
         |none=>none
         |some v43=>
         match ac am (v42.2.1,((0:Int),[],[],[],()),((0:Int),(0:Int),(0:Int),(0:Int),(0:Int),()),((0:Int),(0:Int),((0:Int),(0:Int),(0:Int),(0:Int),(0:Int),()),[],()),v1.1,v1.2.1,v43.1,(0:Int),())with
         |none=>none
         |some (.inl v44)=>
          match aa (v44.1,(24:Int),())with
          |none=>none
          |some v46=>
          match(v46.1==(0:Int))with
          |true=>
           match az (v46.2.1,())with
           |none=>none
           |some v47=>
           al (
            some (v44.2.2.2.2.1,v44.2.2.2.2.2.1,(v44.2.2.2.2.2.2.1.1,v44.2.2.2.2.2.2.1.2.1,v47.1,v44.2.2.2.2.2.2.1.2.2.2.1,()),v47.2.1,())) (
            an (
             some (v44.2.2.2.2.1,v44.2.2.2.2.2.1,(v44.2.2.2.2.2.2.1.1,v44.2.2.2.2.2.2.1.2.1,v47.1,v44.2.2.2.2.2.2.1.2.2.2.1,()),v47.2.1,())))
          |false=>
           al (
            some (v44.2.2.2.2.1,v44.2.2.2.2.2.1,v44.2.2.2.2.2.2.1,v46.2.1,())) (
            an (
             some (v44.2.2.2.2.1,v44.2.2.2.2.2.1,v44.2.2.2.2.2.2.1,v46.2.1,())))
         |some (.inr v48)=>
          none)) (
        match aa (v41.2.1,(3:Int),())with
        |none=>none
        |some v42=>
        match aw (v1.1,v1.2.1,v40.1,(IntKind.i64.wrap (v41.1*(IntKind.i64.wrap (Int.tdiv v42.1 (2:Int))))),())with
        |none=>none
        |some v43=>
        match ac am (v42.2.1,((0:Int),[],[],[],()),((0:Int),(0:Int),(0:Int),(0:Int),(0:Int),()),((0:Int),(0:Int),((0:Int),(0:Int),(0:Int),(0:Int),(0:Int),()),[],()),v1.1,v1.2.1,v43.1,(0:Int),())with
        |none=>none
        |some (.inl v44)=>
         match aa (v44.1,(24:Int),())with
         |none=>none
         |some v46=>
         match(v46.1==(0:Int))with
         |true=>
          match az (v46.2.1,())with
          |none=>none
          |some v47=>
          al (
           some (v44.2.2.2.2.1,v44.2.2.2.2.2.1,(v44.2.2.2.2.2.2.1.1,v44.2.2.2.2.2.2.1.2.1,v47.1,v44.2.2.2.2.2.2.1.2.2.2.1,()),v47.2.1,())) (
           an (
            some (v44.2.2.2.2.1,v44.2.2.2.2.2.1,(v44.2.2.2.2.2.2.1.1,v44.2.2.2.2.2.2.1.2.1,v47.1,v44.2.2.2.2.2.2.1.2.2.2.1,()),v47.2.1,())))
         |false=>
          al (
           some (v44.2.2.2.2.1,v44.2.2.2.2.2.1,v44.2.2.2.2.2.2.1,v46.2.1,())) (
           an (
            some (v44.2.2.2.2.1,v44.2.2.2.2.2.1,v44.2.2.2.2.2.2.1,v46.2.1,())))
        |some (.inr v48)=>
         none)) (
       match aa (v40.2.1,(8:Int),())with
       |none=>none
       |some v41=>
       match aa (v41.2.1,(3:Int),())with
       |none=>none
       |some v42=>
       match aw (v1.1,v1.2.1,v40.1,(IntKind.i64.wrap (v41.1*(IntKind.i64.wrap (Int.tdiv v42.1 (2:Int))))),())with
       |none=>none
       |some v43=>
       match ac am (v42.2.1,((0:Int),[],[],[],()),((0:Int),(0:Int),(0:Int),(0:Int),(0:Int),()),((0:Int),(0:Int),((0:Int),(0:Int),(0:Int),(0:Int),(0:Int),()),[],()),v1.1,v1.2.1,v43.1,(0:Int),())with
       |none=>none
       |some (.inl v44)=>
        match aa (v44.1,(24:Int),())with
        |none=>none
        |some v46=>
        match(v46.1==(0:Int))with
        |true=>
         match az (v46.2.1,())with
         |none=>none
         |some v47=>
         al (
          some (v44.2.2.2.2.1,v44.2.2.2.2.2.1,(v44.2.2.2.2.2.2.1.1,v44.2.2.2.2.2.2.1.2.1,v47.1,v44.2.2.2.2.2.2.1.2.2.2.1,()),v47.2.1,())) (
          an (
           some (v44.2.2.2.2.1,v44.2.2.2.2.2.1,(v44.2.2.2.2.2.2.1.1,v44.2.2.2.2.2.2.1.2.1,v47.1,v44.2.2.2.2.2.2.1.2.2.2.1,()),v47.2.1,())))
        |false=>
         al (
          some (v44.2.2.2.2.1,v44.2.2.2.2.2.1,v44.2.2.2.2.2.2.1,v46.2.1,())) (
          an (
           some (v44.2.2.2.2.1,v44.2.2.2.2.2.1,v44.2.2.2.2.2.2.1,v46.2.1,())))
       |some (.inr v48)=>
        none)) (
      al (
       match aa (v40.2.1,(8:Int),())with
       |none=>none
       |some v41=>
       al (
        al (
         match aa (v41.2.1,(3:Int),())with
         |none=>none
         |some v42=>
         an (
          match aw (v1.1,v1.2.1,v40.1,(IntKind.i64.wrap (v41.1*(IntKind.i64.wrap (Int.tdiv v42.1 (2:Int))))),())with
          |none=>none
          |some v43=>
          match ac am (v42.2.1,((0:Int),[],[],[],()),((0:Int),(0:Int),(0:Int),(0:Int),(0:Int),()),((0:Int),(0:Int),((0:Int),(0:Int),(0:Int),(0:Int),(0:Int),()),[],()),v1.1,v1.2.1,v43.1,(0:Int),())with
          |none=>none
          |some (.inl v44)=>
           match aa (v44.1,(24:Int),())with
           |none=>none
           |some v46=>
           match(v46.1==(0:Int))with
           |true=>
            match az (v46.2.1,())with
            |none=>none
            |some v47=>
            al (
             some (v44.2.2.2.2.1,v44.2.2.2.2.2.1,(v44.2.2.2.2.2.2.1.1,v44.2.2.2.2.2.2.1.2.1,v47.1,v44.2.2.2.2.2.2.1.2.2.2.1,()),v47.2.1,())) (
             an (
              some (v44.2.2.2.2.1,v44.2.2.2.2.2.1,(v44.2.2.2.2.2.2.1.1,v44.2.2.2.2.2.2.1.2.1,v47.1,v44.2.2.2.2.2.2.1.2.2.2.1,()),v47.2.1,())))
           |false=>
            al (
             some (v44.2.2.2.2.1,v44.2.2.2.2.2.1,v44.2.2.2.2.2.2.1,v46.2.1,())) (
             an (
              some (v44.2.2.2.2.1,v44.2.2.2.2.2.1,v44.2.2.2.2.2.2.1,v46.2.1,())))
          |some (.inr v48)=>
           none)) (
         match aa (v41.2.1,(3:Int),())with
         |none=>none
         |some v42=>
         match aw (v1.1,v1.2.1,v40.1,(IntKind.i64.wrap (v41.1*(IntKind.i64.wrap (Int.tdiv v42.1 (2:Int))))),())with
         |none=>none
         |some v43=>
         match ac am (v42.2.1,((0:Int),[],[],[],()),((0:Int),(0:Int),(0:Int),(0:Int),(0:Int),()),((0:Int),(0:Int),((0:Int),(0:Int),(0:Int),(0:Int),(0:Int),()),[],()),v1.1,v1.2.1,v43.1,(0:Int),())with
         |none=>none
         |some (.inl v44)=>
          match aa (v44.1,(24:Int),())with
          |none=>none
          |some v46=>
          match(v46.1==(0:Int))with
          |true=>
           match az (v46.2.1,())with
           |none=>none
           |some v47=>
           al (
            some (v44.2.2.2.2.1,v44.2.2.2.2.2.1,(v44.2.2.2.2.2.2.1.1,v44.2.2.2.2.2.2.1.2.1,v47.1,v44.2.2.2.2.2.2.1.2.2.2.1,()),v47.2.1,())) (
            an (
             some (v44.2.2.2.2.1,v44.2.2.2.2.2.1,(v44.2.2.2.2.2.2.1.1,v44.2.2.2.2.2.2.1.2.1,v47.1,v44.2.2.2.2.2.2.1.2.2.2.1,()),v47.2.1,())))
          |false=>
           al (
            some (v44.2.2.2.2.1,v44.2.2.2.2.2.1,v44.2.2.2.2.2.2.1,v46.2.1,())) (
            an (
             some (v44.2.2.2.2.1,v44.2.2.2.2.2.1,v44.2.2.2.2.2.2.1,v46.2.1,())))
         |some (.inr v48)=>
          none)) (
        al (
         match aa (v41.2.1,(3:Int),())with
         |none=>none
         |some v42=>
         al (
          an (
           match aw (v1.1,v1.2.1,v40.1,(IntKind.i64.wrap (v41.1*(IntKind.i64.wrap (Int.tdiv v42.1 (2:Int))))),())with
           |none=>none
           |some v43=>
           match ac am (v42.2.1,((0:Int),[],[],[],()),((0:Int),(0:Int),(0:Int),(0:Int),(0:Int),()),((0:Int),(0:Int),((0:Int),(0:Int),(0:Int),(0:Int),(0:Int),()),[],()),v1.1,v1.2.1,v43.1,(0:Int),())with
           |none=>none
           |some (.inl v44)=>
            match aa (v44.1,(24:Int),())with
            |none=>none
            |some v46=>
            match(v46.1==(0:Int))with
            |true=>
             match az (v46.2.1,())with
             |none=>none
             |some v47=>
             al (
              some (v44.2.2.2.2.1,v44.2.2.2.2.2.1,(v44.2.2.2.2.2.2.1.1,v44.2.2.2.2.2.2.1.2.1,v47.1,v44.2.2.2.2.2.2.1.2.2.2.1,()),v47.2.1,())) (
              an (
               some (v44.2.2.2.2.1,v44.2.2.2.2.2.1,(v44.2.2.2.2.2.2.1.1,v44.2.2.2.2.2.2.1.2.1,v47.1,v44.2.2.2.2.2.2.1.2.2.2.1,()),v47.2.1,())))
            |false=>
             al (
              some (v44.2.2.2.2.1,v44.2.2.2.2.2.1,v44.2.2.2.2.2.2.1,v46.2.1,())) (
              an (
               some (v44.2.2.2.2.1,v44.2.2.2.2.2.1,v44.2.2.2.2.2.2.1,v46.2.1,())))
           |some (.inr v48)=>
            none)) (
          match aw (v1.1,v1.2.1,v40.1,(IntKind.i64.wrap (v41.1*(IntKind.i64.wrap (Int.tdiv v42.1 (2:Int))))),())with
          |none=>none
          |some v43=>
          match ac am (v42.2.1,((0:Int),[],[],[],()),((0:Int),(0:Int),(0:Int),(0:Int),(0:Int),()),((0:Int),(0:Int),((0:Int),(0:Int),(0:Int),(0:Int),(0:Int),()),[],()),v1.1,v1.2.1,v43.1,(0:Int),())with
          |none=>none
          |some (.inl v44)=>
           match aa (v44.1,(24:Int),())with
           |none=>none
           |some v46=>
           match(v46.1==(0:Int))with
           |true=>
            match az (v46.2.1,())with
            |none=>none
            |some v47=>
            al (
             some (v44.2.2.2.2.1,v44.2.2.2.2.2.1,(v44.2.2.2.2.2.2.1.1,v44.2.2.2.2.2.2.1.2.1,v47.1,v44.2.2.2.2.2.2.1.2.2.2.1,()),v47.2.1,())) (
             an (
              some (v44.2.2.2.2.1,v44.2.2.2.2.2.1,(v44.2.2.2.2.2.2.1.1,v44.2.2.2.2.2.2.1.2.1,v47.1,v44.2.2.2.2.2.2.1.2.2.2.1,()),v47.2.1,())))
           |false=>
            al (
             some (v44.2.2.2.2.1,v44.2.2.2.2.2.1,v44.2.2.2.2.2.2.1,v46.2.1,())) (
             an (
              some (v44.2.2.2.2.1,v44.2.2.2.2.2.1,v44.2.2.2.2.2.2.1,v46.2.1,())))
          |some (.inr v48)=>
           none)) (
         an (
          match aa (v41.2.1,(3:Int),())with
          |none=>none
          |some v42=>
          match aw (v1.1,v1.2.1,v40.1,(IntKind.i64.wrap (v41.1*(IntKind.i64.wrap (Int.tdiv v42.1 (2:Int))))),())with
          |none=>none
          |some v43=>
          match ac am (v42.2.1,((0:Int),[],[],[],()),((0:Int),(0:Int),(0:Int),(0:Int),(0:Int),()),((0:Int),(0:Int),((0:Int),(0:Int),(0:Int),(0:Int),(0:Int),()),[],()),v1.1,v1.2.1,v43.1,(0:Int),())with
          |none=>none
          |some (.inl v44)=>
           match aa (v44.1,(24:Int),())with
           |none=>none
           |some v46=>
           match(v46.1==(0:Int))with
           |true=>
            match az (v46.2.1,())with
            |none=>none
            |some v47=>
            al (
             some (v44.2.2.2.2.1,v44.2.2.2.2.2.1,(v44.2.2.2.2.2.2.1.1,v44.2.2.2.2.2.2.1.2.1,v47.1,v44.2.2.2.2.2.2.1.2.2.2.1,()),v47.2.1,())) (
             an (
              some (v44.2.2.2.2.1,v44.2.2.2.2.2.1,(v44.2.2.2.2.2.2.1.1,v44.2.2.2.2.2.2.1.2.1,v47.1,v44.2.2.2.2.2.2.1.2.2.2.1,()),v47.2.1,())))
           |false=>
            al (
             some (v44.2.2.2.2.1,v44.2.2.2.2.2.1,v44.2.2.2.2.2.2.1,v46.2.1,())) (
             an (
              some (v44.2.2.2.2.1,v44.2.2.2.2.2.1,v44.2.2.2.2.2.2.1,v46.2.1,())))
          |some (.inr v48)=>
           none)))) (
       al (
        match aa (v40.2.1,(8:Int),())with
        |none=>none
        |some v41=>
        match aa (v41.2.1,(3:Int),())with
        |none=>none
        |some v42=>
        match aw (v1.1,v1.2.1,v40.1,(IntKind.i64.wrap (v41.1*(IntKind.i64.wrap (Int.tdiv v42.1 (2:Int))))),())with
        |none=>none
        |some v43=>
        match ac am (v42.2.1,((0:Int),[],[],[],()),((0:Int),(0:Int),(0:Int),(0:Int),(0:Int),()),((0:Int),(0:Int),((0:Int),(0:Int),(0:Int),(0:Int),(0:Int),()),[],()),v1.1,v1.2.1,v43.1,(0:Int),())with
        |none=>none
        |some (.inl v44)=>
         match aa (v44.1,(24:Int),())with
         |none=>none
         |some v46=>
         match(v46.1==(0:Int))with
         |true=>
          match az (v46.2.1,())with
          |none=>none
          |some v47=>
          al (
           some (v44.2.2.2.2.1,v44.2.2.2.2.2.1,(v44.2.2.2.2.2.2.1.1,v44.2.2.2.2.2.2.1.2.1,v47.1,v44.2.2.2.2.2.2.1.2.2.2.1,()),v47.2.1,())) (
           an (
            some (v44.2.2.2.2.1,v44.2.2.2.2.2.1,(v44.2.2.2.2.2.2.1.1,v44.2.2.2.2.2.2.1.2.1,v47.1,v44.2.2.2.2.2.2.1.2.2.2.1,()),v47.2.1,())))
         |false=>
          al (
           some (v44.2.2.2.2.1,v44.2.2.2.2.2.1,v44.2.2.2.2.2.2.1,v46.2.1,())) (
           an (
            some (v44.2.2.2.2.1,v44.2.2.2.2.2.1,v44.2.2.2.2.2.2.1,v46.2.1,())))
        |some (.inr v48)=>
         none) (
        match aa (v40.2.1,(8:Int),())with
        |none=>none
        |some v41=>
        an (
         match aa (v41.2.1,(3:Int),())with
         |none=>none
         |some v42=>
         match aw (v1.1,v1.2.1,v40.1,(IntKind.i64.wrap (v41.1*(IntKind.i64.wrap (Int.tdiv v42.1 (2:Int))))),())with
         |none=>none
         |some v43=>
         match ac am (v42.2.1,((0:Int),[],[],[],()),((0:Int),(0:Int),(0:Int),(0:Int),(0:Int),()),((0:Int),(0:Int),((0:Int),(0:Int),(0:Int),(0:Int),(0:Int),()),[],()),v1.1,v1.2.1,v43.1,(0:Int),())with
         |none=>none
         |some (.inl v44)=>
          match aa (v44.1,(24:Int),())with
          |none=>none
          |some v46=>
          match(v46.1==(0:Int))with
          |true=>
           match az (v46.2.1,())with
           |none=>none
           |some v47=>
           al (
            some (v44.2.2.2.2.1,v44.2.2.2.2.2.1,(v44.2.2.2.2.2.2.1.1,v44.2.2.2.2.2.2.1.2.1,v47.1,v44.2.2.2.2.2.2.1.2.2.2.1,()),v47.2.1,())) (
            an (
             some (v44.2.2.2.2.1,v44.2.2.2.2.2.1,(v44.2.2.2.2.2.2.1.1,v44.2.2.2.2.2.2.1.2.1,v47.1,v44.2.2.2.2.2.2.1.2.2.2.1,()),v47.2.1,())))
          |false=>
           al (
            some (v44.2.2.2.2.1,v44.2.2.2.2.2.1,v44.2.2.2.2.2.2.1,v46.2.1,())) (
            an (
             some (v44.2.2.2.2.1,v44.2.2.2.2.2.1,v44.2.2.2.2.2.2.1,v46.2.1,())))
         |some (.inr v48)=>
          none))))) (
     al (
      match aa (v4.2.1,(256:Int),())with
      |none=>none
      |some v40=>
      match aa (v40.2.1,(8:Int),())with
      |none=>none
      |some v41=>
      match aa (v41.2.1,(3:Int),())with
      |none=>none
      |some v42=>
      match aw (v1.1,v1.2.1,v40.1,(IntKind.i64.wrap (v41.1*(IntKind.i64.wrap (Int.tdiv v42.1 (2:Int))))),())with
      |none=>none
      |some v43=>
      match ac am (v42.2.1,((0:Int),[],[],[],()),((0:Int),(0:Int),(0:Int),(0:Int),(0:Int),()),((0:Int),(0:Int),((0:Int),(0:Int),(0:Int),(0:Int),(0:Int),()),[],()),v1.1,v1.2.1,v43.1,(0:Int),())with
      |none=>none
      |some (.inl v44)=>
       match aa (v44.1,(24:Int),())with
       |none=>none
       |some v46=>
       match(v46.1==(0:Int))with
       |true=>
        match az (v46.2.1,())with
        |none=>none
        |some v47=>
        al (
         some (v44.2.2.2.2.1,v44.2.2.2.2.2.1,(v44.2.2.2.2.2.2.1.1,v44.2.2.2.2.2.2.1.2.1,v47.1,v44.2.2.2.2.2.2.1.2.2.2.1,()),v47.2.1,())) (
         an (
          some (v44.2.2.2.2.1,v44.2.2.2.2.2.1,(v44.2.2.2.2.2.2.1.1,v44.2.2.2.2.2.2.1.2.1,v47.1,v44.2.2.2.2.2.2.1.2.2.2.1,()),v47.2.1,())))
       |false=>
        al (
         some (v44.2.2.2.2.1,v44.2.2.2.2.2.1,v44.2.2.2.2.2.2.1,v46.2.1,())) (
         an (
          some (v44.2.2.2.2.1,v44.2.2.2.2.2.1,v44.2.2.2.2.2.2.1,v46.2.1,())))
      |some (.inr v48)=>
       none) (
      match aa (v4.2.1,(256:Int),())with
      |none=>none
      |some v40=>
      al (
       match aa (v40.2.1,(8:Int),())with
       |none=>none
       |some v41=>
       match aa (v41.2.1,(3:Int),())with
       |none=>none
       |some v42=>
       match aw (v1.1,v1.2.1,v40.1,(IntKind.i64.wrap (v41.1*(IntKind.i64.wrap (Int.tdiv v42.1 (2:Int))))),())with
       |none=>none
       |some v43=>
       match ac am (v42.2.1,((0:Int),[],[],[],()),((0:Int),(0:Int),(0:Int),(0:Int),(0:Int),()),((0:Int),(0:Int),((0:Int),(0:Int),(0:Int),(0:Int),(0:Int),()),[],()),v1.1,v1.2.1,v43.1,(0:Int),())with
       |none=>none
       |some (.inl v44)=>
        match aa (v44.1,(24:Int),())with
        |none=>none
        |some v46=>
        match(v46.1==(0:Int))with
        |true=>
         match az (v46.2.1,())with
         |none=>none
         |some v47=>
         al (
          some (v44.2.2.2.2.1,v44.2.2.2.2.2.1,(v44.2.2.2.2.2.2.1.1,v44.2.2.2.2.2.2.1.2.1,v47.1,v44.2.2.2.2.2.2.1.2.2.2.1,()),v47.2.1,())) (
          an (
           some (v44.2.2.2.2.1,v44.2.2.2.2.2.1,(v44.2.2.2.2.2.2.1.1,v44.2.2.2.2.2.2.1.2.1,v47.1,v44.2.2.2.2.2.2.1.2.2.2.1,()),v47.2.1,())))
        |false=>
         al (
          some (v44.2.2.2.2.1,v44.2.2.2.2.2.1,v44.2.2.2.2.2.2.1,v46.2.1,())) (
          an (
           some (v44.2.2.2.2.1,v44.2.2.2.2.2.1,v44.2.2.2.2.2.2.1,v46.2.1,())))
       |some (.inr v48)=>
        none) (
       match aa (v40.2.1,(8:Int),())with
       |none=>none
       |some v41=>
       an (
        match aa (v41.2.1,(3:Int),())with
        |none=>none
        |some v42=>
        match aw (v1.1,v1.2.1,v40.1,(IntKind.i64.wrap (v41.1*(IntKind.i64.wrap (Int.tdiv v42.1 (2:Int))))),())with
        |none=>none
        |some v43=>
        match ac am (v42.2.1,((0:Int),[],[],[],()),((0:Int),(0:Int),(0:Int),(0:Int),(0:Int),()),((0:Int),(0:Int),((0:Int),(0:Int),(0:Int),(0:Int),(0:Int),()),[],()),v1.1,v1.2.1,v43.1,(0:Int),())with
        |none=>none
        |some (.inl v44)=>
         match aa (v44.1,(24:Int),())with
         |none=>none
         |some v46=>
         match(v46.1==(0:Int))with
         |true=>
          match az (v46.2.1,())with
          |none=>none
          |some v47=>
          al (
           some (v44.2.2.2.2.1,v44.2.2.2.2.2.1,(v44.2.2.2.2.2.2.1.1,v44.2.2.2.2.2.2.1.2.1,v47.1,v44.2.2.2.2.2.2.1.2.2.2.1,()),v47.2.1,())) (
           an (
            some (v44.2.2.2.2.1,v44.2.2.2.2.2.1,(v44.2.2.2.2.2.2.1.1,v44.2.2.2.2.2.2.1.2.1,v47.1,v44.2.2.2.2.2.2.1.2.2.2.1,()),v47.2.1,())))
         |false=>
          al (
           some (v44.2.2.2.2.1,v44.2.2.2.2.2.1,v44.2.2.2.2.2.2.1,v46.2.1,())) (
           an (
            some (v44.2.2.2.2.1,v44.2.2.2.2.2.1,v44.2.2.2.2.2.2.1,v46.2.1,())))
        |some (.inr v48)=>
         none)))))
noncomputable def H0:ae:=⟨_,Br,dY,rfl,sY⟩
noncomputable def FC:FuncId→Option ae:=bH [(42,de),(86,HZ),(87,De),(88,An),(89,HP),(90,FB),(91,y8)]
theorem Ni:∀f s,FC f=some s→FnOK G0 Tryz.prog f s:=aK ⟨bh,QU,Ng,Li,mp,Pk,xe,trivial⟩
def Ap:aX:=⟨[0,2,3,4,5,6,7,8],rp,0,[0,2,3,4,5,6,7],Ao,[],.unit⟩
noncomputable def FD:List aD:=[Ap.spec am]
theorem Js:bi Γ3 E3 FC (be Tryz.f40 FD) Tryz.f40 0 Ap am:=fun x=>by kernel_rfl
theorem QW:FnOK G0 Tryz.prog 40 H0:=aO abo Ni Tryz.func40 FD (by kernel_rfl) (by exact⟨(Js).lok,trivial⟩) fun x=>by kernel_rfl
noncomputable def iC(x:Ty.T fD):Option (Ty.T ax):=
match re (x.1,(8192:Int),(1:Int),())with
|none=>none
|some v1=>
some (v1.1,())
noncomputable def BN:ae:=⟨_,ax,.unit,rfl,iC⟩
theorem kk:FnOK G0 Tryz.prog 121 BN:=aq ap (sg HS (aU)) Tryz.func121
noncomputable def lB(x:Ty.T aV):Option (Ty.T ZL):=
match(x.1==(2:Int))with
|true=>
 some (true,false,())
|false=>
 match(x.1==(3:Int))with
 |true=>
  some (true,false,())
 |false=>
  match(x.1==(4:Int))with
  |true=>
   some (true,true,())
  |false=>
   match(x.1==(6:Int))with
   |true=>
    some (true,true,())
   |false=>
    some (false,false,())
noncomputable def Pl:ae:=⟨_,ZL,.unit,rfl,lB⟩
theorem Aq:FnOK G0 Tryz.prog 185 Pl:=aq ap aU Tryz.func185
noncomputable def mC(x:Ty.T Xe):Option (Ty.T ax):=
match bp (x.1.1,(1:Int),(6:Int),())with
|none=>none
|some v1=>
match(!v1.1)with
|true=>
 some (false,())
|false=>
 match bp (x.1.2.1,(0:Int),(8192:Int),())with
 |none=>none
 |some v2=>
 match(!v2.1)with
 |true=>
  some (false,())
 |false=>
  match lB (x.1.1,())with
  |none=>none
  |some v3=>
  match v3.1 with
  |true=>
   match bp (x.1.2.2.1,(1:Int),(8192:Int),())with
   |none=>none
   |some v4=>
   match(!v4.1)with
   |true=>
    some (false,())
   |false=>
    match(!v3.1)with
    |true=>
     match(x.1.2.2.1 != (0:Int))with
     |true=>
      some (false,())
     |false=>
      match bp (x.1.2.2.2.1,(0:Int),(1:Int),())with
      |none=>none
      |some v5=>
      match v5.1 with
      |true=>
       match v3.2.1 with
       |true=>
        some (true,())
       |false=>
        some ((x.1.2.2.2.1==(0:Int)),())
      |false=>
       some (false,())
    |false=>
     match bp (x.1.2.2.2.1,(0:Int),(1:Int),())with
     |none=>none
     |some v6=>
     match v6.1 with
     |true=>
      match v3.2.1 with
      |true=>
       some (true,())
      |false=>
       some ((x.1.2.2.2.1==(0:Int)),())
     |false=>
      some (false,())
  |false=>
   match(!v3.1)with
   |true=>
    match(x.1.2.2.1 != (0:Int))with
    |true=>
     some (false,())
    |false=>
     match bp (x.1.2.2.2.1,(0:Int),(1:Int),())with
     |none=>none
     |some v7=>
     match v7.1 with
     |true=>
      match v3.2.1 with
      |true=>
       some (true,())
      |false=>
       some ((x.1.2.2.2.1==(0:Int)),())
     |false=>
      some (false,())
   |false=>
    match bp (x.1.2.2.2.1,(0:Int),(1:Int),())with
    |none=>none
    |some v8=>
    match v8.1 with
    |true=>
     match v3.2.1 with
     |true=>
      some (true,())
     |false=>
      some ((x.1.2.2.2.1==(0:Int)),())
    |false=>
     some (false,())
noncomputable def y9:ae:=⟨_,ax,.unit,rfl,mC⟩
theorem FE:FnOK G0 Tryz.prog 135 y9:=aq ap (sg cu (sg Aq (aU))) Tryz.func135
abbrev rq:Ty:=(.pair (.list bl) (.pair (.int .i64) .unit))
noncomputable def gM(x:(Ty.T rq)):Option ((Ty.T rq) ⊕ ((Ty.T Xi) ⊕ (Ty.T ax))):=
match(decide (x.2.1<(x.1.length:Int)))with
|true=>
 ab (av x.1 x.2.1) fun v1=>
 match mC (v1,())with
 |none=>none
 |some v2=>
 match(!v2.1)with
 |true=>
  some (.inr (.inr (false,())))
 |false=>
  some (.inl (x.1,(IntKind.i64.wrap (x.2.1+(1:Int))),()))
|false=>
 some (.inr (.inl (x.1,())))
noncomputable def qr(x:Ty.T Xi):Option (Ty.T ax):=
match ac gM (x.1,(0:Int),())with
|none=>none
|some (.inl v3)=>
 some ((decide ((v3.1.length:Int)≤(30:Int))),())
|some (.inr v4)=>
 some (v4.1,())
noncomputable def QX:ae:=⟨_,ax,.unit,rfl,qr⟩
noncomputable def Dh:FuncId→Option ae:=bH [(135,y9)]
theorem Lj:∀f s,Dh f=some s→FnOK G0 Tryz.prog f s:=aK ⟨FE,trivial⟩
def Ar:aX:=⟨[0,3],rq,0,[0],Xi,[2],ax⟩
noncomputable def Di:List aD:=[Ar.spec gM]
theorem Jt:bi bm E0 Dh (be Tryz.f132 Di) Tryz.f132 0 Ar gM:=fun x=>by kernel_rfl
theorem Pm:FnOK G0 Tryz.prog 132 QX:=aO ap Lj Tryz.func132 Di (by kernel_rfl) (by exact⟨(Jt).lok,trivial⟩) fun x=>by kernel_rfl
noncomputable def kl(x:Ty.T fD):Option (Ty.T bG):=
aH (([]:List (Ty.T (.int .i64))).length+x.1.length) (
 some ((([]:List (Ty.T (.int .i64)))++x.1),()))
noncomputable def BO:ae:=⟨_,bG,.unit,rfl,kl⟩
theorem za:FnOK G0 Tryz.prog 183 BO:=aq ap aU Tryz.func183
abbrev yt:Ty:=Qt
noncomputable def dw(x:(Ty.T yt)):Option ((Ty.T yt) ⊕ ((Ty.T bG) ⊕ (Ty.T .unit))):=
match(decide (x.2.2.2.1<x.2.1))with
|true=>
 match(x.1.1==(5:Int))with
 |true=>
  ab (av x.2.2.1 x.2.2.2.1) fun _=>
  match x.2.2.1[x.2.2.2.1.toNat]? with
  |none=>none
  |some v3=>
  some (.inl ((x.1.1,x.1.2.1,x.1.2.2.1,x.1.2.2.2.1,()),x.2.1,(x.2.2.1.set x.2.2.2.1.toNat (1:Int)),(IntKind.i64.wrap (x.2.2.2.1+(1:Int))),()))
 |false=>
  match(x.1.1==(6:Int))with
  |true=>
   ab (av x.2.2.1 x.2.2.2.1) fun _=>
   match x.2.2.1[x.2.2.2.1.toNat]? with
   |none=>none
   |some v5=>
   some (.inl ((x.1.1,x.1.2.1,x.1.2.2.1,x.1.2.2.2.1,()),x.2.1,(x.2.2.1.set x.2.2.2.1.toNat x.1.2.2.2.1),(IntKind.i64.wrap (x.2.2.2.1+(1:Int))),()))
  |false=>
   ab (av x.2.2.1 x.2.2.2.1) fun _=>
   match x.2.2.1[x.2.2.2.1.toNat]? with
   |none=>none
   |some v7=>
   ab (av x.2.2.1 x.2.2.2.1) fun _=>
   match x.2.2.1[x.2.2.2.1.toNat]? with
   |none=>none
   |some v9=>
   some (.inl ((x.1.1,x.1.2.1,x.1.2.2.1,x.1.2.2.2.1,()),x.2.1,(x.2.2.1.set x.2.2.2.1.toNat (IntKind.i64.wrap ((1:Int)-v7))),(IntKind.i64.wrap (x.2.2.2.1+(1:Int))),()))
|false=>
 some (.inr (.inl (x.2.2.1,())))
noncomputable def gb(x:Ty.T Xr):Option (Unit ⊕ (Ty.T fD)):=
match kl (x.1,())with
|none=>none
|some v1=>
match ac dw ((x.2.1.1,x.2.1.2.1,x.2.1.2.2.1,x.2.1.2.2.2.1,()),x.2.2.2.1,v1.1,x.2.2.1,())with
|none=>none
|some (.inl v2)=>
 some (.inr (v2.1,()))
|some (.inr v4)=>
 none
noncomputable def kI(x:Ty.T Xs):Option (Unit ⊕ (Ty.T fD)):=
match(x.2.1.1==(1:Int))with
|true=>
 match gb (x.1,(x.2.1.1,x.2.1.2.1,x.2.1.2.2.1,x.2.1.2.2.2.1,()),x.2.2.2.1,(if(IntKind.i64.wrap (x.2.1.2.1+(1:Int)))<x.2.2.1 then(IntKind.i64.wrap (x.2.1.2.1+(1:Int)))else x.2.2.1),())with
 |none=>none
 |some (.inl v6)=>none
 |some (.inr v5)=>
  some (.inr (v5.1,()))
|false=>
 match(x.2.1.1==(5:Int))with
 |true=>
  match gb (x.1,(x.2.1.1,x.2.1.2.1,x.2.1.2.2.1,x.2.1.2.2.2.1,()),x.2.2.2.1,x.2.2.1,())with
  |none=>none
  |some (.inl v8)=>none
  |some (.inr v7)=>
   some (.inr (v7.1,()))
 |false=>
  match(x.2.1.1==(3:Int))with
  |true=>
   ab (aM x.1.length none (some (.dat (.int .i64) x.2.2.2.1))) fun v9=>
   ab (aM x.1.length (some (.dat (.int .i64) x.2.2.2.2.1)) none) fun v10=>
   match kl ((List.drop v9.1 (List.take v9.2 x.1)),())with
   |none=>none
   |some v11=>
   aH (v11.1.length+(List.drop v10.1 (List.take v10.2 x.1)).length) (
    some (.inr ((v11.1++(List.drop v10.1 (List.take v10.2 x.1))),())))
  |false=>
   match(x.2.1.1==(4:Int))with
   |true=>
    match(decide (x.2.1.2.1>x.2.2.1))with
    |true=>
     match kl (x.1,())with
     |none=>none
     |some v12=>
     some (.inr (v12.1,()))
    |false=>
     ab (aM x.1.length none (some (.dat (.int .i64) x.2.2.2.1))) fun v13=>
     match kl ((List.drop v13.1 (List.take v13.2 x.1)),())with
     |none=>none
     |some v14=>
     match cB (x.2.1.2.2.1,x.2.1.2.2.2.1,())with
     |none=>none
     |some v15=>
     aH (v14.1.length+v15.1.length) (
      ab (aM x.1.length (some (.dat (.int .i64) x.2.2.2.1)) none) fun v16=>
      aH ((v14.1++v15.1).length+(List.drop v16.1 (List.take v16.2 x.1)).length) (
       ab (aM ((v14.1++v15.1)++(List.drop v16.1 (List.take v16.2 x.1))).length none (some (.dat (.int .i64) (if(8192:Int)<(((v14.1++v15.1)++(List.drop v16.1 (List.take v16.2 x.1))).length:Int)then(8192:Int)else(((v14.1++v15.1)++(List.drop v16.1 (List.take v16.2 x.1))).length:Int))))) fun v17=>
       some (.inr ((List.drop v17.1 (List.take v17.2 ((v14.1++v15.1)++(List.drop v16.1 (List.take v16.2 x.1))))),()))))
   |false=>
    match gb (x.1,(x.2.1.1,x.2.1.2.1,x.2.1.2.2.1,x.2.1.2.2.2.1,()),x.2.2.2.1,x.2.2.2.2.1,())with
    |none=>none
    |some (.inl v19)=>none
    |some (.inr v18)=>
     some (.inr (v18.1,()))
noncomputable def gc(x:Ty.T ZU):Option (Ty.T fD):=
an (
 match kI (x.1,(x.2.1.1,x.2.1.2.1,x.2.1.2.2.1,x.2.1.2.2.2.1,()),(x.1.length:Int),(if x.2.1.2.1<(x.1.length:Int)then x.2.1.2.1 else(x.1.length:Int)),(if(IntKind.i64.wrap (x.2.1.2.1+x.2.1.2.2.1))<(x.1.length:Int)then(IntKind.i64.wrap (x.2.1.2.1+x.2.1.2.2.1))else(x.1.length:Int)),())with
 |none=>none
 |some (.inl v21)=>none
 |some (.inr v20)=>
  some (v20.1,()))
noncomputable def qs:ae:=⟨_,fD,.unit,rfl,gc⟩
noncomputable def gv:FuncId→Option ae:=bH [(79,mr),(183,BO)]
theorem Lk:∀f s,gv f=some s→FnOK G0 Tryz.prog f s:=aK ⟨gt,za,trivial⟩
noncomputable def yu:List (Nat×aD):=[(3,⟨[0,3,5,6,7],Xs,1000003,[],.unit,[4],fD,kI⟩),(16,⟨[0,3,6,7],Xr,1000016,[],.unit,[4],fD,gb⟩)]
noncomputable def lv:Nat→Option aD:=Qi (b8 (gA Tryz.f175)) [⟨[3,7,9,10],Qt,1,[9],bG,[],.unit,ac dw⟩] yu
theorem Ju(x):fi bm E0 gv lv Tryz.f175.ntmps (VQ Tryz.f175 2) (fg Tryz.f175.ntmps [0,3,5,6,7] Xs x) (Bo gv Tryz.f175.ntmps 1000003 [] .unit [4] fD)=kI x:=by kernel_rfl
theorem Hj(x):fi bm E0 gv lv Tryz.f175.ntmps (VQ Tryz.f175 3) (fg Tryz.f175.ntmps [0,3,6,7] Xr x) (Bo gv Tryz.f175.ntmps 1000016 [] .unit [4] fD)=gb x:=by kernel_rfl
theorem Hk(x):fi bm E0 gv lv Tryz.f175.ntmps (Mr Tryz.f175 0) (fg Tryz.f175.ntmps [3,7,9,10] Qt x) (Bp gv Tryz.f175.ntmps [3,7,9,10] Qt 1 [9] bG [] .unit)=dw x:=by kernel_rfl
theorem Dj:FnOK G0 Tryz.prog 175 qs:=ZH (Λ:=lv) ap Lk Tryz.func175 (by kernel_rfl) (show Tryz.f175.body=some (gA Tryz.f175) by kernel_rfl) [⟨[3,7,9,10],Qt,1,[9],bG,[],.unit,ac dw⟩] yu rfl (by kernel_rfl) (by exact⟨Qk (Hk),trivial⟩) (by exact⟨trivial,trivial,Tw Ju,Tw Hj,trivial,trivial,trivial,trivial,trivial,trivial,trivial,trivial,trivial,trivial,trivial,trivial,trivial,trivial,trivial,trivial,trivial,trivial,trivial,trivial,trivial,trivial,trivial⟩) (by kernel_rfl)
 fun x y h=>(show sn bm E0 gv lv Tryz.f175 qs x=gc x by kernel_rfl).trans h
abbrev rr:Ty:=(.pair (.list bl) (.pair (.list (.int .i64)) (.pair (.int .i64) .unit)))
noncomputable def gN(x:(Ty.T rr)):Option ((Ty.T rr) ⊕ ((Ty.T fD) ⊕ (Ty.T .unit))):=
match(decide (x.2.2.1<(x.1.length:Int)))with
|true=>
 ab (av x.1 x.2.2.1) fun v2=>
 match gc (x.2.1,v2,())with
 |none=>none
 |some v3=>
 some (.inl (x.1,v3.1,(IntKind.i64.wrap (x.2.2.1+(1:Int))),()))
|false=>
 some (.inr (.inl (x.2.1,())))
noncomputable def qt(x:Ty.T Z3):Option (Ty.T fD):=
match kl (x.1,())with
|none=>none
|some v1=>
match ac gN (x.2.1,v1.1,(0:Int),())with
|none=>none
|some (.inl v4)=>
 some (v4.1,())
|some (.inr v6)=>
 none
noncomputable def QY:ae:=⟨_,fD,.unit,rfl,qt⟩
noncomputable def Dk:FuncId→Option ae:=bH [(175,qs),(183,BO)]
theorem Ll:∀f s,Dk f=some s→FnOK G0 Tryz.prog f s:=aK ⟨Dj,za,trivial⟩
def As:aX:=⟨[1,5,6],rr,0,[5],fD,[],.unit⟩
noncomputable def Dl:List aD:=[As.spec gN]
theorem Jv:bi bm E0 Dk (be Tryz.f133 Dl) Tryz.f133 0 As gN:=fun x=>by kernel_rfl
theorem Pn:FnOK G0 Tryz.prog 133 QY:=aO ap Ll Tryz.func133 Dl (by kernel_rfl) (by exact⟨(Jv).lok,trivial⟩) fun x=>by kernel_rfl
noncomputable def iE(x:Ty.T Z3):Option (Ty.T vZ):=
match iC (x.1,())with
|none=>none
|some v1=>
match(!v1.1)with
|true=>
 some ([],(1:Int),())
|false=>
 match qr (x.2.1,())with
 |none=>none
 |some v2=>
 match(!v2.1)with
 |true=>
  some ([],(2:Int),())
 |false=>
  match qt (x.1,x.2.1,())with
  |none=>none
  |some v3=>
  some (v3.1,(0:Int),())
noncomputable def yv:ae:=⟨_,vZ,.unit,rfl,iE⟩
theorem xg:FnOK G0 Tryz.prog 80 yv:=aq ap (sg kk (sg Pm (sg Pn (aU)))) Tryz.func80
noncomputable def sb(x:Ty.T IG):Option (Ty.T ZT):=
match aa ((x.1.1,x.1.2.1,x.1.2.2.1,()),(6:Int),())with
|none=>none
|some v1=>
match aa ((v1.2.1.1,v1.2.1.2.1,v1.2.1.2.2.1,()),(IntKind.i64.wrap (x.2.1+(4:Int))),())with
|none=>none
|some v2=>
match lB ((IntKind.i64.wrap ((1:Int)+v1.1)),())with
|none=>none
|some v3=>
match v3.1 with
|true=>
 match aa ((v2.2.1.1,v2.2.1.2.1,v2.2.1.2.2.1,()),(12:Int),())with
 |none=>none
 |some v4=>
 match v3.2.1 with
 |true=>
  match aa ((v4.2.1.1,v4.2.1.2.1,v4.2.1.2.2.1,()),(2:Int),())with
  |none=>none
  |some v5=>
  some (((IntKind.i64.wrap ((1:Int)+v1.1)),(if v2.1<(8192:Int)then v2.1 else(8192:Int)),(IntKind.i64.wrap ((1:Int)+v4.1)),v5.1,()),(v5.2.1.1,v5.2.1.2.1,v5.2.1.2.2.1,()),())
 |false=>
  some (((IntKind.i64.wrap ((1:Int)+v1.1)),(if v2.1<(8192:Int)then v2.1 else(8192:Int)),(IntKind.i64.wrap ((1:Int)+v4.1)),(0:Int),()),(v4.2.1.1,v4.2.1.2.1,v4.2.1.2.2.1,()),())
|false=>
 match v3.2.1 with
 |true=>
  match aa ((v2.2.1.1,v2.2.1.2.1,v2.2.1.2.2.1,()),(2:Int),())with
  |none=>none
  |some v6=>
  some (((IntKind.i64.wrap ((1:Int)+v1.1)),(if v2.1<(8192:Int)then v2.1 else(8192:Int)),(0:Int),v6.1,()),(v6.2.1.1,v6.2.1.2.1,v6.2.1.2.2.1,()),())
 |false=>
  some (((IntKind.i64.wrap ((1:Int)+v1.1)),(if v2.1<(8192:Int)then v2.1 else(8192:Int)),(0:Int),(0:Int),()),(v2.2.1.1,v2.2.1.2.1,v2.2.1.2.2.1,()),())
noncomputable def Po:ae:=⟨_,Xe,dY,rfl,sb⟩
theorem Nj:FnOK G0 Tryz.prog 184 Po:=aq ap (sg bh (sg Aq (aU))) Tryz.func184
end Go.Proofs.YtckljdhdadiphaaGreatDoor
