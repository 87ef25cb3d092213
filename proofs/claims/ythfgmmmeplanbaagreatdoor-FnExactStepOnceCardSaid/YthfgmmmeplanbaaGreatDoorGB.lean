import Derived.Test.YthfgmmmeplanbaaGreatDoorGA
namespace Go.Proofs.YthfgmmmeplanbaaGreatDoor
open Go.RowKit
set_option linter.unusedVariables false
noncomputable def fb(x:Ty.T (.pair ag (.pair ab (.pair (.list (.int .i64)) .unit)))):Option (Ty.T (.pair (.pair (.int .i64) (.pair (.pair (.int .i64) (.pair (.int .i64) (.pair ab (.pair (.own 2 (.int .i64)) .unit)))) .unit)) (.pair (.int .i64) .unit))):=
match kz (x.2.2.1,())with
|none=>none
|some v1=>
match(v1.2.1==(0:Int))with
|true=>
 match oh ((x.1.1,x.1.2.1,x.1.2.2.1,x.1.2.2.2.1,()),(x.2.1.1,x.2.1.2.1,x.2.1.2.2.1,x.2.1.2.2.2.1,x.2.1.2.2.2.2.1,()),v1.1,())with
 |none=>none
 |some v2=>
 some ((v2.1.1,(v2.1.2.1.1,v2.1.2.1.2.1,(v2.1.2.1.2.2.1.1,v2.1.2.1.2.2.1.2.1,v2.1.2.1.2.2.1.2.2.1,v2.1.2.1.2.2.1.2.2.2.1,v2.1.2.1.2.2.1.2.2.2.2.1,()),v2.1.2.1.2.2.2.1,()),()),v2.2.1,())
|false=>
 match(v1.2.1==(4:Int))with
 |true=>
  some (((0:Int),((0:Int),(0:Int),((0:Int),(0:Int),(0:Int),(0:Int),(0:Int),()),[],()),()),v1.2.1,())
 |false=>
  some (((1:Int),((0:Int),(0:Int),((0:Int),(0:Int),(0:Int),(0:Int),(0:Int),()),[],()),()),v1.2.1,())
noncomputable def Kj:Spec:=⟨_,(.pair (.pair (.int .i64) (.pair (.pair (.int .i64) (.pair (.int .i64) (.pair ab (.pair (.own 2 (.int .i64)) .unit)))) .unit)) (.pair (.int .i64) .unit)),.unit,rfl,fb⟩
theorem H7:FnOK G0 Tryz.prog 108 Kj:=ai ah (sg Ca (sg Mo (az))) Tryz.func108
noncomputable def kW(x:Ty.T (.pair ab (.pair (.int .i64) ak))):Option (Ty.T (.pair ab .unit)):=
match((IntKind.i64.wrap (x.1.2.2.2.1+(1:Int)))==x.2.2.1)with
|true=>
 if x.2.2.2.1=0 then none else
 some (((Int.tmod (IntKind.i64.wrap (x.1.1+x.2.1)) (65536:Int)),x.1.2.1,(Int.tmod (IntKind.i64.wrap (x.1.2.2.1+(1:Int))) x.2.2.2.1),(0:Int),x.1.2.2.2.2.1,()),())
|false=>
 some (((Int.tmod (IntKind.i64.wrap (x.1.1+x.2.1)) (65536:Int)),x.1.2.1,x.1.2.2.1,(IntKind.i64.wrap (x.1.2.2.2.1+(1:Int))),x.1.2.2.2.2.1,()),())
noncomputable def Kk:Spec:=⟨_,(.pair ab .unit),.unit,rfl,kW⟩
theorem H8:FnOK G0 Tryz.prog 151 Kk:=ai ah az Tryz.func151
noncomputable def jC(x:Ty.T (.pair ag (.pair ab .unit))):Option (Ty.T (.pair ab .unit)):=
aa (aw x.1.2.2.1 x.2.1.2.1) fun v1=>
aa (aw x.1.2.2.1 x.2.1.2.1) fun v2=>
match cG ((x.1.1,x.1.2.1,x.1.2.2.1,x.1.2.2.2.1,()),(x.2.1.1,x.2.1.2.1,x.2.1.2.2.1,x.2.1.2.2.2.1,x.2.1.2.2.2.2.1,()),())with
|none=>none
|some v3=>
match kW ((x.2.1.1,x.2.1.2.1,x.2.1.2.2.1,x.2.1.2.2.2.1,x.2.1.2.2.2.2.1,()),v3.1.2.2.2.1,v1.2.1,v2.1,())with
|none=>none
|some v4=>
some ((v4.1.1,v4.1.2.1,v4.1.2.2.1,v4.1.2.2.2.1,v4.1.2.2.2.2.1,()),())
noncomputable def Qj:Spec:=⟨_,(.pair ab .unit),.unit,rfl,jC⟩
theorem Oo:FnOK G0 Tryz.prog 110 Qj:=ai ah (sg hU (sg H8 (az))) Tryz.func110
noncomputable def u6(x:Ty.T (.pair ag (.pair ab (.pair aH .unit)))):Option (Ty.T (.pair (.pair (.int .i64) (.pair (.pair (.int .i64) (.pair (.int .i64) (.pair ab (.pair (.own 2 (.int .i64)) .unit)))) .unit)) (.pair ab .unit))):=
match ob x with
|none=>none
|some v1=>
aU (
 match gK (v1.1,x.2.2.1.2.2.1,())with
 |none=>none
 |some v2=>
 aL (
  match fb (x.1,x.2.1,v2.1,())with
  |none=>none
  |some v3=>
  aU (
   match gK (v1.1,x.2.2.1.2.2.2.1,())with
   |none=>none
   |some v4=>
   aL (
    match fb (x.1,x.2.1,v4.1,())with
    |none=>none
    |some v5=>
    match jM (v3.1,v5.1,())with
    |none=>none
    |some v6=>
    aL (
     match cG (x.1,x.2.1,())with
     |none=>none
     |some v7=>
     match g9 (x.2.1.2.2.2.2.1,v7.1.1,(v6.1.1==(3:Int)),())with
     |none=>none
     |some v8=>
     aL (
      match jC (x.1,(x.2.1.1,x.2.1.2.1,x.2.1.2.2.1,x.2.1.2.2.2.1,v8.1,()),())with
      |none=>none
      |some v9=>
      some (v6.1,v9.1,()))))) (
   match gK (v1.1,x.2.2.1.2.2.2.1,())with
   |none=>none
   |some v4=>
   match fb (x.1,x.2.1,v4.1,())with
   |none=>none
   |some v5=>
   match jM (v3.1,v5.1,())with
   |none=>none
   |some v6=>
   aL (
    match cG (x.1,x.2.1,())with
    |none=>none
    |some v7=>
    match g9 (x.2.1.2.2.2.2.1,v7.1.1,(v6.1.1==(3:Int)),())with
    |none=>none
    |some v8=>
    aL (
     match jC (x.1,(x.2.1.1,x.2.1.2.1,x.2.1.2.2.1,x.2.1.2.2.2.1,v8.1,()),())with
     |none=>none
     |some v9=>
     some (v6.1,v9.1,())))))) (
 match gK (v1.1,x.2.2.1.2.2.1,())with
 |none=>none
 |some v2=>
 match fb (x.1,x.2.1,v2.1,())with
 |none=>none
 |some v3=>
 aU (
  match gK (v1.1,x.2.2.1.2.2.2.1,())with
  |none=>none
  |some v4=>
  aL (
   match fb (x.1,x.2.1,v4.1,())with
   |none=>none
   |some v5=>
   match jM (v3.1,v5.1,())with
   |none=>none
   |some v6=>
   aL (
    match cG (x.1,x.2.1,())with
    |none=>none
    |some v7=>
    match g9 (x.2.1.2.2.2.2.1,v7.1.1,(v6.1.1==(3:Int)),())with
    |none=>none
    |some v8=>
    aL (
     match jC (x.1,(x.2.1.1,x.2.1.2.1,x.2.1.2.2.1,x.2.1.2.2.2.1,v8.1,()),())with
     |none=>none
     |some v9=>
     some (v6.1,v9.1,()))))) (
  match gK (v1.1,x.2.2.1.2.2.2.1,())with
  |none=>none
  |some v4=>
  match fb (x.1,x.2.1,v4.1,())with
  |none=>none
  |some v5=>
  match jM (v3.1,v5.1,())with
  |none=>none
  |some v6=>
  aL (
   match cG (x.1,x.2.1,())with
   |none=>none
   |some v7=>
   match g9 (x.2.1.2.2.2.2.1,v7.1.1,(v6.1.1==(3:Int)),())with
   |none=>none
   |some v8=>
   aL (
    match jC (x.1,(x.2.1.1,x.2.1.2.1,x.2.1.2.2.1,x.2.1.2.2.2.1,v8.1,()),())with
    |none=>none
    |some v9=>
    some (v6.1,v9.1,())))))
noncomputable def Qk:Spec:=⟨_,(.pair (.pair (.int .i64) (.pair (.pair (.int .i64) (.pair (.int .i64) (.pair ab (.pair (.own 2 (.int .i64)) .unit)))) .unit)) (.pair ab .unit)),.unit,rfl,u6⟩
theorem Oq:FnOK G0 Tryz.prog 76 Qk:=ai ah (sg hU (sg L9 (sg Ma (sg HY (sg H7 (sg vC (sg Oo (az)))))))) Tryz.func76
noncomputable def dq(x:Ty.T (.pair ag (.pair ab (.pair aH .unit)))):Option (Ty.T (.pair (.pair (.int .i64) (.pair (.pair (.int .i64) (.pair (.int .i64) (.pair ab (.pair (.own 2 (.int .i64)) .unit)))) .unit)) (.pair ab (.pair (.int .i64) .unit)))):=
match uO (x.1,x.2.1,[x.2.2.1],())with
|none=>none
|some v1=>
match(v1.1 != (0:Int))with
|true=>
 some (((0:Int),((0:Int),(0:Int),((0:Int),(0:Int),(0:Int),(0:Int),(0:Int),()),[],()),()),((0:Int),(0:Int),(0:Int),(0:Int),(0:Int),()),v1.1,())
|false=>
 match u6 x with
 |none=>none
 |some v2=>
 some (v2.1,v2.2.1,(0:Int),())
noncomputable def Cb:Spec:=⟨_,(.pair (.pair (.int .i64) (.pair (.pair (.int .i64) (.pair (.int .i64) (.pair ab (.pair (.own 2 (.int .i64)) .unit)))) .unit)) (.pair ab (.pair (.int .i64) .unit))),.unit,rfl,dq⟩
theorem Mp:FnOK G0 Tryz.prog 32 Cb:=ai ah (sg N4 (sg Oq (az))) Tryz.func32
noncomputable def Cc(x:Ty.T (.pair al .unit)):Option (Ty.T (.pair al .unit)):=
some (x.1,())
noncomputable def Ev:Spec:=⟨_,(.pair al .unit),.unit,rfl,Cc⟩
theorem Ot:FnOK G0 Tryz.prog 59 Ev:=ai ah az Tryz.func59
noncomputable def gV(x:(Ty.T (.pair (.list al) (.pair (.own 105 al) (.pair (.int .i64) .unit))))):Option ((Ty.T (.pair (.list al) (.pair (.own 105 al) (.pair (.int .i64) .unit)))) ⊕ ((Ty.T (.pair (.own 105 al) .unit)) ⊕ (Ty.T .unit))):=
match(decide (x.2.2.1<(x.1.length:Int)))with
|true=>
 aa (aw x.1 x.2.2.1) fun v1=>
 match Cc (v1,())with
 |none=>none
 |some v2=>
 aa (aw x.2.1 x.2.2.1) fun _=>
 match x.2.1[x.2.2.1.toNat]? with
 |none=>none
 |some v4=>
 some (.inl (x.1,(x.2.1.set x.2.2.1.toNat v2.1),(IntKind.i64.wrap (x.2.2.1+(1:Int))),()))
|false=>
 some (.inr (.inl (x.2.1,())))
noncomputable def gL(x:Ty.T (.pair (.list al) .unit)):Option (Ty.T (.pair (.own 105 al) .unit)):=
if 0≤(x.1.length:Int)∧(x.1.length:Int)≤(x.1.length:Int)then
 a7 ((x.1.length:Int).toNat) (
  match ac gV (x.1,(List.replicate (x.1.length:Int).toNat ((0:Int),(0:Int),(0:Int),(0:Int),())),(0:Int),())with
  |none=>none
  |some (.inl v5)=>
   some (v5.1,())
  |some (.inr v7)=>
   none)
else none
noncomputable def Ou:Spec:=⟨_,(.pair (.own 105 al) .unit),.unit,rfl,gL⟩
noncomputable def zD:FuncId→Option Spec:=a8 [(59,Ev)]
theorem H9:∀f s,zD f=some s→FnOK G0 Tryz.prog f s:=au ⟨Ot,trivial⟩
def wX:aF:=⟨[0,3,4],(.pair (.list al) (.pair (.own 105 al) (.pair (.int .i64) .unit))),0,[3],(.pair (.own 105 al) .unit),[],.unit⟩
noncomputable def zE:List ar:=[wX.spec gV]
theorem FV:aX aS E0 zD (aW Tryz.f15 zE) Tryz.f15 0 wX gV:=fun x=>by kernel_rfl
theorem Mq:FnOK G0 Tryz.prog 15 Ou:=ax ah H9 Tryz.func15 zE (by kernel_rfl) (by exact⟨(FV).lok,trivial⟩) fun x=>by kernel_rfl
noncomputable def b9(x:Ty.T (.pair aH .unit)):Option (Ty.T (.pair (.pair (.int .i64) (.pair (.int .i64) (.pair (.own 105 al) (.pair (.own 105 al) .unit)))) .unit)):=
match gL (x.1.2.2.1,())with
|none=>none
|some v1=>
match gL (x.1.2.2.2.1,())with
|none=>none
|some v2=>
some ((x.1.1,x.1.2.1,v1.1,v2.1,()),())
noncomputable def Ia:Spec:=⟨_,(.pair (.pair (.int .i64) (.pair (.int .i64) (.pair (.own 105 al) (.pair (.own 105 al) .unit)))) .unit),.unit,rfl,b9⟩
theorem Ql:FnOK G0 Tryz.prog 33 Ia:=ai ah (sg Mq (az)) Tryz.func33
noncomputable def bb(x:Ty.T (.pair (.int .i64) ak)):Option (Ty.T (.pair .bool .unit)):=
match(decide (x.1≥x.2.1))with
|true=>
 some ((decide (x.1≤x.2.2.1)),())
|false=>
 some (false,())
noncomputable def yn:Spec:=⟨_,(.pair .bool .unit),.unit,rfl,bb⟩
theorem ck:FnOK G0 Tryz.prog 155 yn:=ai ah az Tryz.func155
noncomputable def cA(x:(Ty.T (.pair (.list (.int .i64)) (.pair (.int .i64) ak)))):Option ((Ty.T (.pair (.list (.int .i64)) (.pair (.int .i64) ak))) ⊕ ((Ty.T .unit) ⊕ (Ty.T (.pair (.int .i64) .unit)))):=
match(decide (x.2.2.2.1<x.2.2.1))with
|true=>
 aa (aw x.1 x.2.2.2.1) fun v1=>
 match(x.2.1==v1)with
 |true=>
  some (.inr (.inr (x.2.2.2.1,())))
 |false=>
  some (.inl (x.1,x.2.1,x.2.2.1,(IntKind.i64.wrap (x.2.2.2.1+(1:Int))),()))
|false=>
 some (.inr (.inl (())))
noncomputable def kX(x:Ty.T (.pair (.list (.int .i64)) (.pair (.int .i64) .unit))):Option (Ty.T (.pair (.int .i64) .unit)):=
match ac cA (x.1,x.2.1,(x.1.length:Int),(0:Int),())with
|none=>none
|some (.inl v2)=>
 some ((-1:Int),())
|some (.inr v3)=>
 some (v3.1,())
noncomputable def yo:Spec:=⟨_,(.pair (.int .i64) .unit),.unit,rfl,kX⟩
noncomputable def nr:FuncId→Option Spec:=a8 []
theorem ug:∀f s,nr f=some s→FnOK G0 Tryz.prog f s:=au trivial
def mi:aF:=⟨[0,1,7,8],(.pair (.list (.int .i64)) (.pair (.int .i64) ak)),0,[],.unit,[4],(.pair (.int .i64) .unit)⟩
noncomputable def ns:List ar:=[mi.spec cA]
theorem ti:aX aS E0 nr (aW Tryz.f206 ns) Tryz.f206 0 mi cA:=fun x=>by kernel_rfl
theorem wY:FnOK G0 Tryz.prog 206 yo:=ax ah ug Tryz.func206 ns (by kernel_rfl) (by exact⟨(ti).lok,trivial⟩) fun x=>by kernel_rfl
noncomputable def gm(x:Ty.T (.pair (.list (.int .i64)) (.pair (.int .i64) .unit))):Option (Ty.T (.pair .bool .unit)):=
match kX (x.1,x.2.1,())with
|none=>none
|some v1=>
some ((decide (v1.1≥(0:Int))),())
noncomputable def lS:Spec:=⟨_,(.pair .bool .unit),.unit,rfl,gm⟩
theorem tj:FnOK G0 Tryz.prog 163 lS:=ai ah (sg wY (az)) Tryz.func163
noncomputable def fU(x:(Ty.T (.pair (.list (.int .i64)) (.pair (.int .i64) (.pair (.list (.int .i64)) ak))))):Option ((Ty.T (.pair (.list (.int .i64)) (.pair (.int .i64) (.pair (.list (.int .i64)) ak)))) ⊕ ((Ty.T .unit) ⊕ (Ty.T (.pair .bool .unit)))):=
match(decide (x.2.2.2.2.1<x.2.2.2.1))with
|true=>
 aa (aw x.2.2.1 x.2.2.2.2.1) fun v1=>
 match(decide (v1<(0:Int)))with
 |true=>
  some (.inr (.inr (false,())))
 |false=>
  match(decide (v1≥x.2.1))with
  |true=>
   some (.inr (.inr (false,())))
  |false=>
   match(decide (x.2.2.2.2.1>(0:Int)))with
   |true=>
    aa (aw x.1 (IntKind.i64.wrap (x.2.2.2.2.1-(1:Int)))) fun v2=>
    match(decide (v2≥v1))with
    |true=>
     some (.inr (.inr (false,())))
    |false=>
     some (.inl (x.1,x.2.1,x.2.2.1,x.2.2.2.1,(IntKind.i64.wrap (x.2.2.2.2.1+(1:Int))),()))
   |false=>
    some (.inl (x.1,x.2.1,x.2.2.1,x.2.2.2.1,(IntKind.i64.wrap (x.2.2.2.2.1+(1:Int))),()))
|false=>
 some (.inr (.inl (())))
noncomputable def rM(x:Ty.T (.pair (.list (.int .i64)) (.pair (.int .i64) .unit))):Option (Ty.T (.pair .bool .unit)):=
match ac fU (x.1,x.2.1,x.1,(x.1.length:Int),(0:Int),())with
|none=>none
|some (.inl v3)=>
 some (true,())
|some (.inr v4)=>
 some (v4.1,())
noncomputable def Cd:Spec:=⟨_,(.pair .bool .unit),.unit,rfl,rM⟩
noncomputable def zF:FuncId→Option Spec:=a8 []
theorem Ib:∀f s,zF f=some s→FnOK G0 Tryz.prog f s:=au trivial
def wZ:aF:=⟨[0,1,7,8,9],(.pair (.list (.int .i64)) (.pair (.int .i64) (.pair (.list (.int .i64)) ak))),0,[],.unit,[4],(.pair .bool .unit)⟩
noncomputable def zG:List ar:=[wZ.spec fU]
theorem FW:aX aS E0 zF (aW Tryz.f250 zG) Tryz.f250 0 wZ fU:=fun x=>by kernel_rfl
theorem Mr:FnOK G0 Tryz.prog 250 Cd:=ax ah Ib Tryz.func250 zG (by kernel_rfl) (by exact⟨(FW).lok,trivial⟩) fun x=>by kernel_rfl
noncomputable def eg(x:(Ty.T (.pair (.list ao) (.pair (.list ao) ak)))):Option ((Ty.T (.pair (.list ao) (.pair (.list ao) ak))) ⊕ ((Ty.T (.pair (.list ao) .unit)) ⊕ (Ty.T (.pair .bool .unit)))):=
match(decide (x.2.2.2.1<x.2.2.1))with
|true=>
 aa (aw x.2.1 x.2.2.2.1) fun v1=>
 match bb (v1.1,(1:Int),(8:Int),())with
 |none=>none
 |some v2=>
 match(!v2.1)with
 |true=>
  some (.inr (.inr (false,())))
 |false=>
  match bb (v1.2.1,(1:Int),(16:Int),())with
  |none=>none
  |some v3=>
  match(!v3.1)with
  |true=>
   some (.inr (.inr (false,())))
  |false=>
   match rM (v1.2.2.1,(x.1.length:Int),())with
   |none=>none
   |some v4=>
   match(!v4.1)with
   |true=>
    some (.inr (.inr (false,())))
   |false=>
    match gm (v1.2.2.1,x.2.2.2.1,())with
    |none=>none
    |some v5=>
    match v5.1 with
    |true=>
     some (.inr (.inr (false,())))
    |false=>
     some (.inl (x.1,x.2.1,x.2.2.1,(IntKind.i64.wrap (x.2.2.2.1+(1:Int))),()))
|false=>
 some (.inr (.inl (x.1,())))
noncomputable def mH(x:Ty.T (.pair (.list ao) .unit)):Option (Ty.T (.pair .bool .unit)):=
match ac eg (x.1,x.1,(x.1.length:Int),(0:Int),())with
|none=>none
|some (.inl v6)=>
 match(decide ((v6.1.length:Int)≥(1:Int)))with
 |true=>
  some ((decide ((v6.1.length:Int)≤(16:Int))),())
 |false=>
  some (false,())
|some (.inr v7)=>
 some (v7.1,())
noncomputable def Ic:Spec:=⟨_,(.pair .bool .unit),.unit,rfl,mH⟩
noncomputable def tk:FuncId→Option Spec:=a8 [(155,yn),(163,lS),(250,Cd)]
theorem Ce:∀f s,tk f=some s→FnOK G0 Tryz.prog f s:=au ⟨ck,tj,Mr,trivial⟩
def ra:aF:=⟨[0,5,6,7],(.pair (.list ao) (.pair (.list ao) ak)),0,[0],(.pair (.list ao) .unit),[2],(.pair .bool .unit)⟩
noncomputable def tm:List ar:=[ra.spec eg]
theorem Aw:aX aS E0 tk (aW Tryz.f205 tm) Tryz.f205 0 ra eg:=fun x=>by kernel_rfl
theorem FX:FnOK G0 Tryz.prog 205 Ic:=ax ah Ce Tryz.func205 tm (by kernel_rfl) (by exact⟨(Aw).lok,trivial⟩) fun x=>by kernel_rfl
noncomputable def dE(x:(Ty.T (.pair (.int .i64) (.pair (.list aj) ak)))):Option ((Ty.T (.pair (.int .i64) (.pair (.list aj) ak))) ⊕ ((Ty.T (.pair (.int .i64) .unit)) ⊕ (Ty.T .unit))):=
match(decide (x.2.2.2.1<x.2.2.1))with
|true=>
 aa (aw x.2.1 x.2.2.2.1) fun v1=>
 match(!v1.2.2.2.1)with
 |true=>
  if v1.1<0 then none else
  some (.inl ((bits BinOp.or .i64 x.1 (IntKind.i64.wrap ((1:Int)*2^min v1.1.toNat IntKind.i64.bits))),x.2.1,x.2.2.1,(IntKind.i64.wrap (x.2.2.2.1+(1:Int))),()))
 |false=>
  some (.inl (x.1,x.2.1,x.2.2.1,(IntKind.i64.wrap (x.2.2.2.1+(1:Int))),()))
|false=>
 some (.inr (.inl (x.1,())))
noncomputable def gW(x:Ty.T (.pair (.list aj) .unit)):Option (Ty.T (.pair (.int .i64) .unit)):=
match ac dE ((0:Int),x.1,(x.1.length:Int),(0:Int),())with
|none=>none
|some (.inl v2)=>
 some (v2.1,())
|some (.inr v4)=>
 none
noncomputable def tn:Spec:=⟨_,(.pair (.int .i64) .unit),.unit,rfl,gW⟩
noncomputable def rb:FuncId→Option Spec:=a8 []
theorem Ax:∀f s,rb f=some s→FnOK G0 Tryz.prog f s:=au trivial
def p0:aF:=⟨[3,6,7,8],(.pair (.int .i64) (.pair (.list aj) ak)),0,[3],(.pair (.int .i64) .unit),[],.unit⟩
noncomputable def rc:List ar:=[p0.spec dE]
theorem yp:aX aS E0 rb (aW Tryz.f202 rc) Tryz.f202 0 p0 dE:=fun x=>by kernel_rfl
theorem l4:FnOK G0 Tryz.prog 202 tn:=ax ah Ax Tryz.func202 rc (by kernel_rfl) (by exact⟨(yp).lok,trivial⟩) fun x=>by kernel_rfl
noncomputable def M3(x:Ty.T ak):Option (Ty.T (.pair .bool .unit)):=
if x.2.1<0 then none else
some (((bits BinOp.and .i64 (Int.fdiv x.1 (2^min x.2.1.toNat IntKind.i64.bits)) (1:Int))==(1:Int)),())
noncomputable def VV:Spec:=⟨_,(.pair .bool .unit),.unit,rfl,M3⟩
theorem UV:FnOK G0 Tryz.prog 239 VV:=ai ah az Tryz.func239
noncomputable def lF(x:Ty.T (.pair ae (.pair (.ptr ag) .unit))):Option (Ty.T (.pair .bool .unit)):=
match gW (x.2.1.2.1,())with
|none=>none
|some v1=>
match M3 (v1.1,x.1.2.2.2.1.1,())with
|none=>none
|some v2=>
some ((!v2.1),())
noncomputable def FY:Spec:=⟨_,(.pair .bool .unit),.unit,rfl,lF⟩
theorem DQ:FnOK G0 Tryz.prog 238 FY:=ai ah (sg l4 (sg UV (az))) Tryz.func238
noncomputable def lG(x:Ty.T (.pair ae .unit)):Option (Ty.T (.pair .bool .unit)):=
match(x.1.2.2.2.1.2.1==(3:Int))with
|true=>
 some ((x.1.1 != (0:Int)),())
|false=>
 some (false,())
noncomputable def FZ:Spec:=⟨_,(.pair .bool .unit),.unit,rfl,lG⟩
theorem DR:FnOK G0 Tryz.prog 240 FZ:=ai ah az Tryz.func240
noncomputable def mU(x:Ty.T (.pair (.int .i64) .unit)):Option (Ty.T (.pair .bool .unit)):=
match bb (x.1,(0:Int),(31:Int),())with
|none=>none
|some v1=>
some (v1.1,())
noncomputable def Sz:Spec:=⟨_,(.pair .bool .unit),.unit,rfl,mU⟩
theorem vF:FnOK G0 Tryz.prog 159 Sz:=ai ah (sg ck (az)) Tryz.func159
noncomputable def tq(x:Ty.T (.pair .str (.pair .str .unit))):Option (Ty.T (.pair .str .unit)):=aa (G4 x.1 x.2.1) fun s=>some (s,())
noncomputable def Kl:Spec:=⟨(.pair .str (.pair .str .unit)),(.pair .str .unit),.unit,rfl,tq⟩
theorem Ie:FnOK G0 Tryz.prog 312 Kl:=FnOK.str2_str (jI Tryz.func312 (by kernel_rfl) (show Tryz.f312.body=some (eK Tryz.f312) by kernel_rfl)) (fun w s t y _ hy=>Sm w s t y hy)
noncomputable def kY(x:Ty.T (.pair aj .unit)):Option (Ty.T (.pair .bool .unit)):=
match(decide ((x.1.2.1.length:Int)≥(1:Int)))with
|true=>
 match(decide ((x.1.2.1.length:Int)≤(6:Int)))with
 |true=>
  match tq (x.1.2.1,([97,98,99,100,101,102,103,104,105,106,107,108,109,110,111,112,113,114,115,116,117,118,119,120,121,122,48,49,50,51,52,53,54,55,56,57]:List UInt8),())with
  |none=>none
  |some v1=>
  match(v1.1== [])with
  |true=>
   match mU (x.1.1,())with
   |none=>none
   |some v2=>
   match v2.1 with
   |true=>
    match bb (x.1.2.2.1,(0:Int),(1000:Int),())with
    |none=>none
    |some v3=>
    some (v3.1,())
   |false=>
    some (false,())
  |false=>
   some (false,())
 |false=>
  some (false,())
|false=>
 some (false,())
noncomputable def w9:Spec:=⟨_,(.pair .bool .unit),.unit,rfl,kY⟩
theorem Ig:FnOK G0 Tryz.prog 284 w9:=ai ah (sg ck (sg vF (sg Ie (az)))) Tryz.func284
noncomputable def bG(x:(Ty.T (.pair (.list aj) (.pair (.fn (.pair aj .unit) (.pair .bool .unit)) ak)))):Option ((Ty.T (.pair (.list aj) (.pair (.fn (.pair aj .unit) (.pair .bool .unit)) ak))) ⊕ ((Ty.T .unit) ⊕ (Ty.T (.pair (.int .i64) .unit)))):=
match(decide (x.2.2.2.1<x.2.2.1))with
|true=>
 aa (aw x.1 x.2.2.2.1) fun v1=>
 match x.2.1 (v1,())with
 |none=>none
 |some v2=>
 match v2.1 with
 |true=>
  some (.inr (.inr (x.2.2.2.1,())))
 |false=>
  some (.inl (x.1,x.2.1,x.2.2.1,(IntKind.i64.wrap (x.2.2.2.1+(1:Int))),()))
|false=>
 some (.inr (.inl (())))
noncomputable def dr(x:Ty.T (.pair (.list aj) (.pair (.fn (.pair aj .unit) (.pair .bool .unit)) .unit))):Option (Ty.T (.pair (.int .i64) .unit)):=
match ac bG (x.1,x.2.1,(x.1.length:Int),(0:Int),())with
|none=>none
|some (.inl v3)=>
 some ((-1:Int),())
|some (.inr v4)=>
 some (v4.1,())
noncomputable def p4:Spec:=⟨_,(.pair (.int .i64) .unit),.unit,rfl,dr⟩
noncomputable def jn:FuncId→Option Spec:=a8 []
theorem ol:∀f s,jn f=some s→FnOK G0 Tryz.prog f s:=au trivial
def i7:aF:=⟨[0,1,7,8],(.pair (.list aj) (.pair (.fn (.pair aj .unit) (.pair .bool .unit)) ak)),0,[],.unit,[4],(.pair (.int .i64) .unit)⟩
noncomputable def jo:List ar:=[i7.spec bG]
theorem nC:aX aS E0 jn (aW Tryz.f313 jo) Tryz.f313 0 i7 bG:=fun x=>by kernel_rfl
theorem pe:FnOK G0 Tryz.prog 313 p4:=ax ah ol Tryz.func313 jo (by kernel_rfl) (by exact⟨(nC).lok,trivial⟩) fun x=>by kernel_rfl
noncomputable def cn(x:Ty.T (.pair (.list aj) (.pair (.fn (.pair aj .unit) (.pair .bool .unit)) .unit))):Option (Ty.T (.pair .bool .unit)):=
match dr (x.1,x.2.1,())with
|none=>none
|some v1=>
some ((decide (v1.1≥(0:Int))),())
noncomputable def iG:Spec:=⟨_,(.pair .bool .unit),.unit,rfl,cn⟩
theorem nD:FnOK G0 Tryz.prog 285 iG:=ai ah (sg pe (az)) Tryz.func285
noncomputable def iH(x:Ty.T (.pair aj (.pair (.ptr aj) .unit))):Option (Ty.T (.pair .bool .unit)):=
some ((x.1.2.1==x.2.1.2.1),())
noncomputable def rd:Spec:=⟨_,(.pair .bool .unit),.unit,rfl,iH⟩
theorem Cf:FnOK G0 Tryz.prog 286 rd:=ai ah az Tryz.func286
noncomputable def eh(x:(Ty.T (.pair (.list aj) (.pair (.list aj) ak)))):Option ((Ty.T (.pair (.list aj) (.pair (.list aj) ak))) ⊕ ((Ty.T (.pair (.list aj) .unit)) ⊕ (Ty.T (.pair .bool .unit)))):=
match(decide (x.2.2.2.1<x.2.2.1))with
|true=>
 aa (aw x.2.1 x.2.2.2.1) fun v1=>
 match kY ((v1.1,v1.2.1,v1.2.2.1,v1.2.2.2.1,()),())with
 |none=>none
 |some v2=>
 match(!v2.1)with
 |true=>
  some (.inr (.inr (false,())))
 |false=>
  match(decide (x.2.2.2.1>(0:Int)))with
  |true=>
   aa (aw x.1 (IntKind.i64.wrap (x.2.2.2.1-(1:Int)))) fun v3=>
   match(decide (v3.1≥v1.1))with
   |true=>
    some (.inr (.inr (false,())))
   |false=>
    aa (aC x.1.length none (some (.dat (.int .i64) x.2.2.2.1))) fun v4=>
    match cn ((List.drop v4.1 (List.take v4.2 x.1)),(fun z=>iH (z.1,(v1.1,v1.2.1,v1.2.2.1,v1.2.2.2.1,()),())),())with
    |none=>none
    |some v5=>
    match v5.1 with
    |true=>
     some (.inr (.inr (false,())))
    |false=>
     some (.inl (x.1,x.2.1,x.2.2.1,(IntKind.i64.wrap (x.2.2.2.1+(1:Int))),()))
  |false=>
   aa (aC x.1.length none (some (.dat (.int .i64) x.2.2.2.1))) fun v6=>
   match cn ((List.drop v6.1 (List.take v6.2 x.1)),(fun z=>iH (z.1,(v1.1,v1.2.1,v1.2.2.1,v1.2.2.2.1,()),())),())with
   |none=>none
   |some v7=>
   match v7.1 with
   |true=>
    some (.inr (.inr (false,())))
   |false=>
    some (.inl (x.1,x.2.1,x.2.2.1,(IntKind.i64.wrap (x.2.2.2.1+(1:Int))),()))
|false=>
 some (.inr (.inl (x.1,())))
noncomputable def mI(x:Ty.T (.pair (.list aj) .unit)):Option (Ty.T (.pair .bool .unit)):=
match ac eh (x.1,x.1,(x.1.length:Int),(0:Int),())with
|none=>none
|some (.inl v8)=>
 match(decide ((v8.1.length:Int)≥(1:Int)))with
 |true=>
  some ((decide ((v8.1.length:Int)≤(32:Int))),())
 |false=>
  some (false,())
|some (.inr v9)=>
 some (v9.1,())
noncomputable def Ih:Spec:=⟨_,(.pair .bool .unit),.unit,rfl,mI⟩
noncomputable def tu:FuncId→Option Spec:=a8 [(284,w9),(285,iG),(286,rd)]
theorem Cg:∀f s,tu f=some s→FnOK G0 Tryz.prog f s:=au ⟨Ig,nD,Cf,trivial⟩
def re:aF:=⟨[0,5,6,7],(.pair (.list aj) (.pair (.list aj) ak)),0,[0],(.pair (.list aj) .unit),[2],(.pair .bool .unit)⟩
noncomputable def tv:List ar:=[re.spec eh]
theorem Ay:aX aS E0 tu (aW Tryz.f241 tv) Tryz.f241 0 re eh:=fun x=>by kernel_rfl
theorem F0:FnOK G0 Tryz.prog 241 Ih:=ax ah Cg Tryz.func241 tv (by kernel_rfl) (by exact⟨(Ay).lok,trivial⟩) fun x=>by kernel_rfl
noncomputable def tw(x:Ty.T (.pair (.int .i64) .unit)):Option (Ty.T (.pair .bool .unit)):=
match bb (x.1,(0:Int),(3:Int),())with
|none=>none
|some v1=>
some (v1.1,())
noncomputable def SA:Spec:=⟨_,(.pair .bool .unit),.unit,rfl,tw⟩
theorem Ew:FnOK G0 Tryz.prog 315 SA:=ai ah (sg ck (az)) Tryz.func315
noncomputable def kZ(x:Ty.T ak):Option (Ty.T (.pair .bool .unit)):=
match(x.1==(0:Int))with
|true=>
 match bb (x.2.1,(0:Int),(32:Int),())with
 |none=>none
 |some v1=>
 some (v1.1,())
|false=>
 match(x.1==(2:Int))with
 |true=>
  match bb (x.2.1,(1:Int),(32:Int),())with
  |none=>none
  |some v2=>
  some (v2.1,())
 |false=>
  some ((x.2.1==(0:Int)),())
noncomputable def Km:Spec:=⟨_,(.pair .bool .unit),.unit,rfl,kZ⟩
theorem u7:FnOK G0 Tryz.prog 316 Km:=ai ah (sg ck (az)) Tryz.func316
noncomputable def dU(x:Ty.T (.pair (.int .i64) .unit)):Option (Ty.T (.pair .bool .unit)):=
some ((x.1 != (0:Int)),())
noncomputable def Ov:Spec:=⟨_,(.pair .bool .unit),.unit,rfl,dU⟩
theorem iz:FnOK G0 Tryz.prog 248 Ov:=ai ah az Tryz.func248
noncomputable def iI(x:Ty.T (.pair (.int .i64) .unit)):Option (Ty.T (.pair .bool .unit)):=
match(x.1==(0:Int))with
|true=>
 some (true,())
|false=>
 some ((x.1==(2:Int)),())
noncomputable def Qm:Spec:=⟨_,(.pair .bool .unit),.unit,rfl,iI⟩
theorem tx:FnOK G0 Tryz.prog 259 Qm:=ai ah az Tryz.func259
noncomputable def rN(x:Ty.T ak):Option (Ty.T (.pair (.int .i64) .unit)):=
match dU (x.1,())with
|none=>none
|some v1=>
match v1.1 with
|true=>
 match iI (x.1,())with
 |none=>none
 |some v2=>
 match v2.1 with
 |true=>
  some ((IntKind.i64.wrap ((IntKind.i64.wrap ((1:Int)+(8:Int)))+(IntKind.i64.wrap ((1:Int)+x.2.1)))),())
 |false=>
  some ((IntKind.i64.wrap ((1:Int)+(8:Int))),())
|false=>
 match iI (x.1,())with
 |none=>none
 |some v3=>
 match v3.1 with
 |true=>
  some ((IntKind.i64.wrap ((1:Int)+(IntKind.i64.wrap ((1:Int)+x.2.1)))),())
 |false=>
  some ((1:Int),())
noncomputable def Ow:Spec:=⟨_,(.pair (.int .i64) .unit),.unit,rfl,rN⟩
theorem Ms:FnOK G0 Tryz.prog 330 Ow:=ai ah (sg iz (sg tx (az))) Tryz.func330
noncomputable def ki(x:Ty.T ak):Option (Ty.T (.pair (.int .i64) .unit)):=
match rN (x.1,x.2.1,())with
|none=>none
|some v1=>
some ((IntKind.i64.wrap ((11:Int)+(IntKind.i64.wrap ((10:Int)*(IntKind.i64.wrap (v1.1+(3:Int))))))),())
noncomputable def Ii:Spec:=⟨_,(.pair (.int .i64) .unit),.unit,rfl,ki⟩
theorem F1:FnOK G0 Tryz.prog 317 Ii:=ai ah (sg Ms (az)) Tryz.func317
noncomputable def eM(x:Ty.T (.pair aZ .unit)):Option (Ty.T (.pair .bool .unit)):=
match mU (x.1.1,())with
|none=>none
|some v1=>
match(!v1.1)with
|true=>
 some (false,())
|false=>
 match tw (x.1.2.1,())with
 |none=>none
 |some v2=>
 match(!v2.1)with
 |true=>
  some (false,())
 |false=>
  match kZ (x.1.2.1,x.1.2.2.1,())with
  |none=>none
  |some v3=>
  match(!v3.1)with
  |true=>
   some (false,())
  |false=>
   match x.1.2.2.2.2.1 with
   |true=>
    match(x.1.2.1==(3:Int))with
    |true=>
     some (false,())
    |false=>
     match ki (x.1.2.1,x.1.2.2.1,())with
     |none=>none
     |some v4=>
     match bb (x.1.2.2.2.1,(IntKind.i64.wrap (v4.1+(20:Int))),(1000:Int),())with
     |none=>none
     |some v5=>
     some (v5.1,())
   |false=>
    match ki (x.1.2.1,x.1.2.2.1,())with
    |none=>none
    |some v6=>
    match bb (x.1.2.2.2.1,(IntKind.i64.wrap (v6.1+(20:Int))),(1000:Int),())with
    |none=>none
    |some v7=>
    some (v7.1,())
noncomputable def F2:Spec:=⟨_,(.pair .bool .unit),.unit,rfl,eM⟩
theorem rf:FnOK G0 Tryz.prog 291 F2:=ai ah (sg ck (sg vF (sg Ew (sg u7 (sg F1 (az)))))) Tryz.func291
noncomputable def la(x:Ty.T (.pair ae .unit)):Option (Ty.T (.pair .bool .unit)):=
match bb (x.1.1,(0:Int),(15:Int),())with
|none=>none
|some v1=>
match v1.1 with
|true=>
 match bb (x.1.2.1,(0:Int),(7:Int),())with
 |none=>none
 |some v2=>
 match v2.1 with
 |true=>
  match bb (x.1.2.2.1,(0:Int),(15:Int),())with
  |none=>none
  |some v3=>
  match v3.1 with
  |true=>
   match eM ((x.1.2.2.2.1.1,x.1.2.2.2.1.2.1,x.1.2.2.2.1.2.2.1,x.1.2.2.2.1.2.2.2.1,x.1.2.2.2.1.2.2.2.2.1,()),())with
   |none=>none
   |some v4=>
   some (v4.1,())
  |false=>
   some (false,())
 |false=>
  some (false,())
|false=>
 some (false,())
noncomputable def xa:Spec:=⟨_,(.pair .bool .unit),.unit,rfl,la⟩
theorem Ij:FnOK G0 Tryz.prog 287 xa:=ai ah (sg ck (sg rf (az))) Tryz.func287
noncomputable def nt(x:Ty.T ak):Option (Ty.T (.pair (.int .i64) .unit)):=
match(decide (x.1<x.2.1))with
|true=>
 some ((-1:Int),())
|false=>
 match(decide (x.1>x.2.1))with
 |true=>
  some ((1:Int),())
 |false=>
  some ((0:Int),())
noncomputable def Qn:Spec:=⟨_,(.pair (.int .i64) .unit),.unit,rfl,nt⟩
theorem Ox:FnOK G0 Tryz.prog 314 Qn:=ai ah az Tryz.func314
noncomputable def gX(x:Ty.T (.pair ae (.pair ae .unit))):Option (Ty.T (.pair (.int .i64) .unit)):=
match(x.1.1 != x.2.1.1)with
|true=>
 match nt (x.1.1,x.2.1.1,())with
 |none=>none
 |some v1=>
 some (v1.1,())
|false=>
 match(x.1.2.1 != x.2.1.2.1)with
 |true=>
  match nt (x.1.2.1,x.2.1.2.1,())with
  |none=>none
  |some v2=>
  some (v2.1,())
 |false=>
  match nt (x.1.2.2.1,x.2.1.2.2.1,())with
  |none=>none
  |some v3=>
  some (v3.1,())
noncomputable def mV:Spec:=⟨_,(.pair (.int .i64) .unit),.unit,rfl,gX⟩
theorem rg:FnOK G0 Tryz.prog 288 mV:=ai ah (sg Ox (az)) Tryz.func288
noncomputable def ei(x:(Ty.T (.pair (.list ae) (.pair (.list ae) ak)))):Option ((Ty.T (.pair (.list ae) (.pair (.list ae) ak))) ⊕ ((Ty.T (.pair (.list ae) .unit)) ⊕ (Ty.T (.pair .bool .unit)))):=
match(decide (x.2.2.2.1<x.2.2.1))with
|true=>
 aa (aw x.2.1 x.2.2.2.1) fun v1=>
 match la ((v1.1,v1.2.1,v1.2.2.1,(v1.2.2.2.1.1,v1.2.2.2.1.2.1,v1.2.2.2.1.2.2.1,v1.2.2.2.1.2.2.2.1,v1.2.2.2.1.2.2.2.2.1,()),()),())with
 |none=>none
 |some v2=>
 match(!v2.1)with
 |true=>
  some (.inr (.inr (false,())))
 |false=>
  match(decide (x.2.2.2.1>(0:Int)))with
  |true=>
   aa (aw x.1 (IntKind.i64.wrap (x.2.2.2.1-(1:Int)))) fun v3=>
   match gX (v3,(v1.1,v1.2.1,v1.2.2.1,(v1.2.2.2.1.1,v1.2.2.2.1.2.1,v1.2.2.2.1.2.2.1,v1.2.2.2.1.2.2.2.1,v1.2.2.2.1.2.2.2.2.1,()),()),())with
   |none=>none
   |some v4=>
   match(decide (v4.1≥(0:Int)))with
   |true=>
    some (.inr (.inr (false,())))
   |false=>
    some (.inl (x.1,x.2.1,x.2.2.1,(IntKind.i64.wrap (x.2.2.2.1+(1:Int))),()))
  |false=>
   some (.inl (x.1,x.2.1,x.2.2.1,(IntKind.i64.wrap (x.2.2.2.1+(1:Int))),()))
|false=>
 some (.inr (.inl (x.1,())))
noncomputable def mJ(x:Ty.T (.pair (.list ae) .unit)):Option (Ty.T (.pair .bool .unit)):=
match ac ei (x.1,x.1,(x.1.length:Int),(0:Int),())with
|none=>none
|some (.inl v5)=>
 some ((decide ((v5.1.length:Int)≤(120:Int))),())
|some (.inr v6)=>
 some (v6.1,())
noncomputable def Ik:Spec:=⟨_,(.pair .bool .unit),.unit,rfl,mJ⟩
noncomputable def tz:FuncId→Option Spec:=a8 [(287,xa),(288,mV)]
theorem Ci:∀f s,tz f=some s→FnOK G0 Tryz.prog f s:=au ⟨Ij,rg,trivial⟩
def rh:aF:=⟨[0,5,6,7],(.pair (.list ae) (.pair (.list ae) ak)),0,[0],(.pair (.list ae) .unit),[2],(.pair .bool .unit)⟩
noncomputable def tA:List ar:=[rh.spec ei]
theorem Az:aX aS E0 tz (aW Tryz.f242 tA) Tryz.f242 0 rh ei:=fun x=>by kernel_rfl
theorem F3:FnOK G0 Tryz.prog 242 Ik:=ax ah Ci Tryz.func242 tA (by kernel_rfl) (by exact⟨(Az).lok,trivial⟩) fun x=>by kernel_rfl
noncomputable def dF(x:(Ty.T (.pair (.box ag) (.pair (.int .i64) (.pair (.int .i64) (.pair (.box ao) (.pair (.list ao) al))))))):Option ((Ty.T (.pair (.box ag) (.pair (.int .i64) (.pair (.int .i64) (.pair (.box ao) (.pair (.list ao) al)))))) ⊕ ((Ty.T (.pair (.box ag) (.pair (.int .i64) (.pair (.list ao) ak)))) ⊕ (Ty.T (.pair .bool .unit)))):=
match(decide (x.2.2.2.2.2.2.2.2.1<x.2.2.2.2.2.2.2.1))with
|true=>
 match(x.2.1==(x.1.2.2.2.1.length:Int))with
 |true=>
  some (.inr (.inr (false,())))
 |false=>
  aa (aw x.1.2.2.2.1 x.2.1) fun v2=>
  if x.2.2.2.1.2.1=0 then none else
  if x.2.2.2.1.2.1=0 then none else
  match gX (v2,(x.2.2.1,(IntKind.i64.wrap (Int.tdiv x.2.2.2.2.2.2.2.2.1 x.2.2.2.1.2.1)),(Int.tmod x.2.2.2.2.2.2.2.2.1 x.2.2.2.1.2.1),((0:Int),(0:Int),(0:Int),(0:Int),false,()),()),())with
  |none=>none
  |some v3=>
  match(v3.1 != (0:Int))with
  |true=>
   some (.inr (.inr (false,())))
  |false=>
   some (.inl ((x.1.1,x.1.2.1,x.1.2.2.1,x.1.2.2.2.1,()),(IntKind.i64.wrap (x.2.1+(1:Int))),x.2.2.1,(x.2.2.2.1.1,x.2.2.2.1.2.1,x.2.2.2.1.2.2.1,()),x.2.2.2.2.1,x.2.2.2.2.2.1,x.2.2.2.2.2.2.1,x.2.2.2.2.2.2.2.1,(IntKind.i64.wrap (x.2.2.2.2.2.2.2.2.1+(1:Int))),()))
|false=>
 some (.inr (.inl ((x.1.1,x.1.2.1,x.1.2.2.1,x.1.2.2.2.1,()),x.2.1,x.2.2.2.2.1,x.2.2.2.2.2.1,x.2.2.2.2.2.2.1,())))
noncomputable def cY(x:(Ty.T (.pair (.box ag) (.pair (.int .i64) (.pair (.list ao) ak))))):Option ((Ty.T (.pair (.box ag) (.pair (.int .i64) (.pair (.list ao) ak)))) ⊕ ((Ty.T (.pair (.box ag) (.pair (.int .i64) .unit))) ⊕ (Ty.T (.pair .bool .unit)))):=
match(decide (x.2.2.2.2.1<x.2.2.2.1))with
|true=>
 aa (aw x.2.2.1 x.2.2.2.2.1) fun v1=>
 match ac dF ((x.1.1,x.1.2.1,x.1.2.2.1,x.1.2.2.2.1,()),x.2.1,x.2.2.2.2.1,(v1.1,v1.2.1,v1.2.2.1,()),x.2.2.1,x.2.2.2.1,x.2.2.2.2.1,(IntKind.i64.wrap (v1.1*v1.2.1)),(0:Int),())with
 |none=>none
 |some (.inl v2)=>
  some (.inl ((v2.1.1,v2.1.2.1,v2.1.2.2.1,v2.1.2.2.2.1,()),v2.2.1,v2.2.2.1,v2.2.2.2.1,(IntKind.i64.wrap (v2.2.2.2.2.1+(1:Int))),()))
 |some (.inr v3)=>
  some (.inr (.inr (v3.1,())))
|false=>
 some (.inr (.inl ((x.1.1,x.1.2.1,x.1.2.2.1,x.1.2.2.2.1,()),x.2.1,())))
noncomputable def lc(x:Ty.T (.pair ag .unit)):Option (Ty.T (.pair .bool .unit)):=
match ac cY ((x.1.1,x.1.2.1,x.1.2.2.1,x.1.2.2.2.1,()),(0:Int),x.1.2.2.1,(x.1.2.2.1.length:Int),(0:Int),())with
|none=>none
|some (.inl v4)=>
 some ((v4.2.1==(v4.1.2.2.2.1.length:Int)),())
|some (.inr v5)=>
 some (v5.1,())
noncomputable def Kn:Spec:=⟨_,(.pair .bool .unit),.unit,rfl,lc⟩
noncomputable def om:FuncId→Option Spec:=a8 [(288,mV)]
theorem DS:∀f s,om f=some s→FnOK G0 Tryz.prog f s:=au ⟨rg,trivial⟩
def tB:aF:=⟨[1,3,8,9,10],(.pair (.box ag) (.pair (.int .i64) (.pair (.list ao) ak))),0,[1,3],(.pair (.box ag) (.pair (.int .i64) .unit)),[2],(.pair .bool .unit)⟩
def tC:aF:=⟨[1,3,4,5,8,9,10,19,20],(.pair (.box ag) (.pair (.int .i64) (.pair (.int .i64) (.pair (.box ao) (.pair (.list ao) al))))),2,[1,3,8,9,10],(.pair (.box ag) (.pair (.int .i64) (.pair (.list ao) ak))),[2],(.pair .bool .unit)⟩
noncomputable def oo:List ar:=[tB.spec cY,tC.spec dF]
theorem Cj:aX aS E0 om (aW Tryz.f243 oo) Tryz.f243 0 tB cY:=fun x=>by kernel_rfl
theorem Ck:aX aS E0 om (aW Tryz.f243 oo) Tryz.f243 1 tC dF:=fun x=>by kernel_rfl
theorem Il:FnOK G0 Tryz.prog 243 Kn:=ax ah DS Tryz.func243 oo (by kernel_rfl) (by exact⟨(Cj).lok,(Ck).lok,trivial⟩) fun x=>by kernel_rfl
noncomputable def bH(x:(Ty.T (.pair (.list ae) (.pair (.fn (.pair ae .unit) (.pair .bool .unit)) ak)))):Option ((Ty.T (.pair (.list ae) (.pair (.fn (.pair ae .unit) (.pair .bool .unit)) ak))) ⊕ ((Ty.T .unit) ⊕ (Ty.T (.pair (.int .i64) .unit)))):=
match(decide (x.2.2.2.1<x.2.2.1))with
|true=>
 aa (aw x.1 x.2.2.2.1) fun v1=>
 match x.2.1 (v1,())with
 |none=>none
 |some v2=>
 match v2.1 with
 |true=>
  some (.inr (.inr (x.2.2.2.1,())))
 |false=>
  some (.inl (x.1,x.2.1,x.2.2.1,(IntKind.i64.wrap (x.2.2.2.1+(1:Int))),()))
|false=>
 some (.inr (.inl (())))
noncomputable def cD(x:Ty.T (.pair (.list ae) (.pair (.fn (.pair ae .unit) (.pair .bool .unit)) .unit))):Option (Ty.T (.pair (.int .i64) .unit)):=
match ac bH (x.1,x.2.1,(x.1.length:Int),(0:Int),())with
|none=>none
|some (.inl v3)=>
 some ((-1:Int),())
|some (.inr v4)=>
 some (v4.1,())
noncomputable def p5:Spec:=⟨_,(.pair (.int .i64) .unit),.unit,rfl,cD⟩
noncomputable def jp:FuncId→Option Spec:=a8 []
theorem oq:∀f s,jp f=some s→FnOK G0 Tryz.prog f s:=au trivial
def i8:aF:=⟨[0,1,7,8],(.pair (.list ae) (.pair (.fn (.pair ae .unit) (.pair .bool .unit)) ak)),0,[],.unit,[4],(.pair (.int .i64) .unit)⟩
noncomputable def jq:List ar:=[i8.spec bH]
theorem nF:aX aS E0 jp (aW Tryz.f164 jq) Tryz.f164 0 i8 bH:=fun x=>by kernel_rfl
theorem jr:FnOK G0 Tryz.prog 164 p5:=ax ah oq Tryz.func164 jq (by kernel_rfl) (by exact⟨(nF).lok,trivial⟩) fun x=>by kernel_rfl
noncomputable def bL(x:Ty.T (.pair (.list ae) (.pair (.fn (.pair ae .unit) (.pair .bool .unit)) .unit))):Option (Ty.T (.pair .bool .unit)):=
match cD (x.1,x.2.1,())with
|none=>none
|some v1=>
some ((decide (v1.1≥(0:Int))),())
noncomputable def ot:Spec:=⟨_,(.pair .bool .unit),.unit,rfl,bL⟩
theorem nG:FnOK G0 Tryz.prog 244 ot:=ai ah (sg jr (az)) Tryz.func244
noncomputable def ou(x:Ty.T (.pair ae (.pair (.ptr (.int .i64)) (.pair (.ptr (.int .i64)) (.pair (.ptr (.int .i64)) .unit))))):Option (Ty.T (.pair .bool .unit)):=
match(x.1.1==x.2.1)with
|true=>
 match(x.1.2.1==x.2.2.1)with
 |true=>
  some ((x.1.2.2.1==x.2.2.2.1),())
 |false=>
  some (false,())
|false=>
 some (false,())
noncomputable def Ko:Spec:=⟨_,(.pair .bool .unit),.unit,rfl,ou⟩
theorem Im:FnOK G0 Tryz.prog 165 Ko:=ai ah az Tryz.func165
noncomputable def lH(x:Ty.T (.pair (.list ae) (.pair (.int .i64) ak))):Option (Ty.T (.pair (.int .i64) .unit)):=
match cD (x.1,(fun z=>ou (z.1,x.2.1,x.2.2.1,x.2.2.2.1,())),())with
|none=>none
|some v1=>
some (v1.1,())
noncomputable def Cl:Spec:=⟨_,(.pair (.int .i64) .unit),.unit,rfl,lH⟩
theorem zH:FnOK G0 Tryz.prog 120 Cl:=ai ah (sg jr (sg Im (az))) Tryz.func120
noncomputable def fV(x:(Ty.T (.pair (.box ag) (.pair (.list ae) ak)))):Option ((Ty.T (.pair (.box ag) (.pair (.list ae) ak))) ⊕ ((Ty.T .unit) ⊕ (Ty.T (.pair .bool .unit)))):=
match(decide (x.2.2.2.1<x.2.2.1))with
|true=>
 aa (aw x.2.1 x.2.2.2.1) fun v1=>
 aL (
  match lH (x.1.2.2.2.1,v1.1,(0:Int),v1.2.2.1,())with
  |none=>none
  |some v2=>
  aa (aw x.1.2.2.2.1 v2.1) fun v3=>
  match(v1.2.2.2.1.2.2.2.1 != v3.2.2.2.1.2.2.2.1)with
  |true=>
   some (.inr (.inr (false,())))
  |false=>
   some (.inl ((x.1.1,x.1.2.1,x.1.2.2.1,x.1.2.2.2.1,()),x.2.1,x.2.2.1,(IntKind.i64.wrap (x.2.2.2.1+(1:Int))),())))
|false=>
 some (.inr (.inl (())))
noncomputable def ov(x:Ty.T (.pair ag .unit)):Option (Ty.T (.pair .bool .unit)):=
match ac fV ((x.1.1,x.1.2.1,x.1.2.2.1,x.1.2.2.2.1,()),x.1.2.2.2.1,(x.1.2.2.2.1.length:Int),(0:Int),())with
|none=>none
|some (.inl v4)=>
 some (true,())
|some (.inr v5)=>
 some (v5.1,())
noncomputable def Oy:Spec:=⟨_,(.pair .bool .unit),.unit,rfl,ov⟩
noncomputable def zI:FuncId→Option Spec:=a8 [(120,Cl)]
theorem Io:∀f s,zI f=some s→FnOK G0 Tryz.prog f s:=au ⟨zH,trivial⟩
def xb:aF:=⟨[1,7,8,9],(.pair (.box ag) (.pair (.list ae) ak)),0,[],.unit,[2],(.pair .bool .unit)⟩
noncomputable def zJ:List ar:=[xb.spec fV]
theorem F4:aX aS E0 zI (aW Tryz.f245 zJ) Tryz.f245 0 xb fV:=fun x=>by kernel_rfl
theorem Mu:FnOK G0 Tryz.prog 245 Oy:=ax ah Io Tryz.func245 zJ (by kernel_rfl) (by exact⟨(F4).lok,trivial⟩) fun x=>by kernel_rfl
noncomputable def dG(x:(Ty.T (.pair (.int .i64) (.pair (.list ae) ak)))):Option ((Ty.T (.pair (.int .i64) (.pair (.list ae) ak))) ⊕ ((Ty.T (.pair (.int .i64) .unit)) ⊕ (Ty.T .unit))):=
match(decide (x.2.2.2.1<x.2.2.1))with
|true=>
 aa (aw x.2.1 x.2.2.2.1) fun v1=>
 some (.inl ((IntKind.i64.wrap (x.1+v1.2.2.2.1.2.2.2.1)),x.2.1,x.2.2.1,(IntKind.i64.wrap (x.2.2.2.1+(1:Int))),()))
|false=>
 some (.inr (.inl (x.1,())))
noncomputable def lI(x:Ty.T (.pair (.list ae) .unit)):Option (Ty.T (.pair (.int .i64) .unit)):=
match ac dG ((0:Int),x.1,(x.1.length:Int),(0:Int),())with
|none=>none
|some (.inl v2)=>
 some (v2.1,())
|some (.inr v4)=>
 none
noncomputable def tD:Spec:=⟨_,(.pair (.int .i64) .unit),.unit,rfl,lI⟩
noncomputable def ri:FuncId→Option Spec:=a8 []
theorem AA:∀f s,ri f=some s→FnOK G0 Tryz.prog f s:=au trivial
def p6:aF:=⟨[3,6,7,8],(.pair (.int .i64) (.pair (.list ae) ak)),0,[3],(.pair (.int .i64) .unit),[],.unit⟩
noncomputable def rj:List ar:=[p6.spec dG]
theorem yq:aX aS E0 ri (aW Tryz.f289 rj) Tryz.f289 0 p6 dG:=fun x=>by kernel_rfl
theorem DT:FnOK G0 Tryz.prog 289 tD:=ax ah AA Tryz.func289 rj (by kernel_rfl) (by exact⟨(yq).lok,trivial⟩) fun x=>by kernel_rfl
noncomputable def fc(x:(Ty.T (.pair (.int .i64) (.pair (.own 148 ae) (.pair (.list ae) ak))))):Option ((Ty.T (.pair (.int .i64) (.pair (.own 148 ae) (.pair (.list ae) ak)))) ⊕ ((Ty.T (.pair (.own 148 ae) .unit)) ⊕ (Ty.T .unit))):=
match(decide (x.2.2.2.2.1<x.2.2.2.1))with
|true=>
 aa (aw x.2.2.1 x.2.2.2.2.1) fun v1=>
 match(v1.1==x.1)with
 |true=>
  a7 (x.2.1.length+ [(v1.1,v1.2.1,v1.2.2.1,(v1.2.2.2.1.1,v1.2.2.2.1.2.1,v1.2.2.2.1.2.2.1,v1.2.2.2.1.2.2.2.1,v1.2.2.2.1.2.2.2.2.1,()),())].length) (
   some (.inl (x.1,(x.2.1++ [(v1.1,v1.2.1,v1.2.2.1,(v1.2.2.2.1.1,v1.2.2.2.1.2.1,v1.2.2.2.1.2.2.1,v1.2.2.2.1.2.2.2.1,v1.2.2.2.1.2.2.2.2.1,()),())]),x.2.2.1,x.2.2.2.1,(IntKind.i64.wrap (x.2.2.2.2.1+(1:Int))),())))
 |false=>
  some (.inl (x.1,x.2.1,x.2.2.1,x.2.2.2.1,(IntKind.i64.wrap (x.2.2.2.2.1+(1:Int))),()))
|false=>
 some (.inr (.inl (x.2.1,())))
noncomputable def mj(x:Ty.T (.pair ag (.pair (.int .i64) .unit))):Option (Ty.T (.pair (.own 148 ae) .unit)):=
match ac fc (x.2.1,[],x.1.2.2.2.1,(x.1.2.2.2.1.length:Int),(0:Int),())with
|none=>none
|some (.inl v2)=>
 some (v2.1,())
|some (.inr v4)=>
 none
noncomputable def zK:Spec:=⟨_,(.pair (.own 148 ae) .unit),.unit,rfl,mj⟩
noncomputable def xd:FuncId→Option Spec:=a8 []
theorem F5:∀f s,xd f=some s→FnOK G0 Tryz.prog f s:=au trivial
def u9:aF:=⟨[1,5,10,11,12],(.pair (.int .i64) (.pair (.own 148 ae) (.pair (.list ae) ak))),0,[5],(.pair (.own 148 ae) .unit),[],.unit⟩
noncomputable def xe:List ar:=[u9.spec fc]
theorem DU:aX aS E0 xd (aW Tryz.f290 xe) Tryz.f290 0 u9 fc:=fun x=>by kernel_rfl
theorem Kq:FnOK G0 Tryz.prog 290 zK:=ax ah F5 Tryz.func290 xe (by kernel_rfl) (by exact⟨(DU).lok,trivial⟩) fun x=>by kernel_rfl
noncomputable def gA(x:(Ty.T (.pair (.box ag) ak))):Option ((Ty.T (.pair (.box ag) ak)) ⊕ ((Ty.T .unit) ⊕ (Ty.T (.pair .bool .unit)))):=
match(decide (x.2.2.1<x.2.1))with
|true=>
 match mj ((x.1.1,x.1.2.1,x.1.2.2.1,x.1.2.2.2.1,()),x.2.2.1,())with
 |none=>none
 |some v1=>
 match lI (v1.1,())with
 |none=>none
 |some v2=>
 match(decide (v2.1>(32000:Int)))with
 |true=>
  some (.inr (.inr (false,())))
 |false=>
  some (.inl ((x.1.1,x.1.2.1,x.1.2.2.1,x.1.2.2.2.1,()),x.2.1,(IntKind.i64.wrap (x.2.2.1+(1:Int))),()))
|false=>
 some (.inr (.inl (())))
noncomputable def p7(x:Ty.T (.pair ag .unit)):Option (Ty.T (.pair .bool .unit)):=
match ac gA ((x.1.1,x.1.2.1,x.1.2.2.1,x.1.2.2.2.1,()),(x.1.2.2.1.length:Int),(0:Int),())with
|none=>none
|some (.inl v3)=>
 some (true,())
|some (.inr v4)=>
 some (v4.1,())
noncomputable def Qo:Spec:=⟨_,(.pair .bool .unit),.unit,rfl,p7⟩
noncomputable def Cm:FuncId→Option Spec:=a8 [(289,tD),(290,zK)]
theorem Kr:∀f s,Cm f=some s→FnOK G0 Tryz.prog f s:=au ⟨DT,Kq,trivial⟩
def zL:aF:=⟨[1,6,7],(.pair (.box ag) ak),0,[],.unit,[2],(.pair .bool .unit)⟩
noncomputable def Cn:List ar:=[zL.spec gA]
theorem Ip:aX aS E0 Cm (aW Tryz.f246 Cn) Tryz.f246 0 zL gA:=fun x=>by kernel_rfl
theorem Oz:FnOK G0 Tryz.prog 246 Qo:=ax ah Kr Tryz.func246 Cn (by kernel_rfl) (by exact⟨(Ip).lok,trivial⟩) fun x=>by kernel_rfl
noncomputable def eB(x:(Ty.T (.pair (.box ag) (.pair (.int .i64) (.pair (.int .i64) (.pair (.int .i64) (.pair (.list ao) (.pair (.int .i64) (.pair (.int .i64) (.pair (.int .i64) (.pair (.int .i64) (.pair (.list ae) ak)))))))))))):Option ((Ty.T (.pair (.box ag) (.pair (.int .i64) (.pair (.int .i64) (.pair (.int .i64) (.pair (.list ao) (.pair (.int .i64) (.pair (.int .i64) (.pair (.int .i64) (.pair (.int .i64) (.pair (.list ae) ak))))))))))) ⊕ ((Ty.T (.pair (.box ag) (.pair (.int .i64) (.pair (.int .i64) (.pair (.list ao) al))))) ⊕ (Ty.T .unit))):=
match(decide (x.2.2.2.2.2.2.2.2.2.2.2.1<x.2.2.2.2.2.2.2.2.2.2.1))with
|true=>
 aa (aw x.2.2.2.2.2.2.2.2.2.1 x.2.2.2.2.2.2.2.2.2.2.2.1) fun v2=>
 match(v2.1==x.2.1)with
 |true=>
  match(v2.2.1==x.2.2.1)with
  |true=>
   if v2.2.2.2.1.1<0 then none else
   some (.inl ((x.1.1,x.1.2.1,x.1.2.2.1,x.1.2.2.2.1,()),x.2.1,x.2.2.1,(bits BinOp.or .i64 x.2.2.2.1 (IntKind.i64.wrap ((1:Int)*2^min v2.2.2.2.1.1.toNat IntKind.i64.bits))),x.2.2.2.2.1,x.2.2.2.2.2.1,x.2.2.2.2.2.2.1,x.2.2.2.2.2.2.2.1,x.2.2.2.2.2.2.2.2.1,x.2.2.2.2.2.2.2.2.2.1,x.2.2.2.2.2.2.2.2.2.2.1,(IntKind.i64.wrap (x.2.2.2.2.2.2.2.2.2.2.2.1+(1:Int))),()))
  |false=>
   some (.inl ((x.1.1,x.1.2.1,x.1.2.2.1,x.1.2.2.2.1,()),x.2.1,x.2.2.1,x.2.2.2.1,x.2.2.2.2.1,x.2.2.2.2.2.1,x.2.2.2.2.2.2.1,x.2.2.2.2.2.2.2.1,x.2.2.2.2.2.2.2.2.1,x.2.2.2.2.2.2.2.2.2.1,x.2.2.2.2.2.2.2.2.2.2.1,(IntKind.i64.wrap (x.2.2.2.2.2.2.2.2.2.2.2.1+(1:Int))),()))
 |false=>
  some (.inl ((x.1.1,x.1.2.1,x.1.2.2.1,x.1.2.2.2.1,()),x.2.1,x.2.2.1,x.2.2.2.1,x.2.2.2.2.1,x.2.2.2.2.2.1,x.2.2.2.2.2.2.1,x.2.2.2.2.2.2.2.1,x.2.2.2.2.2.2.2.2.1,x.2.2.2.2.2.2.2.2.2.1,x.2.2.2.2.2.2.2.2.2.2.1,(IntKind.i64.wrap (x.2.2.2.2.2.2.2.2.2.2.2.1+(1:Int))),()))
|false=>
 some (.inr (.inl ((x.1.1,x.1.2.1,x.1.2.2.1,x.1.2.2.2.1,()),x.2.1,x.2.2.2.1,x.2.2.2.2.1,x.2.2.2.2.2.1,x.2.2.2.2.2.2.1,x.2.2.2.2.2.2.2.1,x.2.2.2.2.2.2.2.2.1,())))
noncomputable def fC(x:(Ty.T (.pair (.box ag) (.pair (.int .i64) (.pair (.list ao) al))))):Option ((Ty.T (.pair (.box ag) (.pair (.int .i64) (.pair (.list ao) al)))) ⊕ ((Ty.T (.pair (.box ag) (.pair (.list ao) ak))) ⊕ (Ty.T (.pair .bool .unit)))):=
match(decide (x.2.2.2.2.2.2.1<x.2.2.2.2.2.1))with
|true=>
 match ac eB ((x.1.1,x.1.2.1,x.1.2.2.1,x.1.2.2.2.1,()),x.2.1,x.2.2.2.2.2.2.1,(0:Int),x.2.2.1,x.2.2.2.1,x.2.2.2.2.1,x.2.2.2.2.2.1,x.2.2.2.2.2.2.1,x.1.2.2.2.1,(x.1.2.2.2.1.length:Int),(0:Int),())with
 |none=>none
 |some (.inl v2)=>
  match gW (v2.1.2.1,())with
  |none=>none
  |some v4=>
  match((bits BinOp.andNot .i64 v4.1 v2.2.2.1) != (0:Int))with
  |true=>
   some (.inr (.inr (false,())))
  |false=>
   some (.inl ((v2.1.1,v2.1.2.1,v2.1.2.2.1,v2.1.2.2.2.1,()),v2.2.1,v2.2.2.2.1,v2.2.2.2.2.1,v2.2.2.2.2.2.1,v2.2.2.2.2.2.2.1,(IntKind.i64.wrap (v2.2.2.2.2.2.2.2.1+(1:Int))),()))
 |some (.inr v5)=>
  none
|false=>
 some (.inr (.inl ((x.1.1,x.1.2.1,x.1.2.2.1,x.1.2.2.2.1,()),x.2.2.1,x.2.2.2.1,x.2.2.2.2.1,())))
noncomputable def gB(x:(Ty.T (.pair (.box ag) (.pair (.list ao) ak)))):Option ((Ty.T (.pair (.box ag) (.pair (.list ao) ak))) ⊕ ((Ty.T .unit) ⊕ (Ty.T (.pair .bool .unit)))):=
match(decide (x.2.2.2.1<x.2.2.1))with
|true=>
 aa (aw x.2.1 x.2.2.2.1) fun v1=>
 match ac fC ((x.1.1,x.1.2.1,x.1.2.2.1,x.1.2.2.2.1,()),x.2.2.2.1,x.2.1,x.2.2.1,x.2.2.2.1,v1.1,(0:Int),())with
 |none=>none
 |some (.inl v2)=>
  some (.inl ((v2.1.1,v2.1.2.1,v2.1.2.2.1,v2.1.2.2.2.1,()),v2.2.1,v2.2.2.1,(IntKind.i64.wrap (v2.2.2.2.1+(1:Int))),()))
 |some (.inr v3)=>
  some (.inr (.inr (v3.1,())))
|false=>
 some (.inr (.inl (())))
noncomputable def p8(x:Ty.T (.pair ag .unit)):Option (Ty.T (.pair .bool .unit)):=
match ac gB ((x.1.1,x.1.2.1,x.1.2.2.1,x.1.2.2.2.1,()),x.1.2.2.1,(x.1.2.2.1.length:Int),(0:Int),())with
|none=>none
|some (.inl v4)=>
 some (true,())
|some (.inr v5)=>
 some (v5.1,())
noncomputable def Qp:Spec:=⟨_,(.pair .bool .unit),.unit,rfl,p8⟩
noncomputable def ow:FuncId→Option Spec:=a8 [(202,tn)]
theorem Ks:∀f s,ow f=some s→FnOK G0 Tryz.prog f s:=au ⟨l4,trivial⟩
def zM:aF:=⟨[1,10,11,12],(.pair (.box ag) (.pair (.list ao) ak)),0,[],.unit,[2],(.pair .bool .unit)⟩
def zN:aF:=⟨[1,3,10,11,12,18,19],(.pair (.box ag) (.pair (.int .i64) (.pair (.list ao) al))),2,[1,10,11,12],(.pair (.box ag) (.pair (.list ao) ak)),[2],(.pair .bool .unit)⟩
def zO:aF:=⟨[1,3,5,6,10,11,12,18,19,23,24,25],(.pair (.box ag) (.pair (.int .i64) (.pair (.int .i64) (.pair (.int .i64) (.pair (.list ao) (.pair (.int .i64) (.pair (.int .i64) (.pair (.int .i64) (.pair (.int .i64) (.pair (.list ae) ak)))))))))),4,[1,3,6,10,11,12,18,19],(.pair (.box ag) (.pair (.int .i64) (.pair (.int .i64) (.pair (.list ao) al)))),[],.unit⟩
noncomputable def oz:List ar:=[zM.spec gB,zN.spec fC,zO.spec eB]
theorem Iq:aX aS E0 ow (aW Tryz.f247 oz) Tryz.f247 0 zM gB:=fun x=>by kernel_rfl
theorem Ir:aX aS E0 ow (aW Tryz.f247 oz) Tryz.f247 1 zN fC:=fun x=>by kernel_rfl
theorem Iu:aX aS E0 ow (aW Tryz.f247 oz) Tryz.f247 2 zO eB:=fun x=>by kernel_rfl
theorem OB:FnOK G0 Tryz.prog 247 Qp:=ax ah Ks Tryz.func247 oz (by kernel_rfl) (by exact⟨(Iq).lok,(Ir).lok,(Iu).lok,trivial⟩) fun x=>by kernel_rfl
noncomputable def ld(x:Ty.T (.pair ag .unit)):Option (Ty.T (.pair (.int .i64) .unit)):=
match bb (x.1.1,(1:Int),(16777215:Int),())with
|none=>none
|some v1=>
match(!v1.1)with
|true=>
 some ((1:Int),())
|false=>
 match mI (x.1.2.1,())with
 |none=>none
 |some v2=>
 match(!v2.1)with
 |true=>
  some ((2:Int),())
 |false=>
  match mH (x.1.2.2.1,())with
  |none=>none
  |some v3=>
  match(!v3.1)with
  |true=>
   some ((3:Int),())
  |false=>
   match mJ (x.1.2.2.2.1,())with
   |none=>none
   |some v4=>
   match(!v4.1)with
   |true=>
    some ((4:Int),())
   |false=>
    match lc ((x.1.1,x.1.2.1,x.1.2.2.1,x.1.2.2.2.1,()),())with
    |none=>none
    |some v5=>
    match(!v5.1)with
    |true=>
     some ((5:Int),())
    |false=>
     match bL (x.1.2.2.2.1,(fun z=>lF (z.1,(x.1.1,x.1.2.1,x.1.2.2.1,x.1.2.2.2.1,()),())),())with
     |none=>none
     |some v6=>
     match v6.1 with
     |true=>
      some ((6:Int),())
     |false=>
      match ov ((x.1.1,x.1.2.1,x.1.2.2.1,x.1.2.2.2.1,()),())with
      |none=>none
      |some v7=>
      match(!v7.1)with
      |true=>
       some ((7:Int),())
      |false=>
       match p7 ((x.1.1,x.1.2.1,x.1.2.2.1,x.1.2.2.2.1,()),())with
       |none=>none
       |some v8=>
       match(!v8.1)with
       |true=>
        some ((8:Int),())
       |false=>
        match p8 ((x.1.1,x.1.2.1,x.1.2.2.1,x.1.2.2.2.1,()),())with
        |none=>none
        |some v9=>
        match(!v9.1)with
        |true=>
         some ((9:Int),())
        |false=>
         match bL (x.1.2.2.2.1,lG,())with
         |none=>none
         |some v10=>
         match v10.1 with
         |true=>
          some ((10:Int),())
         |false=>
          some ((0:Int),())
noncomputable def Kt:Spec:=⟨_,(.pair (.int .i64) .unit),.unit,rfl,ld⟩
theorem Iv:FnOK G0 Tryz.prog 200 Kt:=ai ah (sg ck (sg FX (sg DQ (sg DR (sg F0 (sg F3 (sg Il (sg nG (sg Mu (sg Oz (sg OB (az)))))))))))) Tryz.func200
noncomputable def jN(x:Ty.T (.pair ag .unit)):Option (Ty.T (.pair .bool .unit)):=
match ld ((x.1.1,x.1.2.1,x.1.2.2.1,x.1.2.2.2.1,()),())with
|none=>none
|some v1=>
some ((v1.1==(0:Int)),())
noncomputable def SB:Spec:=⟨_,(.pair .bool .unit),.unit,rfl,jN⟩
theorem Qq:FnOK G0 Tryz.prog 152 SB:=ai ah (sg Iv (az)) Tryz.func152
noncomputable def oA(x:Ty.T (.pair (.int .i64) .unit)):Option (Ty.T (.pair .bool .unit)):=
match bb (x.1,(0:Int),(4294967295:Int),())with
|none=>none
|some v1=>
some (v1.1,())
noncomputable def OC:Spec:=⟨_,(.pair .bool .unit),.unit,rfl,oA⟩
theorem zP:FnOK G0 Tryz.prog 158 OC:=ai ah (sg ck (az)) Tryz.func158
noncomputable def eN(x:Ty.T (.pair ab .unit)):Option (Ty.T (.pair .bool .unit)):=
match bb (x.1.1,(0:Int),(65535:Int),())with
|none=>none
|some v1=>
match v1.1 with
|true=>
 match bb (x.1.2.1,(0:Int),(15:Int),())with
 |none=>none
 |some v2=>
 match v2.1 with
 |true=>
  match bb (x.1.2.2.1,(0:Int),(15:Int),())with
  |none=>none
  |some v3=>
  match v3.1 with
  |true=>
   match bb (x.1.2.2.2.1,(0:Int),(255:Int),())with
   |none=>none
   |some v4=>
   match v4.1 with
   |true=>
    match oA (x.1.2.2.2.2.1,())with
    |none=>none
    |some v5=>
    some (v5.1,())
   |false=>
    some (false,())
  |false=>
   some (false,())
 |false=>
  some (false,())
|false=>
 some (false,())
noncomputable def Qr:Spec:=⟨_,(.pair .bool .unit),.unit,rfl,eN⟩
theorem oB:FnOK G0 Tryz.prog 201 Qr:=ai ah (sg ck (sg zP (az))) Tryz.func201
noncomputable def le(x:Ty.T (.pair ag (.pair ab .unit))):Option (Ty.T (.pair .bool .unit)):=
match eN ((x.2.1.1,x.2.1.2.1,x.2.1.2.2.1,x.2.1.2.2.2.1,x.2.1.2.2.2.2.1,()),())with
|none=>none
|some v1=>
match(!v1.1)with
|true=>
 some (false,())
|false=>
 match(decide (x.2.1.2.1≥(x.1.2.2.1.length:Int)))with
 |true=>
  some (false,())
 |false=>
  aa (aw x.1.2.2.1 x.2.1.2.1) fun v2=>
  match(decide (x.2.1.2.2.1<v2.1))with
  |true=>
   match(decide (x.2.1.2.2.2.1<v2.2.1))with
   |true=>
    match gW (x.1.2.1,())with
    |none=>none
    |some v3=>
    some (((bits BinOp.andNot .i64 x.2.1.2.2.2.2.1 v3.1)==(0:Int)),())
   |false=>
    some (false,())
  |false=>
   some (false,())
noncomputable def Qs:Spec:=⟨_,(.pair .bool .unit),.unit,rfl,le⟩
theorem OD:FnOK G0 Tryz.prog 153 Qs:=ai ah (sg oB (sg l4 (az))) Tryz.func153
noncomputable def dV(x:Ty.T (.pair ag (.pair ab .unit))):Option (Ty.T (.pair (.int .i64) .unit)):=
match jN ((x.1.1,x.1.2.1,x.1.2.2.1,x.1.2.2.2.1,()),())with
|none=>none
|some v1=>
match(!v1.1)with
|true=>
 some ((1:Int),())
|false=>
 match le ((x.1.1,x.1.2.1,x.1.2.2.1,x.1.2.2.2.1,()),(x.2.1.1,x.2.1.2.1,x.2.1.2.2.1,x.2.1.2.2.2.1,x.2.1.2.2.2.2.1,()),())with
 |none=>none
 |some v2=>
 match(!v2.1)with
 |true=>
  some ((2:Int),())
 |false=>
  some ((0:Int),())
noncomputable def Co:Spec:=⟨_,(.pair (.int .i64) .unit),.unit,rfl,dV⟩
theorem kj:FnOK G0 Tryz.prog 111 Co:=ai ah (sg Qq (sg OD (az))) Tryz.func111
noncomputable def cj(x:(Ty.T (.pair (.list aH) (.pair (.fn (.pair aH .unit) (.pair .bool .unit)) ak)))):Option ((Ty.T (.pair (.list aH) (.pair (.fn (.pair aH .unit) (.pair .bool .unit)) ak))) ⊕ ((Ty.T .unit) ⊕ (Ty.T (.pair (.int .i64) .unit)))):=
match(decide (x.2.2.2.1<x.2.2.1))with
|true=>
 aa (aw x.1 x.2.2.2.1) fun v1=>
 match x.2.1 (v1,())with
 |none=>none
 |some v2=>
 match v2.1 with
 |true=>
  some (.inr (.inr (x.2.2.2.1,())))
 |false=>
  some (.inl (x.1,x.2.1,x.2.2.1,(IntKind.i64.wrap (x.2.2.2.1+(1:Int))),()))
|false=>
 some (.inr (.inl (())))
noncomputable def eO(x:Ty.T (.pair (.list aH) (.pair (.fn (.pair aH .unit) (.pair .bool .unit)) .unit))):Option (Ty.T (.pair (.int .i64) .unit)):=
match ac cj (x.1,x.2.1,(x.1.length:Int),(0:Int),())with
|none=>none
|some (.inl v3)=>
 some ((-1:Int),())
|some (.inr v4)=>
 some (v4.1,())
noncomputable def uh:Spec:=⟨_,(.pair (.int .i64) .unit),.unit,rfl,eO⟩
noncomputable def lf:FuncId→Option Spec:=a8 []
theorem qA:∀f s,lf f=some s→FnOK G0 Tryz.prog f s:=au trivial
def kA:aF:=⟨[0,1,7,8],(.pair (.list aH) (.pair (.fn (.pair aH .unit) (.pair .bool .unit)) ak)),0,[],.unit,[4],(.pair (.int .i64) .unit)⟩
noncomputable def lg:List ar:=[kA.spec cj]
theorem p9:aX aS E0 lf (aW Tryz.f154 lg) Tryz.f154 0 kA cj:=fun x=>by kernel_rfl
theorem tE:FnOK G0 Tryz.prog 154 uh:=ax ah qA Tryz.func154 lg (by kernel_rfl) (by exact⟨(p9).lok,trivial⟩) fun x=>by kernel_rfl
noncomputable def fe(x:Ty.T (.pair (.list aH) (.pair (.fn (.pair aH .unit) (.pair .bool .unit)) .unit))):Option (Ty.T (.pair .bool .unit)):=
match eO (x.1,x.2.1,())with
|none=>none
|some v1=>
some ((decide (v1.1≥(0:Int))),())
noncomputable def qB:Spec:=⟨_,(.pair .bool .unit),.unit,rfl,fe⟩
theorem qa:FnOK G0 Tryz.prog 112 qB:=ai ah (sg tE (az)) Tryz.func112
noncomputable def cd(x:(Ty.T (.pair (.list al) (.pair (.fn (.pair al .unit) (.pair .bool .unit)) ak)))):Option ((Ty.T (.pair (.list al) (.pair (.fn (.pair al .unit) (.pair .bool .unit)) ak))) ⊕ ((Ty.T .unit) ⊕ (Ty.T (.pair (.int .i64) .unit)))):=
match(decide (x.2.2.2.1<x.2.2.1))with
|true=>
 aa (aw x.1 x.2.2.2.1) fun v1=>
 match x.2.1 (v1,())with
 |none=>none
 |some v2=>
 match v2.1 with
 |true=>
  some (.inr (.inr (x.2.2.2.1,())))
 |false=>
  some (.inl (x.1,x.2.1,x.2.2.1,(IntKind.i64.wrap (x.2.2.2.1+(1:Int))),()))
|false=>
 some (.inr (.inl (())))
noncomputable def et(x:Ty.T (.pair (.list al) (.pair (.fn (.pair al .unit) (.pair .bool .unit)) .unit))):Option (Ty.T (.pair (.int .i64) .unit)):=
match ac cd (x.1,x.2.1,(x.1.length:Int),(0:Int),())with
|none=>none
|some (.inl v3)=>
 some ((-1:Int),())
|some (.inr v4)=>
 some (v4.1,())
noncomputable def tF:Spec:=⟨_,(.pair (.int .i64) .unit),.unit,rfl,et⟩
noncomputable def kB:FuncId→Option Spec:=a8 []
theorem qb:∀f s,kB f=some s→FnOK G0 Tryz.prog f s:=au trivial
def kk:aF:=⟨[0,1,7,8],(.pair (.list al) (.pair (.fn (.pair al .unit) (.pair .bool .unit)) ak)),0,[],.unit,[4],(.pair (.int .i64) .unit)⟩
noncomputable def kC:List ar:=[kk.spec cd]
theorem pf:aX aS E0 kB (aW Tryz.f178 kC) Tryz.f178 0 kk cd:=fun x=>by kernel_rfl
theorem rO:FnOK G0 Tryz.prog 178 tF:=ax ah qb Tryz.func178 kC (by kernel_rfl) (by exact⟨(pf).lok,trivial⟩) fun x=>by kernel_rfl
noncomputable def dt(x:Ty.T (.pair (.list al) (.pair (.fn (.pair al .unit) (.pair .bool .unit)) .unit))):Option (Ty.T (.pair .bool .unit)):=
match et (x.1,x.2.1,())with
|none=>none
|some v1=>
some ((decide (v1.1≥(0:Int))),())
noncomputable def qc:Spec:=⟨_,(.pair .bool .unit),.unit,rfl,dt⟩
theorem pg:FnOK G0 Tryz.prog 132 qc:=ai ah (sg rO (az)) Tryz.func132
noncomputable def pv(x:Ty.T (.pair (.int .i64) .unit)):Option (Ty.T (.pair .bool .unit)):=
match(x.1 != (1:Int))with
|true=>
 some ((x.1 != (5:Int)),())
|false=>
 some (false,())
noncomputable def Mv:Spec:=⟨_,(.pair .bool .unit),.unit,rfl,pv⟩
theorem Ku:FnOK G0 Tryz.prog 179 Mv:=ai ah az Tryz.func179
noncomputable def oC(x:Ty.T (.pair (.int .i64) .unit)):Option (Ty.T (.pair .bool .unit)):=
match(x.1==(4:Int))with
|true=>
 some (true,())
|false=>
 some ((x.1==(6:Int)),())
noncomputable def OE:Spec:=⟨_,(.pair .bool .unit),.unit,rfl,oC⟩
theorem Mw:FnOK G0 Tryz.prog 180 OE:=ai ah az Tryz.func180
noncomputable def nu(x:Ty.T (.pair al .unit)):Option (Ty.T (.pair .bool .unit)):=
match bb (x.1.1,(1:Int),(6:Int),())with
|none=>none
|some v1=>
match(!v1.1)with
|true=>
 some (false,())
|false=>
 match bb (x.1.2.1,(0:Int),(8192:Int),())with
 |none=>none
 |some v2=>
 match(!v2.1)with
 |true=>
  some (false,())
 |false=>
  match pv (x.1.1,())with
  |none=>none
  |some v3=>
  match v3.1 with
  |true=>
   match bb (x.1.2.2.1,(1:Int),(8192:Int),())with
   |none=>none
   |some v4=>
   match oC (x.1.1,())with
   |none=>none
   |some v5=>
   match v5.1 with
   |true=>
    match bb (x.1.2.2.2.1,(0:Int),(1:Int),())with
    |none=>none
    |some v6=>
    match v4.1 with
    |true=>
     some (v6.1,())
    |false=>
     some (false,())
   |false=>
    match v4.1 with
    |true=>
     some ((x.1.2.2.2.1==(0:Int)),())
    |false=>
     some (false,())
  |false=>
   match oC (x.1.1,())with
   |none=>none
   |some v7=>
   match v7.1 with
   |true=>
    match bb (x.1.2.2.2.1,(0:Int),(1:Int),())with
    |none=>none
    |some v8=>
    match(x.1.2.2.1==(0:Int))with
    |true=>
     some (v8.1,())
    |false=>
     some (false,())
   |false=>
    match(x.1.2.2.1==(0:Int))with
    |true=>
     some ((x.1.2.2.2.1==(0:Int)),())
    |false=>
     some (false,())
noncomputable def Qt:Spec:=⟨_,(.pair .bool .unit),.unit,rfl,nu⟩
theorem OG:FnOK G0 Tryz.prog 134 Qt:=ai ah (sg ck (sg Ku (sg Mw (az)))) Tryz.func134
noncomputable def lh(x:Ty.T (.pair al .unit)):Option (Ty.T (.pair .bool .unit)):=
match nu ((x.1.1,x.1.2.1,x.1.2.2.1,x.1.2.2.2.1,()),())with
|none=>none
|some v1=>
some ((!v1.1),())
noncomputable def Kv:Spec:=⟨_,(.pair .bool .unit),.unit,rfl,lh⟩
theorem Iw:FnOK G0 Tryz.prog 133 Kv:=ai ah (sg OG (az)) Tryz.func133
noncomputable def oD(x:Ty.T (.pair (.list al) .unit)):Option (Ty.T (.pair .bool .unit)):=
match(decide ((x.1.length:Int)≤(30:Int)))with
|true=>
 match dt (x.1,lh,())with
 |none=>none
 |some v1=>
 some ((!v1.1),())
|false=>
 some (false,())
noncomputable def OH:Spec:=⟨_,(.pair .bool .unit),.unit,rfl,oD⟩
theorem Mx:FnOK G0 Tryz.prog 95 OH:=ai ah (sg pg (sg Iw (az))) Tryz.func95
noncomputable def tG(x:Ty.T (.pair aH .unit)):Option (Ty.T (.pair .bool .unit)):=
match bb (x.1.1,(0:Int),(255:Int),())with
|none=>none
|some v1=>
match v1.1 with
|true=>
 match bb (x.1.2.1,(0:Int),(7:Int),())with
 |none=>none
 |some v2=>
 match v2.1 with
 |true=>
  match oD (x.1.2.2.1,())with
  |none=>none
  |some v3=>
  match v3.1 with
  |true=>
   match oD (x.1.2.2.2.1,())with
   |none=>none
   |some v4=>
   some (v4.1,())
  |false=>
   some (false,())
 |false=>
  some (false,())
|false=>
 some (false,())
noncomputable def SC:Spec:=⟨_,(.pair .bool .unit),.unit,rfl,tG⟩
theorem Qu:FnOK G0 Tryz.prog 114 SC:=ai ah (sg Mx (sg ck (az))) Tryz.func114
noncomputable def mK(x:Ty.T (.pair aH .unit)):Option (Ty.T (.pair .bool .unit)):=
match tG ((x.1.1,x.1.2.1,x.1.2.2.1,x.1.2.2.2.1,()),())with
|none=>none
|some v1=>
some ((!v1.1),())
noncomputable def Ix:Spec:=⟨_,(.pair .bool .unit),.unit,rfl,mK⟩
theorem F6:FnOK G0 Tryz.prog 113 Ix:=ai ah (sg Qu (az)) Tryz.func113
noncomputable def pw(x:Ty.T (.pair ag (.pair ab (.pair (.list aH) .unit)))):Option (Ty.T (.pair (.int .i64) .unit)):=
match dV (x.1,x.2.1,())with
|none=>none
|some v1=>
match(v1.1 != (0:Int))with
|true=>
 some (v1.1,())
|false=>
 match(decide ((x.2.2.1.length:Int)>(40:Int)))with
 |true=>
  some ((3:Int),())
 |false=>
  match fe (x.2.2.1,mK,())with
  |none=>none
  |some v2=>
  match v2.1 with
  |true=>
   some ((5:Int),())
  |false=>
   some ((0:Int),())
noncomputable def My:Spec:=⟨_,(.pair (.int .i64) .unit),.unit,rfl,pw⟩
theorem Kw:FnOK G0 Tryz.prog 77 My:=ai ah (sg kj (sg qa (sg F6 (az)))) Tryz.func77
noncomputable def qC(x:Ty.T (.pair ag (.pair ab (.pair .bool .unit)))):Option (Ty.T (.pair (.int .i64) .unit)):=
match dV ((x.1.1,x.1.2.1,x.1.2.2.1,x.1.2.2.2.1,()),(x.2.1.1,x.2.1.2.1,x.2.1.2.2.1,x.2.1.2.2.2.1,x.2.1.2.2.2.2.1,()),())with
|none=>none
|some v1=>
match(v1.1 != (0:Int))with
|true=>
 some (v1.1,())
|false=>
 match(!x.2.2.1)with
 |true=>
  some ((2:Int),())
 |false=>
  some ((0:Int),())
noncomputable def Iy:Spec:=⟨_,(.pair (.int .i64) .unit),.unit,rfl,qC⟩
theorem F7:FnOK G0 Tryz.prog 137 Iy:=ai ah (sg kj (az)) Tryz.func137
noncomputable def cv(x:(Ty.T (.pair (.int .i64) (.pair (.int .i64) (.pair (.list (.int .i64)) ak))))):Option ((Ty.T (.pair (.int .i64) (.pair (.int .i64) (.pair (.list (.int .i64)) ak)))) ⊕ ((Ty.T .unit) ⊕ (Ty.T (.pair .bool .unit)))):=
match(decide (x.2.2.2.2.1<x.2.2.2.1))with
|true=>
 aa (aw x.2.2.1 x.2.2.2.2.1) fun v1=>
 match(decide (v1<x.1))with
 |true=>
  some (.inr (.inr (false,())))
 |false=>
  match(decide (v1>x.2.1))with
  |true=>
   some (.inr (.inr (false,())))
  |false=>
   some (.inl (x.1,x.2.1,x.2.2.1,x.2.2.2.1,(IntKind.i64.wrap (x.2.2.2.2.1+(1:Int))),()))
|false=>
 some (.inr (.inl (())))
noncomputable def iW(x:Ty.T (.pair (.list (.int .i64)) ak)):Option (Ty.T (.pair .bool .unit)):=
match ac cv (x.2.1,x.2.2.1,x.1,(x.1.length:Int),(0:Int),())with
|none=>none
|some (.inl v2)=>
 some (true,())
|some (.inr v3)=>
 some (v3.1,())
noncomputable def Mz:Spec:=⟨_,(.pair .bool .unit),.unit,rfl,iW⟩
noncomputable def xf:FuncId→Option Spec:=a8 []
theorem F8:∀f s,xf f=some s→FnOK G0 Tryz.prog f s:=au trivial
def va:aF:=⟨[1,2,9,10,11],(.pair (.int .i64) (.pair (.int .i64) (.pair (.list (.int .i64)) ak))),0,[],.unit,[6],(.pair .bool .unit)⟩
noncomputable def xg:List ar:=[va.spec cv]
theorem DV:aX aS E0 xf (aW Tryz.f187 xg) Tryz.f187 0 va cv:=fun x=>by kernel_rfl
theorem xh:FnOK G0 Tryz.prog 187 Mz:=ax ah F8 Tryz.func187 xg (by kernel_rfl) (by exact⟨(DV).lok,trivial⟩) fun x=>by kernel_rfl
noncomputable def mW(x:Ty.T (.pair (.list (.int .i64)) .unit)):Option (Ty.T (.pair .bool .unit)):=
match(decide ((x.1.length:Int)≤(8192:Int)))with
|true=>
 match iW (x.1,(0:Int),(1:Int),())with
 |none=>none
 |some v1=>
 some (v1.1,())
|false=>
 some (false,())
noncomputable def Iz:Spec:=⟨_,(.pair .bool .unit),.unit,rfl,mW⟩
theorem px:FnOK G0 Tryz.prog 138 Iz:=ai ah (sg xh (az)) Tryz.func138
noncomputable def Kx(x:Ty.T (.pair .bool .unit)):Option (Ty.T (.pair (.int .i64) .unit)):=
match x.1 with
|true=>
 some ((1:Int),())
|false=>
 some ((0:Int),())
noncomputable def Lw:Spec:=⟨_,(.pair (.int .i64) .unit),.unit,rfl,Kx⟩
theorem SD:FnOK G0 Tryz.prog 300 Lw:=ai ah az Tryz.func300
noncomputable def cl(x:(Ty.T (.pair (.list (.int .i64)) (.pair (.int .i64) ak)))):Option ((Ty.T (.pair (.list (.int .i64)) (.pair (.int .i64) ak))) ⊕ ((Ty.T (.pair (.int .i64) .unit)) ⊕ (Ty.T .unit))):=
match(decide (x.2.2.2.1≤x.2.1))with
|true=>
 match(decide (x.2.2.2.1<(0:Int)))with
 |true=>
  some (.inl (x.1,x.2.1,(IntKind.i64.wrap (x.2.2.1+(1:Int))),(IntKind.i64.wrap (x.2.2.2.1+(1:Int))),()))
 |false=>
  aa (aw x.1 x.2.2.2.1) fun v1=>
  match(v1==(1:Int))with
  |true=>
   some (.inl (x.1,x.2.1,(IntKind.i64.wrap (x.2.2.1+(1:Int))),(IntKind.i64.wrap (x.2.2.2.1+(1:Int))),()))
  |false=>
   some (.inl (x.1,x.2.1,x.2.2.1,(IntKind.i64.wrap (x.2.2.2.1+(1:Int))),()))
|false=>
 some (.inr (.inl (x.2.2.1,())))
noncomputable def lJ(x:Ty.T (.pair (.list (.int .i64)) (.pair (.int .i64) .unit))):Option (Ty.T (.pair (.int .i64) .unit)):=
match ac cl (x.1,x.2.1,(0:Int),(IntKind.i64.wrap ((IntKind.i64.wrap (x.2.1-(5:Int)))+(1:Int))),())with
|none=>none
|some (.inl v2)=>
 some (v2.1,())
|some (.inr v4)=>
 none
noncomputable def tH:Spec:=⟨_,(.pair (.int .i64) .unit),.unit,rfl,lJ⟩
noncomputable def rk:FuncId→Option Spec:=a8 []
theorem AB:∀f s,rk f=some s→FnOK G0 Tryz.prog f s:=au trivial
def qd:aF:=⟨[0,1,5,6],(.pair (.list (.int .i64)) (.pair (.int .i64) ak)),0,[5],(.pair (.int .i64) .unit),[],.unit⟩
noncomputable def rl:List ar:=[qd.spec cl]
theorem yt:aX aS E0 rk (aW Tryz.f301 rl) Tryz.f301 0 qd cl:=fun x=>by kernel_rfl
theorem DW:FnOK G0 Tryz.prog 301 tH:=ax ah AB Tryz.func301 rl (by kernel_rfl) (by exact⟨(yt).lok,trivial⟩) fun x=>by kernel_rfl
noncomputable def jO(x:(Ty.T (.pair (.list (.int .i64)) (.pair (.own 2 (.int .i64)) ak)))):Option ((Ty.T (.pair (.list (.int .i64)) (.pair (.own 2 (.int .i64)) ak))) ⊕ ((Ty.T (.pair (.own 2 (.int .i64)) .unit)) ⊕ (Ty.T .unit))):=
match(decide (x.2.2.2.1<x.2.2.1))with
|true=>
 match lJ (x.1,x.2.2.2.1,())with
 |none=>none
 |some v1=>
 match Kx ((decide ((IntKind.i64.wrap ((2:Int)*v1.1))>(5:Int))),())with
 |none=>none
 |some v2=>
 a7 (x.2.1.length+ [v2.1].length) (
  some (.inl (x.1,(x.2.1++ [v2.1]),x.2.2.1,(IntKind.i64.wrap (x.2.2.2.1+(1:Int))),())))
|false=>
 some (.inr (.inl (x.2.1,())))
noncomputable def IA(x:Ty.T (.pair (.list (.int .i64)) .unit)):Option (Ty.T (.pair (.own 2 (.int .i64)) .unit)):=
match ac jO (x.1,[],(x.1.length:Int),(0:Int),())with
|none=>none
|some (.inl v3)=>
 some (v3.1,())
|some (.inr v5)=>
 none
noncomputable def UW:Spec:=⟨_,(.pair (.own 2 (.int .i64)) .unit),.unit,rfl,IA⟩
noncomputable def Lx:FuncId→Option Spec:=a8 [(300,Lw),(301,tH)]
theorem Qv:∀f s,Lx f=some s→FnOK G0 Tryz.prog f s:=au ⟨SD,DW,trivial⟩
def IB:aF:=⟨[0,3,7,8],(.pair (.list (.int .i64)) (.pair (.own 2 (.int .i64)) ak)),0,[3],(.pair (.own 2 (.int .i64)) .unit),[],.unit⟩
noncomputable def Ly:List ar:=[IB.spec jO]
theorem OI:aX aS E0 Lx (aW Tryz.f264 Ly) Tryz.f264 0 IB jO:=fun x=>by kernel_rfl
theorem TP:FnOK G0 Tryz.prog 264 UW:=ax ah Qv Tryz.func264 Ly (by kernel_rfl) (by exact⟨(OI).lok,trivial⟩) fun x=>by kernel_rfl
noncomputable def mL(x:Ty.T (.pair (.list (.int .i64)) .unit)):Option (Ty.T (.pair (.own 2 (.int .i64)) (.pair (.int .i64) .unit))):=
match mW (x.1,())with
|none=>none
|some v1=>
match(!v1.1)with
|true=>
 some ([],(1:Int),())
|false=>
 match IA (x.1,())with
 |none=>none
 |some v2=>
 some (v2.1,(0:Int),())
noncomputable def IC:Spec:=⟨_,(.pair (.own 2 (.int .i64)) (.pair (.int .i64) .unit)),.unit,rfl,mL⟩
theorem F9:FnOK G0 Tryz.prog 219 IC:=ai ah (sg px (sg TP (az))) Tryz.func219
noncomputable def bR(x:(Ty.T (.pair (.ptr dg) ak))):Option ((Ty.T (.pair (.ptr dg) ak)) ⊕ ((Ty.T ak) ⊕ (Ty.T (.pair (.int .i64) .unit)))):=
match(decide (x.2.1<(x.1.1.length:Int)))with
|true=>
 aa (aw x.1.1 x.2.1) fun v1=>
 match(v1==x.2.2.1)with
 |true=>
  some (.inr (.inr (x.2.1,())))
 |false=>
  some (.inl (x.1,(IntKind.i64.wrap (x.2.1+(1:Int))),x.2.2.1,()))
|false=>
 some (.inr (.inl (x.2.1,x.2.2.1,())))
noncomputable def bj(x:Ty.T (.pair (.ptr dg) ak)):Option (Ty.T (.pair (.int .i64) .unit)):=
match ac bR (x.1,(IntKind.i64.wrap (x.2.1+(1:Int))),x.2.2.1,())with
|none=>none
|some (.inl v2)=>
 match(v2.2.1==(1:Int))with
 |true=>
  some (v2.1,())
 |false=>
  some ((-1:Int),())
|some (.inr v3)=>
 some (v3.1,())
noncomputable def mk:Spec:=⟨_,(.pair (.int .i64) .unit),.unit,rfl,bj⟩
noncomputable def lT:FuncId→Option Spec:=a8 []
theorem rP:∀f s,lT f=some s→FnOK G0 Tryz.prog f s:=au trivial
def li:aF:=⟨[0,1,2],(.pair (.ptr dg) ak),0,[1,2],ak,[6],(.pair (.int .i64) .unit)⟩
noncomputable def lU:List ar:=[li.spec bR]
theorem qD:aX aS E0 lT (aW Tryz.f319 lU) Tryz.f319 0 li bR:=fun x=>by kernel_rfl
theorem lV:FnOK G0 Tryz.prog 319 mk:=ax ah rP Tryz.func319 lU (by kernel_rfl) (by exact⟨(qD).lok,trivial⟩) fun x=>by kernel_rfl
noncomputable def tI(x:Ty.T (.pair (.int .i64) .unit)):Option (Ty.T (.pair (.int .i64) .unit)):=
some ((IntKind.i64.wrap (Int.tdiv (IntKind.i64.wrap (x.1+(4:Int))) (8:Int))),())
noncomputable def Ky:Spec:=⟨_,(.pair (.int .i64) .unit),.unit,rfl,tI⟩
theorem IE:FnOK G0 Tryz.prog 320 Ky:=ai ah az Tryz.func320
noncomputable def tJ(x:Ty.T (.pair (.int .i64) .unit)):Option (Ty.T (.pair .bool .unit)):=
match bb (x.1,(3:Int),(15:Int),())with
|none=>none
|some v1=>
some (v1.1,())
noncomputable def Kz:Spec:=⟨_,(.pair .bool .unit),.unit,rfl,tJ⟩
theorem IG:FnOK G0 Tryz.prog 321 Kz:=ai ah (sg ck (az)) Tryz.func321
noncomputable def fH(x:Ty.T (.pair (.nptr dg) (.pair (.int .i64) .unit))):Option (Ty.T (.pair (.int .i64) .unit)):=
aa x.1 fun v1=>
match(decide (x.2.1≥(v1.1.length:Int)))with
|true=>
 some ((1:Int),())
|false=>
 aa x.1 fun v2=>
 aa (aw v2.1 x.2.1) fun v3=>
 some (v3,())
noncomputable def js:Spec:=⟨_,(.pair (.int .i64) .unit),.unit,rfl,fH⟩
theorem ml:FnOK G0 Tryz.prog 267 js:=ai ah az Tryz.func267
noncomputable def bc(x:(Ty.T (.pair (.box (.pair (.list (.int .i64)) (.pair (.int .i64) (.pair (.own 2 (.int .i64)) .unit)))) (.pair (.int .i64) .unit)))):Option ((Ty.T (.pair (.box (.pair (.list (.int .i64)) (.pair (.int .i64) (.pair (.own 2 (.int .i64)) .unit)))) (.pair (.int .i64) .unit))) ⊕ ((Ty.T .unit) ⊕ (Ty.T (.pair (.box (.pair (.list (.int .i64)) (.pair (.int .i64) (.pair (.own 2 (.int .i64)) .unit)))) (.pair (.int .i64) .unit))))):=
a7 (x.1.2.2.1.length+ [x.2.1].length) (
 match fH ((some (x.1.1,x.1.2.1,(x.1.2.2.1++ [x.2.1]),())),(IntKind.i64.wrap (x.2.1+(76:Int))),())with
 |none=>none
 |some v1=>
 match(v1.1==(0:Int))with
 |true=>
  some (.inr (.inr ((x.1.1,x.1.2.1,(x.1.2.2.1++ [x.2.1]),()),(IntKind.i64.wrap (x.2.1+(72:Int))),())))
 |false=>
  match bj ((x.1.1,x.1.2.1,(x.1.2.2.1++ [x.2.1]),()),(IntKind.i64.wrap (x.2.1+(76:Int))),(0:Int),())with
  |none=>none
  |some v2=>
  match(decide (v2.1<(0:Int)))with
  |true=>
   some (.inr (.inr ((x.1.1,x.1.2.1,(x.1.2.2.1++ [x.2.1]),()),(-1:Int),())))
  |false=>
   match(decide (v2.1>(IntKind.i64.wrap ((IntKind.i64.wrap (x.2.1+(76:Int)))+(8:Int)))))with
   |true=>
    some (.inr (.inr ((x.1.1,x.1.2.1,(x.1.2.2.1++ [x.2.1]),()),(-1:Int),())))
   |false=>
    some (.inl ((x.1.1,x.1.2.1,(x.1.2.2.1++ [x.2.1]),()),v2.1,())))
noncomputable def cw(x:Ty.T (.pair (.box (.pair (.list (.int .i64)) (.pair (.int .i64) (.pair (.own 2 (.int .i64)) .unit)))) (.pair (.int .i64) .unit))):Option (Ty.T (.pair (.int .i64) (.pair (.box (.pair (.list (.int .i64)) (.pair (.int .i64) (.pair (.own 2 (.int .i64)) .unit)))) .unit))):=
match ac bc ((x.1.1,x.1.2.1,x.1.2.2.1,()),x.2.1,())with
|none=>none
|some (.inl v3)=>
 none
|some (.inr v4)=>
 some (v4.2.1,(v4.1.1,v4.1.2.1,v4.1.2.2.1,()),())
noncomputable def vG:Spec:=⟨_,(.pair (.int .i64) .unit),(.pair (.box (.pair (.list (.int .i64)) (.pair (.int .i64) (.pair (.own 2 (.int .i64)) .unit)))) .unit),rfl,cw⟩
noncomputable def lW:FuncId→Option Spec:=a8 [(267,js),(319,mk)]
theorem rQ:∀f s,lW f=some s→FnOK G0 Tryz.prog f s:=au ⟨ml,lV,trivial⟩
def lj:aF:=⟨[0,1],(.pair (.box (.pair (.list (.int .i64)) (.pair (.int .i64) (.pair (.own 2 (.int .i64)) .unit)))) (.pair (.int .i64) .unit)),999999,[],.unit,[0,4],(.pair (.box (.pair (.list (.int .i64)) (.pair (.int .i64) (.pair (.own 2 (.int .i64)) .unit)))) (.pair (.int .i64) .unit))⟩
noncomputable def lX:List ar:=[lj.spec bc]
theorem qE:aX aS E0 lW (aW Tryz.f322 lX) Tryz.f322 0 lj bc:=fun x=>by kernel_rfl
theorem ui:FnOK G0 Tryz.prog 322 vG:=ax ah rQ Tryz.func322 lX (by kernel_rfl) (by exact⟨(qE).lok,trivial⟩) fun x=>by kernel_rfl
noncomputable def jc(x:Ty.T (.pair (.box (.pair (.list (.int .i64)) (.pair (.int .i64) (.pair (.own 2 (.int .i64)) .unit)))) .unit)):Option (Ty.T (.pair (.int .i64) (.pair (.box (.pair (.list (.int .i64)) (.pair (.int .i64) (.pair (.own 2 (.int .i64)) .unit)))) .unit))):=
match bj ((x.1.1,x.1.2.1,x.1.2.2.1,()),(-1:Int),(0:Int),())with
|none=>none
|some v1=>
match(decide (v1.1<(0:Int)))with
|true=>
 some ((4:Int),(x.1.1,x.1.2.1,x.1.2.2.1,()),())
|false=>
 match bj ((x.1.1,x.1.2.1,x.1.2.2.1,()),v1.1,(1:Int),())with
 |none=>none
 |some v2=>
 match tI ((IntKind.i64.wrap (v2.1-v1.1)),())with
 |none=>none
 |some v3=>
 match tJ (v3.1,())with
 |none=>none
 |some v4=>
 match(!v4.1)with
 |true=>
  some ((6:Int),(x.1.1,v3.1,x.1.2.2.1,()),())
 |false=>
  match bj ((x.1.1,v3.1,x.1.2.2.1,()),v2.1,(0:Int),())with
  |none=>none
  |some v5=>
  match(decide (v5.1<(0:Int)))with
  |true=>
   some ((6:Int),(x.1.1,v3.1,x.1.2.2.1,()),())
  |false=>
   match(decide ((IntKind.i64.wrap (v5.1-v2.1))>(19:Int)))with
   |true=>
    some ((6:Int),(x.1.1,v3.1,x.1.2.2.1,()),())
   |false=>
    match(decide ((IntKind.i64.wrap (v5.1-v2.1))<(5:Int)))with
    |true=>
     some ((6:Int),(x.1.1,v3.1,x.1.2.2.1,()),())
    |false=>
     match((IntKind.i64.wrap (v5.1-v2.1))==(12:Int))with
     |true=>
      some ((6:Int),(x.1.1,v3.1,x.1.2.2.1,()),())
     |false=>
      match(decide ((IntKind.i64.wrap (v5.1-v2.1))≥(13:Int)))with
      |true=>
       match cw ((x.1.1,v3.1,x.1.2.2.1,()),v5.1,())with
       |none=>none
       |some v6=>
       match(decide (v6.1<(0:Int)))with
       |true=>
        some ((6:Int),(v6.2.1.1,v6.2.1.2.1,v6.2.1.2.2.1,()),())
       |false=>
        match bj ((v6.2.1.1,v6.2.1.2.1,v6.2.1.2.2.1,()),(IntKind.i64.wrap (v6.1+(11:Int))),(0:Int),())with
        |none=>none
        |some v7=>
        match(decide (v7.1≥(0:Int)))with
        |true=>
         some ((6:Int),(v6.2.1.1,v6.2.1.2.1,v6.2.1.2.2.1,()),())
        |false=>
         some ((0:Int),(v6.2.1.1,v6.2.1.2.1,v6.2.1.2.2.1,()),())
      |false=>
       match bj ((x.1.1,v3.1,x.1.2.2.1,()),(IntKind.i64.wrap (v5.1+(11:Int))),(0:Int),())with
       |none=>none
       |some v8=>
       match(decide (v8.1≥(0:Int)))with
       |true=>
        some ((6:Int),(x.1.1,v3.1,x.1.2.2.1,()),())
       |false=>
        some ((0:Int),(x.1.1,v3.1,x.1.2.2.1,()),())
noncomputable def AC:Spec:=⟨_,(.pair (.int .i64) .unit),(.pair (.box (.pair (.list (.int .i64)) (.pair (.int .i64) (.pair (.own 2 (.int .i64)) .unit)))) .unit),rfl,jc⟩
theorem yu:FnOK G0 Tryz.prog 302 AC:=ai ah (sg lV (sg IE (sg IG (sg ui (az))))) Tryz.func302
noncomputable def mM(x:Ty.T (.pair (.list (.int .i64)) .unit)):Option (Ty.T (.pair (.nptr dg) (.pair (.int .i64) .unit))):=
match mW (x.1,())with
|none=>none
|some v1=>
match(!v1.1)with
|true=>
 some (none,(1:Int),())
|false=>
 match jc ((x.1,(0:Int),[],()),())with
 |none=>none
 |some v2=>
 match(v2.1 != (0:Int))with
 |true=>
  some (none,v2.1,())
 |false=>
  some ((some (v2.2.1.1,v2.2.1.2.1,v2.2.1.2.2.1,())),(0:Int),())
noncomputable def vd:Spec:=⟨_,(.pair (.nptr dg) (.pair (.int .i64) .unit)),.unit,rfl,mM⟩
theorem Ga:FnOK G0 Tryz.prog 265 vd:=ai ah (sg px (sg yu (az))) Tryz.func265
noncomputable def iA(x:(Ty.T (.pair (.int .i64) (.pair (.own 2 (.int .i64)) (.pair (.int .i64) .unit))))):Option ((Ty.T (.pair (.int .i64) (.pair (.own 2 (.int .i64)) (.pair (.int .i64) .unit)))) ⊕ ((Ty.T (.pair (.own 2 (.int .i64)) .unit)) ⊕ (Ty.T .unit))):=
match(decide (x.2.2.1<(9:Int)))with
|true=>
 a7 (x.2.1.length+ [(IntKind.i64.wrap ((IntKind.i64.wrap (x.1+(IntKind.i64.wrap ((8:Int)*x.2.2.1))))+(12:Int)))].length) (
  some (.inl (x.1,(x.2.1++ [(IntKind.i64.wrap ((IntKind.i64.wrap (x.1+(IntKind.i64.wrap ((8:Int)*x.2.2.1))))+(12:Int)))]),(IntKind.i64.wrap (x.2.2.1+(1:Int))),())))
|false=>
 some (.inr (.inl (x.2.1,())))
noncomputable def ve(x:Ty.T (.pair (.int .i64) .unit)):Option (Ty.T (.pair (.own 2 (.int .i64)) .unit)):=
match ac iA (x.1,[],(0:Int),())with
|none=>none
|some (.inl v1)=>
 some (v1.1,())
|some (.inr v3)=>
 none
noncomputable def Ey:Spec:=⟨_,(.pair (.own 2 (.int .i64)) .unit),.unit,rfl,ve⟩
noncomputable def Cp:FuncId→Option Spec:=a8 []
theorem KA:∀f s,Cp f=some s→FnOK G0 Tryz.prog f s:=au trivial
def zQ:aF:=⟨[0,3,6],(.pair (.int .i64) (.pair (.own 2 (.int .i64)) (.pair (.int .i64) .unit))),0,[3],(.pair (.own 2 (.int .i64)) .unit),[],.unit⟩
noncomputable def Cq:List ar:=[zQ.spec iA]
theorem IH:aX aS E0 Cp (aW Tryz.f266 Cq) Tryz.f266 0 zQ iA:=fun x=>by kernel_rfl
theorem OJ:FnOK G0 Tryz.prog 266 Ey:=ax ah KA Tryz.func266 Cq (by kernel_rfl) (by exact⟨(IH).lok,trivial⟩) fun x=>by kernel_rfl
noncomputable def dH(x:(Ty.T (.pair (.nptr dg) (.pair (.own 2 (.int .i64)) (.pair (.int .i64) (.pair (.list (.int .i64)) (.pair (.int .i64) (.pair (.int .i64) (.pair (.own 2 (.int .i64)) ak))))))))):Option ((Ty.T (.pair (.nptr dg) (.pair (.own 2 (.int .i64)) (.pair (.int .i64) (.pair (.list (.int .i64)) (.pair (.int .i64) (.pair (.int .i64) (.pair (.own 2 (.int .i64)) ak)))))))) ⊕ ((Ty.T (.pair (.nptr dg) (.pair (.own 2 (.int .i64)) (.pair (.int .i64) (.pair (.list (.int .i64)) ak))))) ⊕ (Ty.T .unit))):=
match(decide (x.2.2.2.2.2.2.2.2.1<x.2.2.2.2.2.2.2.1))with
|true=>
 aa (aw x.2.2.2.2.2.2.1 x.2.2.2.2.2.2.2.2.1) fun _=>
 match x.2.2.2.2.2.2.1[x.2.2.2.2.2.2.2.2.1.toNat]? with
 |none=>none
 |some v7=>
 match fH (x.1,v7,())with
 |none=>none
 |some v8=>
 some (.inl (x.1,x.2.1,(IntKind.i64.wrap ((IntKind.i64.wrap ((2:Int)*x.2.2.1))+v8.1)),x.2.2.2.1,x.2.2.2.2.1,x.2.2.2.2.2.1,x.2.2.2.2.2.2.1,x.2.2.2.2.2.2.2.1,(IntKind.i64.wrap (x.2.2.2.2.2.2.2.2.1+(1:Int))),()))
|false=>
 some (.inr (.inl (x.1,x.2.1,x.2.2.1,x.2.2.2.1,x.2.2.2.2.1,x.2.2.2.2.2.1,())))
noncomputable def ej(x:(Ty.T (.pair (.nptr dg) (.pair (.own 2 (.int .i64)) (.pair (.list (.int .i64)) ak))))):Option ((Ty.T (.pair (.nptr dg) (.pair (.own 2 (.int .i64)) (.pair (.list (.int .i64)) ak)))) ⊕ ((Ty.T (.pair (.own 2 (.int .i64)) .unit)) ⊕ (Ty.T .unit))):=
match(decide (x.2.2.2.2.1<x.2.2.2.1))with
|true=>
 aa (aw x.2.2.1 x.2.2.2.2.1) fun v3=>
 match ve (v3,())with
 |none=>none
 |some v4=>
 aa (aC v4.1.length none (some (.dat (.int .i64) (8:Int)))) fun v5=>
 match ac dH (x.1,x.2.1,(0:Int),x.2.2.1,x.2.2.2.1,x.2.2.2.2.1,(List.take v5.2 v4.1),((List.take v5.2 v4.1).length:Int),(0:Int),())with
 |none=>none
 |some (.inl v6)=>
  a7 (v6.2.1.length+ [v6.2.2.1].length) (
   some (.inl (v6.1,(v6.2.1++ [v6.2.2.1]),v6.2.2.2.1,v6.2.2.2.2.1,(IntKind.i64.wrap (v6.2.2.2.2.2.1+(1:Int))),())))
 |some (.inr v8)=>
  some (.inr (.inr (())))
|false=>
 some (.inr (.inl (x.2.1,())))
noncomputable def mN(x:Ty.T (.pair (.list (.int .i64)) .unit)):Option (Ty.T (.pair (.own 2 (.int .i64)) (.pair (.int .i64) .unit))):=
match mM (x.1,())with
|none=>none
|some v1=>
match(v1.2.1 != (0:Int))with
|true=>
 some ([],v1.2.1,())
|false=>
 aa v1.1 fun v2=>
 match ac ej (v1.1,[],v2.2.2.1,(v2.2.2.1.length:Int),(0:Int),())with
 |none=>none
 |some (.inl v9)=>
  some (v9.1,(0:Int),())
 |some (.inr v11)=>
  none
noncomputable def II:Spec:=⟨_,(.pair (.own 2 (.int .i64)) (.pair (.int .i64) .unit)),.unit,rfl,mN⟩
noncomputable def mX:FuncId→Option Spec:=a8 [(265,vd),(266,Ey),(267,js)]
theorem Cr:∀f s,mX f=some s→FnOK G0 Tryz.prog f s:=au ⟨Ga,OJ,ml,trivial⟩
def rm:aF:=⟨[4,6,24,25,26],(.pair (.nptr dg) (.pair (.own 2 (.int .i64)) (.pair (.list (.int .i64)) ak))),0,[6],(.pair (.own 2 (.int .i64)) .unit),[],.unit⟩
def qe:aF:=⟨[4,6,9,24,25,26,32,33,34],(.pair (.nptr dg) (.pair (.own 2 (.int .i64)) (.pair (.int .i64) (.pair (.list (.int .i64)) (.pair (.int .i64) (.pair (.int .i64) (.pair (.own 2 (.int .i64)) ak))))))),2,[4,6,9,24,25,26],(.pair (.nptr dg) (.pair (.own 2 (.int .i64)) (.pair (.int .i64) (.pair (.list (.int .i64)) ak)))),[],.unit⟩
noncomputable def mY:List ar:=[rm.spec ej,qe.spec dH]
theorem AD:aX aS E0 mX (aW Tryz.f220 mY) Tryz.f220 0 rm ej:=fun x=>by kernel_rfl
theorem yv:aX aS E0 mX (aW Tryz.f220 mY) Tryz.f220 1 qe dH:=fun x=>by kernel_rfl
theorem Gb:FnOK G0 Tryz.prog 220 II:=ax ah Cr Tryz.func220 mY (by kernel_rfl) (by exact⟨(AD).lok,(yv).lok,trivial⟩) fun x=>by kernel_rfl
noncomputable def kD(x:Ty.T (.pair (.list (.int .i64)) .unit)):Option (Ty.T (.pair (.own 2 (.int .i64)) (.pair (.int .i64) .unit))):=
match mL (x.1,())with
|none=>none
|some v1=>
match(v1.2.1 != (0:Int))with
|true=>
 some ([],v1.2.1,())
|false=>
 match mN (v1.1,())with
 |none=>none
 |some v2=>
 some (v2.1,v2.2.1,())
noncomputable def DX:Spec:=⟨_,(.pair (.own 2 (.int .i64)) (.pair (.int .i64) .unit)),.unit,rfl,kD⟩
theorem Cs:FnOK G0 Tryz.prog 188 DX:=ai ah (sg F9 (sg Gb (az))) Tryz.func188
noncomputable def a9z(x:Ty.T (.pair ag (.pair ab .unit))):Option (Ty.T (.pair aZ .unit)):=
match lH (x.1.2.2.2.1,x.2.1.2.1,x.2.1.2.2.1,x.2.1.2.2.2.1,())with
|none=>none
|some v1=>
aa (aw x.1.2.2.2.1 v1.1) fun v2=>
some ((v2.2.2.2.1.1,v2.2.2.2.1.2.1,v2.2.2.2.1.2.2.1,v2.2.2.2.1.2.2.2.1,v2.2.2.2.1.2.2.2.2.1,()),())
noncomputable def rn:Spec:=⟨_,(.pair aZ .unit),.unit,rfl,a9z⟩
theorem dI:FnOK G0 Tryz.prog 81 rn:=ai ah (sg zH (az)) Tryz.func81
noncomputable def jt(x:Ty.T (.pair (.int .i64) .unit)):Option (Ty.T (.pair (.own 2 (.int .i64)) .unit)):=
some ([(Int.fdiv x.1 (2^min (16:Int).toNat IntKind.i64.bits)),(bits BinOp.and .i64 (Int.fdiv x.1 (2^min (8:Int).toNat IntKind.i64.bits)) (255:Int)),(bits BinOp.and .i64 x.1 (255:Int))],())
noncomputable def KB:Spec:=⟨_,(.pair (.own 2 (.int .i64)) .unit),.unit,rfl,jt⟩
theorem vf:FnOK G0 Tryz.prog 215 KB:=ai ah az Tryz.func215
noncomputable def eP(x:(Ty.T (.pair (.own 2 (.int .i64)) ak))):Option ((Ty.T (.pair (.own 2 (.int .i64)) ak)) ⊕ ((Ty.T (.pair (.own 2 (.int .i64)) .unit)) ⊕ (Ty.T .unit))):=
match(decide (x.2.2.1≥(0:Int)))with
|true=>
 if x.2.2.1<0 then none else
 a7 (x.1.length+ [(bits BinOp.and .i64 (Int.fdiv x.2.1 (2^min x.2.2.1.toNat IntKind.i64.bits)) (1:Int))].length) (
  some (.inl ((x.1++ [(bits BinOp.and .i64 (Int.fdiv x.2.1 (2^min x.2.2.1.toNat IntKind.i64.bits)) (1:Int))]),x.2.1,(IntKind.i64.wrap (x.2.2.1-(1:Int))),())))
|false=>
 some (.inr (.inl (x.1,())))
noncomputable def bq(x:Ty.T (.pair (.own 2 (.int .i64)) ak)):Option (Ty.T (.pair (.own 2 (.int .i64)) .unit)):=
match ac eP (x.1,x.2.1,(IntKind.i64.wrap (x.2.2.1-(1:Int))),())with
|none=>none
|some (.inl v1)=>
 some (v1.1,())
|some (.inr v3)=>
 none
noncomputable def mZ:Spec:=⟨_,(.pair (.own 2 (.int .i64)) .unit),.unit,rfl,bq⟩
noncomputable def ro:FuncId→Option Spec:=a8 []
theorem AE:∀f s,ro f=some s→FnOK G0 Tryz.prog f s:=au trivial
def qf:aF:=⟨[0,1,7],(.pair (.own 2 (.int .i64)) ak),0,[0],(.pair (.own 2 (.int .i64)) .unit),[],.unit⟩
noncomputable def rp:List ar:=[qf.spec eP]
theorem yw:aX aS E0 ro (aW Tryz.f213 rp) Tryz.f213 0 qf eP:=fun x=>by kernel_rfl
theorem l5:FnOK G0 Tryz.prog 213 mZ:=ax ah AE Tryz.func213 rp (by kernel_rfl) (by exact⟨(yw).lok,trivial⟩) fun x=>by kernel_rfl
noncomputable def iX(x:Ty.T (.pair ab .unit)):Option (Ty.T (.pair (.own 2 (.int .i64)) .unit)):=
match bq ([],x.1.1,(16:Int),())with
|none=>none
|some v1=>
match bq (v1.1,x.1.2.1,(4:Int),())with
|none=>none
|some v2=>
match bq (v2.1,x.1.2.2.1,(4:Int),())with
|none=>none
|some v3=>
match bq (v3.1,x.1.2.2.2.1,(8:Int),())with
|none=>none
|some v4=>
match bq (v4.1,x.1.2.2.2.2.1,(32:Int),())with
|none=>none
|some v5=>
some (v5.1,())
noncomputable def MA:Spec:=⟨_,(.pair (.own 2 (.int .i64)) .unit),.unit,rfl,iX⟩
theorem xi:FnOK G0 Tryz.prog 258 MA:=ai ah (sg l5 (az)) Tryz.func258
noncomputable def kl(x:Ty.T .unit):Option (Ty.T (.pair ak .unit)):=
some (((24:Int),(6122955:Int),()),())
noncomputable def IJ:Spec:=⟨_,(.pair ak .unit),.unit,rfl,kl⟩
theorem Gc:FnOK G0 Tryz.prog 260 IJ:=ai ah az Tryz.func260
noncomputable def dW(x:(Ty.T (.pair (.int .i64) (.pair (.box ak) (.pair (.list (.int .i64)) ak))))):Option ((Ty.T (.pair (.int .i64) (.pair (.box ak) (.pair (.list (.int .i64)) ak)))) ⊕ ((Ty.T (.pair (.int .i64) .unit)) ⊕ (Ty.T .unit))):=
match(decide (x.2.2.2.2.1<x.2.2.2.1))with
|true=>
 aa (aw x.2.2.1 x.2.2.2.2.1) fun v1=>
 if(IntKind.i64.wrap (x.2.1.1-(1:Int)))<0 then none else
 if x.2.1.1<0 then none else
 match((bits BinOp.xor .i64 v1 (Int.fdiv x.1 (2^min (IntKind.i64.wrap (x.2.1.1-(1:Int))).toNat IntKind.i64.bits)))==(1:Int))with
 |true=>
  some (.inl ((bits BinOp.xor .i64 (bits BinOp.and .i64 (IntKind.i64.wrap (x.1*2^min (1:Int).toNat IntKind.i64.bits)) (IntKind.i64.wrap ((IntKind.i64.wrap ((1:Int)*2^min x.2.1.1.toNat IntKind.i64.bits))-(1:Int)))) x.2.1.2.1),(x.2.1.1,x.2.1.2.1,()),x.2.2.1,x.2.2.2.1,(IntKind.i64.wrap (x.2.2.2.2.1+(1:Int))),()))
 |false=>
  some (.inl ((bits BinOp.and .i64 (IntKind.i64.wrap (x.1*2^min (1:Int).toNat IntKind.i64.bits)) (IntKind.i64.wrap ((IntKind.i64.wrap ((1:Int)*2^min x.2.1.1.toNat IntKind.i64.bits))-(1:Int)))),(x.2.1.1,x.2.1.2.1,()),x.2.2.1,x.2.2.2.1,(IntKind.i64.wrap (x.2.2.2.2.1+(1:Int))),()))
|false=>
 some (.inr (.inl (x.1,())))
noncomputable def lK(x:Ty.T (.pair ak (.pair (.int .i64) (.pair (.list (.int .i64)) .unit)))):Option (Ty.T (.pair (.int .i64) .unit)):=
match ac dW (x.2.1,(x.1.1,x.1.2.1,()),x.2.2.1,(x.2.2.1.length:Int),(0:Int),())with
|none=>none
|some (.inl v2)=>
 some (v2.1,())
|some (.inr v4)=>
 none
noncomputable def OK:Spec:=⟨_,(.pair (.int .i64) .unit),.unit,rfl,lK⟩
noncomputable def zR:FuncId→Option Spec:=a8 []
theorem IK:∀f s,zR f=some s→FnOK G0 Tryz.prog f s:=au trivial
def xj:aF:=⟨[1,3,10,11,12],(.pair (.int .i64) (.pair (.box ak) (.pair (.list (.int .i64)) ak))),0,[1],(.pair (.int .i64) .unit),[],.unit⟩
noncomputable def zS:List ar:=[xj.spec dW]
theorem Gd:aX aS E0 zR (aW Tryz.f261 zS) Tryz.f261 0 xj dW:=fun x=>by kernel_rfl
theorem MB:FnOK G0 Tryz.prog 261 OK:=ax ah IK Tryz.func261 zS (by kernel_rfl) (by exact⟨(Gd).lok,trivial⟩) fun x=>by kernel_rfl
noncomputable def hZ(x:(Ty.T (.pair (.own 2 (.int .i64)) (.pair (.list (.int .i64)) ak)))):Option ((Ty.T (.pair (.own 2 (.int .i64)) (.pair (.list (.int .i64)) ak))) ⊕ ((Ty.T (.pair (.own 2 (.int .i64)) .unit)) ⊕ (Ty.T .unit))):=
match(decide (x.2.2.2.1<x.2.2.1))with
|true=>
 aa (aw x.2.1 x.2.2.2.1) fun v1=>
 match bq (x.1,v1,(8:Int),())with
 |none=>none
 |some v2=>
 some (.inl (v2.1,x.2.1,x.2.2.1,(IntKind.i64.wrap (x.2.2.2.1+(1:Int))),()))
|false=>
 some (.inr (.inl (x.1,())))
noncomputable def m4(x:Ty.T (.pair (.list (.int .i64)) .unit)):Option (Ty.T (.pair (.own 2 (.int .i64)) .unit)):=
match ac hZ ([],x.1,(x.1.length:Int),(0:Int),())with
|none=>none
|some (.inl v3)=>
 some (v3.1,())
|some (.inr v5)=>
 none
noncomputable def SE:Spec:=⟨_,(.pair (.own 2 (.int .i64)) .unit),.unit,rfl,m4⟩
noncomputable def Ez:FuncId→Option Spec:=a8 [(213,mZ)]
theorem MC:∀f s,Ez f=some s→FnOK G0 Tryz.prog f s:=au ⟨l5,trivial⟩
def Ct:aF:=⟨[3,7,8,9],(.pair (.own 2 (.int .i64)) (.pair (.list (.int .i64)) ak)),0,[3],(.pair (.own 2 (.int .i64)) .unit),[],.unit⟩
noncomputable def EA:List ar:=[Ct.spec hZ]
theorem KC:aX aS E0 Ez (aW Tryz.f262 EA) Tryz.f262 0 Ct hZ:=fun x=>by kernel_rfl
theorem EB:FnOK G0 Tryz.prog 262 SE:=ax ah MC Tryz.func262 EA (by kernel_rfl) (by exact⟨(KC).lok,trivial⟩) fun x=>by kernel_rfl
noncomputable def gC(x:Ty.T (.pair (.int .i64) (.pair (.list (.int .i64)) (.pair (.int .i64) (.pair ab .unit))))):Option (Ty.T (.pair (.int .i64) .unit)):=
match(x.1==(0:Int))with
|true=>
 match kl (())with
 |none=>none
 |some v1=>
 match iX ((x.2.2.2.1.1,x.2.2.2.1.2.1,x.2.2.2.1.2.2.1,x.2.2.2.1.2.2.2.1,x.2.2.2.1.2.2.2.2.1,()),())with
 |none=>none
 |some v2=>
 match lK (v1.1,x.2.2.1,v2.1,())with
 |none=>none
 |some v3=>
 match kl (())with
 |none=>none
 |some v4=>
 match m4 (x.2.1,())with
 |none=>none
 |some v5=>
 match lK (v4.1,v3.1,v5.1,())with
 |none=>none
 |some v6=>
 some (v6.1,())
|false=>
 match kl (())with
 |none=>none
 |some v7=>
 match m4 (x.2.1,())with
 |none=>none
 |some v8=>
 match lK (v7.1,x.2.2.1,v8.1,())with
 |none=>none
 |some v9=>
 some (v9.1,())
noncomputable def IL:Spec:=⟨_,(.pair (.int .i64) .unit),.unit,rfl,gC⟩
theorem tK:FnOK G0 Tryz.prog 216 IL:=ai ah (sg xi (sg Gc (sg MB (sg EB (az))))) Tryz.func216
noncomputable def cB(x:(Ty.T (.pair (.list (.int .i64)) (.pair (.list (.int .i64)) ak)))):Option ((Ty.T (.pair (.list (.int .i64)) (.pair (.list (.int .i64)) ak))) ⊕ ((Ty.T .unit) ⊕ (Ty.T (.pair .bool .unit)))):=
match(decide (x.2.2.2.1<x.2.2.1))with
|true=>
 aa (aw x.1 x.2.2.2.1) fun v1=>
 aa (aw x.2.1 x.2.2.2.1) fun v2=>
 match(v1 != v2)with
 |true=>
  some (.inr (.inr (false,())))
 |false=>
  some (.inl (x.1,x.2.1,x.2.2.1,(IntKind.i64.wrap (x.2.2.2.1+(1:Int))),()))
|false=>
 some (.inr (.inl (())))
noncomputable def bd(x:Ty.T (.pair (.list (.int .i64)) (.pair (.list (.int .i64)) .unit))):Option (Ty.T (.pair .bool .unit)):=
match((x.1.length:Int) != (x.2.1.length:Int))with
|true=>
 some (false,())
|false=>
 match ac cB (x.1,x.2.1,(x.1.length:Int),(0:Int),())with
 |none=>none
 |some (.inl v3)=>
  some (true,())
 |some (.inr v4)=>
  some (v4.1,())
noncomputable def yx:Spec:=⟨_,(.pair .bool .unit),.unit,rfl,bd⟩
noncomputable def nv:FuncId→Option Spec:=a8 []
theorem uj:∀f s,nv f=some s→FnOK G0 Tryz.prog f s:=au trivial
def mm:aF:=⟨[0,1,12,13],(.pair (.list (.int .i64)) (.pair (.list (.int .i64)) ak)),0,[],.unit,[4],(.pair .bool .unit)⟩
noncomputable def nw:List ar:=[mm.spec cB]
theorem tL:aX aS E0 nv (aW Tryz.f223 nw) Tryz.f223 0 mm cB:=fun x=>by kernel_rfl
theorem ju:FnOK G0 Tryz.prog 223 yx:=ax ah uj Tryz.func223 nw (by kernel_rfl) (by exact⟨(tL).lok,trivial⟩) fun x=>by kernel_rfl
noncomputable def IM(x:Ty.T (.pair (.int .i64) .unit)):Option (Ty.T (.pair .bool .unit)):=
match bb (x.1,(0:Int),(16777215:Int),())with
|none=>none
|some v1=>
some (v1.1,())
noncomputable def UX:Spec:=⟨_,(.pair .bool .unit),.unit,rfl,IM⟩
theorem TQ:FnOK G0 Tryz.prog 268 UX:=ai ah (sg ck (az)) Tryz.func268
noncomputable def ll(x:Ty.T (.pair (.list (.int .i64)) .unit)):Option (Ty.T (.pair .bool .unit)):=
match(decide ((x.1.length:Int)≤(1024:Int)))with
|true=>
 match iW (x.1,(0:Int),(255:Int),())with
 |none=>none
 |some v1=>
 some (v1.1,())
|false=>
 some (false,())
noncomputable def Qw:Spec:=⟨_,(.pair .bool .unit),.unit,rfl,ll⟩
theorem Cu:FnOK G0 Tryz.prog 269 Qw:=ai ah (sg xh (az)) Tryz.func269
noncomputable def dJ(x:Ty.T (.pair (.list (.int .i64)) .unit)):Option (Ty.T (.pair (.own 2 (.int .i64)) .unit)):=
EV x.1 fun v1=>
match v1 with
|true=>
 some ([],())
|false=>
 a7 (([]:List (Ty.T (.int .i64))).length+x.1.length) (
  some ((([]:List (Ty.T (.int .i64)))++x.1),()))
noncomputable def oE:Spec:=⟨_,(.pair (.own 2 (.int .i64)) .unit),.unit,rfl,dJ⟩
theorem jv:FnOK G0 Tryz.prog 135 oE:=ai ah az Tryz.func135
noncomputable def fW(x:(Ty.T (.pair (.int .i64) (.pair (.list (.int .i64)) ak)))):Option ((Ty.T (.pair (.int .i64) (.pair (.list (.int .i64)) ak))) ⊕ ((Ty.T (.pair (.int .i64) .unit)) ⊕ (Ty.T .unit))):=
match(decide (x.2.2.2.1<x.2.2.1))with
|true=>
 aa (aw x.2.1 x.2.2.2.1) fun v1=>
 some (.inl ((IntKind.i64.wrap ((IntKind.i64.wrap ((2:Int)*x.1))+v1)),x.2.1,x.2.2.1,(IntKind.i64.wrap (x.2.2.2.1+(1:Int))),()))
|false=>
 some (.inr (.inl (x.1,())))
noncomputable def cx(x:Ty.T (.pair (.list (.int .i64)) .unit)):Option (Ty.T (.pair (.int .i64) .unit)):=
match ac fW ((0:Int),x.1,(x.1.length:Int),(0:Int),())with
|none=>none
|some (.inl v2)=>
 some (v2.1,())
|some (.inr v4)=>
 none
noncomputable def OL:Spec:=⟨_,(.pair (.int .i64) .unit),.unit,rfl,cx⟩
noncomputable def zT:FuncId→Option Spec:=a8 []
theorem IO:∀f s,zT f=some s→FnOK G0 Tryz.prog f s:=au trivial
def xk:aF:=⟨[3,6,7,8],(.pair (.int .i64) (.pair (.list (.int .i64)) ak)),0,[3],(.pair (.int .i64) .unit),[],.unit⟩
noncomputable def zU:List ar:=[xk.spec fW]
theorem Ge:aX aS E0 zT (aW Tryz.f298 zU) Tryz.f298 0 xk fW:=fun x=>by kernel_rfl
theorem zV:FnOK G0 Tryz.prog 298 OL:=ax ah IO Tryz.func298 zU (by kernel_rfl) (by exact⟨(Ge).lok,trivial⟩) fun x=>by kernel_rfl
noncomputable def Cv(x:Ty.T (.pair (.list (.int .i64)) .unit)):Option (Ty.T (.pair (.own 2 (.int .i64)) .unit)):=aa (iR cx x.1) fun s=>some (s,())
noncomputable def Qx:Spec:=⟨(.pair (.list (.int .i64)) .unit),(.pair (.own 2 (.int .i64)) .unit),.unit,rfl,Cv⟩
theorem OM:FnOK G0 Tryz.prog 257 Qx:=Sl (jI Tryz.func257 (by kernel_rfl) (show Tryz.f257.body=some (eK Tryz.f257) by kernel_rfl)) zV
noncomputable def ff(x:Ty.T (.pair aG .unit)):Option (Ty.T (.pair (.own 2 (.int .i64)) .unit)):=
match dU (x.1.1,())with
|none=>none
|some v1=>
match v1.1 with
|true=>
 match iX ((x.1.2.2.1.1,x.1.2.2.1.2.1,x.1.2.2.1.2.2.1,x.1.2.2.1.2.2.2.1,x.1.2.2.1.2.2.2.2.1,()),())with
 |none=>none
 |some v2=>
 match Cv (v2.1,())with
 |none=>none
 |some v3=>
 a7 ([(IntKind.i64.wrap ((IntKind.i64.wrap (x.1.1*(64:Int)))+(IntKind.i64.wrap (x.1.2.1*(8:Int)))))].length+v3.1.length) (
  match iI (x.1.1,())with
  |none=>none
  |some v4=>
  match v4.1 with
  |true=>
   a7 (([(IntKind.i64.wrap ((IntKind.i64.wrap (x.1.1*(64:Int)))+(IntKind.i64.wrap (x.1.2.1*(8:Int)))))]++v3.1).length+ [(x.1.2.2.2.1.length:Int)].length) (
    a7 ((([(IntKind.i64.wrap ((IntKind.i64.wrap (x.1.1*(64:Int)))+(IntKind.i64.wrap (x.1.2.1*(8:Int)))))]++v3.1)++ [(x.1.2.2.2.1.length:Int)]).length+x.1.2.2.2.1.length) (
     some (((([(IntKind.i64.wrap ((IntKind.i64.wrap (x.1.1*(64:Int)))+(IntKind.i64.wrap (x.1.2.1*(8:Int)))))]++v3.1)++ [(x.1.2.2.2.1.length:Int)])++x.1.2.2.2.1),())))
  |false=>
   some (([(IntKind.i64.wrap ((IntKind.i64.wrap (x.1.1*(64:Int)))+(IntKind.i64.wrap (x.1.2.1*(8:Int)))))]++v3.1),()))
|false=>
 match iI (x.1.1,())with
 |none=>none
 |some v5=>
 match v5.1 with
 |true=>
  a7 ([(IntKind.i64.wrap ((IntKind.i64.wrap (x.1.1*(64:Int)))+(IntKind.i64.wrap (x.1.2.1*(8:Int)))))].length+ [(x.1.2.2.2.1.length:Int)].length) (
   a7 (([(IntKind.i64.wrap ((IntKind.i64.wrap (x.1.1*(64:Int)))+(IntKind.i64.wrap (x.1.2.1*(8:Int)))))]++ [(x.1.2.2.2.1.length:Int)]).length+x.1.2.2.2.1.length) (
    some ((([(IntKind.i64.wrap ((IntKind.i64.wrap (x.1.1*(64:Int)))+(IntKind.i64.wrap (x.1.2.1*(8:Int)))))]++ [(x.1.2.2.2.1.length:Int)])++x.1.2.2.2.1),())))
 |false=>
  some ([(IntKind.i64.wrap ((IntKind.i64.wrap (x.1.1*(64:Int)))+(IntKind.i64.wrap (x.1.2.1*(8:Int)))))],())
noncomputable def SF:Spec:=⟨_,(.pair (.own 2 (.int .i64)) .unit),.unit,rfl,ff⟩
theorem EC:FnOK G0 Tryz.prog 214 SF:=ai ah (sg iz (sg OM (sg xi (sg tx (az))))) Tryz.func214
noncomputable def eo(x:Ty.T (.pair aG .unit)):Option (Ty.T (.pair .bool .unit)):=
match tw (x.1.1,())with
|none=>none
|some v1=>
match(!v1.1)with
|true=>
 some (false,())
|false=>
 match bb (x.1.2.1,(0:Int),(7:Int),())with
 |none=>none
 |some v2=>
 match(!v2.1)with
 |true=>
  some (false,())
 |false=>
  match kZ (x.1.1,(x.1.2.2.2.1.length:Int),())with
  |none=>none
  |some v3=>
  match(!v3.1)with
  |true=>
   some (false,())
  |false=>
   match ll (x.1.2.2.2.1,())with
   |none=>none
   |some v4=>
   match(!v4.1)with
   |true=>
    some (false,())
   |false=>
    match(x.1.1==(0:Int))with
    |true=>
     some ((dz ab (x.1.2.2.1.1,x.1.2.2.1.2.1,x.1.2.2.1.2.2.1,x.1.2.2.1.2.2.2.1,x.1.2.2.1.2.2.2.2.1,()) ((0:Int),(0:Int),(0:Int),(0:Int),(0:Int),())),())
    |false=>
     match(x.1.1==(3:Int))with
     |true=>
      match eN ((x.1.2.2.1.1,x.1.2.2.1.2.1,x.1.2.2.1.2.2.1,x.1.2.2.1.2.2.2.1,x.1.2.2.1.2.2.2.2.1,()),())with
      |none=>none
      |some v5=>
      match v5.1 with
      |true=>
       match(x.1.2.2.1.2.1==(0:Int))with
       |true=>
        match(x.1.2.2.1.2.2.2.2.1 != (0:Int))with
        |true=>
         match((bits BinOp.and .i64 x.1.2.2.1.2.2.2.2.1 (IntKind.i64.wrap (x.1.2.2.1.2.2.2.2.1-(1:Int))))==(0:Int))with
         |true=>
          some ((x.1.2.1==(0:Int)),())
         |false=>
          some (false,())
        |false=>
         some (false,())
       |false=>
        some (false,())
      |false=>
       some (false,())
     |false=>
      match eN ((x.1.2.2.1.1,x.1.2.2.1.2.1,x.1.2.2.1.2.2.1,x.1.2.2.1.2.2.2.1,x.1.2.2.1.2.2.2.2.1,()),())with
      |none=>none
      |some v6=>
      some (v6.1,())
noncomputable def Qy:Spec:=⟨_,(.pair .bool .unit),.unit,rfl,eo⟩
theorem Cw:FnOK G0 Tryz.prog 292 Qy:=ai ah (sg ck (sg oB (sg Cu (sg Ew (sg u7 (az)))))) Tryz.func292
noncomputable def py(x:Ty.T (.pair (.list (.int .i64)) .unit)):Option (Ty.T (.pair ab .unit)):=
aa (aC x.1.length none (some (.dat (.int .i64) (16:Int)))) fun v1=>
aa (aC x.1.length (some (.dat (.int .i64) (16:Int))) (some (.dat (.int .i64) (20:Int)))) fun v2=>
aa (aC x.1.length (some (.dat (.int .i64) (20:Int))) (some (.dat (.int .i64) (24:Int)))) fun v3=>
aa (aC x.1.length (some (.dat (.int .i64) (24:Int))) (some (.dat (.int .i64) (32:Int)))) fun v4=>
aa (aC x.1.length (some (.dat (.int .i64) (32:Int))) (some (.dat (.int .i64) (64:Int)))) fun v5=>
match cx ((List.drop v1.1 (List.take v1.2 x.1)),())with
|none=>none
|some v6=>
match cx ((List.drop v2.1 (List.take v2.2 x.1)),())with
|none=>none
|some v7=>
match cx ((List.drop v3.1 (List.take v3.2 x.1)),())with
|none=>none
|some v8=>
match cx ((List.drop v4.1 (List.take v4.2 x.1)),())with
|none=>none
|some v9=>
match cx ((List.drop v5.1 (List.take v5.2 x.1)),())with
|none=>none
|some v10=>
some ((v6.1,v7.1,v8.1,v9.1,v10.1,()),())
noncomputable def MD:Spec:=⟨_,(.pair ab .unit),.unit,rfl,py⟩
theorem KD:FnOK G0 Tryz.prog 303 MD:=ai ah (sg zV (az)) Tryz.func303
noncomputable def pz(x:Ty.T (.pair (.list (.int .i64)) .unit)):Option (Ty.T (.pair (.pair (.int .i64) (.pair (.int .i64) (.pair ab (.pair (.own 2 (.int .i64)) .unit)))) (.pair .bool .unit))):=
match((x.1.length:Int)==(0:Int))with
|true=>
 some (((0:Int),(0:Int),((0:Int),(0:Int),(0:Int),(0:Int),(0:Int),()),[],()),false,())
|false=>
 aa (aw x.1 (0:Int)) fun v1=>
 aa (aw x.1 (0:Int)) fun v2=>
 aa (aC x.1.length (some (.dat (.int .i64) (1:Int))) none) fun v3=>
 aL (
  match dU ((IntKind.i64.wrap (Int.tdiv v1 (64:Int))),())with
  |none=>none
  |some v4=>
  match v4.1 with
  |true=>
   match(decide (((List.drop v3.1 (List.take v3.2 x.1)).length:Int)<(8:Int)))with
   |true=>
    some (((0:Int),(0:Int),((0:Int),(0:Int),(0:Int),(0:Int),(0:Int),()),[],()),false,())
   |false=>
    aa (aC (List.drop v3.1 (List.take v3.2 x.1)).length none (some (.dat (.int .i64) (8:Int)))) fun v5=>
    match m4 ((List.drop v5.1 (List.take v5.2 (List.drop v3.1 (List.take v3.2 x.1)))),())with
    |none=>none
    |some v6=>
    match py (v6.1,())with
    |none=>none
    |some v7=>
    aa (aC (List.drop v3.1 (List.take v3.2 x.1)).length (some (.dat (.int .i64) (8:Int))) none) fun v8=>
    match iI ((IntKind.i64.wrap (Int.tdiv v1 (64:Int))),())with
    |none=>none
    |some v9=>
    match v9.1 with
    |true=>
     match(decide (((List.drop v8.1 (List.take v8.2 (List.drop v3.1 (List.take v3.2 x.1)))).length:Int)>(0:Int)))with
     |true=>
      aa (aC (List.drop v8.1 (List.take v8.2 (List.drop v3.1 (List.take v3.2 x.1)))).length (some (.dat (.int .i64) (1:Int))) none) fun v10=>
      match dJ ((List.drop v10.1 (List.take v10.2 (List.drop v8.1 (List.take v8.2 (List.drop v3.1 (List.take v3.2 x.1)))))),())with
      |none=>none
      |some v11=>
      match eo (((IntKind.i64.wrap (Int.tdiv v1 (64:Int))),(Int.tmod (IntKind.i64.wrap (Int.tdiv v2 (8:Int))) (8:Int)),(v7.1.1,v7.1.2.1,v7.1.2.2.1,v7.1.2.2.2.1,v7.1.2.2.2.2.1,()),v11.1,()),())with
      |none=>none
      |some v12=>
      match(!v12.1)with
      |true=>
       some (((0:Int),(0:Int),((0:Int),(0:Int),(0:Int),(0:Int),(0:Int),()),[],()),false,())
      |false=>
       match ff (((IntKind.i64.wrap (Int.tdiv v1 (64:Int))),(Int.tmod (IntKind.i64.wrap (Int.tdiv v2 (8:Int))) (8:Int)),(v7.1.1,v7.1.2.1,v7.1.2.2.1,v7.1.2.2.2.1,v7.1.2.2.2.2.1,()),v11.1,()),())with
       |none=>none
       |some v13=>
       match bd (v13.1,x.1,())with
       |none=>none
       |some v14=>
       match(!v14.1)with
       |true=>
        some (((0:Int),(0:Int),((0:Int),(0:Int),(0:Int),(0:Int),(0:Int),()),[],()),false,())
       |false=>
        some (((IntKind.i64.wrap (Int.tdiv v1 (64:Int))),(Int.tmod (IntKind.i64.wrap (Int.tdiv v2 (8:Int))) (8:Int)),(v7.1.1,v7.1.2.1,v7.1.2.2.1,v7.1.2.2.2.1,v7.1.2.2.2.2.1,()),v11.1,()),true,())
     |false=>
      match eo (((IntKind.i64.wrap (Int.tdiv v1 (64:Int))),(Int.tmod (IntKind.i64.wrap (Int.tdiv v2 (8:Int))) (8:Int)),(v7.1.1,v7.1.2.1,v7.1.2.2.1,v7.1.2.2.2.1,v7.1.2.2.2.2.1,()),[],()),())with
      |none=>none
      |some v15=>
      match(!v15.1)with
      |true=>
       some (((0:Int),(0:Int),((0:Int),(0:Int),(0:Int),(0:Int),(0:Int),()),[],()),false,())
      |false=>
       match ff (((IntKind.i64.wrap (Int.tdiv v1 (64:Int))),(Int.tmod (IntKind.i64.wrap (Int.tdiv v2 (8:Int))) (8:Int)),(v7.1.1,v7.1.2.1,v7.1.2.2.1,v7.1.2.2.2.1,v7.1.2.2.2.2.1,()),[],()),())with
       |none=>none
       |some v16=>
       match bd (v16.1,x.1,())with
       |none=>none
       |some v17=>
       match(!v17.1)with
       |true=>
        some (((0:Int),(0:Int),((0:Int),(0:Int),(0:Int),(0:Int),(0:Int),()),[],()),false,())
       |false=>
        some (((IntKind.i64.wrap (Int.tdiv v1 (64:Int))),(Int.tmod (IntKind.i64.wrap (Int.tdiv v2 (8:Int))) (8:Int)),(v7.1.1,v7.1.2.1,v7.1.2.2.1,v7.1.2.2.2.1,v7.1.2.2.2.2.1,()),[],()),true,())
    |false=>
     match eo (((IntKind.i64.wrap (Int.tdiv v1 (64:Int))),(Int.tmod (IntKind.i64.wrap (Int.tdiv v2 (8:Int))) (8:Int)),(v7.1.1,v7.1.2.1,v7.1.2.2.1,v7.1.2.2.2.1,v7.1.2.2.2.2.1,()),[],()),())with
     |none=>none
     |some v18=>
     match(!v18.1)with
     |true=>
      some (((0:Int),(0:Int),((0:Int),(0:Int),(0:Int),(0:Int),(0:Int),()),[],()),false,())
     |false=>
      match ff (((IntKind.i64.wrap (Int.tdiv v1 (64:Int))),(Int.tmod (IntKind.i64.wrap (Int.tdiv v2 (8:Int))) (8:Int)),(v7.1.1,v7.1.2.1,v7.1.2.2.1,v7.1.2.2.2.1,v7.1.2.2.2.2.1,()),[],()),())with
      |none=>none
      |some v19=>
      match bd (v19.1,x.1,())with
      |none=>none
      |some v20=>
      match(!v20.1)with
      |true=>
       some (((0:Int),(0:Int),((0:Int),(0:Int),(0:Int),(0:Int),(0:Int),()),[],()),false,())
      |false=>
       some (((IntKind.i64.wrap (Int.tdiv v1 (64:Int))),(Int.tmod (IntKind.i64.wrap (Int.tdiv v2 (8:Int))) (8:Int)),(v7.1.1,v7.1.2.1,v7.1.2.2.1,v7.1.2.2.2.1,v7.1.2.2.2.2.1,()),[],()),true,())
  |false=>
   match iI ((IntKind.i64.wrap (Int.tdiv v1 (64:Int))),())with
   |none=>none
   |some v21=>
   match v21.1 with
   |true=>
    match(decide (((List.drop v3.1 (List.take v3.2 x.1)).length:Int)>(0:Int)))with
    |true=>
     aa (aC (List.drop v3.1 (List.take v3.2 x.1)).length (some (.dat (.int .i64) (1:Int))) none) fun v22=>
     match dJ ((List.drop v22.1 (List.take v22.2 (List.drop v3.1 (List.take v3.2 x.1)))),())with
     |none=>none
     |some v23=>
     match eo (((IntKind.i64.wrap (Int.tdiv v1 (64:Int))),(Int.tmod (IntKind.i64.wrap (Int.tdiv v2 (8:Int))) (8:Int)),((0:Int),(0:Int),(0:Int),(0:Int),(0:Int),()),v23.1,()),())with
     |none=>none
     |some v24=>
     match(!v24.1)with
     |true=>
      some (((0:Int),(0:Int),((0:Int),(0:Int),(0:Int),(0:Int),(0:Int),()),[],()),false,())
     |false=>
      match ff (((IntKind.i64.wrap (Int.tdiv v1 (64:Int))),(Int.tmod (IntKind.i64.wrap (Int.tdiv v2 (8:Int))) (8:Int)),((0:Int),(0:Int),(0:Int),(0:Int),(0:Int),()),v23.1,()),())with
      |none=>none
      |some v25=>
      match bd (v25.1,x.1,())with
      |none=>none
      |some v26=>
      match(!v26.1)with
      |true=>
       some (((0:Int),(0:Int),((0:Int),(0:Int),(0:Int),(0:Int),(0:Int),()),[],()),false,())
      |false=>
       some (((IntKind.i64.wrap (Int.tdiv v1 (64:Int))),(Int.tmod (IntKind.i64.wrap (Int.tdiv v2 (8:Int))) (8:Int)),((0:Int),(0:Int),(0:Int),(0:Int),(0:Int),()),v23.1,()),true,())
    |false=>
     match eo (((IntKind.i64.wrap (Int.tdiv v1 (64:Int))),(Int.tmod (IntKind.i64.wrap (Int.tdiv v2 (8:Int))) (8:Int)),((0:Int),(0:Int),(0:Int),(0:Int),(0:Int),()),[],()),())with
     |none=>none
     |some v27=>
     match(!v27.1)with
     |true=>
      some (((0:Int),(0:Int),((0:Int),(0:Int),(0:Int),(0:Int),(0:Int),()),[],()),false,())
     |false=>
      match ff (((IntKind.i64.wrap (Int.tdiv v1 (64:Int))),(Int.tmod (IntKind.i64.wrap (Int.tdiv v2 (8:Int))) (8:Int)),((0:Int),(0:Int),(0:Int),(0:Int),(0:Int),()),[],()),())with
      |none=>none
      |some v28=>
      match bd (v28.1,x.1,())with
      |none=>none
      |some v29=>
      match(!v29.1)with
      |true=>
       some (((0:Int),(0:Int),((0:Int),(0:Int),(0:Int),(0:Int),(0:Int),()),[],()),false,())
      |false=>
       some (((IntKind.i64.wrap (Int.tdiv v1 (64:Int))),(Int.tmod (IntKind.i64.wrap (Int.tdiv v2 (8:Int))) (8:Int)),((0:Int),(0:Int),(0:Int),(0:Int),(0:Int),()),[],()),true,())
   |false=>
    match eo (((IntKind.i64.wrap (Int.tdiv v1 (64:Int))),(Int.tmod (IntKind.i64.wrap (Int.tdiv v2 (8:Int))) (8:Int)),((0:Int),(0:Int),(0:Int),(0:Int),(0:Int),()),[],()),())with
    |none=>none
    |some v30=>
    match(!v30.1)with
    |true=>
     some (((0:Int),(0:Int),((0:Int),(0:Int),(0:Int),(0:Int),(0:Int),()),[],()),false,())
    |false=>
     match ff (((IntKind.i64.wrap (Int.tdiv v1 (64:Int))),(Int.tmod (IntKind.i64.wrap (Int.tdiv v2 (8:Int))) (8:Int)),((0:Int),(0:Int),(0:Int),(0:Int),(0:Int),()),[],()),())with
     |none=>none
     |some v31=>
     match bd (v31.1,x.1,())with
     |none=>none
     |some v32=>
     match(!v32.1)with
     |true=>
      some (((0:Int),(0:Int),((0:Int),(0:Int),(0:Int),(0:Int),(0:Int),()),[],()),false,())
     |false=>
      some (((IntKind.i64.wrap (Int.tdiv v1 (64:Int))),(Int.tmod (IntKind.i64.wrap (Int.tdiv v2 (8:Int))) (8:Int)),((0:Int),(0:Int),(0:Int),(0:Int),(0:Int),()),[],()),true,()))
noncomputable def ME:Spec:=⟨_,(.pair (.pair (.int .i64) (.pair (.int .i64) (.pair ab (.pair (.own 2 (.int .i64)) .unit)))) (.pair .bool .unit)),.unit,rfl,pz⟩
theorem KE:FnOK G0 Tryz.prog 270 ME:=ai ah (sg jv (sg EC (sg ju (sg iz (sg tx (sg EB (sg Cw (sg KD (az))))))))) Tryz.func270
noncomputable def mn(x:Ty.T (.pair (.list (.int .i64)) (.pair (.int .i64) (.pair ab .unit)))):Option (Ty.T (.pair (.pair (.int .i64) (.pair (.int .i64) (.pair ab (.pair (.own 2 (.int .i64)) .unit)))) (.pair (.int .i64) .unit))):=
match eN ((x.2.2.1.1,x.2.2.1.2.1,x.2.2.1.2.2.1,x.2.2.1.2.2.2.1,x.2.2.1.2.2.2.2.1,()),())with
|none=>none
|some v1=>
match(!v1.1)with
|true=>
 some (((0:Int),(0:Int),((0:Int),(0:Int),(0:Int),(0:Int),(0:Int),()),[],()),(1:Int),())
|false=>
 match IM (x.2.1,())with
 |none=>none
 |some v2=>
 match(!v2.1)with
 |true=>
  some (((0:Int),(0:Int),((0:Int),(0:Int),(0:Int),(0:Int),(0:Int),()),[],()),(2:Int),())
 |false=>
  match ll (x.1,())with
  |none=>none
  |some v3=>
  match(!v3.1)with
  |true=>
   some (((0:Int),(0:Int),((0:Int),(0:Int),(0:Int),(0:Int),(0:Int),()),[],()),(2:Int),())
  |false=>
   match(decide ((IntKind.i64.wrap ((x.1.length:Int)-(3:Int)))<(1:Int)))with
   |true=>
    some (((0:Int),(0:Int),((0:Int),(0:Int),(0:Int),(0:Int),(0:Int),()),[],()),(6:Int),())
   |false=>
    aa (aw x.1 (0:Int)) fun v4=>
    aa (aC x.1.length none (some (.dat (.int .i64) (IntKind.i64.wrap ((x.1.length:Int)-(3:Int)))))) fun v5=>
    aa (aC x.1.length (some (.dat (.int .i64) (IntKind.i64.wrap ((x.1.length:Int)-(3:Int))))) none) fun v6=>
    match gC ((IntKind.i64.wrap (Int.tdiv v4 (64:Int))),(List.drop v5.1 (List.take v5.2 x.1)),x.2.1,(x.2.2.1.1,x.2.2.1.2.1,x.2.2.1.2.2.1,x.2.2.1.2.2.2.1,x.2.2.1.2.2.2.2.1,()),())with
    |none=>none
    |some v7=>
    match jt (v7.1,())with
    |none=>none
    |some v8=>
    match bd (v8.1,(List.drop v6.1 (List.take v6.2 x.1)),())with
    |none=>none
    |some v9=>
    match(!v9.1)with
    |true=>
     some (((0:Int),(0:Int),((0:Int),(0:Int),(0:Int),(0:Int),(0:Int),()),[],()),(7:Int),())
    |false=>
     aa (aC x.1.length none (some (.dat (.int .i64) (IntKind.i64.wrap ((x.1.length:Int)-(3:Int)))))) fun v10=>
     match pz ((List.drop v10.1 (List.take v10.2 x.1)),())with
     |none=>none
     |some v11=>
     match(!v11.2.1)with
     |true=>
      some (((0:Int),(0:Int),((0:Int),(0:Int),(0:Int),(0:Int),(0:Int),()),[],()),(6:Int),())
     |false=>
      match dU (v11.1.1,())with
      |none=>none
      |some v12=>
      match v12.1 with
      |true=>
       match(!(dz ab (v11.1.2.2.1.1,v11.1.2.2.1.2.1,v11.1.2.2.1.2.2.1,v11.1.2.2.1.2.2.2.1,v11.1.2.2.1.2.2.2.2.1,()) (x.2.2.1.1,x.2.2.1.2.1,x.2.2.1.2.2.1,x.2.2.1.2.2.2.1,x.2.2.1.2.2.2.2.1,())))with
       |true=>
        some (((0:Int),(0:Int),((0:Int),(0:Int),(0:Int),(0:Int),(0:Int),()),[],()),(5:Int),())
       |false=>
        some ((v11.1.1,v11.1.2.1,(v11.1.2.2.1.1,v11.1.2.2.1.2.1,v11.1.2.2.1.2.2.1,v11.1.2.2.1.2.2.2.1,v11.1.2.2.1.2.2.2.2.1,()),v11.1.2.2.2.1,()),(0:Int),())
      |false=>
       some ((v11.1.1,v11.1.2.1,(v11.1.2.2.1.1,v11.1.2.2.1.2.1,v11.1.2.2.1.2.2.1,v11.1.2.2.1.2.2.2.1,v11.1.2.2.1.2.2.2.2.1,()),v11.1.2.2.2.1,()),(0:Int),())
noncomputable def MF:Spec:=⟨_,(.pair (.pair (.int .i64) (.pair (.int .i64) (.pair ab (.pair (.own 2 (.int .i64)) .unit)))) (.pair (.int .i64) .unit)),.unit,rfl,mn⟩
theorem KF:FnOK G0 Tryz.prog 221 MF:=ai ah (sg oB (sg vf (sg tK (sg ju (sg iz (sg TQ (sg Cu (sg KE (az))))))))) Tryz.func221
noncomputable def tM(x:Ty.T (.pair aZ (.pair aG .unit))):Option (Ty.T (.pair .bool .unit)):=
match(x.2.1.1==x.1.2.1)with
|true=>
 match((x.2.1.2.2.2.1.length:Int)==x.1.2.2.1)with
 |true=>
  match(x.2.1.2.1==(0:Int))with
  |true=>
   some (true,())
  |false=>
   some (x.1.2.2.2.2.1,())
 |false=>
  some (false,())
|false=>
 some (false,())
noncomputable def UY:Spec:=⟨_,(.pair .bool .unit),.unit,rfl,tM⟩
theorem Lz:FnOK G0 Tryz.prog 222 UY:=ai ah az Tryz.func222
noncomputable def xl(x:Ty.T (.pair ag (.pair ab (.pair (.list (.int .i64)) .unit)))):Option (Ty.T (.pair (.pair (.int .i64) (.pair (.pair (.int .i64) (.pair (.int .i64) (.pair ab (.pair (.own 2 (.int .i64)) .unit)))) .unit)) (.pair (.int .i64) .unit))):=
match mn (x.2.2.1,x.1.1,(x.2.1.1,x.2.1.2.1,x.2.1.2.2.1,x.2.1.2.2.2.1,x.2.1.2.2.2.2.1,()),())with
|none=>none
|some v1=>
match(v1.2.1==(0:Int))with
|true=>
 match a9z ((x.1.1,x.1.2.1,x.1.2.2.1,x.1.2.2.2.1,()),(x.2.1.1,x.2.1.2.1,x.2.1.2.2.1,x.2.1.2.2.2.1,x.2.1.2.2.2.2.1,()),())with
 |none=>none
 |some v2=>
 match tM (v2.1,(v1.1.1,v1.1.2.1,(v1.1.2.2.1.1,v1.1.2.2.1.2.1,v1.1.2.2.1.2.2.1,v1.1.2.2.1.2.2.2.1,v1.1.2.2.1.2.2.2.2.1,()),v1.1.2.2.2.1,()),())with
 |none=>none
 |some v3=>
 match(!v3.1)with
 |true=>
  match((5:Int) != (0:Int))with
  |true=>
   some (((2:Int),((0:Int),(0:Int),((0:Int),(0:Int),(0:Int),(0:Int),(0:Int),()),[],()),()),(5:Int),())
  |false=>
   some (((3:Int),(v1.1.1,v1.1.2.1,(v1.1.2.2.1.1,v1.1.2.2.1.2.1,v1.1.2.2.1.2.2.1,v1.1.2.2.1.2.2.2.1,v1.1.2.2.1.2.2.2.2.1,()),v1.1.2.2.2.1,()),()),(0:Int),())
 |false=>
  match(v1.2.1 != (0:Int))with
  |true=>
   some (((2:Int),((0:Int),(0:Int),((0:Int),(0:Int),(0:Int),(0:Int),(0:Int),()),[],()),()),v1.2.1,())
  |false=>
   some (((3:Int),(v1.1.1,v1.1.2.1,(v1.1.2.2.1.1,v1.1.2.2.1.2.1,v1.1.2.2.1.2.2.1,v1.1.2.2.1.2.2.2.1,v1.1.2.2.1.2.2.2.2.1,()),v1.1.2.2.2.1,()),()),(0:Int),())
|false=>
 match(v1.2.1 != (0:Int))with
 |true=>
  some (((2:Int),((0:Int),(0:Int),((0:Int),(0:Int),(0:Int),(0:Int),(0:Int),()),[],()),()),v1.2.1,())
 |false=>
  some (((3:Int),(v1.1.1,v1.1.2.1,(v1.1.2.2.1.1,v1.1.2.2.1.2.1,v1.1.2.2.1.2.2.1,v1.1.2.2.1.2.2.2.1,v1.1.2.2.1.2.2.2.2.1,()),v1.1.2.2.2.1,()),()),(0:Int),())
noncomputable def TR:Spec:=⟨_,(.pair (.pair (.int .i64) (.pair (.pair (.int .i64) (.pair (.int .i64) (.pair ab (.pair (.own 2 (.int .i64)) .unit)))) .unit)) (.pair (.int .i64) .unit)),.unit,rfl,xl⟩
theorem SG:FnOK G0 Tryz.prog 189 TR:=ai ah (sg dI (sg KF (sg Lz (az)))) Tryz.func189
noncomputable def qg(x:Ty.T (.pair ag (.pair ab (.pair (.list (.int .i64)) .unit)))):Option (Ty.T (.pair (.pair (.int .i64) (.pair (.pair (.int .i64) (.pair (.int .i64) (.pair ab (.pair (.own 2 (.int .i64)) .unit)))) .unit)) (.pair (.int .i64) .unit))):=
match kD (x.2.2.1,())with
|none=>none
|some v1=>
match(v1.2.1==(0:Int))with
|true=>
 match xl ((x.1.1,x.1.2.1,x.1.2.2.1,x.1.2.2.2.1,()),(x.2.1.1,x.2.1.2.1,x.2.1.2.2.1,x.2.1.2.2.2.1,x.2.1.2.2.2.2.1,()),v1.1,())with
 |none=>none
 |some v2=>
 some ((v2.1.1,(v2.1.2.1.1,v2.1.2.1.2.1,(v2.1.2.1.2.2.1.1,v2.1.2.1.2.2.1.2.1,v2.1.2.1.2.2.1.2.2.1,v2.1.2.1.2.2.1.2.2.2.1,v2.1.2.1.2.2.1.2.2.2.2.1,()),v2.1.2.1.2.2.2.1,()),()),v2.2.1,())
|false=>
 match(v1.2.1==(4:Int))with
 |true=>
  some (((0:Int),((0:Int),(0:Int),((0:Int),(0:Int),(0:Int),(0:Int),(0:Int),()),[],()),()),v1.2.1,())
 |false=>
  some (((1:Int),((0:Int),(0:Int),((0:Int),(0:Int),(0:Int),(0:Int),(0:Int),()),[],()),()),v1.2.1,())
noncomputable def Qz:Spec:=⟨_,(.pair (.pair (.int .i64) (.pair (.pair (.int .i64) (.pair (.int .i64) (.pair ab (.pair (.own 2 (.int .i64)) .unit)))) .unit)) (.pair (.int .i64) .unit)),.unit,rfl,qg⟩
theorem ON:FnOK G0 Tryz.prog 139 Qz:=ai ah (sg Cs (sg SG (az))) Tryz.func139
noncomputable def eH(x:Ty.T (.pair ag (.pair ab (.pair (.list (.int .i64)) .unit)))):Option (Ty.T (.pair (.pair (.int .i64) (.pair (.pair (.int .i64) (.pair (.int .i64) (.pair ab (.pair (.own 2 (.int .i64)) .unit)))) .unit)) (.pair (.int .i64) .unit))):=
match mW (x.2.2.1,())with
|none=>none
|some v1=>
match qC ((x.1.1,x.1.2.1,x.1.2.2.1,x.1.2.2.2.1,()),(x.2.1.1,x.2.1.2.1,x.2.1.2.2.1,x.2.1.2.2.2.1,x.2.1.2.2.2.2.1,()),v1.1,())with
|none=>none
|some v2=>
match(v2.1 != (0:Int))with
|true=>
 some (((0:Int),((0:Int),(0:Int),((0:Int),(0:Int),(0:Int),(0:Int),(0:Int),()),[],()),()),v2.1,())
|false=>
 match qg ((x.1.1,x.1.2.1,x.1.2.2.1,x.1.2.2.2.1,()),(x.2.1.1,x.2.1.2.1,x.2.1.2.2.1,x.2.1.2.2.2.1,x.2.1.2.2.2.2.1,()),x.2.2.1,())with
 |none=>none
 |some v3=>
 some ((v3.1.1,(v3.1.2.1.1,v3.1.2.1.2.1,(v3.1.2.1.2.2.1.1,v3.1.2.1.2.2.1.2.1,v3.1.2.1.2.2.1.2.2.1,v3.1.2.1.2.2.1.2.2.2.1,v3.1.2.1.2.2.1.2.2.2.2.1,()),v3.1.2.1.2.2.2.1,()),()),(0:Int),())
noncomputable def Cy:Spec:=⟨_,(.pair (.pair (.int .i64) (.pair (.pair (.int .i64) (.pair (.int .i64) (.pair ab (.pair (.own 2 (.int .i64)) .unit)))) .unit)) (.pair (.int .i64) .unit)),.unit,rfl,eH⟩
theorem AG:FnOK G0 Tryz.prog 97 Cy:=ai ah (sg F7 (sg px (sg ON (az)))) Tryz.func97
noncomputable def mo(x:Ty.T (.pair aG (.pair aG .unit))):Option (Ty.T (.pair .bool .unit)):=
match(x.1.1==x.2.1.1)with
|true=>
 match(x.1.2.1==x.2.1.2.1)with
 |true=>
  match(dz ab (x.1.2.2.1.1,x.1.2.2.1.2.1,x.1.2.2.1.2.2.1,x.1.2.2.1.2.2.2.1,x.1.2.2.1.2.2.2.2.1,()) (x.2.1.2.2.1.1,x.2.1.2.2.1.2.1,x.2.1.2.2.1.2.2.1,x.2.1.2.2.1.2.2.2.1,x.2.1.2.2.1.2.2.2.2.1,()))with
  |true=>
   match bd (x.1.2.2.2.1,x.2.1.2.2.2.1,())with
   |none=>none
   |some v1=>
   some (v1.1,())
  |false=>
   some (false,())
 |false=>
  some (false,())
|false=>
 some (false,())
noncomputable def MG:Spec:=⟨_,(.pair .bool .unit),.unit,rfl,mo⟩
theorem KG:FnOK G0 Tryz.prog 190 MG:=ai ah (sg ju (az)) Tryz.func190
noncomputable def km(x:Ty.T (.pair ba (.pair ba .unit))):Option (Ty.T (.pair .bool .unit)):=
match(x.1.1==x.2.1.1)with
|true=>
 match mo ((x.1.2.1.1,x.1.2.1.2.1,(x.1.2.1.2.2.1.1,x.1.2.1.2.2.1.2.1,x.1.2.1.2.2.1.2.2.1,x.1.2.1.2.2.1.2.2.2.1,x.1.2.1.2.2.1.2.2.2.2.1,()),x.1.2.1.2.2.2.1,()),(x.2.1.2.1.1,x.2.1.2.1.2.1,(x.2.1.2.1.2.2.1.1,x.2.1.2.1.2.2.1.2.1,x.2.1.2.1.2.2.1.2.2.1,x.2.1.2.1.2.2.1.2.2.2.1,x.2.1.2.1.2.2.1.2.2.2.2.1,()),x.2.1.2.1.2.2.2.1,()),())with
 |none=>none
 |some v1=>
 some (v1.1,())
|false=>
 some (false,())
noncomputable def IP:Spec:=⟨_,(.pair .bool .unit),.unit,rfl,km⟩
theorem Gf:FnOK G0 Tryz.prog 140 IP:=ai ah (sg KG (az)) Tryz.func140
noncomputable def Dc(x:Ty.T (.pair (.pair (.int .i64) (.pair (.pair (.int .i64) (.pair (.int .i64) (.pair ab (.pair (.own 2 (.int .i64)) .unit)))) .unit)) (.pair (.pair (.int .i64) (.pair (.pair (.int .i64) (.pair (.int .i64) (.pair ab (.pair (.own 2 (.int .i64)) .unit)))) .unit)) .unit))):Option (Ty.T (.pair (.pair (.int .i64) (.pair (.pair (.int .i64) (.pair (.int .i64) (.pair ab (.pair (.own 2 (.int .i64)) .unit)))) .unit)) .unit)):=
match(x.1.1==(3:Int))with
|true=>
 match km ((x.1.1,(x.1.2.1.1,x.1.2.1.2.1,(x.1.2.1.2.2.1.1,x.1.2.1.2.2.1.2.1,x.1.2.1.2.2.1.2.2.1,x.1.2.1.2.2.1.2.2.2.1,x.1.2.1.2.2.1.2.2.2.2.1,()),x.1.2.1.2.2.2.1,()),()),(x.2.1.1,(x.2.1.2.1.1,x.2.1.2.1.2.1,(x.2.1.2.1.2.2.1.1,x.2.1.2.1.2.2.1.2.1,x.2.1.2.1.2.2.1.2.2.1,x.2.1.2.1.2.2.1.2.2.2.1,x.2.1.2.1.2.2.1.2.2.2.2.1,()),x.2.1.2.1.2.2.2.1,()),()),())with
 |none=>none
 |some v1=>
 match v1.1 with
 |true=>
  some ((x.1.1,(x.1.2.1.1,x.1.2.1.2.1,(x.1.2.1.2.2.1.1,x.1.2.1.2.2.1.2.1,x.1.2.1.2.2.1.2.2.1,x.1.2.1.2.2.1.2.2.2.1,x.1.2.1.2.2.1.2.2.2.2.1,()),x.1.2.1.2.2.2.1,()),()),())
 |false=>
  match(x.1.1==(3:Int))with
  |true=>
   match(x.2.1.1==(3:Int))with
   |true=>
    some (((4:Int),((0:Int),(0:Int),((0:Int),(0:Int),(0:Int),(0:Int),(0:Int),()),[],()),()),())
   |false=>
    match(x.1.1==(4:Int))with
    |true=>
     some (((4:Int),((0:Int),(0:Int),((0:Int),(0:Int),(0:Int),(0:Int),(0:Int),()),[],()),()),())
    |false=>
     match(x.2.1.1==(4:Int))with
     |true=>
      some (((4:Int),((0:Int),(0:Int),((0:Int),(0:Int),(0:Int),(0:Int),(0:Int),()),[],()),()),())
     |false=>
      match(decide (x.1.1≥x.2.1.1))with
      |true=>
       some ((x.1.1,(x.1.2.1.1,x.1.2.1.2.1,(x.1.2.1.2.2.1.1,x.1.2.1.2.2.1.2.1,x.1.2.1.2.2.1.2.2.1,x.1.2.1.2.2.1.2.2.2.1,x.1.2.1.2.2.1.2.2.2.2.1,()),x.1.2.1.2.2.2.1,()),()),())
      |false=>
       some ((x.2.1.1,(x.2.1.2.1.1,x.2.1.2.1.2.1,(x.2.1.2.1.2.2.1.1,x.2.1.2.1.2.2.1.2.1,x.2.1.2.1.2.2.1.2.2.1,x.2.1.2.1.2.2.1.2.2.2.1,x.2.1.2.1.2.2.1.2.2.2.2.1,()),x.2.1.2.1.2.2.2.1,()),()),())
  |false=>
   match(x.1.1==(4:Int))with
   |true=>
    some (((4:Int),((0:Int),(0:Int),((0:Int),(0:Int),(0:Int),(0:Int),(0:Int),()),[],()),()),())
   |false=>
    match(x.2.1.1==(4:Int))with
    |true=>
     some (((4:Int),((0:Int),(0:Int),((0:Int),(0:Int),(0:Int),(0:Int),(0:Int),()),[],()),()),())
    |false=>
     match(decide (x.1.1≥x.2.1.1))with
     |true=>
      some ((x.1.1,(x.1.2.1.1,x.1.2.1.2.1,(x.1.2.1.2.2.1.1,x.1.2.1.2.2.1.2.1,x.1.2.1.2.2.1.2.2.1,x.1.2.1.2.2.1.2.2.2.1,x.1.2.1.2.2.1.2.2.2.2.1,()),x.1.2.1.2.2.2.1,()),()),())
     |false=>
      some ((x.2.1.1,(x.2.1.2.1.1,x.2.1.2.1.2.1,(x.2.1.2.1.2.2.1.1,x.2.1.2.1.2.2.1.2.1,x.2.1.2.1.2.2.1.2.2.1,x.2.1.2.1.2.2.1.2.2.2.1,x.2.1.2.1.2.2.1.2.2.2.2.1,()),x.2.1.2.1.2.2.2.1,()),()),())
|false=>
 match(x.1.1==(3:Int))with
 |true=>
  match(x.2.1.1==(3:Int))with
  |true=>
   some (((4:Int),((0:Int),(0:Int),((0:Int),(0:Int),(0:Int),(0:Int),(0:Int),()),[],()),()),())
  |false=>
   match(x.1.1==(4:Int))with
   |true=>
    some (((4:Int),((0:Int),(0:Int),((0:Int),(0:Int),(0:Int),(0:Int),(0:Int),()),[],()),()),())
   |false=>
    match(x.2.1.1==(4:Int))with
    |true=>
     some (((4:Int),((0:Int),(0:Int),((0:Int),(0:Int),(0:Int),(0:Int),(0:Int),()),[],()),()),())
    |false=>
     match(decide (x.1.1≥x.2.1.1))with
     |true=>
      some ((x.1.1,(x.1.2.1.1,x.1.2.1.2.1,(x.1.2.1.2.2.1.1,x.1.2.1.2.2.1.2.1,x.1.2.1.2.2.1.2.2.1,x.1.2.1.2.2.1.2.2.2.1,x.1.2.1.2.2.1.2.2.2.2.1,()),x.1.2.1.2.2.2.1,()),()),())
     |false=>
      some ((x.2.1.1,(x.2.1.2.1.1,x.2.1.2.1.2.1,(x.2.1.2.1.2.2.1.1,x.2.1.2.1.2.2.1.2.1,x.2.1.2.1.2.2.1.2.2.1,x.2.1.2.1.2.2.1.2.2.2.1,x.2.1.2.1.2.2.1.2.2.2.2.1,()),x.2.1.2.1.2.2.2.1,()),()),())
 |false=>
  match(x.1.1==(4:Int))with
  |true=>
   some (((4:Int),((0:Int),(0:Int),((0:Int),(0:Int),(0:Int),(0:Int),(0:Int),()),[],()),()),())
  |false=>
   match(x.2.1.1==(4:Int))with
   |true=>
    some (((4:Int),((0:Int),(0:Int),((0:Int),(0:Int),(0:Int),(0:Int),(0:Int),()),[],()),()),())
   |false=>
    match(decide (x.1.1≥x.2.1.1))with
    |true=>
     some ((x.1.1,(x.1.2.1.1,x.1.2.1.2.1,(x.1.2.1.2.2.1.1,x.1.2.1.2.2.1.2.1,x.1.2.1.2.2.1.2.2.1,x.1.2.1.2.2.1.2.2.2.1,x.1.2.1.2.2.1.2.2.2.2.1,()),x.1.2.1.2.2.2.1,()),()),())
    |false=>
     some ((x.2.1.1,(x.2.1.2.1.1,x.2.1.2.1.2.1,(x.2.1.2.1.2.2.1.1,x.2.1.2.1.2.2.1.2.1,x.2.1.2.1.2.2.1.2.2.1,x.2.1.2.1.2.2.1.2.2.2.1,x.2.1.2.1.2.2.1.2.2.2.2.1,()),x.2.1.2.1.2.2.2.1,()),()),())
noncomputable def TS:Spec:=⟨_,(.pair (.pair (.int .i64) (.pair (.pair (.int .i64) (.pair (.int .i64) (.pair ab (.pair (.own 2 (.int .i64)) .unit)))) .unit)) .unit),.unit,rfl,Dc⟩
theorem SH:FnOK G0 Tryz.prog 98 TS:=ai ah (sg Gf (az)) Tryz.func98
noncomputable def iB(x:Ty.T (.pair ag (.pair ab (.pair (.list (.int .i64)) (.pair (.list (.int .i64)) .unit))))):Option (Ty.T (.pair (.pair (.int .i64) (.pair (.pair (.int .i64) (.pair (.int .i64) (.pair ab (.pair (.own 2 (.int .i64)) .unit)))) .unit)) (.pair (.int .i64) .unit))):=
match eH ((x.1.1,x.1.2.1,x.1.2.2.1,x.1.2.2.2.1,()),(x.2.1.1,x.2.1.2.1,x.2.1.2.2.1,x.2.1.2.2.2.1,x.2.1.2.2.2.2.1,()),x.2.2.1,())with
|none=>none
|some v1=>
match(v1.2.1 != (0:Int))with
|true=>
 some (((0:Int),((0:Int),(0:Int),((0:Int),(0:Int),(0:Int),(0:Int),(0:Int),()),[],()),()),v1.2.1,())
|false=>
 match eH ((x.1.1,x.1.2.1,x.1.2.2.1,x.1.2.2.2.1,()),(x.2.1.1,x.2.1.2.1,x.2.1.2.2.1,x.2.1.2.2.2.1,x.2.1.2.2.2.2.1,()),x.2.2.2.1,())with
 |none=>none
 |some v2=>
 match(v2.2.1 != (0:Int))with
 |true=>
  some (((0:Int),((0:Int),(0:Int),((0:Int),(0:Int),(0:Int),(0:Int),(0:Int),()),[],()),()),v2.2.1,())
 |false=>
  match Dc ((v1.1.1,(v1.1.2.1.1,v1.1.2.1.2.1,(v1.1.2.1.2.2.1.1,v1.1.2.1.2.2.1.2.1,v1.1.2.1.2.2.1.2.2.1,v1.1.2.1.2.2.1.2.2.2.1,v1.1.2.1.2.2.1.2.2.2.2.1,()),v1.1.2.1.2.2.2.1,()),()),(v2.1.1,(v2.1.2.1.1,v2.1.2.1.2.1,(v2.1.2.1.2.2.1.1,v2.1.2.1.2.2.1.2.1,v2.1.2.1.2.2.1.2.2.1,v2.1.2.1.2.2.1.2.2.2.1,v2.1.2.1.2.2.1.2.2.2.2.1,()),v2.1.2.1.2.2.2.1,()),()),())with
  |none=>none
  |some v3=>
  some ((v3.1.1,(v3.1.2.1.1,v3.1.2.1.2.1,(v3.1.2.1.2.2.1.1,v3.1.2.1.2.2.1.2.1,v3.1.2.1.2.2.1.2.2.1,v3.1.2.1.2.2.1.2.2.2.1,v3.1.2.1.2.2.1.2.2.2.2.1,()),v3.1.2.1.2.2.2.1,()),()),(0:Int),())
noncomputable def IQ:Spec:=⟨_,(.pair (.pair (.int .i64) (.pair (.pair (.int .i64) (.pair (.int .i64) (.pair ab (.pair (.own 2 (.int .i64)) .unit)))) .unit)) (.pair (.int .i64) .unit)),.unit,rfl,iB⟩
theorem Gg:FnOK G0 Tryz.prog 61 IQ:=ai ah (sg AG (sg SH (az))) Tryz.func61
noncomputable def ia(x:(Ty.T (.pair (.own 2 (.int .i64)) (.pair (.int .i64) ak)))):Option ((Ty.T (.pair (.own 2 (.int .i64)) (.pair (.int .i64) ak))) ⊕ ((Ty.T (.pair (.own 2 (.int .i64)) .unit)) ⊕ (Ty.T .unit))):=
match(decide (x.2.2.2.1<x.2.2.1))with
|true=>
 a7 (x.1.length+ [x.2.1].length) (
  some (.inl ((x.1++ [x.2.1]),x.2.1,x.2.2.1,(IntKind.i64.wrap (x.2.2.2.1+(1:Int))),())))
|false=>
 some (.inr (.inl (x.1,())))
noncomputable def ph(x:Ty.T (.pair (.own 2 (.int .i64)) ak)):Option (Ty.T (.pair (.own 2 (.int .i64)) .unit)):=
match ac ia (x.1,x.2.1,x.2.2.1,(0:Int),())with
|none=>none
|some (.inl v1)=>
 some (v1.1,())
|some (.inr v3)=>
 none
noncomputable def IR:Spec:=⟨_,(.pair (.own 2 (.int .i64)) .unit),.unit,rfl,ph⟩
noncomputable def ED:FuncId→Option Spec:=a8 []
theorem MH:∀f s,ED f=some s→FnOK G0 Tryz.prog f s:=au trivial
def Cz:aF:=⟨[0,1,7,8],(.pair (.own 2 (.int .i64)) (.pair (.int .i64) ak)),0,[0],(.pair (.own 2 (.int .i64)) .unit),[],.unit⟩
noncomputable def EE:List ar:=[Cz.spec ia]
theorem KH:aX aS E0 ED (aW Tryz.f177 EE) Tryz.f177 0 Cz ia:=fun x=>by kernel_rfl
theorem EF:FnOK G0 Tryz.prog 177 IR:=ax ah MH Tryz.func177 EE (by kernel_rfl) (by exact⟨(KH).lok,trivial⟩) fun x=>by kernel_rfl
noncomputable def gY(x:Ty.T (.pair (.int .i64) .unit)):Option (Ty.T (.pair (.int .i64) .unit)):=
some ((IntKind.i64.wrap ((1:Int)-x.1)),())
noncomputable def Gh:Spec:=⟨_,(.pair (.int .i64) .unit),.unit,rfl,gY⟩
theorem DY:FnOK G0 Tryz.prog 181 Gh:=ai ah az Tryz.func181
noncomputable def gg(x:(Ty.T (.pair (.own 2 (.int .i64)) (.pair (.int .i64) (.pair (.fn (.pair (.int .i64) .unit) (.pair (.int .i64) .unit)) (.pair (.int .i64) .unit)))))):Option ((Ty.T (.pair (.own 2 (.int .i64)) (.pair (.int .i64) (.pair (.fn (.pair (.int .i64) .unit) (.pair (.int .i64) .unit)) (.pair (.int .i64) .unit))))) ⊕ ((Ty.T (.pair (.own 2 (.int .i64)) .unit)) ⊕ (Ty.T .unit))):=
match(decide (x.2.2.2.1<(if(x.1.length:Int)<x.2.1 then(x.1.length:Int)else x.2.1)))with
|true=>
 aa (aw x.1 x.2.2.2.1) fun _=>
 match x.1[x.2.2.2.1.toNat]? with
 |none=>none
 |some v2=>
 match x.2.2.1 (v2,())with
 |none=>none
 |some v3=>
 aa (aw x.1 x.2.2.2.1) fun _=>
 match x.1[x.2.2.2.1.toNat]? with
 |none=>none
 |some v5=>
 some (.inl ((x.1.set x.2.2.2.1.toNat v3.1),x.2.1,x.2.2.1,(IntKind.i64.wrap (x.2.2.2.1+(1:Int))),()))
|false=>
 some (.inr (.inl (x.1,())))
noncomputable def m5(x:Ty.T (.pair (.own 2 (.int .i64)) (.pair (.int .i64) (.pair (.int .i64) (.pair (.fn (.pair (.int .i64) .unit) (.pair (.int .i64) .unit)) .unit))))):Option (Ty.T (.pair (.own 2 (.int .i64)) .unit)):=
match ac gg (x.1,x.2.2.1,x.2.2.2.1,x.2.1,())with
|none=>none
|some (.inl v6)=>
 some (v6.1,())
|some (.inr v8)=>
 none
noncomputable def SI:Spec:=⟨_,.unit,(.pair (.own 2 (.int .i64)) .unit),rfl,m5⟩
noncomputable def EG:FuncId→Option Spec:=a8 []
theorem MI:∀f s,EG f=some s→FnOK G0 Tryz.prog f s:=au trivial
def CA:aF:=⟨[0,2,3,8],(.pair (.own 2 (.int .i64)) (.pair (.int .i64) (.pair (.fn (.pair (.int .i64) .unit) (.pair (.int .i64) .unit)) (.pair (.int .i64) .unit)))),0,[0],(.pair (.own 2 (.int .i64)) .unit),[],.unit⟩
noncomputable def EH:List ar:=[CA.spec gg]
theorem KI:aX aS E0 EG (aW Tryz.f182 EH) Tryz.f182 0 CA gg:=fun x=>by kernel_rfl
theorem QA:FnOK G0 Tryz.prog 182 SI:=ax ah MI Tryz.func182 EH (by kernel_rfl) (by exact⟨(KI).lok,trivial⟩) fun x=>by kernel_rfl
noncomputable def im(x:Ty.T (.pair (.own 2 (.int .i64)) ak)):Option (Ty.T (.pair (.own 2 (.int .i64)) .unit)):=aa (NM x.1 x.2.1 x.2.2.1) fun s=>some (s,())
noncomputable def xm:Spec:=⟨(.pair (.own 2 (.int .i64)) ak),(.pair (.own 2 (.int .i64)) .unit),.unit,rfl,im⟩
theorem vH:FnOK G0 Tryz.prog 183 xm:=TM (jI Tryz.func183 (by kernel_rfl) (show Tryz.f183.body=some (eK Tryz.f183) by kernel_rfl))
noncomputable def io(x:Ty.T (.pair (.own 2 (.int .i64)) (.pair (.int .i64) (.pair (.own 2 (.int .i64)) .unit)))):Option (Ty.T (.pair (.own 2 (.int .i64)) .unit)):=aa (NN x.1 x.2.1 x.2.2.1) fun s=>some (s,())
noncomputable def xn:Spec:=⟨(.pair (.own 2 (.int .i64)) (.pair (.int .i64) (.pair (.own 2 (.int .i64)) .unit))),(.pair (.own 2 (.int .i64)) .unit),.unit,rfl,io⟩
theorem vI:FnOK G0 Tryz.prog 184 xn:=TO (jI Tryz.func184 (by kernel_rfl) (show Tryz.f184.body=some (eK Tryz.f184) by kernel_rfl))
noncomputable def lL(x:Ty.T (.pair (.int .i64) .unit)):Option (Ty.T (.pair (.int .i64) .unit)):=
some ((1:Int),())
noncomputable def Gi:Spec:=⟨_,(.pair (.int .i64) .unit),.unit,rfl,lL⟩
theorem DZ:FnOK G0 Tryz.prog 185 Gi:=ai ah az Tryz.func185
noncomputable def lM(x:Ty.T (.pair (.int .i64) (.pair (.ptr al) .unit))):Option (Ty.T (.pair (.int .i64) .unit)):=
some (x.2.1.2.2.2.1,())
noncomputable def Gj:Spec:=⟨_,(.pair (.int .i64) .unit),.unit,rfl,lM⟩
theorem D0:FnOK G0 Tryz.prog 186 Gj:=ai ah az Tryz.func186
noncomputable def lm(x:Ty.T (.pair (.list (.int .i64)) (.pair al .unit))):Option (Ty.T (.pair (.list (.int .i64)) .unit)):=
match dJ (x.1,())with
|none=>none
|some v1=>
match(x.2.1.1==(1:Int))with
|true=>
 match m5 (v1.1,x.2.1.2.1,(IntKind.i64.wrap (x.2.1.2.1+(1:Int))),gY,())with
 |none=>none
 |some v2=>
 some (v2.1,())
|false=>
 match(x.2.1.1==(2:Int))with
 |true=>
  match m5 (v1.1,x.2.1.2.1,(IntKind.i64.wrap (x.2.1.2.1+x.2.1.2.2.1)),gY,())with
  |none=>none
  |some v3=>
  some (v3.1,())
 |false=>
  match(x.2.1.1==(3:Int))with
  |true=>
   match im (v1.1,(if x.2.1.2.1<(x.1.length:Int)then x.2.1.2.1 else(x.1.length:Int)),(if(IntKind.i64.wrap (x.2.1.2.1+x.2.1.2.2.1))<(x.1.length:Int)then(IntKind.i64.wrap (x.2.1.2.1+x.2.1.2.2.1))else(x.1.length:Int)),())with
   |none=>none
   |some v4=>
   some (v4.1,())
  |false=>
   match(x.2.1.1==(4:Int))with
   |true=>
    match(decide (x.2.1.2.1≤(x.1.length:Int)))with
    |true=>
     match ph ([],x.2.1.2.2.2.1,x.2.1.2.2.1,())with
     |none=>none
     |some v5=>
     match io (v1.1,x.2.1.2.1,v5.1,())with
     |none=>none
     |some v6=>
     aa (aC v6.1.length none (some (.dat (.int .i64) (if(v6.1.length:Int)<(8192:Int)then(v6.1.length:Int)else(8192:Int))))) fun v7=>
     some ((List.drop v7.1 (List.take v7.2 v6.1)),())
    |false=>
     aa (aC v1.1.length none (some (.dat (.int .i64) (if(v1.1.length:Int)<(8192:Int)then(v1.1.length:Int)else(8192:Int))))) fun v8=>
     some ((List.drop v8.1 (List.take v8.2 v1.1)),())
   |false=>
    match(x.2.1.1==(5:Int))with
    |true=>
     match m5 (v1.1,x.2.1.2.1,(x.1.length:Int),lL,())with
     |none=>none
     |some v9=>
     some (v9.1,())
    |false=>
     match(x.2.1.1==(6:Int))with
     |true=>
      match m5 (v1.1,x.2.1.2.1,(IntKind.i64.wrap (x.2.1.2.1+x.2.1.2.2.1)),(fun z=>lM (z.1,(x.2.1.1,x.2.1.2.1,x.2.1.2.2.1,x.2.1.2.2.2.1,()),())),())with
      |none=>none
      |some v10=>
      some (v10.1,())
     |false=>
      some (v1.1,())
noncomputable def xo:Spec:=⟨_,(.pair (.list (.int .i64)) .unit),.unit,rfl,lm⟩
theorem IU:FnOK G0 Tryz.prog 136 xo:=ai ah (sg jv (sg EF (sg DY (sg QA (sg vH (sg vI (sg DZ (sg D0 (az))))))))) Tryz.func136
noncomputable def el(x:(Ty.T (.pair (.list (.int .i64)) (.pair (.list al) ak)))):Option ((Ty.T (.pair (.list (.int .i64)) (.pair (.list al) ak))) ⊕ ((Ty.T (.pair (.list (.int .i64)) .unit)) ⊕ (Ty.T .unit))):=
match(decide (x.2.2.2.1<x.2.2.1))with
|true=>
 aa (aw x.2.1 x.2.2.2.1) fun v2=>
 match lm (x.1,(v2.1,v2.2.1,v2.2.2.1,v2.2.2.2.1,()),())with
 |none=>none
 |some v3=>
 some (.inl (v3.1,x.2.1,x.2.2.1,(IntKind.i64.wrap (x.2.2.2.1+(1:Int))),()))
|false=>
 some (.inr (.inl (x.1,())))
noncomputable def fD(x:Ty.T (.pair (.list (.int .i64)) (.pair (.list al) .unit))):Option (Ty.T (.pair (.list (.int .i64)) .unit)):=
match dJ (x.1,())with
|none=>none
|some v1=>
match ac el (v1.1,x.2.1,(x.2.1.length:Int),(0:Int),())with
|none=>none
|some (.inl v4)=>
 some (v4.1,())
|some (.inr v6)=>
 none
noncomputable def IV:Spec:=⟨_,(.pair (.list (.int .i64)) .unit),.unit,rfl,fD⟩
noncomputable def tN:FuncId→Option Spec:=a8 [(135,oE),(136,xo)]
theorem CB:∀f s,tN f=some s→FnOK G0 Tryz.prog f s:=au ⟨jv,IU,trivial⟩
def rq:aF:=⟨[5,10,11,12],(.pair (.list (.int .i64)) (.pair (.list al) ak)),0,[5],(.pair (.list (.int .i64)) .unit),[],.unit⟩
noncomputable def tO:List ar:=[rq.spec el]
theorem AH:aX aS E0 tN (aW Tryz.f96 tO) Tryz.f96 0 rq el:=fun x=>by kernel_rfl
theorem Gk:FnOK G0 Tryz.prog 96 IV:=ax ah CB Tryz.func96 tO (by kernel_rfl) (by exact⟨(AH).lok,trivial⟩) fun x=>by kernel_rfl
noncomputable def ib(x:Ty.T (.pair aZ (.pair aG .unit))):Option (Ty.T (.pair .bool .unit)):=
match eM ((x.1.1,x.1.2.1,x.1.2.2.1,x.1.2.2.2.1,x.1.2.2.2.2.1,()),())with
|none=>none
|some v1=>
match v1.1 with
|true=>
 match eo ((x.2.1.1,x.2.1.2.1,(x.2.1.2.2.1.1,x.2.1.2.2.1.2.1,x.2.1.2.2.1.2.2.1,x.2.1.2.2.1.2.2.2.1,x.2.1.2.2.1.2.2.2.2.1,()),x.2.1.2.2.2.1,()),())with
 |none=>none
 |some v2=>
 match v2.1 with
 |true=>
  match tM ((x.1.1,x.1.2.1,x.1.2.2.1,x.1.2.2.2.1,x.1.2.2.2.2.1,()),(x.2.1.1,x.2.1.2.1,(x.2.1.2.2.1.1,x.2.1.2.2.1.2.1,x.2.1.2.2.1.2.2.1,x.2.1.2.2.1.2.2.2.1,x.2.1.2.2.1.2.2.2.2.1,()),x.2.1.2.2.2.1,()),())with
  |none=>none
  |some v3=>
  some (v3.1,())
 |false=>
  some (false,())
|false=>
 some (false,())
noncomputable def CC:Spec:=⟨_,(.pair .bool .unit),.unit,rfl,ib⟩
theorem AI:FnOK G0 Tryz.prog 249 CC:=ai ah (sg Lz (sg rf (sg Cw (az)))) Tryz.func249
noncomputable def gh(x:Ty.T (.pair ag (.pair ab (.pair aG .unit)))):Option (Ty.T (.pair .bool .unit)):=
match a9z ((x.1.1,x.1.2.1,x.1.2.2.1,x.1.2.2.2.1,()),(x.2.1.1,x.2.1.2.1,x.2.1.2.2.1,x.2.1.2.2.2.1,x.2.1.2.2.2.2.1,()),())with
|none=>none
|some v1=>
match ib (v1.1,(x.2.2.1.1,x.2.2.1.2.1,(x.2.2.1.2.2.1.1,x.2.2.1.2.2.1.2.1,x.2.2.1.2.2.1.2.2.1,x.2.2.1.2.2.1.2.2.2.1,x.2.2.1.2.2.1.2.2.2.2.1,()),x.2.2.1.2.2.2.1,()),())with
|none=>none
|some v2=>
match v2.1 with
|true=>
 match dU (x.2.2.1.1,())with
 |none=>none
 |some v3=>
 match(!v3.1)with
 |true=>
  some (true,())
 |false=>
  some ((dz ab (x.2.2.1.2.2.1.1,x.2.2.1.2.2.1.2.1,x.2.2.1.2.2.1.2.2.1,x.2.2.1.2.2.1.2.2.2.1,x.2.2.1.2.2.1.2.2.2.2.1,()) (x.2.1.1,x.2.1.2.1,x.2.1.2.2.1,x.2.1.2.2.2.1,x.2.1.2.2.2.2.1,())),())
|false=>
 some (false,())
noncomputable def xp:Spec:=⟨_,(.pair .bool .unit),.unit,rfl,gh⟩
theorem vg:FnOK G0 Tryz.prog 204 xp:=ai ah (sg dI (sg iz (sg AI (az)))) Tryz.func204
noncomputable def oG(x:Ty.T (.pair ag (.pair ab (.pair aG .unit)))):Option (Ty.T (.pair (.int .i64) .unit)):=
match dV ((x.1.1,x.1.2.1,x.1.2.2.1,x.1.2.2.2.1,()),(x.2.1.1,x.2.1.2.1,x.2.1.2.2.1,x.2.1.2.2.2.1,x.2.1.2.2.2.2.1,()),())with
|none=>none
|some v1=>
match(v1.1 != (0:Int))with
|true=>
 some (v1.1,())
|false=>
 match gh ((x.1.1,x.1.2.1,x.1.2.2.1,x.1.2.2.2.1,()),(x.2.1.1,x.2.1.2.1,x.2.1.2.2.1,x.2.1.2.2.2.1,x.2.1.2.2.2.2.1,()),(x.2.2.1.1,x.2.2.1.2.1,(x.2.2.1.2.2.1.1,x.2.2.1.2.2.1.2.1,x.2.2.1.2.2.1.2.2.1,x.2.2.1.2.2.1.2.2.2.1,x.2.2.1.2.2.1.2.2.2.2.1,()),x.2.2.1.2.2.2.1,()),())with
 |none=>none
 |some v2=>
 match(!v2.1)with
 |true=>
  some ((5:Int),())
 |false=>
  some ((0:Int),())
noncomputable def OO:Spec:=⟨_,(.pair (.int .i64) .unit),.unit,rfl,oG⟩
theorem MJ:FnOK G0 Tryz.prog 172 OO:=ai ah (sg kj (sg vg (az))) Tryz.func172
noncomputable def jd(x:Ty.T (.pair .nil (.pair (.int .i64) .unit))):Option (Ty.T (.pair (.own 2 (.int .i64)) .unit)):=
match(decide (x.2.1<(0:Int)))with
|true=>
 none
|false=>
 match(decide ((IntKind.i64.wrap (x.2.1-(IntKind.i64.wrap ((0:Int)-(0:Int)))))>(0:Int)))with
 |true=>
  aa (aC 0 none (some (.dat (.int .i64) (0:Int)))) fun v1=>
  if 0≤(IntKind.i64.wrap (x.2.1-(IntKind.i64.wrap ((0:Int)-(0:Int)))))then
   a7 ((IntKind.i64.wrap (x.2.1-(IntKind.i64.wrap ((0:Int)-(0:Int))))).toNat) (
    aa (aC (List.replicate (IntKind.i64.wrap (x.2.1-(IntKind.i64.wrap ((0:Int)-(0:Int))))).toNat (0:Int)).length none (some (.dat (.int .i64) (0:Int)))) fun v2=>
    some ((List.take v2.2 (List.replicate (IntKind.i64.wrap (x.2.1-(IntKind.i64.wrap ((0:Int)-(0:Int))))).toNat (0:Int))),()))
  else none
 |false=>
  some ([],())
noncomputable def oT:Spec:=⟨_,(.pair (.own 2 (.int .i64)) .unit),.unit,rfl,jd⟩
theorem yy:FnOK G0 Tryz.prog 211 oT:=ai ah az Tryz.func211
noncomputable def ce(x:(Ty.T (.pair (.list (.list (.int .i64))) (.pair (.int .i64) (.pair (.list (.list (.int .i64))) ak))))):Option ((Ty.T (.pair (.list (.list (.int .i64))) (.pair (.int .i64) (.pair (.list (.list (.int .i64))) ak)))) ⊕ ((Ty.T (.pair (.list (.list (.int .i64))) (.pair (.int .i64) .unit))) ⊕ (Ty.T .unit))):=
match(decide (x.2.2.2.2.1<x.2.2.2.1))with
|true=>
 aa (aw x.2.2.1 x.2.2.2.2.1) fun v1=>
 match(decide ((IntKind.i64.wrap (x.2.1+(v1.length:Int)))<(0:Int)))with
 |true=>
  none
 |false=>
  some (.inl (x.1,(IntKind.i64.wrap (x.2.1+(v1.length:Int))),x.2.2.1,x.2.2.2.1,(IntKind.i64.wrap (x.2.2.2.2.1+(1:Int))),()))
|false=>
 some (.inr (.inl (x.1,x.2.1,())))
noncomputable def bT(x:(Ty.T (.pair (.own 2 (.int .i64)) (.pair (.list (.list (.int .i64))) ak)))):Option ((Ty.T (.pair (.own 2 (.int .i64)) (.pair (.list (.list (.int .i64))) ak))) ⊕ ((Ty.T (.pair (.own 2 (.int .i64)) .unit)) ⊕ (Ty.T .unit))):=
match(decide (x.2.2.2.1<x.2.2.1))with
|true=>
 aa (aw x.2.1 x.2.2.2.1) fun v5=>
 a7 (x.1.length+v5.length) (
  some (.inl ((x.1++v5),x.2.1,x.2.2.1,(IntKind.i64.wrap (x.2.2.2.1+(1:Int))),())))
|false=>
 some (.inr (.inl (x.1,())))
noncomputable def fI(x:Ty.T (.pair (.list (.list (.int .i64))) .unit)):Option (Ty.T (.pair (.own 2 (.int .i64)) .unit)):=
match ac ce (x.1,(0:Int),x.1,(x.1.length:Int),(0:Int),())with
|none=>none
|some (.inl v2)=>
 match jd ((),v2.2.1,())with
 |none=>none
 |some v4=>
 match ac bT (v4.1,v2.1,(v2.1.length:Int),(0:Int),())with
 |none=>none
 |some (.inl v6)=>
  some (v6.1,())
 |some (.inr v8)=>
  none
|some (.inr v9)=>
 none
noncomputable def xq:Spec:=⟨_,(.pair (.own 2 (.int .i64)) .unit),.unit,rfl,fI⟩
noncomputable def iY:FuncId→Option Spec:=a8 [(211,oT)]
theorem tP:∀f s,iY f=some s→FnOK G0 Tryz.prog f s:=au ⟨yy,trivial⟩
def lY:aF:=⟨[0,3,9,10,11],(.pair (.list (.list (.int .i64))) (.pair (.int .i64) (.pair (.list (.list (.int .i64))) ak))),0,[0,3],(.pair (.list (.list (.int .i64))) (.pair (.int .i64) .unit)),[],.unit⟩
def ln:aF:=⟨[6,25,26,27],(.pair (.own 2 (.int .i64)) (.pair (.list (.list (.int .i64))) ak)),2,[6],(.pair (.own 2 (.int .i64)) .unit),[],.unit⟩
noncomputable def iZ:List ar:=[lY.spec ce,ln.spec bT]
theorem rR:aX aS E0 iY (aW Tryz.f173 iZ) Tryz.f173 0 lY ce:=fun x=>by kernel_rfl
theorem qF:aX aS E0 iY (aW Tryz.f173 iZ) Tryz.f173 1 ln bT:=fun x=>by kernel_rfl
theorem vJ:FnOK G0 Tryz.prog 173 xq:=ax ah tP Tryz.func173 iZ (by kernel_rfl) (by exact⟨(rR).lok,(qF).lok,trivial⟩) fun x=>by kernel_rfl
noncomputable def ip(x:Ty.T (.pair (.list (.int .i64)) (.pair (.int .i64) .unit))):Option (Ty.T (.pair (.own 2 (.int .i64)) .unit)):=aa (JV x.1 x.2.1) fun s=>some (s,())
noncomputable def xr:Spec:=⟨(.pair (.list (.int .i64)) (.pair (.int .i64) .unit)),(.pair (.own 2 (.int .i64)) .unit),.unit,rfl,ip⟩
theorem vK:FnOK G0 Tryz.prog 212 xr:=TK (jI Tryz.func212 (by kernel_rfl) (show Tryz.f212.body=some (eK Tryz.f212) by kernel_rfl))
noncomputable def lN(x:Ty.T (.pair (.int .i64) .unit)):Option (Ty.T (.pair (.own 2 (.int .i64)) .unit)):=
match ip ([(1:Int)],x.1,())with
|none=>none
|some v1=>
some (v1.1,())
noncomputable def TT:Spec:=⟨_,(.pair (.own 2 (.int .i64)) .unit),.unit,rfl,lN⟩
theorem IW:FnOK G0 Tryz.prog 174 TT:=ai ah (sg vK (az)) Tryz.func174
noncomputable def gD(x:(Ty.T (.pair (.own 2 (.int .i64)) (.pair (.list (.int .i64)) ak)))):Option ((Ty.T (.pair (.own 2 (.int .i64)) (.pair (.list (.int .i64)) ak))) ⊕ ((Ty.T (.pair (.own 2 (.int .i64)) .unit)) ⊕ (Ty.T .unit))):=
match(decide (x.2.2.2.1<x.2.2.1))with
|true=>
 aa (aw x.2.1 x.2.2.2.1) fun v1=>
 a7 (x.1.length+ [(1:Int),(0:Int)].length) (
  match bq ((x.1++ [(1:Int),(0:Int)]),v1,(8:Int),())with
  |none=>none
  |some v2=>
  some (.inl (v2.1,x.2.1,x.2.2.1,(IntKind.i64.wrap (x.2.2.2.1+(1:Int))),())))
|false=>
 some (.inr (.inl (x.1,())))
noncomputable def qh(x:Ty.T (.pair (.list (.int .i64)) (.pair (.int .i64) .unit))):Option (Ty.T (.pair (.own 2 (.int .i64)) .unit)):=
if 0≤x.2.1∧x.2.1≤x.2.1 then
 a7 (x.2.1.toNat) (
  a7 ((List.replicate x.2.1.toNat (0:Int)).length+ [(1:Int)].length) (
   match ac gD (((List.replicate x.2.1.toNat (0:Int))++ [(1:Int)]),x.1,(x.1.length:Int),(0:Int),())with
   |none=>none
   |some (.inl v3)=>
    a7 (v3.1.length+ [(0:Int),(1:Int)].length) (
     some ((v3.1++ [(0:Int),(1:Int)]),()))
   |some (.inr v5)=>
    none))
else none
noncomputable def QB:Spec:=⟨_,(.pair (.own 2 (.int .i64)) .unit),.unit,rfl,qh⟩
noncomputable def CD:FuncId→Option Spec:=a8 [(213,mZ)]
theorem KJ:∀f s,CD f=some s→FnOK G0 Tryz.prog f s:=au ⟨l5,trivial⟩
def zW:aF:=⟨[5,12,13,14],(.pair (.own 2 (.int .i64)) (.pair (.list (.int .i64)) ak)),0,[5],(.pair (.own 2 (.int .i64)) .unit),[],.unit⟩
noncomputable def CE:List ar:=[zW.spec gD]
theorem IX:aX aS E0 CD (aW Tryz.f175 CE) Tryz.f175 0 zW gD:=fun x=>by kernel_rfl
theorem OP:FnOK G0 Tryz.prog 175 QB:=ax ah KJ Tryz.func175 CE (by kernel_rfl) (by exact⟨(IX).lok,trivial⟩) fun x=>by kernel_rfl
noncomputable def xt(x:Ty.T (.pair aG (.pair (.int .i64) (.pair ab .unit)))):Option (Ty.T (.pair (.own 2 (.int .i64)) .unit)):=
match ff ((x.1.1,x.1.2.1,(x.1.2.2.1.1,x.1.2.2.1.2.1,x.1.2.2.1.2.2.1,x.1.2.2.1.2.2.2.1,x.1.2.2.1.2.2.2.2.1,()),x.1.2.2.2.1,()),())with
|none=>none
|some v1=>
match gC (x.1.1,v1.1,x.2.1,(x.2.2.1.1,x.2.2.1.2.1,x.2.2.1.2.2.1,x.2.2.1.2.2.2.1,x.2.2.1.2.2.2.2.1,()),())with
|none=>none
|some v2=>
match jt (v2.1,())with
|none=>none
|some v3=>
a7 (v1.1.length+v3.1.length) (
 some ((v1.1++v3.1),()))
noncomputable def UZ:Spec:=⟨_,(.pair (.own 2 (.int .i64)) .unit),.unit,rfl,xt⟩
theorem TU:FnOK G0 Tryz.prog 176 UZ:=ai ah (sg EC (sg vf (sg tK (az)))) Tryz.func176
noncomputable def mp(x:Ty.T (.pair ag (.pair ab (.pair aG .unit)))):Option (Ty.T (.pair (.own 2 (.int .i64)) (.pair (.int .i64) .unit))):=
match oG ((x.1.1,x.1.2.1,x.1.2.2.1,x.1.2.2.2.1,()),(x.2.1.1,x.2.1.2.1,x.2.1.2.2.1,x.2.1.2.2.2.1,x.2.1.2.2.2.2.1,()),(x.2.2.1.1,x.2.2.1.2.1,(x.2.2.1.2.2.1.1,x.2.2.1.2.2.1.2.1,x.2.2.1.2.2.1.2.2.1,x.2.2.1.2.2.1.2.2.2.1,x.2.2.1.2.2.1.2.2.2.2.1,()),x.2.2.1.2.2.2.1,()),())with
|none=>none
|some v1=>
match(v1.1 != (0:Int))with
|true=>
 some ([],v1.1,())
|false=>
 match lN ((8:Int),())with
 |none=>none
 |some v2=>
 match xt ((x.2.2.1.1,x.2.2.1.2.1,(x.2.2.1.2.2.1.1,x.2.2.1.2.2.1.2.1,x.2.2.1.2.2.1.2.2.1,x.2.2.1.2.2.1.2.2.2.1,x.2.2.1.2.2.1.2.2.2.2.1,()),x.2.2.1.2.2.2.1,()),x.1.1,(x.2.1.1,x.2.1.2.1,x.2.1.2.2.1,x.2.1.2.2.2.1,x.2.1.2.2.2.2.1,()),())with
 |none=>none
 |some v3=>
 match qh (v3.1,(8:Int),())with
 |none=>none
 |some v4=>
 match fI ([v2.1,v4.1],())with
 |none=>none
 |some v5=>
 match a9z ((x.1.1,x.1.2.1,x.1.2.2.1,x.1.2.2.2.1,()),(x.2.1.1,x.2.1.2.1,x.2.1.2.2.1,x.2.1.2.2.2.1,x.2.1.2.2.2.2.1,()),())with
 |none=>none
 |some v6=>
 match lN ((IntKind.i64.wrap (v6.1.2.2.2.1-(v5.1.length:Int))),())with
 |none=>none
 |some v7=>
 a7 (v5.1.length+v7.1.length) (
  some ((v5.1++v7.1),(0:Int),()))
noncomputable def MK:Spec:=⟨_,(.pair (.own 2 (.int .i64)) (.pair (.int .i64) .unit)),.unit,rfl,mp⟩
theorem KK:FnOK G0 Tryz.prog 130 MK:=ai ah (sg dI (sg MJ (sg vJ (sg IW (sg OP (sg TU (az))))))) Tryz.func130
noncomputable def cZ(x:(Ty.T (.pair (.own 2 (.int .i64)) (.pair (.list (.int .i64)) ak)))):Option ((Ty.T (.pair (.own 2 (.int .i64)) (.pair (.list (.int .i64)) ak))) ⊕ ((Ty.T (.pair (.own 2 (.int .i64)) .unit)) ⊕ (Ty.T .unit))):=
match(decide (x.2.2.2.1<x.2.2.1))with
|true=>
 aa (aw x.2.1 x.2.2.2.1) fun v2=>
 match ph (x.1,v2,(8:Int),())with
 |none=>none
 |some v3=>
 some (.inl (v3.1,x.2.1,x.2.2.1,(IntKind.i64.wrap (x.2.2.2.1+(1:Int))),()))
|false=>
 some (.inr (.inl (x.1,())))
noncomputable def ic(x:Ty.T (.pair (.list (.int .i64)) .unit)):Option (Ty.T (.pair (.own 2 (.int .i64)) (.pair (.int .i64) .unit))):=
match mW (x.1,())with
|none=>none
|some v1=>
match(!v1.1)with
|true=>
 some ([],(1:Int),())
|false=>
 match(decide ((IntKind.i64.wrap ((x.1.length:Int)*(8:Int)))>(8192:Int)))with
 |true=>
  some ([],(3:Int),())
 |false=>
  match ac cZ ([],x.1,(x.1.length:Int),(0:Int),())with
  |none=>none
  |some (.inl v4)=>
   some (v4.1,(0:Int),())
  |some (.inr v6)=>
   none
noncomputable def CF:Spec:=⟨_,(.pair (.own 2 (.int .i64)) (.pair (.int .i64) .unit)),.unit,rfl,ic⟩
noncomputable def oU:FuncId→Option Spec:=a8 [(138,Iz),(177,IR)]
theorem xu:∀f s,oU f=some s→FnOK G0 Tryz.prog f s:=au ⟨px,EF,trivial⟩
def oH:aF:=⟨[4,15,16,17],(.pair (.own 2 (.int .i64)) (.pair (.list (.int .i64)) ak)),0,[4],(.pair (.own 2 (.int .i64)) .unit),[],.unit⟩
noncomputable def oV:List ar:=[oH.spec cZ]
theorem vL:aX aS E0 oU (aW Tryz.f131 oV) Tryz.f131 0 oH cZ:=fun x=>by kernel_rfl
theorem AJ:FnOK G0 Tryz.prog 131 CF:=ax ah xu Tryz.func131 oV (by kernel_rfl) (by exact⟨(vL).lok,trivial⟩) fun x=>by kernel_rfl
noncomputable def ko(x:Ty.T (.pair ag (.pair ab (.pair aG .unit)))):Option (Ty.T (.pair (.own 2 (.int .i64)) (.pair (.int .i64) .unit))):=
match mp ((x.1.1,x.1.2.1,x.1.2.2.1,x.1.2.2.2.1,()),(x.2.1.1,x.2.1.2.1,x.2.1.2.2.1,x.2.1.2.2.2.1,x.2.1.2.2.2.2.1,()),(x.2.2.1.1,x.2.2.1.2.1,(x.2.2.1.2.2.1.1,x.2.2.1.2.2.1.2.1,x.2.2.1.2.2.1.2.2.1,x.2.2.1.2.2.1.2.2.2.1,x.2.2.1.2.2.1.2.2.2.2.1,()),x.2.2.1.2.2.2.1,()),())with
|none=>none
|some v1=>
match(v1.2.1 != (0:Int))with
|true=>
 some ([],v1.2.1,())
|false=>
 match ic (v1.1,())with
 |none=>none
 |some v2=>
 some (v2.1,v2.2.1,())
noncomputable def vh:Spec:=⟨_,(.pair (.own 2 (.int .i64)) (.pair (.int .i64) .unit)),.unit,rfl,ko⟩
theorem Gm:FnOK G0 Tryz.prog 94 vh:=ai ah (sg KK (sg AJ (az))) Tryz.func94
noncomputable def jw(x:Ty.T (.pair aZ (.pair ab .unit))):Option (Ty.T (.pair (.pair (.int .i64) (.pair (.int .i64) (.pair ab (.pair (.own 2 (.int .i64)) .unit)))) .unit)):=
aU (
 if 0≤x.1.2.2.1∧x.1.2.2.1≤x.1.2.2.1 then
  a7 (x.1.2.2.1.toNat) (
   aL (
    match dU (x.1.2.1,())with
    |none=>none
    |some v1=>
    match v1.1 with
    |true=>
     some ((x.1.2.1,(0:Int),(x.2.1.1,x.2.1.2.1,x.2.1.2.2.1,x.2.1.2.2.2.1,x.2.1.2.2.2.2.1,()),(List.replicate x.1.2.2.1.toNat (0:Int)),()),())
    |false=>
     some ((x.1.2.1,(0:Int),((0:Int),(0:Int),(0:Int),(0:Int),(0:Int),()),(List.replicate x.1.2.2.1.toNat (0:Int)),()),())))
 else none) (
 if 0≤x.1.2.2.1∧x.1.2.2.1≤x.1.2.2.1 then
  a7 (x.1.2.2.1.toNat) (
   match dU (x.1.2.1,())with
   |none=>none
   |some v1=>
   match v1.1 with
   |true=>
    some ((x.1.2.1,(0:Int),(x.2.1.1,x.2.1.2.1,x.2.1.2.2.1,x.2.1.2.2.2.1,x.2.1.2.2.2.2.1,()),(List.replicate x.1.2.2.1.toNat (0:Int)),()),())
   |false=>
    some ((x.1.2.1,(0:Int),((0:Int),(0:Int),(0:Int),(0:Int),(0:Int),()),(List.replicate x.1.2.2.1.toNat (0:Int)),()),()))
 else none)
noncomputable def xv:Spec:=⟨_,(.pair (.pair (.int .i64) (.pair (.int .i64) (.pair ab (.pair (.own 2 (.int .i64)) .unit)))) .unit),.unit,rfl,jw⟩
theorem IY:FnOK G0 Tryz.prog 203 xv:=ai ah (sg iz (az)) Tryz.func203
noncomputable def dX(x:(Ty.T (.pair (.int .i64) (.pair (.box ag) (.pair (.box ab) (.pair (.box aG) (.pair (.box (.pair (.int .i64) (.pair (.int .i64) (.pair ab (.pair (.own 2 (.int .i64)) .unit))))) ak))))))):Option ((Ty.T (.pair (.int .i64) (.pair (.box ag) (.pair (.box ab) (.pair (.box aG) (.pair (.box (.pair (.int .i64) (.pair (.int .i64) (.pair ab (.pair (.own 2 (.int .i64)) .unit))))) ak)))))) ⊕ ((Ty.T (.pair (.box ag) (.pair (.box ab) (.pair (.box aG) (.pair (.box (.pair (.int .i64) (.pair (.int .i64) (.pair ab (.pair (.own 2 (.int .i64)) .unit))))) .unit))))) ⊕ (Ty.T .unit))):=
match(decide (x.2.2.2.2.2.2.1<x.2.2.2.2.2.1))with
|true=>
 aa (aw x.2.2.2.2.1.2.2.2.1 x.2.2.2.2.2.2.1) fun _=>
 match x.2.2.2.2.1.2.2.2.1[x.2.2.2.2.2.2.1.toNat]? with
 |none=>none
 |some v7=>
 some (.inl (x.1,x.2.1,x.2.2.1,x.2.2.2.1,(x.2.2.2.2.1.1,x.2.2.2.2.1.2.1,x.2.2.2.2.1.2.2.1,(x.2.2.2.2.1.2.2.2.1.set x.2.2.2.2.2.2.1.toNat x.1),()),x.2.2.2.2.2.1,(IntKind.i64.wrap (x.2.2.2.2.2.2.1+(1:Int))),()))
|false=>
 some (.inr (.inl (x.2.1,x.2.2.1,x.2.2.2.1,x.2.2.2.2.1,())))
noncomputable def rS(x:Ty.T (.pair ag VE)):Option (Ty.T (.pair aG (.pair (.int .i64) .unit))):=
match dV (x.1,x.2.1,())with
|none=>none
|some v1=>
match(v1.1 != (0:Int))with
|true=>
 some (((0:Int),(0:Int),((0:Int),(0:Int),(0:Int),(0:Int),(0:Int),()),[],()),v1.1,())
|false=>
 match bb (x.2.2.1,(0:Int),(255:Int),())with
 |none=>none
 |some v2=>
 match(!v2.1)with
 |true=>
  some (((0:Int),(0:Int),((0:Int),(0:Int),(0:Int),(0:Int),(0:Int),()),[],()),(2:Int),())
 |false=>
  match bb (x.2.2.2.1,(0:Int),(7:Int),())with
  |none=>none
  |some v3=>
  match(!v3.1)with
  |true=>
   some (((0:Int),(0:Int),((0:Int),(0:Int),(0:Int),(0:Int),(0:Int),()),[],()),(2:Int),())
  |false=>
   aU (
    match a9z (x.1,x.2.1,())with
    |none=>none
    |some v4=>
    aU (
     match jw (v4.1,x.2.1,())with
     |none=>none
     |some v5=>
     match ac dX (x.2.2.1,x.1,x.2.1,((0:Int),(0:Int),((0:Int),(0:Int),(0:Int),(0:Int),(0:Int),()),[],()),(v5.1.1,x.2.2.2.1,v5.1.2.2.1,v5.1.2.2.2.1,()),(v5.1.2.2.2.1.length:Int),(0:Int),())with
     |none=>none
     |some (.inl v8)=>
      match gh (v8.1,v8.2.1,v8.2.2.2.1,())with
      |none=>none
      |some v10=>
      match(!v10.1)with
      |true=>
       some (((0:Int),(0:Int),((0:Int),(0:Int),(0:Int),(0:Int),(0:Int),()),[],()),(5:Int),())
      |false=>
       some (v8.2.2.2.1,(0:Int),())
     |some (.inr v11)=>
      none) (
     match jw (v4.1,x.2.1,())with
     |none=>none
     |some v5=>
     match ac dX (x.2.2.1,x.1,x.2.1,((0:Int),(0:Int),((0:Int),(0:Int),(0:Int),(0:Int),(0:Int),()),[],()),(v5.1.1,x.2.2.2.1,v5.1.2.2.1,v5.1.2.2.2.1,()),(v5.1.2.2.2.1.length:Int),(0:Int),())with
     |none=>none
     |some (.inl v6)=>
      match gh (v6.1,v6.2.1,v6.2.2.2.1,())with
      |none=>none
      |some v8=>
      match(!v8.1)with
      |true=>
       some (((0:Int),(0:Int),((0:Int),(0:Int),(0:Int),(0:Int),(0:Int),()),[],()),(5:Int),())
      |false=>
       some (v6.2.2.2.1,(0:Int),())
     |some (.inr v9)=>
      none)) (
    match a9z (x.1,x.2.1,())with
    |none=>none
    |some v4=>
    match jw (v4.1,x.2.1,())with
    |none=>none
    |some v5=>
    match ac dX (x.2.2.1,x.1,x.2.1,((0:Int),(0:Int),((0:Int),(0:Int),(0:Int),(0:Int),(0:Int),()),[],()),(v5.1.1,x.2.2.2.1,v5.1.2.2.1,v5.1.2.2.2.1,()),(v5.1.2.2.2.1.length:Int),(0:Int),())with
    |none=>none
    |some (.inl v6)=>
     match gh (v6.1,v6.2.1,v6.2.2.2.1,())with
     |none=>none
     |some v8=>
     match(!v8.1)with
     |true=>
      some (((0:Int),(0:Int),((0:Int),(0:Int),(0:Int),(0:Int),(0:Int),()),[],()),(5:Int),())
     |false=>
      some (v6.2.2.2.1,(0:Int),())
    |some (.inr v9)=>
     none)
noncomputable def CG:Spec:=⟨_,(.pair aG (.pair (.int .i64) .unit)),.unit,rfl,rS⟩
noncomputable def zX:FuncId→Option Spec:=a8 [(81,rn),(111,Co),(155,yn),(203,xv),(204,xp)]
theorem IZ:∀f s,zX f=some s→FnOK G0 Tryz.prog f s:=au ⟨dI,kj,ck,IY,vg,trivial⟩
def xw:aF:=⟨[2,4,5,8,11,38,39],(.pair (.int .i64) (.pair (.box ag) (.pair (.box ab) (.pair (.box aG) (.pair (.box (.pair (.int .i64) (.pair (.int .i64) (.pair ab (.pair (.own 2 (.int .i64)) .unit))))) ak))))),0,[4,5,8,11],(.pair (.box ag) (.pair (.box ab) (.pair (.box aG) (.pair (.box (.pair (.int .i64) (.pair (.int .i64) (.pair ab (.pair (.own 2 (.int .i64)) .unit))))) .unit)))),[],.unit⟩
noncomputable def zY:List ar:=[xw.spec dX]
theorem Gn:aX aS E0 zX (aW Tryz.f156 zY) Tryz.f156 0 xw dX:=fun x=>by kernel_rfl
theorem ML:FnOK G0 Tryz.prog 156 CG:=ax ah IZ Tryz.func156 zY (by kernel_rfl) (by exact⟨(Gn).lok,trivial⟩) fun x=>by kernel_rfl
noncomputable def oI(x:Ty.T (.pair ag (.pair ab .unit))):Option (Ty.T (.pair (.own 2 (.int .i64)) (.pair (.int .i64) .unit))):=
match dV x with
|none=>none
|some v1=>
match(v1.1 != (0:Int))with
|true=>
 some ([],v1.1,())
|false=>
 match a9z x with
 |none=>none
 |some v2=>
 match lN ((IntKind.i64.wrap ((8:Int)*v2.1.2.2.2.1)),())with
 |none=>none
 |some v3=>
 some (v3.1,(0:Int),())
noncomputable def xx:Spec:=⟨_,(.pair (.own 2 (.int .i64)) (.pair (.int .i64) .unit)),.unit,rfl,oI⟩
theorem I0:FnOK G0 Tryz.prog 157 xx:=ai ah (sg dI (sg kj (sg IW (az)))) Tryz.func157
noncomputable def f3(x:(Ty.T (.pair (.box ag) (.pair (.box ab) (.pair (.box aH) (.pair (.own 2 (.int .i64)) ak)))))):Option ((Ty.T (.pair (.box ag) (.pair (.box ab) (.pair (.box aH) (.pair (.own 2 (.int .i64)) ak))))) ⊕ ((Ty.T (.pair (.box ag) (.pair (.box ab) .unit))) ⊕ (Ty.T (.pair (.own 2 (.int .i64)) .unit)))):=
match(decide (x.2.2.2.2.2.1<x.2.2.2.2.1))with
|true=>
 aa (aw x.2.2.2.1 x.2.2.2.2.2.1) fun _=>
 match x.2.2.2.1[x.2.2.2.2.2.1.toNat]? with
 |none=>none
 |some v2=>
 match rS (x.1,x.2.1,x.2.2.1.1,v2,())with
 |none=>none
 |some v3=>
 match(v3.2.1==(0:Int))with
 |true=>
  match ko (x.1,x.2.1,v3.1,())with
  |none=>none
  |some v4=>
  some (.inr (.inr (v4.1,())))
 |false=>
  some (.inl (x.1,x.2.1,x.2.2.1,x.2.2.2.1,x.2.2.2.2.1,(IntKind.i64.wrap (x.2.2.2.2.2.1+(1:Int))),()))
|false=>
 some (.inr (.inl (x.1,x.2.1,())))
noncomputable def I1(x:Ty.T (.pair ag (.pair ab (.pair aH .unit)))):Option (Ty.T (.pair (.own 2 (.int .i64)) .unit)):=
match ac f3 (x.1,x.2.1,x.2.2.1,[x.2.2.1.2.1,(0:Int)],([x.2.2.1.2.1,(0:Int)].length:Int),(0:Int),())with
|none=>none
|some (.inl v5)=>
 match oI v5 with
 |none=>none
 |some v7=>
 some (v7.1,())
|some (.inr v6)=>
 some (v6.1,())
noncomputable def U0:Spec:=⟨_,(.pair (.own 2 (.int .i64)) .unit),.unit,rfl,I1⟩
noncomputable def LA:FuncId→Option Spec:=a8 [(94,vh),(156,CG),(157,xx)]
theorem QC:∀f s,LA f=some s→FnOK G0 Tryz.prog f s:=au ⟨Gm,ML,I0,trivial⟩
def I2:aF:=⟨[3,4,5,17,18,19],(.pair (.box ag) (.pair (.box ab) (.pair (.box aH) (.pair (.own 2 (.int .i64)) ak)))),0,[3,4],(.pair (.box ag) (.pair (.box ab) .unit)),[6],(.pair (.own 2 (.int .i64)) .unit)⟩
noncomputable def LB:List ar:=[I2.spec f3]
theorem OQ:aX aS E0 LA (aW Tryz.f115 LB) Tryz.f115 0 I2 f3:=fun x=>by kernel_rfl
theorem TV:FnOK G0 Tryz.prog 115 U0:=ax ah QC Tryz.func115 LB (by kernel_rfl) (by exact⟨(OQ).lok,trivial⟩) fun x=>by kernel_rfl
noncomputable def CH(x:Ty.T ak):Option (Ty.T (.pair (.int .i64) .unit)):=
if x.2.1<0 then none else
some ((bits BinOp.andNot .i64 x.1 (IntKind.i64.wrap ((1:Int)*2^min x.2.1.toNat IntKind.i64.bits))),())
noncomputable def QD:Spec:=⟨_,(.pair (.int .i64) .unit),.unit,rfl,CH⟩
theorem OS:FnOK G0 Tryz.prog 160 QD:=ai ah az Tryz.func160
noncomputable def bf(x:Ty.T (.pair (.int .i64) (.pair (.int .i64) (.pair .bool .unit)))):Option (Ty.T ak):=
match oA (x.1,())with
|none=>none
|some v1=>
match(!v1.1)with
|true=>
 some ((0:Int),(2:Int),())
|false=>
 match mU (x.2.1,())with
 |none=>none
 |some v2=>
 match(!v2.1)with
 |true=>
  some ((0:Int),(2:Int),())
 |false=>
  match x.2.2.1 with
  |true=>
   if x.2.1<0 then none else
   some ((bits BinOp.or .i64 x.1 (IntKind.i64.wrap ((1:Int)*2^min x.2.1.toNat IntKind.i64.bits))),(0:Int),())
  |false=>
   match CH (x.1,x.2.1,())with
   |none=>none
   |some v3=>
   some (v3.1,(0:Int),())
noncomputable def MM:Spec:=⟨_,ak,.unit,rfl,bf⟩
theorem KL:FnOK G0 Tryz.prog 116 MM:=ai ah (sg zP (sg vF (sg OS (az)))) Tryz.func116
noncomputable def fX(x:Ty.T (.pair ab (.pair (.int .i64) ak))):Option (Ty.T (.pair ab (.pair (.int .i64) .unit))):=
match eN ((x.1.1,x.1.2.1,x.1.2.2.1,x.1.2.2.2.1,x.1.2.2.2.2.1,()),())with
|none=>none
|some v1=>
match(!v1.1)with
|true=>
 some (((0:Int),(0:Int),(0:Int),(0:Int),(0:Int),()),(1:Int),())
|false=>
 match bb (x.2.1,(0:Int),(65535:Int),())with
 |none=>none
 |some v2=>
 match(!v2.1)with
 |true=>
  some (((0:Int),(0:Int),(0:Int),(0:Int),(0:Int),()),(2:Int),())
 |false=>
  match bb (x.2.2.1,(1:Int),(256:Int),())with
  |none=>none
  |some v3=>
  match(!v3.1)with
  |true=>
   some (((0:Int),(0:Int),(0:Int),(0:Int),(0:Int),()),(2:Int),())
  |false=>
   match bb (x.2.2.2.1,(1:Int),(16:Int),())with
   |none=>none
   |some v4=>
   match(!v4.1)with
   |true=>
    some (((0:Int),(0:Int),(0:Int),(0:Int),(0:Int),()),(2:Int),())
   |false=>
    match(decide (x.1.2.2.2.1≥x.2.2.1))with
    |true=>
     some (((0:Int),(0:Int),(0:Int),(0:Int),(0:Int),()),(2:Int),())
    |false=>
     match(decide (x.1.2.2.1≥x.2.2.2.1))with
     |true=>
      some (((0:Int),(0:Int),(0:Int),(0:Int),(0:Int),()),(2:Int),())
     |false=>
      match((IntKind.i64.wrap (x.1.2.2.2.1+(1:Int)))==x.2.2.1)with
      |true=>
       if x.2.2.2.1=0 then none else
       some (((Int.tmod (IntKind.i64.wrap (x.1.1+x.2.1)) (65536:Int)),x.1.2.1,(Int.tmod (IntKind.i64.wrap (x.1.2.2.1+(1:Int))) x.2.2.2.1),(0:Int),x.1.2.2.2.2.1,()),(0:Int),())
      |false=>
       some (((Int.tmod (IntKind.i64.wrap (x.1.1+x.2.1)) (65536:Int)),x.1.2.1,x.1.2.2.1,(IntKind.i64.wrap (x.1.2.2.2.1+(1:Int))),x.1.2.2.2.2.1,()),(0:Int),())
noncomputable def Gp:Spec:=⟨_,(.pair ab (.pair (.int .i64) .unit)),.unit,rfl,fX⟩
theorem D1:FnOK G0 Tryz.prog 161 Gp:=ai ah (sg ck (sg oB (az))) Tryz.func161
noncomputable def be(x:Ty.T (.pair ag (.pair ab .unit))):Option (Ty.T (.pair ab .unit)):=
aa (aw x.1.2.2.1 x.2.1.2.1) fun v1=>
aU (
 match a9z ((x.1.1,x.1.2.1,x.1.2.2.1,x.1.2.2.2.1,()),(x.2.1.1,x.2.1.2.1,x.2.1.2.2.1,x.2.1.2.2.2.1,x.2.1.2.2.2.2.1,()),())with
 |none=>none
 |some v2=>
 aL (
  match fX ((x.2.1.1,x.2.1.2.1,x.2.1.2.2.1,x.2.1.2.2.2.1,x.2.1.2.2.2.2.1,()),v2.1.2.2.2.1,v1.2.1,v1.1,())with
  |none=>none
  |some v3=>
  some ((v3.1.1,v3.1.2.1,v3.1.2.2.1,v3.1.2.2.2.1,v3.1.2.2.2.2.1,()),()))) (
 match a9z ((x.1.1,x.1.2.1,x.1.2.2.1,x.1.2.2.2.1,()),(x.2.1.1,x.2.1.2.1,x.2.1.2.2.1,x.2.1.2.2.2.1,x.2.1.2.2.2.2.1,()),())with
 |none=>none
 |some v2=>
 match fX ((x.2.1.1,x.2.1.2.1,x.2.1.2.2.1,x.2.1.2.2.2.1,x.2.1.2.2.2.2.1,()),v2.1.2.2.2.1,v1.2.1,v1.1,())with
 |none=>none
 |some v3=>
 some ((v3.1.1,v3.1.2.1,v3.1.2.2.1,v3.1.2.2.2.1,v3.1.2.2.2.2.1,()),()))
noncomputable def MN:Spec:=⟨_,(.pair ab .unit),.unit,rfl,be⟩
theorem KM:FnOK G0 Tryz.prog 117 MN:=ai ah (sg dI (sg D1 (az))) Tryz.func117
noncomputable def rT(x:Ty.T (.pair ag (.pair ab (.pair aH .unit)))):Option (Ty.T (.pair (.pair (.int .i64) (.pair (.pair (.int .i64) (.pair (.int .i64) (.pair ab (.pair (.own 2 (.int .i64)) .unit)))) .unit)) (.pair ab .unit))):=
match I1 x with
|none=>none
|some v1=>
aU (
 match fD (v1.1,x.2.2.1.2.2.1,())with
 |none=>none
 |some v2=>
 aU (
  match fD (v1.1,x.2.2.1.2.2.2.1,())with
  |none=>none
  |some v3=>
  aL (
   match iB (x.1,x.2.1,v2.1,v3.1,())with
   |none=>none
   |some v4=>
   aU (
    aU (
     aL (
      match a9z (x.1,x.2.1,())with
      |none=>none
      |some v5=>
      match bf (x.2.1.2.2.2.2.1,v5.1.1,(v4.1.1==(3:Int)),())with
      |none=>none
      |some v6=>
      aL (
       match be (x.1,(x.2.1.1,x.2.1.2.1,x.2.1.2.2.1,x.2.1.2.2.2.1,v6.1,()),())with
       |none=>none
       |some v7=>
       some (v4.1,v7.1,())))) (
     match a9z (x.1,x.2.1,())with
     |none=>none
     |some v5=>
     match bf (x.2.1.2.2.2.2.1,v5.1.1,(v4.1.1==(3:Int)),())with
     |none=>none
     |some v6=>
     aL (
      match be (x.1,(x.2.1.1,x.2.1.2.1,x.2.1.2.2.1,x.2.1.2.2.2.1,v6.1,()),())with
      |none=>none
      |some v7=>
      some (v4.1,v7.1,())))) (
    aU (
     aU (
      aL (
       match a9z (x.1,x.2.1,())with
       |none=>none
       |some v5=>
       match bf (x.2.1.2.2.2.2.1,v5.1.1,(v4.1.1==(3:Int)),())with
       |none=>none
       |some v6=>
       aL (
        match be (x.1,(x.2.1.1,x.2.1.2.1,x.2.1.2.2.1,x.2.1.2.2.2.1,v6.1,()),())with
        |none=>none
        |some v7=>
        some (v4.1,v7.1,())))) (
      aU (
       match a9z (x.1,x.2.1,())with
       |none=>none
       |some v5=>
       aL (
        match bf (x.2.1.2.2.2.2.1,v5.1.1,(v4.1.1==(3:Int)),())with
        |none=>none
        |some v6=>
        aL (
         match be (x.1,(x.2.1.1,x.2.1.2.1,x.2.1.2.2.1,x.2.1.2.2.2.1,v6.1,()),())with
         |none=>none
         |some v7=>
         some (v4.1,v7.1,())))) (
       aL (
        match a9z (x.1,x.2.1,())with
        |none=>none
        |some v5=>
        match bf (x.2.1.2.2.2.2.1,v5.1.1,(v4.1.1==(3:Int)),())with
        |none=>none
        |some v6=>
        aL (
         match be (x.1,(x.2.1.1,x.2.1.2.1,x.2.1.2.2.1,x.2.1.2.2.2.1,v6.1,()),())with
         |none=>none
         |some v7=>
         some (v4.1,v7.1,())))))) (
     aU (
      match a9z (x.1,x.2.1,())with
      |none=>none
      |some v5=>
      match bf (x.2.1.2.2.2.2.1,v5.1.1,(v4.1.1==(3:Int)),())with
      |none=>none
      |some v6=>
      aL (
       match be (x.1,(x.2.1.1,x.2.1.2.1,x.2.1.2.2.1,x.2.1.2.2.2.1,v6.1,()),())with
       |none=>none
       |some v7=>
       some (v4.1,v7.1,()))) (
      aL (
       match a9z (x.1,x.2.1,())with
       |none=>none
       |some v5=>
       match bf (x.2.1.2.2.2.2.1,v5.1.1,(v4.1.1==(3:Int)),())with
       |none=>none
       |some v6=>
       aL (
        match be (x.1,(x.2.1.1,x.2.1.2.1,x.2.1.2.2.1,x.2.1.2.2.2.1,v6.1,()),())with
        |none=>none
        |some v7=>
        some (v4.1,v7.1,())))))))) (
  match fD (v1.1,x.2.2.1.2.2.2.1,())with
  |none=>none
  |some v3=>
  match iB (x.1,x.2.1,v2.1,v3.1,())with
  |none=>none
  |some v4=>
  aU (
   aU (
    aL (
     match a9z (x.1,x.2.1,())with
     |none=>none
     |some v5=>
     match bf (x.2.1.2.2.2.2.1,v5.1.1,(v4.1.1==(3:Int)),())with
     |none=>none
     |some v6=>
     aL (
      match be (x.1,(x.2.1.1,x.2.1.2.1,x.2.1.2.2.1,x.2.1.2.2.2.1,v6.1,()),())with
      |none=>none
      |some v7=>
      some (v4.1,v7.1,())))) (
    match a9z (x.1,x.2.1,())with
    |none=>none
    |some v5=>
    match bf (x.2.1.2.2.2.2.1,v5.1.1,(v4.1.1==(3:Int)),())with
    |none=>none
    |some v6=>
    aL (
     match be (x.1,(x.2.1.1,x.2.1.2.1,x.2.1.2.2.1,x.2.1.2.2.2.1,v6.1,()),())with
     |none=>none
     |some v7=>
     some (v4.1,v7.1,())))) (
   aU (
    aU (
     aL (
      match a9z (x.1,x.2.1,())with
      |none=>none
      |some v5=>
      match bf (x.2.1.2.2.2.2.1,v5.1.1,(v4.1.1==(3:Int)),())with
      |none=>none
      |some v6=>
      aL (
       match be (x.1,(x.2.1.1,x.2.1.2.1,x.2.1.2.2.1,x.2.1.2.2.2.1,v6.1,()),())with
       |none=>none
       |some v7=>
       some (v4.1,v7.1,())))) (
     aU (
      match a9z (x.1,x.2.1,())with
      |none=>none
      |some v5=>
      aL (
       match bf (x.2.1.2.2.2.2.1,v5.1.1,(v4.1.1==(3:Int)),())with
       |none=>none
       |some v6=>
       aL (
        match be (x.1,(x.2.1.1,x.2.1.2.1,x.2.1.2.2.1,x.2.1.2.2.2.1,v6.1,()),())with
        |none=>none
        |some v7=>
        some (v4.1,v7.1,())))) (
      aL (
       match a9z (x.1,x.2.1,())with
       |none=>none
       |some v5=>
       match bf (x.2.1.2.2.2.2.1,v5.1.1,(v4.1.1==(3:Int)),())with
       |none=>none
       |some v6=>
       aL (
        match be (x.1,(x.2.1.1,x.2.1.2.1,x.2.1.2.2.1,x.2.1.2.2.2.1,v6.1,()),())with
        |none=>none
        |some v7=>
        some (v4.1,v7.1,())))))) (
    aU (
     match a9z (x.1,x.2.1,())with
     |none=>none
     |some v5=>
     match bf (x.2.1.2.2.2.2.1,v5.1.1,(v4.1.1==(3:Int)),())with
     |none=>none
     |some v6=>
     aL (
      match be (x.1,(x.2.1.1,x.2.1.2.1,x.2.1.2.2.1,x.2.1.2.2.2.1,v6.1,()),())with
      |none=>none
      |some v7=>
      some (v4.1,v7.1,()))) (
     aL (
      match a9z (x.1,x.2.1,())with
      |none=>none
      |some v5=>
      match bf (x.2.1.2.2.2.2.1,v5.1.1,(v4.1.1==(3:Int)),())with
      |none=>none
      |some v6=>
      aL (
       match be (x.1,(x.2.1.1,x.2.1.2.1,x.2.1.2.2.1,x.2.1.2.2.2.1,v6.1,()),())with
       |none=>none
       |some v7=>
       some (v4.1,v7.1,())))))))) (
 match fD (v1.1,x.2.2.1.2.2.1,())with
 |none=>none
 |some v2=>
 match fD (v1.1,x.2.2.1.2.2.2.1,())with
 |none=>none
 |some v3=>
 match iB (x.1,x.2.1,v2.1,v3.1,())with
 |none=>none
 |some v4=>
 aU (
  aU (
   aL (
    match a9z (x.1,x.2.1,())with
    |none=>none
    |some v5=>
    match bf (x.2.1.2.2.2.2.1,v5.1.1,(v4.1.1==(3:Int)),())with
    |none=>none
    |some v6=>
    aL (
     match be (x.1,(x.2.1.1,x.2.1.2.1,x.2.1.2.2.1,x.2.1.2.2.2.1,v6.1,()),())with
     |none=>none
     |some v7=>
     some (v4.1,v7.1,())))) (
   match a9z (x.1,x.2.1,())with
   |none=>none
   |some v5=>
   match bf (x.2.1.2.2.2.2.1,v5.1.1,(v4.1.1==(3:Int)),())with
   |none=>none
   |some v6=>
   aL (
    match be (x.1,(x.2.1.1,x.2.1.2.1,x.2.1.2.2.1,x.2.1.2.2.2.1,v6.1,()),())with
    |none=>none
    |some v7=>
    some (v4.1,v7.1,())))) (
  aU (
   aU (
    aL (
     match a9z (x.1,x.2.1,())with
     |none=>none
     |some v5=>
     match bf (x.2.1.2.2.2.2.1,v5.1.1,(v4.1.1==(3:Int)),())with
     |none=>none
     |some v6=>
     aL (
      match be (x.1,(x.2.1.1,x.2.1.2.1,x.2.1.2.2.1,x.2.1.2.2.2.1,v6.1,()),())with
      |none=>none
      |some v7=>
      some (v4.1,v7.1,())))) (
    aU (
     match a9z (x.1,x.2.1,())with
     |none=>none
     |some v5=>
     aL (
      match bf (x.2.1.2.2.2.2.1,v5.1.1,(v4.1.1==(3:Int)),())with
      |none=>none
      |some v6=>
      aL (
       match be (x.1,(x.2.1.1,x.2.1.2.1,x.2.1.2.2.1,x.2.1.2.2.2.1,v6.1,()),())with
       |none=>none
       |some v7=>
       some (v4.1,v7.1,())))) (
     aL (
      match a9z (x.1,x.2.1,())with
      |none=>none
      |some v5=>
      match bf (x.2.1.2.2.2.2.1,v5.1.1,(v4.1.1==(3:Int)),())with
      |none=>none
      |some v6=>
      aL (
       match be (x.1,(x.2.1.1,x.2.1.2.1,x.2.1.2.2.1,x.2.1.2.2.2.1,v6.1,()),())with
       |none=>none
       |some v7=>
       some (v4.1,v7.1,())))))) (
   aU (
    match a9z (x.1,x.2.1,())with
    |none=>none
    |some v5=>
    match bf (x.2.1.2.2.2.2.1,v5.1.1,(v4.1.1==(3:Int)),())with
    |none=>none
    |some v6=>
    aL (
     match be (x.1,(x.2.1.1,x.2.1.2.1,x.2.1.2.2.1,x.2.1.2.2.2.1,v6.1,()),())with
     |none=>none
     |some v7=>
     some (v4.1,v7.1,()))) (
    aL (
     match a9z (x.1,x.2.1,())with
     |none=>none
     |some v5=>
     match bf (x.2.1.2.2.2.2.1,v5.1.1,(v4.1.1==(3:Int)),())with
     |none=>none
     |some v6=>
     aL (
      match be (x.1,(x.2.1.1,x.2.1.2.1,x.2.1.2.2.1,x.2.1.2.2.2.1,v6.1,()),())with
      |none=>none
      |some v7=>
      some (v4.1,v7.1,())))))))
noncomputable def OT:Spec:=⟨_,(.pair (.pair (.int .i64) (.pair (.pair (.int .i64) (.pair (.int .i64) (.pair ab (.pair (.own 2 (.int .i64)) .unit)))) .unit)) (.pair ab .unit)),.unit,rfl,rT⟩
theorem MO:FnOK G0 Tryz.prog 78 OT:=ai ah (sg Gg (sg dI (sg Gk (sg TV (sg KL (sg KM (az))))))) Tryz.func78
noncomputable def bW(x:Ty.T (.pair ag (.pair ab (.pair aH .unit)))):Option (Ty.T (.pair (.pair (.int .i64) (.pair (.pair (.int .i64) (.pair (.int .i64) (.pair ab (.pair (.own 2 (.int .i64)) .unit)))) .unit)) (.pair ab (.pair (.int .i64) .unit)))):=
match pw (x.1,x.2.1,[x.2.2.1],())with
|none=>none
|some v1=>
match(v1.1 != (0:Int))with
|true=>
 some (((0:Int),((0:Int),(0:Int),((0:Int),(0:Int),(0:Int),(0:Int),(0:Int),()),[],()),()),((0:Int),(0:Int),(0:Int),(0:Int),(0:Int),()),v1.1,())
|false=>
 match rT x with
 |none=>none
 |some v2=>
 some (v2.1,v2.2.1,(0:Int),())
noncomputable def CI:Spec:=⟨_,(.pair (.pair (.int .i64) (.pair (.pair (.int .i64) (.pair (.int .i64) (.pair ab (.pair (.own 2 (.int .i64)) .unit)))) .unit)) (.pair ab (.pair (.int .i64) .unit))),.unit,rfl,bW⟩
theorem MP:FnOK G0 Tryz.prog 34 CI:=ai ah (sg Kw (sg MO (az))) Tryz.func34
noncomputable def vi(x:Ty.T (.pair al (.pair al .unit))):Option (Ty.T (.pair .bool .unit)):=
match(x.1.1 != x.2.1.1)with
|true=>
 some (false,())
|false=>
 match(x.1.2.1 != x.2.1.2.1)with
 |true=>
  some (false,())
 |false=>
  match(x.1.2.2.1 != x.2.1.2.2.1)with
  |true=>
   some (false,())
  |false=>
   match(x.1.2.2.2.1 != x.2.1.2.2.2.1)with
   |true=>
    some (false,())
   |false=>
    some (true,())
noncomputable def EI:Spec:=⟨_,(.pair .bool .unit),.unit,rfl,vi⟩
theorem OU:FnOK G0 Tryz.prog 66 EI:=ai ah az Tryz.func66
noncomputable def gZ(x:(Ty.T (.pair (.list al) (.pair (.list al) (.pair (.int .i64) .unit))))):Option ((Ty.T (.pair (.list al) (.pair (.list al) (.pair (.int .i64) .unit)))) ⊕ ((Ty.T .unit) ⊕ (Ty.T (.pair .bool .unit)))):=
match(decide (x.2.2.1<(x.1.length:Int)))with
|true=>
 aa (aw x.1 x.2.2.1) fun v1=>
 aa (aw x.2.1 x.2.2.1) fun v2=>
 match vi (v1,v2,())with
 |none=>none
 |some v3=>
 match(!v3.1)with
 |true=>
  some (.inr (.inr (false,())))
 |false=>
  some (.inl (x.1,x.2.1,(IntKind.i64.wrap (x.2.2.1+(1:Int))),()))
|false=>
 some (.inr (.inl (())))
noncomputable def jP(x:Ty.T (.pair (.list al) (.pair (.list al) .unit))):Option (Ty.T (.pair .bool .unit)):=
match((x.1.length:Int) != (x.2.1.length:Int))with
|true=>
 some (false,())
|false=>
 match ac gZ (x.1,x.2.1,(0:Int),())with
 |none=>none
 |some (.inl v4)=>
  some (true,())
 |some (.inr v5)=>
  some (v5.1,())
noncomputable def OV:Spec:=⟨_,(.pair .bool .unit),.unit,rfl,jP⟩
noncomputable def zZ:FuncId→Option Spec:=a8 [(66,EI)]
theorem I3:∀f s,zZ f=some s→FnOK G0 Tryz.prog f s:=au ⟨OU,trivial⟩
def xy:aF:=⟨[0,1,5],(.pair (.list al) (.pair (.list al) (.pair (.int .i64) .unit))),0,[],.unit,[4],(.pair .bool .unit)⟩
noncomputable def z6:List ar:=[xy.spec gZ]
theorem Gq:aX aS E0 zZ (aW Tryz.f20 z6) Tryz.f20 0 xy gZ:=fun x=>by kernel_rfl
theorem MQ:FnOK G0 Tryz.prog 20 OV:=ax ah I3 Tryz.func20 z6 (by kernel_rfl) (by exact⟨(Gq).lok,trivial⟩) fun x=>by kernel_rfl
noncomputable def yz(x:Ty.T (.pair aH (.pair aH .unit))):Option (Ty.T (.pair .bool .unit)):=
match(x.1.1 != x.2.1.1)with
|true=>
 some (false,())
|false=>
 match(x.1.2.1 != x.2.1.2.1)with
 |true=>
  some (false,())
 |false=>
  match jP (x.1.2.2.1,x.2.1.2.2.1,())with
  |none=>none
  |some v1=>
  match(!v1.1)with
  |true=>
   some (false,())
  |false=>
   match jP (x.1.2.2.2.1,x.2.1.2.2.2.1,())with
   |none=>none
   |some v2=>
   match(!v2.1)with
   |true=>
    some (false,())
   |false=>
    some (true,())
noncomputable def I4:Spec:=⟨_,(.pair .bool .unit),.unit,rfl,yz⟩
theorem QE:FnOK G0 Tryz.prog 36 I4:=ai ah (sg MQ (az)) Tryz.func36
noncomputable def fY(x:(Ty.T (.pair (.own 105 al) ak))):Option ((Ty.T (.pair (.own 105 al) ak)) ⊕ ((Ty.T (.pair (.own 105 al) (.pair (.int .i64) .unit))) ⊕ (Ty.T .unit))):=
match(decide (x.2.2.1<(x.1.length:Int)))with
|true=>
 aa (aw x.1 x.2.2.1) fun _=>
 match x.1[x.2.2.1.toNat]? with
 |none=>none
 |some v2=>
 aa (aw (x.1.set x.2.2.1.toNat (x.2.1,v2.2.1,v2.2.2.1,v2.2.2.2.1,())) x.2.2.1) fun _=>
 match(x.1.set x.2.2.1.toNat (x.2.1,v2.2.1,v2.2.2.1,v2.2.2.2.1,()))[x.2.2.1.toNat]? with
 |none=>none
 |some v4=>
 aa (aw ((x.1.set x.2.2.1.toNat (x.2.1,v2.2.1,v2.2.2.1,v2.2.2.2.1,())).set x.2.2.1.toNat (v4.1,(IntKind.i64.wrap (x.2.1+(1:Int))),v4.2.2.1,v4.2.2.2.1,())) x.2.2.1) fun _=>
 match((x.1.set x.2.2.1.toNat (x.2.1,v2.2.1,v2.2.2.1,v2.2.2.2.1,())).set x.2.2.1.toNat (v4.1,(IntKind.i64.wrap (x.2.1+(1:Int))),v4.2.2.1,v4.2.2.2.1,()))[x.2.2.1.toNat]? with
 |none=>none
 |some v6=>
 aa (aw (((x.1.set x.2.2.1.toNat (x.2.1,v2.2.1,v2.2.2.1,v2.2.2.2.1,())).set x.2.2.1.toNat (v4.1,(IntKind.i64.wrap (x.2.1+(1:Int))),v4.2.2.1,v4.2.2.2.1,())).set x.2.2.1.toNat (v6.1,v6.2.1,(IntKind.i64.wrap ((IntKind.i64.wrap (x.2.1+(1:Int)))+(1:Int))),v6.2.2.2.1,())) x.2.2.1) fun _=>
 match(((x.1.set x.2.2.1.toNat (x.2.1,v2.2.1,v2.2.2.1,v2.2.2.2.1,())).set x.2.2.1.toNat (v4.1,(IntKind.i64.wrap (x.2.1+(1:Int))),v4.2.2.1,v4.2.2.2.1,())).set x.2.2.1.toNat (v6.1,v6.2.1,(IntKind.i64.wrap ((IntKind.i64.wrap (x.2.1+(1:Int)))+(1:Int))),v6.2.2.2.1,()))[x.2.2.1.toNat]? with
 |none=>none
 |some v8=>
 some (.inl (((((x.1.set x.2.2.1.toNat (x.2.1,v2.2.1,v2.2.2.1,v2.2.2.2.1,())).set x.2.2.1.toNat (v4.1,(IntKind.i64.wrap (x.2.1+(1:Int))),v4.2.2.1,v4.2.2.2.1,())).set x.2.2.1.toNat (v6.1,v6.2.1,(IntKind.i64.wrap ((IntKind.i64.wrap (x.2.1+(1:Int)))+(1:Int))),v6.2.2.2.1,())).set x.2.2.1.toNat (v8.1,v8.2.1,v8.2.2.1,(IntKind.i64.wrap ((IntKind.i64.wrap ((IntKind.i64.wrap (x.2.1+(1:Int)))+(1:Int)))+(1:Int))),())),(IntKind.i64.wrap ((IntKind.i64.wrap ((IntKind.i64.wrap ((IntKind.i64.wrap (x.2.1+(1:Int)))+(1:Int)))+(1:Int)))+(1:Int))),(IntKind.i64.wrap (x.2.2.1+(1:Int))),()))
|false=>
 some (.inr (.inl (x.1,x.2.1,())))
noncomputable def ie(x:Ty.T (.pair (.own 105 al) (.pair (.int .i64) .unit))):Option (Ty.T (.pair (.int .i64) (.pair (.own 105 al) .unit))):=
match ac fY (x.1,x.2.1,(0:Int),())with
|none=>none
|some (.inl v9)=>
 some (v9.2.1,v9.1,())
|some (.inr v11)=>
 none
noncomputable def KN:Spec:=⟨_,(.pair (.int .i64) .unit),(.pair (.own 105 al) .unit),rfl,ie⟩
noncomputable def vj:FuncId→Option Spec:=a8 []
theorem D2:∀f s,vj f=some s→FnOK G0 Tryz.prog f s:=au trivial
def tQ:aF:=⟨[0,1,5],(.pair (.own 105 al) ak),0,[0,1],(.pair (.own 105 al) (.pair (.int .i64) .unit)),[],.unit⟩
noncomputable def vk:List ar:=[tQ.spec fY]
theorem CJ:aX aS E0 vj (aW Tryz.f23 vk) Tryz.f23 0 tQ fY:=fun x=>by kernel_rfl
theorem I5:FnOK G0 Tryz.prog 23 KN:=ax ah D2 Tryz.func23 vk (by kernel_rfl) (by exact⟨(CJ).lok,trivial⟩) fun x=>by kernel_rfl
noncomputable def rU(x:Ty.T (.pair (.pair (.int .i64) (.pair (.int .i64) (.pair (.own 105 al) (.pair (.own 105 al) .unit)))) (.pair (.int .i64) .unit))):Option (Ty.T (.pair (.int .i64) (.pair (.pair (.int .i64) (.pair (.int .i64) (.pair (.own 105 al) (.pair (.own 105 al) .unit)))) .unit))):=
match ie (x.1.2.2.1,x.2.1,())with
|none=>none
|some v1=>
match ie (x.1.2.2.2.1,v1.1,())with
|none=>none
|some v2=>
some (v2.1,(x.1.1,x.1.2.1,v1.2.1,v2.2.1,()),())
noncomputable def CK:Spec:=⟨_,(.pair (.int .i64) .unit),(.pair (.pair (.int .i64) (.pair (.int .i64) (.pair (.own 105 al) (.pair (.own 105 al) .unit)))) .unit),rfl,rU⟩
theorem MS:FnOK G0 Tryz.prog 37 CK:=ai ah (sg I5 (az)) Tryz.func37
end Go.Proofs.YthfgmmmeplanbaaGreatDoor
