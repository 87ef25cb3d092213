import Derived.Test.YtnambbcafhnhpaaGreatDoorGA
namespace Go.Proofs.YtnambbcafhnhpaaGreatDoor
open Go.RowKit
set_option linter.unusedVariables false
noncomputable def nd(x:Ty.T (.pair cq (.pair ao .unit))):Option (Ty.T Z4):=
be (
 if 0≤x.1.2.2.1∧x.1.2.2.1≤x.1.2.2.1 then
  bd (x.1.2.2.1.toNat) (
   match gC (x.1.2.1,())with
   |none=>none
   |some v1=>
   match v1.1 with
   |true=>
    some ((x.1.2.1,(0:Int),(x.2.1.1,x.2.1.2.1,x.2.1.2.2.1,x.2.1.2.2.2.1,x.2.1.2.2.2.2.1,()),(List.replicate x.1.2.2.1.toNat (0:Int)),()),())
   |false=>
    some ((x.1.2.1,(0:Int),((0:Int),(0:Int),(0:Int),(0:Int),(0:Int),()),(List.replicate x.1.2.2.1.toNat (0:Int)),()),()))
 else none)
noncomputable def DM:ai:=⟨_,Z4,.unit,rfl,nd⟩
theorem Pn:FnOK G0 Tryz.prog 37 DM:=au av (sg lM (ba)) Tryz.func37
abbrev tZ:Ty:=(.pair (.int .i64) (.pair (.int .i64) (.pair (.list (.int .i64)) bM)))
noncomputable def dw(x:(Ty.T tZ)):Option ((Ty.T tZ) ⊕ ((Ty.T .unit) ⊕ (Ty.T aE))):=
match(decide (x.2.2.2.2.1<x.2.2.2.1))with
|true=>
 ac (aI x.2.2.1 x.2.2.2.2.1) fun v1=>
 match(decide (v1<x.1))with
 |true=>
  some (.inr (.inr (false,())))
 |false=>
  match(decide (v1>x.2.1))with
  |true=>
   some (.inr (.inr (false,())))
  |false=>
   some (.inl (x.1,x.2.1,x.2.2.1,x.2.2.2.1,(IntKind.i64.wrap (x.2.2.2.2.1+(1:Int))),()))
|false=>
 some (.inr (.inl (())))
noncomputable def mh(x:Ty.T vP):Option (Ty.T aE):=
match ak dw (x.2.1,x.2.2.1,x.1,(x.1.length:Int),(0:Int),())with
|none=>none
|some (.inl v2)=>
 some (true,())
|some (.inr v3)=>
 some (v3.1,())
noncomputable def TN:ai:=⟨_,aE,.unit,rfl,mh⟩
noncomputable def DN:FuncId→Option ai:=ca []
theorem Ng:∀f s,DN f=some s→FnOK G0 Tryz.prog f s:=aX trivial
def Bc:bg:=⟨[1,2,9,10,11],tZ,0,[],.unit,[6],aE⟩
noncomputable def DP:List aM:=[Bc.spec dw]
theorem Li:bJ bL E0 DN (bF Tryz.f134 DP) Tryz.f134 0 Bc dw:=fun x=>by kernel_rfl
theorem DQ:FnOK G0 Tryz.prog 134 TN:=bb av Ng Tryz.func134 DP (by kernel_rfl) (by exact⟨(Li).lok,trivial⟩) fun x=>by kernel_rfl
noncomputable def pH(x:Ty.T fg):Option (Ty.T aE):=
match(decide ((x.1.length:Int)≤(1024:Int)))with
|true=>
 match mh (x.1,(0:Int),(255:Int),())with
 |none=>none
 |some v1=>
 some (v1.1,())
|false=>
 some (false,())
noncomputable def XL:ai:=⟨_,aE,.unit,rfl,pH⟩
theorem Jm:FnOK G0 Tryz.prog 183 XL:=au av (sg DQ (ba)) Tryz.func183
noncomputable def ga(x:Ty.T ZW):Option (Ty.T aE):=
match zw (x.1.1,())with
|none=>none
|some v1=>
match(!v1.1)with
|true=>
 some (false,())
|false=>
 match bU (x.1.2.1,(0:Int),(7:Int),())with
 |none=>none
 |some v2=>
 match(!v2.1)with
 |true=>
  some (false,())
 |false=>
  match pz (x.1.1,(x.1.2.2.2.1.length:Int),())with
  |none=>none
  |some v3=>
  match(!v3.1)with
  |true=>
   some (false,())
  |false=>
   match pH (x.1.2.2.2.1,())with
   |none=>none
   |some v4=>
   match(!v4.1)with
   |true=>
    some (false,())
   |false=>
    match(x.1.1==(0:Int))with
    |true=>
     some ((et ao (x.1.2.2.1.1,x.1.2.2.1.2.1,x.1.2.2.1.2.2.1,x.1.2.2.1.2.2.2.1,x.1.2.2.1.2.2.2.2.1,()) ((0:Int),(0:Int),(0:Int),(0:Int),(0:Int),())),())
    |false=>
     match(x.1.1==(3:Int))with
     |true=>
      match gU ((x.1.2.2.1.1,x.1.2.2.1.2.1,x.1.2.2.1.2.2.1,x.1.2.2.1.2.2.2.1,x.1.2.2.1.2.2.2.2.1,()),())with
      |none=>none
      |some v5=>
      match v5.1 with
      |true=>
       match(x.1.2.2.1.2.1==(0:Int))with
       |true=>
        match(x.1.2.2.1.2.2.2.2.1 != (0:Int))with
        |true=>
         match((bits BinOp.and .i64 x.1.2.2.1.2.2.2.2.1 (IntKind.i64.wrap (x.1.2.2.1.2.2.2.2.1-(1:Int))))==(0:Int))with
         |true=>
          some ((x.1.2.1==(0:Int)),())
         |false=>
          some (false,())
        |false=>
         some (false,())
       |false=>
        some (false,())
      |false=>
       some (false,())
     |false=>
      match gU ((x.1.2.2.1.1,x.1.2.2.1.2.1,x.1.2.2.1.2.2.1,x.1.2.2.1.2.2.2.1,x.1.2.2.1.2.2.2.2.1,()),())with
      |none=>none
      |some v6=>
      some (v6.1,())
noncomputable def XM:ai:=⟨_,aE,.unit,rfl,ga⟩
theorem Jn:FnOK G0 Tryz.prog 126 XM:=au av (sg dl (sg tW (sg LX (sg Ba (sg Jm (ba)))))) Tryz.func126
noncomputable def zH(x:Ty.T adb):Option (Ty.T aE):=
match(x.2.1.1==x.1.2.1)with
|true=>
 match((x.2.1.2.2.2.1.length:Int)==x.1.2.2.1)with
 |true=>
  match(x.2.1.2.1==(0:Int))with
  |true=>
   some (true,())
  |false=>
   some (x.1.2.2.2.2.1,())
 |false=>
  some (false,())
|false=>
 some (false,())
noncomputable def adr:ai:=⟨_,aE,.unit,rfl,zH⟩
theorem SW:FnOK G0 Tryz.prog 127 adr:=au av ba Tryz.func127
noncomputable def lc(x:Ty.T adb):Option (Ty.T aE):=
match gT ((x.1.1,x.1.2.1,x.1.2.2.1,x.1.2.2.2.1,x.1.2.2.2.2.1,()),())with
|none=>none
|some v1=>
match v1.1 with
|true=>
 match ga ((x.2.1.1,x.2.1.2.1,(x.2.1.2.2.1.1,x.2.1.2.2.1.2.1,x.2.1.2.2.1.2.2.1,x.2.1.2.2.1.2.2.2.1,x.2.1.2.2.1.2.2.2.2.1,()),x.2.1.2.2.2.1,()),())with
 |none=>none
 |some v2=>
 match v2.1 with
 |true=>
  match zH ((x.1.1,x.1.2.1,x.1.2.2.1,x.1.2.2.2.1,x.1.2.2.2.2.1,()),(x.2.1.1,x.2.1.2.1,(x.2.1.2.2.1.1,x.2.1.2.2.1.2.1,x.2.1.2.2.1.2.2.1,x.2.1.2.2.1.2.2.2.1,x.2.1.2.2.1.2.2.2.2.1,()),x.2.1.2.2.2.1,()),())with
  |none=>none
  |some v3=>
  some (v3.1,())
 |false=>
  some (false,())
|false=>
 some (false,())
noncomputable def Jo:ai:=⟨_,aE,.unit,rfl,lc⟩
theorem HW:FnOK G0 Tryz.prog 72 Jo:=au av (sg xT (sg Jn (sg SW (ba)))) Tryz.func72
noncomputable def jH(x:Ty.T Rd):Option (Ty.T aE):=
match aN ((x.1.1,x.1.2.1,x.1.2.2.1,x.1.2.2.2.1,()),(x.2.1.1,x.2.1.2.1,x.2.1.2.2.1,x.2.1.2.2.2.1,x.2.1.2.2.2.2.1,()),())with
|none=>none
|some v1=>
match lc (v1.1,(x.2.2.1.1,x.2.2.1.2.1,(x.2.2.1.2.2.1.1,x.2.2.1.2.2.1.2.1,x.2.2.1.2.2.1.2.2.1,x.2.2.1.2.2.1.2.2.2.1,x.2.2.1.2.2.1.2.2.2.2.1,()),x.2.2.1.2.2.2.1,()),())with
|none=>none
|some v2=>
match v2.1 with
|true=>
 match gC (x.2.2.1.1,())with
 |none=>none
 |some v3=>
 match(!v3.1)with
 |true=>
  some (true,())
 |false=>
  some ((et ao (x.2.2.1.2.2.1.1,x.2.2.1.2.2.1.2.1,x.2.2.1.2.2.1.2.2.1,x.2.2.1.2.2.1.2.2.2.1,x.2.2.1.2.2.1.2.2.2.2.1,()) (x.2.1.1,x.2.1.2.1,x.2.1.2.2.1,x.2.1.2.2.2.1,x.2.1.2.2.2.2.1,())),())
|false=>
 some (false,())
noncomputable def DR:ai:=⟨_,aE,.unit,rfl,jH⟩
theorem Bd:FnOK G0 Tryz.prog 38 DR:=au av (sg dZ (sg lM (sg HW (ba)))) Tryz.func38
abbrev uU:Ty:=(.pair (.int .i64) (.pair (.box aA) (.pair (.box ao) (.pair (.box bp) (.pair (.box (.pair (.int .i64) (.pair (.int .i64) (.pair ao (.pair (.own 2 (.int .i64)) .unit))))) bM)))))
abbrev DS:Ty:=(.pair (.box aA) (.pair (.box ao) (.pair (.box bp) (.pair (.box (.pair (.int .i64) (.pair (.int .i64) (.pair ao (.pair (.own 2 (.int .i64)) .unit))))) .unit))))
noncomputable def fG(x:(Ty.T uU)):Option ((Ty.T uU) ⊕ ((Ty.T DS) ⊕ (Ty.T .unit))):=
match(decide (x.2.2.2.2.2.2.1<x.2.2.2.2.2.1))with
|true=>
 ac (aI x.2.2.2.2.1.2.2.2.1 x.2.2.2.2.2.2.1) fun _=>
 match x.2.2.2.2.1.2.2.2.1[x.2.2.2.2.2.2.1.toNat]? with
 |none=>none
 |some v7=>
 some (.inl (x.1,x.2.1,x.2.2.1,x.2.2.2.1,(x.2.2.2.2.1.1,x.2.2.2.2.1.2.1,x.2.2.2.2.1.2.2.1,(x.2.2.2.2.1.2.2.2.1.set x.2.2.2.2.2.2.1.toNat x.1),()),x.2.2.2.2.2.1,(IntKind.i64.wrap (x.2.2.2.2.2.2.1+(1:Int))),()))
|false=>
 some (.inr (.inl (x.2.1,x.2.2.1,x.2.2.2.1,x.2.2.2.2.1,())))
noncomputable def ql(x:Ty.T afR):Option (Ty.T afU):=
match ej (x.1,x.2.1,())with
|none=>none
|some v1=>
match(v1.1 != (0:Int))with
|true=>
 some (((0:Int),(0:Int),((0:Int),(0:Int),(0:Int),(0:Int),(0:Int),()),[],()),v1.1,())
|false=>
 match bU (x.2.2.1,(0:Int),(255:Int),())with
 |none=>none
 |some v2=>
 match(!v2.1)with
 |true=>
  some (((0:Int),(0:Int),((0:Int),(0:Int),(0:Int),(0:Int),(0:Int),()),[],()),(2:Int),())
 |false=>
  match bU (x.2.2.2.1,(0:Int),(7:Int),())with
  |none=>none
  |some v3=>
  match(!v3.1)with
  |true=>
   some (((0:Int),(0:Int),((0:Int),(0:Int),(0:Int),(0:Int),(0:Int),()),[],()),(2:Int),())
  |false=>
   aD (
    match aN (x.1,x.2.1,())with
    |none=>none
    |some v4=>
    aD (
     match nd (v4.1,x.2.1,())with
     |none=>none
     |some v5=>
     match ak fG (x.2.2.1,x.1,x.2.1,((0:Int),(0:Int),((0:Int),(0:Int),(0:Int),(0:Int),(0:Int),()),[],()),(v5.1.1,x.2.2.2.1,v5.1.2.2.1,v5.1.2.2.2.1,()),(v5.1.2.2.2.1.length:Int),(0:Int),())with
     |none=>none
     |some (.inl v8)=>
      match jH (v8.1,v8.2.1,v8.2.2.2.1,())with
      |none=>none
      |some v10=>
      match(!v10.1)with
      |true=>
       some (((0:Int),(0:Int),((0:Int),(0:Int),(0:Int),(0:Int),(0:Int),()),[],()),(5:Int),())
      |false=>
       some (v8.2.2.2.1,(0:Int),())
     |some (.inr v11)=>
      none) (
     match nd (v4.1,x.2.1,())with
     |none=>none
     |some v5=>
     match ak fG (x.2.2.1,x.1,x.2.1,((0:Int),(0:Int),((0:Int),(0:Int),(0:Int),(0:Int),(0:Int),()),[],()),(v5.1.1,x.2.2.2.1,v5.1.2.2.1,v5.1.2.2.2.1,()),(v5.1.2.2.2.1.length:Int),(0:Int),())with
     |none=>none
     |some (.inl v6)=>
      match jH (v6.1,v6.2.1,v6.2.2.2.1,())with
      |none=>none
      |some v8=>
      match(!v8.1)with
      |true=>
       some (((0:Int),(0:Int),((0:Int),(0:Int),(0:Int),(0:Int),(0:Int),()),[],()),(5:Int),())
      |false=>
       some (v6.2.2.2.1,(0:Int),())
     |some (.inr v9)=>
      none)) (
    match aN (x.1,x.2.1,())with
    |none=>none
    |some v4=>
    match nd (v4.1,x.2.1,())with
    |none=>none
    |some v5=>
    match ak fG (x.2.2.1,x.1,x.2.1,((0:Int),(0:Int),((0:Int),(0:Int),(0:Int),(0:Int),(0:Int),()),[],()),(v5.1.1,x.2.2.2.1,v5.1.2.2.1,v5.1.2.2.2.1,()),(v5.1.2.2.2.1.length:Int),(0:Int),())with
    |none=>none
    |some (.inl v6)=>
     match jH (v6.1,v6.2.1,v6.2.2.2.1,())with
     |none=>none
     |some v8=>
     match(!v8.1)with
     |true=>
      some (((0:Int),(0:Int),((0:Int),(0:Int),(0:Int),(0:Int),(0:Int),()),[],()),(5:Int),())
     |false=>
      some (v6.2.2.2.1,(0:Int),())
    |some (.inr v9)=>
     none)
noncomputable def zI:ai:=⟨_,afU,.unit,rfl,ql⟩
noncomputable def GY:FuncId→Option ai:=ca [(26,FF),(30,Jl),(31,xY),(37,DM),(38,DR)]
theorem Po:∀f s,GY f=some s→FnOK G0 Tryz.prog f s:=aX ⟨dl,lN,dZ,Pn,Bd,trivial⟩
def DT:bg:=⟨[2,4,5,8,11,38,39],uU,0,[4,5,8,11],DS,[],.unit⟩
noncomputable def GZ:List aM:=[DT.spec fG]
theorem Nh:bJ bL E0 GY (bF Tryz.f14 GZ) Tryz.f14 0 DT fG:=fun x=>by kernel_rfl
theorem G1:FnOK G0 Tryz.prog 14 zI:=bb av Po Tryz.func14 GZ (by kernel_rfl) (by exact⟨(Nh).lok,trivial⟩) fun x=>by kernel_rfl
noncomputable def t6(x:Ty.T Rd):Option (Ty.T aV):=
match ej ((x.1.1,x.1.2.1,x.1.2.2.1,x.1.2.2.2.1,()),(x.2.1.1,x.2.1.2.1,x.2.1.2.2.1,x.2.1.2.2.2.1,x.2.1.2.2.2.2.1,()),())with
|none=>none
|some v1=>
match(v1.1 != (0:Int))with
|true=>
 some (v1.1,())
|false=>
 match jH ((x.1.1,x.1.2.1,x.1.2.2.1,x.1.2.2.2.1,()),(x.2.1.1,x.2.1.2.1,x.2.1.2.2.1,x.2.1.2.2.2.1,x.2.1.2.2.2.2.1,()),(x.2.2.1.1,x.2.2.1.2.1,(x.2.2.1.2.2.1.1,x.2.2.1.2.2.1.2.1,x.2.2.1.2.2.1.2.2.1,x.2.2.1.2.2.1.2.2.2.1,x.2.2.1.2.2.1.2.2.2.2.1,()),x.2.2.1.2.2.2.1,()),())with
 |none=>none
 |some v2=>
 match(!v2.1)with
 |true=>
  some ((5:Int),())
 |false=>
  some ((0:Int),())
noncomputable def VT:ai:=⟨_,aV,.unit,rfl,t6⟩
theorem TO:FnOK G0 Tryz.prog 73 VT:=au av (sg lN (sg Bd (ba))) Tryz.func73
noncomputable def mS(x:Ty.T (.pair .nil (.pair (.int .i64) .unit))):Option (Ty.T bu):=
match(decide (x.2.1<(0:Int)))with
|true=>
 none
|false=>
 match(decide ((IntKind.i64.wrap (x.2.1-(IntKind.i64.wrap ((0:Int)-(0:Int)))))>(0:Int)))with
 |true=>
  ac (aZ 0 none (some (.dat (.int .i64) (0:Int)))) fun v1=>
  if 0≤(IntKind.i64.wrap (x.2.1-(IntKind.i64.wrap ((0:Int)-(0:Int)))))then
   bd ((IntKind.i64.wrap (x.2.1-(IntKind.i64.wrap ((0:Int)-(0:Int))))).toNat) (
    ac (aZ (List.replicate (IntKind.i64.wrap (x.2.1-(IntKind.i64.wrap ((0:Int)-(0:Int))))).toNat (0:Int)).length none (some (.dat (.int .i64) (0:Int)))) fun v2=>
    some ((List.take v2.2 (List.replicate (IntKind.i64.wrap (x.2.1-(IntKind.i64.wrap ((0:Int)-(0:Int))))).toNat (0:Int))),()))
  else none
 |false=>
  some ([],())
noncomputable def uy:ai:=⟨_,bu,.unit,rfl,mS⟩
theorem FJ:FnOK G0 Tryz.prog 128 uy:=au av ba Tryz.func128
abbrev lF:Ty:=(.pair (.list (.list (.int .i64))) (.pair (.int .i64) (.pair (.list (.list (.int .i64))) bM)))
abbrev qA:Ty:=(.pair (.list (.list (.int .i64))) (.pair (.int .i64) .unit))
noncomputable def cZ(x:(Ty.T lF)):Option ((Ty.T lF) ⊕ ((Ty.T qA) ⊕ (Ty.T .unit))):=
match(decide (x.2.2.2.2.1<x.2.2.2.1))with
|true=>
 ac (aI x.2.2.1 x.2.2.2.2.1) fun v1=>
 match(decide ((IntKind.i64.wrap (x.2.1+(v1.length:Int)))<(0:Int)))with
 |true=>
  none
 |false=>
  some (.inl (x.1,(IntKind.i64.wrap (x.2.1+(v1.length:Int))),x.2.2.1,x.2.2.2.1,(IntKind.i64.wrap (x.2.2.2.2.1+(1:Int))),()))
|false=>
 some (.inr (.inl (x.1,x.2.1,())))
abbrev ld:Ty:=(.pair (.own 2 (.int .i64)) (.pair (.list (.list (.int .i64))) bM))
noncomputable def cR(x:(Ty.T ld)):Option ((Ty.T ld) ⊕ ((Ty.T bu) ⊕ (Ty.T .unit))):=
match(decide (x.2.2.2.1<x.2.2.1))with
|true=>
 ac (aI x.2.1 x.2.2.2.1) fun v5=>
 bd (x.1.length+v5.length) (
  some (.inl ((x.1++v5),x.2.1,x.2.2.1,(IntKind.i64.wrap (x.2.2.2.1+(1:Int))),())))
|false=>
 some (.inr (.inl (x.1,())))
noncomputable def iO(x:Ty.T (.pair (.list (.list (.int .i64))) .unit)):Option (Ty.T bu):=
match ak cZ (x.1,(0:Int),x.1,(x.1.length:Int),(0:Int),())with
|none=>none
|some (.inl v2)=>
 match mS ((),v2.2.1,())with
 |none=>none
 |some v4=>
 match ak cR (v4.1,v2.1,(v2.1.length:Int),(0:Int),())with
 |none=>none
 |some (.inl v6)=>
  some (v6.1,())
 |some (.inr v8)=>
  none
|some (.inr v9)=>
 none
noncomputable def DU:ai:=⟨_,bu,.unit,rfl,iO⟩
noncomputable def mi:FuncId→Option ai:=ca [(128,uy)]
theorem zJ:∀f s,mi f=some s→FnOK G0 Tryz.prog f s:=aX ⟨FJ,trivial⟩
def qB:bg:=⟨[0,3,9,10,11],lF,0,[0,3],qA,[],.unit⟩
def pI:bg:=⟨[6,25,26,27],ld,2,[6],bu,[],.unit⟩
noncomputable def mj:List aM:=[qB.spec cZ,pI.spec cR]
theorem yq:bJ bL E0 mi (bF Tryz.f74 mj) Tryz.f74 0 qB cZ:=fun x=>by kernel_rfl
theorem w7:bJ bL E0 mi (bF Tryz.f74 mj) Tryz.f74 1 pI cR:=fun x=>by kernel_rfl
theorem BR:FnOK G0 Tryz.prog 74 DU:=bb av zJ Tryz.func74 mj (by kernel_rfl) (by exact⟨(yq).lok,(w7).lok,trivial⟩) fun x=>by kernel_rfl
noncomputable def lu(x:Ty.T y7):Option (Ty.T bu):=ac (Q9 x.1 x.2.1) fun s=>some (s,())
noncomputable def DV:ai:=⟨y7,bu,.unit,rfl,lu⟩
theorem BS:FnOK G0 Tryz.prog 129 DV:=abu (nP Tryz.func129 (by kernel_rfl) (show Tryz.f129.body=some (fe Tryz.f129) by kernel_rfl))
noncomputable def qm(x:Ty.T aV):Option (Ty.T bu):=
match lu ([(1:Int)],x.1,())with
|none=>none
|some v1=>
some (v1.1,())
noncomputable def abA:ai:=⟨_,bu,.unit,rfl,qm⟩
theorem Pp:FnOK G0 Tryz.prog 75 abA:=au av (sg BS (ba)) Tryz.func75
noncomputable def gW(x:(Ty.T MK)):Option ((Ty.T MK) ⊕ ((Ty.T bu) ⊕ (Ty.T .unit))):=
match(decide (x.2.2.1≥(0:Int)))with
|true=>
 if x.2.2.1<0 then none else
 bd (x.1.length+ [(bits BinOp.and .i64 (Int.fdiv x.2.1 (2^min x.2.2.1.toNat IntKind.i64.bits)) (1:Int))].length) (
  some (.inl ((x.1++ [(bits BinOp.and .i64 (Int.fdiv x.2.1 (2^min x.2.2.1.toNat IntKind.i64.bits)) (1:Int))]),x.2.1,(IntKind.i64.wrap (x.2.2.1-(1:Int))),())))
|false=>
 some (.inr (.inl (x.1,())))
noncomputable def ct(x:Ty.T MK):Option (Ty.T bu):=
match ak gW (x.1,x.2.1,(IntKind.i64.wrap (x.2.2.1-(1:Int))),())with
|none=>none
|some (.inl v1)=>
 some (v1.1,())
|some (.inr v3)=>
 none
noncomputable def r8:ai:=⟨_,bu,.unit,rfl,ct⟩
noncomputable def xZ:FuncId→Option ai:=ca []
theorem HX:∀f s,xZ f=some s→FnOK G0 Tryz.prog f s:=aX trivial
def wo:bg:=⟨[0,1,7],MK,0,[0],bu,[],.unit⟩
noncomputable def x5:List aM:=[wo.spec gW]
theorem FK:bJ bL E0 xZ (bF Tryz.f130 x5) Tryz.f130 0 wo gW:=fun x=>by kernel_rfl
theorem qW:FnOK G0 Tryz.prog 130 r8:=bb av HX Tryz.func130 x5 (by kernel_rfl) (by exact⟨(FK).lok,trivial⟩) fun x=>by kernel_rfl
abbrev w9:Ty:=adi
noncomputable def km(x:(Ty.T w9)):Option ((Ty.T w9) ⊕ ((Ty.T bu) ⊕ (Ty.T .unit))):=
match(decide (x.2.2.2.1<x.2.2.1))with
|true=>
 ac (aI x.2.1 x.2.2.2.1) fun v1=>
 bd (x.1.length+ [(1:Int),(0:Int)].length) (
  match ct ((x.1++ [(1:Int),(0:Int)]),v1,(8:Int),())with
  |none=>none
  |some v2=>
  some (.inl (v2.1,x.2.1,x.2.2.1,(IntKind.i64.wrap (x.2.2.2.1+(1:Int))),())))
|false=>
 some (.inr (.inl (x.1,())))
noncomputable def wq(x:Ty.T y7):Option (Ty.T bu):=
if 0≤x.2.1∧x.2.1≤x.2.1 then
 bd (x.2.1.toNat) (
  bd ((List.replicate x.2.1.toNat (0:Int)).length+ [(1:Int)].length) (
   match ak km (((List.replicate x.2.1.toNat (0:Int))++ [(1:Int)]),x.1,(x.1.length:Int),(0:Int),())with
   |none=>none
   |some (.inl v3)=>
    bd (v3.1.length+ [(0:Int),(1:Int)].length) (
     some ((v3.1++ [(0:Int),(1:Int)]),()))
   |some (.inr v5)=>
    none))
else none
noncomputable def XN:ai:=⟨_,bu,.unit,rfl,wq⟩
noncomputable def Jp:FuncId→Option ai:=ca [(130,r8)]
theorem RF:∀f s,Jp f=some s→FnOK G0 Tryz.prog f s:=aX ⟨qW,trivial⟩
def G2:bg:=⟨[5,12,13,14],w9,0,[5],bu,[],.unit⟩
noncomputable def Jq:List aM:=[G2.spec km]
theorem Pq:bJ bL E0 Jp (bF Tryz.f76 Jq) Tryz.f76 0 G2 km:=fun x=>by kernel_rfl
theorem VU:FnOK G0 Tryz.prog 76 XN:=bb av RF Tryz.func76 Jq (by kernel_rfl) (by exact⟨(Pq).lok,trivial⟩) fun x=>by kernel_rfl
abbrev uV:Ty:=(.pair (.int .i64) (.pair (.list (.int .i64)) bM))
noncomputable def iZ(x:(Ty.T uV)):Option ((Ty.T uV) ⊕ ((Ty.T aV) ⊕ (Ty.T .unit))):=
match(decide (x.2.2.2.1<x.2.2.1))with
|true=>
 ac (aI x.2.1 x.2.2.2.1) fun v1=>
 some (.inl ((IntKind.i64.wrap ((IntKind.i64.wrap ((2:Int)*x.1))+v1)),x.2.1,x.2.2.1,(IntKind.i64.wrap (x.2.2.2.1+(1:Int))),()))
|false=>
 some (.inr (.inl (x.1,())))
noncomputable def dy(x:Ty.T fg):Option (Ty.T aV):=
match ak iZ ((0:Int),x.1,(x.1.length:Int),(0:Int),())with
|none=>none
|some (.inl v2)=>
 some (v2.1,())
|some (.inr v4)=>
 none
noncomputable def VV:ai:=⟨_,aV,.unit,rfl,dy⟩
noncomputable def G3:FuncId→Option ai:=ca []
theorem Pr:∀f s,G3 f=some s→FnOK G0 Tryz.prog f s:=aX trivial
def DW:bg:=⟨[3,6,7,8],uV,0,[3],aV,[],.unit⟩
noncomputable def G4:List aM:=[DW.spec iZ]
theorem Ni:bJ bL E0 G3 (bF Tryz.f223 G4) Tryz.f223 0 DW iZ:=fun x=>by kernel_rfl
theorem G5:FnOK G0 Tryz.prog 223 VV:=bb av Pr Tryz.func223 G4 (by kernel_rfl) (by exact⟨(Ni).lok,trivial⟩) fun x=>by kernel_rfl
noncomputable def Jr(x:Ty.T fg):Option (Ty.T bu):=ac (me dy x.1) fun s=>some (s,())
noncomputable def XO:ai:=⟨fg,bu,.unit,rfl,Jr⟩
theorem VW:FnOK G0 Tryz.prog 185 XO:=ZO (nP Tryz.func185 (by kernel_rfl) (show Tryz.f185.body=some (fe Tryz.f185) by kernel_rfl)) G5
noncomputable def mk(x:Ty.T xt):Option (Ty.T bu):=
match ct ([],x.1.1,(16:Int),())with
|none=>none
|some v1=>
match ct (v1.1,x.1.2.1,(4:Int),())with
|none=>none
|some v2=>
match ct (v2.1,x.1.2.2.1,(4:Int),())with
|none=>none
|some v3=>
match ct (v3.1,x.1.2.2.2.1,(8:Int),())with
|none=>none
|some v4=>
match ct (v4.1,x.1.2.2.2.2.1,(32:Int),())with
|none=>none
|some v5=>
some (v5.1,())
noncomputable def TP:ai:=⟨_,bu,.unit,rfl,mk⟩
theorem DX:FnOK G0 Tryz.prog 186 TP:=au av (sg qW (ba)) Tryz.func186
noncomputable def im(x:Ty.T ZW):Option (Ty.T bu):=
match gC (x.1.1,())with
|none=>none
|some v1=>
match v1.1 with
|true=>
 match mk ((x.1.2.2.1.1,x.1.2.2.1.2.1,x.1.2.2.1.2.2.1,x.1.2.2.1.2.2.2.1,x.1.2.2.1.2.2.2.2.1,()),())with
 |none=>none
 |some v2=>
 match Jr (v2.1,())with
 |none=>none
 |some v3=>
 bd ([(IntKind.i64.wrap ((IntKind.i64.wrap (x.1.1*(64:Int)))+(IntKind.i64.wrap (x.1.2.1*(8:Int)))))].length+v3.1.length) (
  match lW (x.1.1,())with
  |none=>none
  |some v4=>
  match v4.1 with
  |true=>
   bd (([(IntKind.i64.wrap ((IntKind.i64.wrap (x.1.1*(64:Int)))+(IntKind.i64.wrap (x.1.2.1*(8:Int)))))]++v3.1).length+ [(x.1.2.2.2.1.length:Int)].length) (
    bd ((([(IntKind.i64.wrap ((IntKind.i64.wrap (x.1.1*(64:Int)))+(IntKind.i64.wrap (x.1.2.1*(8:Int)))))]++v3.1)++ [(x.1.2.2.2.1.length:Int)]).length+x.1.2.2.2.1.length) (
     some (((([(IntKind.i64.wrap ((IntKind.i64.wrap (x.1.1*(64:Int)))+(IntKind.i64.wrap (x.1.2.1*(8:Int)))))]++v3.1)++ [(x.1.2.2.2.1.length:Int)])++x.1.2.2.2.1),())))
  |false=>
   some (([(IntKind.i64.wrap ((IntKind.i64.wrap (x.1.1*(64:Int)))+(IntKind.i64.wrap (x.1.2.1*(8:Int)))))]++v3.1),()))
|false=>
 match lW (x.1.1,())with
 |none=>none
 |some v5=>
 match v5.1 with
 |true=>
  bd ([(IntKind.i64.wrap ((IntKind.i64.wrap (x.1.1*(64:Int)))+(IntKind.i64.wrap (x.1.2.1*(8:Int)))))].length+ [(x.1.2.2.2.1.length:Int)].length) (
   bd (([(IntKind.i64.wrap ((IntKind.i64.wrap (x.1.1*(64:Int)))+(IntKind.i64.wrap (x.1.2.1*(8:Int)))))]++ [(x.1.2.2.2.1.length:Int)]).length+x.1.2.2.2.1.length) (
    some ((([(IntKind.i64.wrap ((IntKind.i64.wrap (x.1.1*(64:Int)))+(IntKind.i64.wrap (x.1.2.1*(8:Int)))))]++ [(x.1.2.2.2.1.length:Int)])++x.1.2.2.2.1),())))
 |false=>
  some ([(IntKind.i64.wrap ((IntKind.i64.wrap (x.1.1*(64:Int)))+(IntKind.i64.wrap (x.1.2.1*(8:Int)))))],())
noncomputable def aae:ai:=⟨_,bu,.unit,rfl,im⟩
theorem L0:FnOK G0 Tryz.prog 131 aae:=au av (sg lM (sg VW (sg DX (sg zx (ba))))) Tryz.func131
noncomputable def nf(x:Ty.T aV):Option (Ty.T bu):=
some ([(Int.fdiv x.1 (2^min (16:Int).toNat IntKind.i64.bits)),(bits BinOp.and .i64 (Int.fdiv x.1 (2^min (8:Int).toNat IntKind.i64.bits)) (255:Int)),(bits BinOp.and .i64 x.1 (255:Int))],())
noncomputable def RG:ai:=⟨_,bu,.unit,rfl,nf⟩
theorem Be:FnOK G0 Tryz.prog 132 RG:=au av ba Tryz.func132
noncomputable def ou(x:Ty.T .unit):Option (Ty.T ZU):=
some (((24:Int),(6122955:Int),()),())
noncomputable def Ps:ai:=⟨_,ZU,.unit,rfl,ou⟩
theorem Nj:FnOK G0 Tryz.prog 188 Ps:=au av ba Tryz.func188
abbrev uW:Ty:=(.pair (.int .i64) (.pair (.box bM) (.pair (.list (.int .i64)) bM)))
noncomputable def fH(x:(Ty.T uW)):Option ((Ty.T uW) ⊕ ((Ty.T aV) ⊕ (Ty.T .unit))):=
match(decide (x.2.2.2.2.1<x.2.2.2.1))with
|true=>
 ac (aI x.2.2.1 x.2.2.2.2.1) fun v1=>
 if(IntKind.i64.wrap (x.2.1.1-(1:Int)))<0 then none else
 if x.2.1.1<0 then none else
 match((bits BinOp.xor .i64 v1 (Int.fdiv x.1 (2^min (IntKind.i64.wrap (x.2.1.1-(1:Int))).toNat IntKind.i64.bits)))==(1:Int))with
 |true=>
  some (.inl ((bits BinOp.xor .i64 (bits BinOp.and .i64 (IntKind.i64.wrap (x.1*2^min (1:Int).toNat IntKind.i64.bits)) (IntKind.i64.wrap ((IntKind.i64.wrap ((1:Int)*2^min x.2.1.1.toNat IntKind.i64.bits))-(1:Int)))) x.2.1.2.1),(x.2.1.1,x.2.1.2.1,()),x.2.2.1,x.2.2.2.1,(IntKind.i64.wrap (x.2.2.2.2.1+(1:Int))),()))
 |false=>
  some (.inl ((bits BinOp.and .i64 (IntKind.i64.wrap (x.1*2^min (1:Int).toNat IntKind.i64.bits)) (IntKind.i64.wrap ((IntKind.i64.wrap ((1:Int)*2^min x.2.1.1.toNat IntKind.i64.bits))-(1:Int)))),(x.2.1.1,x.2.1.2.1,()),x.2.2.1,x.2.2.2.1,(IntKind.i64.wrap (x.2.2.2.2.1+(1:Int))),()))
|false=>
 some (.inr (.inl (x.1,())))
noncomputable def qn(x:Ty.T agc):Option (Ty.T aV):=
match ak fH (x.2.1,(x.1.1,x.1.2.1,()),x.2.2.1,(x.2.2.1.length:Int),(0:Int),())with
|none=>none
|some (.inl v2)=>
 some (v2.1,())
|some (.inr v4)=>
 none
noncomputable def VX:ai:=⟨_,aV,.unit,rfl,qn⟩
noncomputable def G6:FuncId→Option ai:=ca []
theorem Pt:∀f s,G6 f=some s→FnOK G0 Tryz.prog f s:=aX trivial
def DY:bg:=⟨[1,3,10,11,12],uW,0,[1],aV,[],.unit⟩
noncomputable def G7:List aM:=[DY.spec fH]
theorem Nk:bJ bL E0 G6 (bF Tryz.f189 G7) Tryz.f189 0 DY fH:=fun x=>by kernel_rfl
theorem TQ:FnOK G0 Tryz.prog 189 VX:=bb av Pt Tryz.func189 G7 (by kernel_rfl) (by exact⟨(Nk).lok,trivial⟩) fun x=>by kernel_rfl
abbrev zK:Ty:=adi
noncomputable def lf(x:(Ty.T zK)):Option ((Ty.T zK) ⊕ ((Ty.T bu) ⊕ (Ty.T .unit))):=
match(decide (x.2.2.2.1<x.2.2.1))with
|true=>
 ac (aI x.2.1 x.2.2.2.1) fun v1=>
 match ct (x.1,v1,(8:Int),())with
 |none=>none
 |some v2=>
 some (.inl (v2.1,x.2.1,x.2.2.1,(IntKind.i64.wrap (x.2.2.2.1+(1:Int))),()))
|false=>
 some (.inr (.inl (x.1,())))
noncomputable def r9(x:Ty.T fg):Option (Ty.T bu):=
match ak lf ([],x.1,(x.1.length:Int),(0:Int),())with
|none=>none
|some (.inl v3)=>
 some (v3.1,())
|some (.inr v5)=>
 none
noncomputable def aaf:ai:=⟨_,bu,.unit,rfl,r9⟩
noncomputable def L1:FuncId→Option ai:=ca [(130,r8)]
theorem TR:∀f s,L1 f=some s→FnOK G0 Tryz.prog f s:=aX ⟨qW,trivial⟩
def Js:bg:=⟨[3,7,8,9],zK,0,[3],bu,[],.unit⟩
noncomputable def L2:List aM:=[Js.spec lf]
theorem RH:bJ bL E0 L1 (bF Tryz.f190 L2) Tryz.f190 0 Js lf:=fun x=>by kernel_rfl
theorem L3:FnOK G0 Tryz.prog 190 aaf:=bb av TR Tryz.func190 L2 (by kernel_rfl) (by exact⟨(RH).lok,trivial⟩) fun x=>by kernel_rfl
noncomputable def ko(x:Ty.T agi):Option (Ty.T aV):=
match(x.1==(0:Int))with
|true=>
 match ou (())with
 |none=>none
 |some v1=>
 match mk ((x.2.2.2.1.1,x.2.2.2.1.2.1,x.2.2.2.1.2.2.1,x.2.2.2.1.2.2.2.1,x.2.2.2.1.2.2.2.2.1,()),())with
 |none=>none
 |some v2=>
 match qn (v1.1,x.2.2.1,v2.1,())with
 |none=>none
 |some v3=>
 match ou (())with
 |none=>none
 |some v4=>
 match r9 (x.2.1,())with
 |none=>none
 |some v5=>
 match qn (v4.1,v3.1,v5.1,())with
 |none=>none
 |some v6=>
 some (v6.1,())
|false=>
 match ou (())with
 |none=>none
 |some v7=>
 match r9 (x.2.1,())with
 |none=>none
 |some v8=>
 match qn (v7.1,x.2.2.1,v8.1,())with
 |none=>none
 |some v9=>
 some (v9.1,())
noncomputable def Pu:ai:=⟨_,aV,.unit,rfl,ko⟩
theorem zL:FnOK G0 Tryz.prog 133 Pu:=au av (sg DX (sg Nj (sg TQ (sg L3 (ba))))) Tryz.func133
noncomputable def DZ(x:Ty.T af7):Option (Ty.T bu):=
match im ((x.1.1,x.1.2.1,(x.1.2.2.1.1,x.1.2.2.1.2.1,x.1.2.2.1.2.2.1,x.1.2.2.1.2.2.2.1,x.1.2.2.1.2.2.2.2.1,()),x.1.2.2.2.1,()),())with
|none=>none
|some v1=>
match ko (x.1.1,v1.1,x.2.1,(x.2.2.1.1,x.2.2.1.2.1,x.2.2.1.2.2.1,x.2.2.1.2.2.2.1,x.2.2.1.2.2.2.2.1,()),())with
|none=>none
|some v2=>
match nf (v2.1,())with
|none=>none
|some v3=>
bd (v1.1.length+v3.1.length) (
 some ((v1.1++v3.1),()))
noncomputable def ads:ai:=⟨_,bu,.unit,rfl,DZ⟩
theorem abB:FnOK G0 Tryz.prog 77 ads:=au av (sg L0 (sg Be (sg zL (ba)))) Tryz.func77
noncomputable def rn(x:Ty.T Rd):Option (Ty.T oY):=
match t6 ((x.1.1,x.1.2.1,x.1.2.2.1,x.1.2.2.2.1,()),(x.2.1.1,x.2.1.2.1,x.2.1.2.2.1,x.2.1.2.2.2.1,x.2.1.2.2.2.2.1,()),(x.2.2.1.1,x.2.2.1.2.1,(x.2.2.1.2.2.1.1,x.2.2.1.2.2.1.2.1,x.2.2.1.2.2.1.2.2.1,x.2.2.1.2.2.1.2.2.2.1,x.2.2.1.2.2.1.2.2.2.2.1,()),x.2.2.1.2.2.2.1,()),())with
|none=>none
|some v1=>
match(v1.1 != (0:Int))with
|true=>
 some ([],v1.1,())
|false=>
 match qm ((8:Int),())with
 |none=>none
 |some v2=>
 match DZ ((x.2.2.1.1,x.2.2.1.2.1,(x.2.2.1.2.2.1.1,x.2.2.1.2.2.1.2.1,x.2.2.1.2.2.1.2.2.1,x.2.2.1.2.2.1.2.2.2.1,x.2.2.1.2.2.1.2.2.2.2.1,()),x.2.2.1.2.2.2.1,()),x.1.1,(x.2.1.1,x.2.1.2.1,x.2.1.2.2.1,x.2.1.2.2.2.1,x.2.1.2.2.2.2.1,()),())with
 |none=>none
 |some v3=>
 match wq (v3.1,(8:Int),())with
 |none=>none
 |some v4=>
 match iO ([v2.1,v4.1],())with
 |none=>none
 |some v5=>
 match aN ((x.1.1,x.1.2.1,x.1.2.2.1,x.1.2.2.2.1,()),(x.2.1.1,x.2.1.2.1,x.2.1.2.2.1,x.2.1.2.2.2.1,x.2.1.2.2.2.2.1,()),())with
 |none=>none
 |some v6=>
 match qm ((IntKind.i64.wrap (v6.1.2.2.2.1-(v5.1.length:Int))),())with
 |none=>none
 |some v7=>
 bd (v5.1.length+v7.1.length) (
  some ((v5.1++v7.1),(0:Int),()))
noncomputable def TS:ai:=⟨_,oY,.unit,rfl,rn⟩
theorem RI:FnOK G0 Tryz.prog 39 TS:=au av (sg dZ (sg TO (sg BR (sg Pp (sg VU (sg abB (ba))))))) Tryz.func39
noncomputable def sd(x:Ty.T fg):Option (Ty.T aE):=
match(decide ((x.1.length:Int)≤(8192:Int)))with
|true=>
 match mh (x.1,(0:Int),(1:Int),())with
 |none=>none
 |some v1=>
 some (v1.1,())
|false=>
 some (false,())
noncomputable def Pv:ai:=⟨_,aE,.unit,rfl,sd⟩
theorem vB:FnOK G0 Tryz.prog 78 Pv:=au av (sg DQ (ba)) Tryz.func78
abbrev zM:Ty:=(.pair (.own 2 (.int .i64)) (.pair (.int .i64) bM))
noncomputable def lg(x:(Ty.T zM)):Option ((Ty.T zM) ⊕ ((Ty.T bu) ⊕ (Ty.T .unit))):=
match(decide (x.2.2.2.1<x.2.2.1))with
|true=>
 bd (x.1.length+ [x.2.1].length) (
  some (.inl ((x.1++ [x.2.1]),x.2.1,x.2.2.1,(IntKind.i64.wrap (x.2.2.2.1+(1:Int))),())))
|false=>
 some (.inr (.inl (x.1,())))
noncomputable def uX(x:Ty.T MK):Option (Ty.T bu):=
match ak lg (x.1,x.2.1,x.2.2.1,(0:Int),())with
|none=>none
|some (.inl v1)=>
 some (v1.1,())
|some (.inr v3)=>
 none
noncomputable def Pw:ai:=⟨_,bu,.unit,rfl,uX⟩
noncomputable def L4:FuncId→Option ai:=ca []
theorem TT:∀f s,L4 f=some s→FnOK G0 Tryz.prog f s:=aX trivial
def Jt:bg:=⟨[0,1,7,8],zM,0,[0],bu,[],.unit⟩
noncomputable def L5:List aM:=[Jt.spec lg]
theorem RJ:bJ bL E0 L4 (bF Tryz.f79 L5) Tryz.f79 0 Jt lg:=fun x=>by kernel_rfl
theorem L6:FnOK G0 Tryz.prog 79 Pw:=bb av TT Tryz.func79 L5 (by kernel_rfl) (by exact⟨(RJ).lok,trivial⟩) fun x=>by kernel_rfl
abbrev nV:Ty:=adi
noncomputable def el(x:(Ty.T nV)):Option ((Ty.T nV) ⊕ ((Ty.T bu) ⊕ (Ty.T .unit))):=
match(decide (x.2.2.2.1<x.2.2.1))with
|true=>
 ac (aI x.2.1 x.2.2.2.1) fun v2=>
 match uX (x.1,v2,(8:Int),())with
 |none=>none
 |some v3=>
 some (.inl (v3.1,x.2.1,x.2.2.1,(IntKind.i64.wrap (x.2.2.2.1+(1:Int))),()))
|false=>
 some (.inr (.inl (x.1,())))
noncomputable def lh(x:Ty.T fg):Option (Ty.T oY):=
match sd (x.1,())with
|none=>none
|some v1=>
match(!v1.1)with
|true=>
 some ([],(1:Int),())
|false=>
 match(decide ((IntKind.i64.wrap ((x.1.length:Int)*(8:Int)))>(8192:Int)))with
 |true=>
  some ([],(3:Int),())
 |false=>
  match ak el ([],x.1,(x.1.length:Int),(0:Int),())with
  |none=>none
  |some (.inl v4)=>
   some (v4.1,(0:Int),())
  |some (.inr v6)=>
   none
noncomputable def Ju:ai:=⟨_,oY,.unit,rfl,lh⟩
noncomputable def uA:FuncId→Option ai:=ca [(78,Pv),(79,Pw)]
theorem D0:∀f s,uA f=some s→FnOK G0 Tryz.prog f s:=aX ⟨vB,L6,trivial⟩
def t7:bg:=⟨[4,15,16,17],nV,0,[4],bu,[],.unit⟩
noncomputable def uB:List aM:=[t7.spec el]
theorem BT:bJ bL E0 uA (bF Tryz.f40 uB) Tryz.f40 0 t7 el:=fun x=>by kernel_rfl
theorem HY:FnOK G0 Tryz.prog 40 Ju:=bb av D0 Tryz.func40 uB (by kernel_rfl) (by exact⟨(BT).lok,trivial⟩) fun x=>by kernel_rfl
noncomputable def kp(x:Ty.T Rd):Option (Ty.T oY):=
match rn ((x.1.1,x.1.2.1,x.1.2.2.1,x.1.2.2.2.1,()),(x.2.1.1,x.2.1.2.1,x.2.1.2.2.1,x.2.1.2.2.2.1,x.2.1.2.2.2.2.1,()),(x.2.2.1.1,x.2.2.1.2.1,(x.2.2.1.2.2.1.1,x.2.2.1.2.2.1.2.1,x.2.2.1.2.2.1.2.2.1,x.2.2.1.2.2.1.2.2.2.1,x.2.2.1.2.2.1.2.2.2.2.1,()),x.2.2.1.2.2.2.1,()),())with
|none=>none
|some v1=>
match(v1.2.1 != (0:Int))with
|true=>
 some ([],v1.2.1,())
|false=>
 match lh (v1.1,())with
 |none=>none
 |some v2=>
 some (v2.1,v2.2.1,())
noncomputable def t8:ai:=⟨_,oY,.unit,rfl,kp⟩
theorem zN:FnOK G0 Tryz.prog 15 t8:=au av (sg RI (sg HY (ba))) Tryz.func15
noncomputable def ua(x:Ty.T wM):Option (Ty.T oY):=
match ej x with
|none=>none
|some v1=>
match(v1.1 != (0:Int))with
|true=>
 some ([],v1.1,())
|false=>
 match aN x with
 |none=>none
 |some v2=>
 match qm ((IntKind.i64.wrap ((8:Int)*v2.1.2.2.2.1)),())with
 |none=>none
 |some v3=>
 some (v3.1,(0:Int),())
noncomputable def D1:ai:=⟨_,oY,.unit,rfl,ua⟩
theorem Px:FnOK G0 Tryz.prog 88 D1:=au av (sg lN (sg dZ (sg Pp (ba)))) Tryz.func88
abbrev FL:Ty:=(.pair (.box aA) (.pair (.box ao) (.pair (.box bI) (.pair (.own 2 (.int .i64)) bM))))
abbrev Py:Ty:=afZ
noncomputable def jl(x:(Ty.T FL)):Option ((Ty.T FL) ⊕ ((Ty.T Py) ⊕ (Ty.T bu))):=
match(decide (x.2.2.2.2.2.1<x.2.2.2.2.1))with
|true=>
 ac (aI x.2.2.2.1 x.2.2.2.2.2.1) fun _=>
 match x.2.2.2.1[x.2.2.2.2.2.1.toNat]? with
 |none=>none
 |some v2=>
 match ql (x.1,x.2.1,x.2.2.1.1,v2,())with
 |none=>none
 |some v3=>
 match(v3.2.1==(0:Int))with
 |true=>
  match kp (x.1,x.2.1,v3.1,())with
  |none=>none
  |some v4=>
  some (.inr (.inr (v4.1,())))
 |false=>
  some (.inl (x.1,x.2.1,x.2.2.1,x.2.2.2.1,x.2.2.2.2.1,(IntKind.i64.wrap (x.2.2.2.2.2.1+(1:Int))),()))
|false=>
 some (.inr (.inl (x.1,x.2.1,())))
noncomputable def Pz(x:Ty.T II):Option (Ty.T bu):=
match ak jl (x.1,x.2.1,x.2.2.1,[x.2.2.1.2.1,(0:Int)],([x.2.2.1.2.1,(0:Int)].length:Int),(0:Int),())with
|none=>none
|some (.inl v5)=>
 match ua v5 with
 |none=>none
 |some v7=>
 some (v7.1,())
|some (.inr v6)=>
 some (v6.1,())
noncomputable def adt:ai:=⟨_,bu,.unit,rfl,Pz⟩
noncomputable def SX:FuncId→Option ai:=ca [(14,zI),(15,t8),(88,D1)]
theorem XP:∀f s,SX f=some s→FnOK G0 Tryz.prog f s:=aX ⟨G1,zN,Px,trivial⟩
def PA:bg:=⟨[3,4,5,17,18,19],FL,0,[3,4],Py,[6],bu⟩
noncomputable def SY:List aM:=[PA.spec jl]
theorem VY:bJ bL E0 SX (bF Tryz.f50 SY) Tryz.f50 0 PA jl:=fun x=>by kernel_rfl
theorem abC:FnOK G0 Tryz.prog 50 adt:=bb av XP Tryz.func50 SY (by kernel_rfl) (by exact⟨(VY).lok,trivial⟩) fun x=>by kernel_rfl
noncomputable def xa(x:Ty.T (.pair aA (.pair ao (.pair .bool .unit)))):Option (Ty.T aV):=
match ej ((x.1.1,x.1.2.1,x.1.2.2.1,x.1.2.2.2.1,()),(x.2.1.1,x.2.1.2.1,x.2.1.2.2.1,x.2.1.2.2.2.1,x.2.1.2.2.2.2.1,()),())with
|none=>none
|some v1=>
match(v1.1 != (0:Int))with
|true=>
 some (v1.1,())
|false=>
 match(!x.2.2.1)with
 |true=>
  some ((2:Int),())
 |false=>
  some ((0:Int),())
noncomputable def PB:ai:=⟨_,aV,.unit,rfl,xa⟩
theorem Nl:FnOK G0 Tryz.prog 150 PB:=au av (sg lN (ba)) Tryz.func150
noncomputable def RK(x:Ty.T aE):Option (Ty.T aV):=
match x.1 with
|true=>
 some ((1:Int),())
|false=>
 some ((0:Int),())
noncomputable def SZ:ai:=⟨_,aV,.unit,rfl,RK⟩
theorem aag:FnOK G0 Tryz.prog 267 SZ:=au av ba Tryz.func267
abbrev pJ:Ty:=adf
noncomputable def dm(x:(Ty.T pJ)):Option ((Ty.T pJ) ⊕ ((Ty.T aV) ⊕ (Ty.T .unit))):=
match(decide (x.2.2.2.1≤x.2.1))with
|true=>
 match(decide (x.2.2.2.1<(0:Int)))with
 |true=>
  some (.inl (x.1,x.2.1,(IntKind.i64.wrap (x.2.2.1+(1:Int))),(IntKind.i64.wrap (x.2.2.2.1+(1:Int))),()))
 |false=>
  ac (aI x.1 x.2.2.2.1) fun v1=>
  match(v1==(1:Int))with
  |true=>
   some (.inl (x.1,x.2.1,(IntKind.i64.wrap (x.2.2.1+(1:Int))),(IntKind.i64.wrap (x.2.2.2.1+(1:Int))),()))
  |false=>
   some (.inl (x.1,x.2.1,x.2.2.1,(IntKind.i64.wrap (x.2.2.2.1+(1:Int))),()))
|false=>
 some (.inr (.inl (x.2.2.1,())))
noncomputable def qo(x:Ty.T y7):Option (Ty.T aV):=
match ak dm (x.1,x.2.1,(0:Int),(IntKind.i64.wrap ((IntKind.i64.wrap (x.2.1-(5:Int)))+(1:Int))),())with
|none=>none
|some (.inl v2)=>
 some (v2.1,())
|some (.inr v4)=>
 none
noncomputable def zO:ai:=⟨_,aV,.unit,rfl,qo⟩
noncomputable def x6:FuncId→Option ai:=ca []
theorem HZ:∀f s,x6 f=some s→FnOK G0 Tryz.prog f s:=aX trivial
def ws:bg:=⟨[0,1,5,6],pJ,0,[5],aV,[],.unit⟩
noncomputable def x7:List aM:=[ws.spec dm]
theorem FM:bJ bL E0 x6 (bF Tryz.f268 x7) Tryz.f268 0 ws dm:=fun x=>by kernel_rfl
theorem Lj:FnOK G0 Tryz.prog 268 zO:=bb av HZ Tryz.func268 x7 (by kernel_rfl) (by exact⟨(FM).lok,trivial⟩) fun x=>by kernel_rfl
abbrev FN:Ty:=agb
noncomputable def nW(x:(Ty.T FN)):Option ((Ty.T FN) ⊕ ((Ty.T bu) ⊕ (Ty.T .unit))):=
match(decide (x.2.2.2.1<x.2.2.1))with
|true=>
 match qo (x.1,x.2.2.2.1,())with
 |none=>none
 |some v1=>
 match RK ((decide ((IntKind.i64.wrap ((2:Int)*v1.1))>(5:Int))),())with
 |none=>none
 |some v2=>
 bd (x.2.1.length+ [v2.1].length) (
  some (.inl (x.1,(x.2.1++ [v2.1]),x.2.2.1,(IntKind.i64.wrap (x.2.2.2.1+(1:Int))),())))
|false=>
 some (.inr (.inl (x.2.1,())))
noncomputable def PC(x:Ty.T fg):Option (Ty.T bu):=
match ak nW (x.1,[],(x.1.length:Int),(0:Int),())with
|none=>none
|some (.inl v3)=>
 some (v3.1,())
|some (.inr v5)=>
 none
noncomputable def adu:ai:=⟨_,bu,.unit,rfl,PC⟩
noncomputable def S3:FuncId→Option ai:=ca [(267,SZ),(268,zO)]
theorem XQ:∀f s,S3 f=some s→FnOK G0 Tryz.prog f s:=aX ⟨aag,Lj,trivial⟩
def PD:bg:=⟨[0,3,7,8],FN,0,[3],bu,[],.unit⟩
noncomputable def S4:List aM:=[PD.spec nW]
theorem VZ:bJ bL E0 S3 (bF Tryz.f249 S4) Tryz.f249 0 PD nW:=fun x=>by kernel_rfl
theorem abD:FnOK G0 Tryz.prog 249 adu:=bb av XQ Tryz.func249 S4 (by kernel_rfl) (by exact⟨(VZ).lok,trivial⟩) fun x=>by kernel_rfl
noncomputable def rP(x:Ty.T fg):Option (Ty.T oY):=
match sd (x.1,())with
|none=>none
|some v1=>
match(!v1.1)with
|true=>
 some ([],(1:Int),())
|false=>
 match PC (x.1,())with
 |none=>none
 |some v2=>
 some (v2.1,(0:Int),())
noncomputable def PE:ai:=⟨_,oY,.unit,rfl,rP⟩
theorem Nn:FnOK G0 Tryz.prog 226 PE:=au av (sg vB (sg abD (ba))) Tryz.func226
noncomputable def cS(x:(Ty.T ZY)):Option ((Ty.T ZY) ⊕ ((Ty.T bM) ⊕ (Ty.T aV))):=
match(decide (x.2.1<(x.1.1.length:Int)))with
|true=>
 ac (aI x.1.1 x.2.1) fun v1=>
 match(v1==x.2.2.1)with
 |true=>
  some (.inr (.inr (x.2.1,())))
 |false=>
  some (.inl (x.1,(IntKind.i64.wrap (x.2.1+(1:Int))),x.2.2.1,()))
|false=>
 some (.inr (.inl (x.2.1,x.2.2.1,())))
noncomputable def cl(x:Ty.T ZY):Option (Ty.T aV):=
match ak cS (x.1,(IntKind.i64.wrap (x.2.1+(1:Int))),x.2.2.1,())with
|none=>none
|some (.inl v2)=>
 match(v2.2.1==(1:Int))with
 |true=>
  some (v2.1,())
 |false=>
  some ((-1:Int),())
|some (.inr v3)=>
 some (v3.1,())
noncomputable def ro:ai:=⟨_,aV,.unit,rfl,cl⟩
noncomputable def qC:FuncId→Option ai:=ca []
theorem yt:∀f s,qC f=some s→FnOK G0 Tryz.prog f s:=aX trivial
def pK:bg:=⟨[0,1,2],ZY,0,[1,2],bM,[6],aV⟩
noncomputable def qD:List aM:=[pK.spec cS]
theorem xb:bJ bL E0 qC (bF Tryz.f274 qD) Tryz.f274 0 pK cS:=fun x=>by kernel_rfl
theorem qE:FnOK G0 Tryz.prog 274 ro:=bb av yt Tryz.func274 qD (by kernel_rfl) (by exact⟨(xb).lok,trivial⟩) fun x=>by kernel_rfl
noncomputable def zP(x:Ty.T aV):Option (Ty.T aV):=
some ((IntKind.i64.wrap (Int.tdiv (IntKind.i64.wrap (x.1+(4:Int))) (8:Int))),())
noncomputable def RL:ai:=⟨_,aV,.unit,rfl,zP⟩
theorem PF:FnOK G0 Tryz.prog 275 RL:=au av ba Tryz.func275
noncomputable def zQ(x:Ty.T aV):Option (Ty.T aE):=
match bU (x.1,(3:Int),(15:Int),())with
|none=>none
|some v1=>
some (v1.1,())
noncomputable def RM:ai:=⟨_,aE,.unit,rfl,zQ⟩
theorem PG:FnOK G0 Tryz.prog 276 RM:=au av (sg dl (ba)) Tryz.func276
noncomputable def iP(x:Ty.T ade):Option (Ty.T aV):=
ac x.1 fun v1=>
match(decide (x.2.1≥(v1.1.length:Int)))with
|true=>
 some ((1:Int),())
|false=>
 ac x.1 fun v2=>
 ac (aI v2.1 x.2.1) fun v3=>
 some (v3,())
noncomputable def ng:ai:=⟨_,aV,.unit,rfl,iP⟩
theorem rp:FnOK G0 Tryz.prog 252 ng:=au av ba Tryz.func252
abbrev fp:Ty:=agm
noncomputable def bV(x:(Ty.T fp)):Option ((Ty.T fp) ⊕ ((Ty.T .unit) ⊕ (Ty.T fp))):=
bd (x.1.2.2.1.length+ [x.2.1].length) (
 match iP ((some (x.1.1,x.1.2.1,(x.1.2.2.1++ [x.2.1]),())),(IntKind.i64.wrap (x.2.1+(76:Int))),())with
 |none=>none
 |some v1=>
 match(v1.1==(0:Int))with
 |true=>
  some (.inr (.inr ((x.1.1,x.1.2.1,(x.1.2.2.1++ [x.2.1]),()),(IntKind.i64.wrap (x.2.1+(72:Int))),())))
 |false=>
  match cl ((x.1.1,x.1.2.1,(x.1.2.2.1++ [x.2.1]),()),(IntKind.i64.wrap (x.2.1+(76:Int))),(0:Int),())with
  |none=>none
  |some v2=>
  match(decide (v2.1<(0:Int)))with
  |true=>
   some (.inr (.inr ((x.1.1,x.1.2.1,(x.1.2.2.1++ [x.2.1]),()),(-1:Int),())))
  |false=>
   match(decide (v2.1>(IntKind.i64.wrap ((IntKind.i64.wrap (x.2.1+(76:Int)))+(8:Int)))))with
   |true=>
    some (.inr (.inr ((x.1.1,x.1.2.1,(x.1.2.2.1++ [x.2.1]),()),(-1:Int),())))
   |false=>
    some (.inl ((x.1.1,x.1.2.1,(x.1.2.2.1++ [x.2.1]),()),v2.1,())))
noncomputable def dz(x:Ty.T agm):Option (Ty.T aeu):=
match ak bV ((x.1.1,x.1.2.1,x.1.2.2.1,()),x.2.1,())with
|none=>none
|some (.inl v3)=>
 none
|some (.inr v4)=>
 some (v4.2.1,(v4.1.1,v4.1.2.1,v4.1.2.2.1,()),())
noncomputable def BU:ai:=⟨_,aV,adl,rfl,dz⟩
noncomputable def qF:FuncId→Option ai:=ca [(252,ng),(274,ro)]
theorem yu:∀f s,qF f=some s→FnOK G0 Tryz.prog f s:=aX ⟨rp,qE,trivial⟩
def pL:bg:=⟨[0,1],fp,999999,[],.unit,[0,4],fp⟩
noncomputable def qG:List aM:=[pL.spec bV]
theorem xd:bJ bL E0 qF (bF Tryz.f277 qG) Tryz.f277 0 pL bV:=fun x=>by kernel_rfl
theorem AB:FnOK G0 Tryz.prog 277 BU:=bb av yu Tryz.func277 qG (by kernel_rfl) (by exact⟨(xd).lok,trivial⟩) fun x=>by kernel_rfl
noncomputable def mU(x:Ty.T adl):Option (Ty.T aeu):=
match cl ((x.1.1,x.1.2.1,x.1.2.2.1,()),(-1:Int),(0:Int),())with
|none=>none
|some v1=>
match(decide (v1.1<(0:Int)))with
|true=>
 some ((4:Int),(x.1.1,x.1.2.1,x.1.2.2.1,()),())
|false=>
 match cl ((x.1.1,x.1.2.1,x.1.2.2.1,()),v1.1,(1:Int),())with
 |none=>none
 |some v2=>
 match zP ((IntKind.i64.wrap (v2.1-v1.1)),())with
 |none=>none
 |some v3=>
 match zQ (v3.1,())with
 |none=>none
 |some v4=>
 match(!v4.1)with
 |true=>
  some ((6:Int),(x.1.1,v3.1,x.1.2.2.1,()),())
 |false=>
  match cl ((x.1.1,v3.1,x.1.2.2.1,()),v2.1,(0:Int),())with
  |none=>none
  |some v5=>
  match(decide (v5.1<(0:Int)))with
  |true=>
   some ((6:Int),(x.1.1,v3.1,x.1.2.2.1,()),())
  |false=>
   match(decide ((IntKind.i64.wrap (v5.1-v2.1))>(19:Int)))with
   |true=>
    some ((6:Int),(x.1.1,v3.1,x.1.2.2.1,()),())
   |false=>
    match(decide ((IntKind.i64.wrap (v5.1-v2.1))<(5:Int)))with
    |true=>
     some ((6:Int),(x.1.1,v3.1,x.1.2.2.1,()),())
    |false=>
     match((IntKind.i64.wrap (v5.1-v2.1))==(12:Int))with
     |true=>
      some ((6:Int),(x.1.1,v3.1,x.1.2.2.1,()),())
     |false=>
      match(decide ((IntKind.i64.wrap (v5.1-v2.1))≥(13:Int)))with
      |true=>
       match dz ((x.1.1,v3.1,x.1.2.2.1,()),v5.1,())with
       |none=>none
       |some v6=>
       match(decide (v6.1<(0:Int)))with
       |true=>
        some ((6:Int),(v6.2.1.1,v6.2.1.2.1,v6.2.1.2.2.1,()),())
       |false=>
        match cl ((v6.2.1.1,v6.2.1.2.1,v6.2.1.2.2.1,()),(IntKind.i64.wrap (v6.1+(11:Int))),(0:Int),())with
        |none=>none
        |some v7=>
        match(decide (v7.1≥(0:Int)))with
        |true=>
         some ((6:Int),(v6.2.1.1,v6.2.1.2.1,v6.2.1.2.2.1,()),())
        |false=>
         some ((0:Int),(v6.2.1.1,v6.2.1.2.1,v6.2.1.2.2.1,()),())
      |false=>
       match cl ((x.1.1,v3.1,x.1.2.2.1,()),(IntKind.i64.wrap (v5.1+(11:Int))),(0:Int),())with
       |none=>none
       |some v8=>
       match(decide (v8.1≥(0:Int)))with
       |true=>
        some ((6:Int),(x.1.1,v3.1,x.1.2.2.1,()),())
       |false=>
        some ((0:Int),(x.1.1,v3.1,x.1.2.2.1,()),())
noncomputable def H0:ai:=⟨_,aV,adl,rfl,mU⟩
theorem FO:FnOK G0 Tryz.prog 269 H0:=au av (sg qE (sg PF (sg PG (sg AB (ba))))) Tryz.func269
noncomputable def rQ(x:Ty.T fg):Option (Ty.T ade):=
match sd (x.1,())with
|none=>none
|some v1=>
match(!v1.1)with
|true=>
 some (none,(1:Int),())
|false=>
 match mU ((x.1,(0:Int),[],()),())with
 |none=>none
 |some v2=>
 match(v2.1 != (0:Int))with
 |true=>
  some (none,v2.1,())
 |false=>
  some ((some (v2.2.1.1,v2.2.1.2.1,v2.2.1.2.2.1,())),(0:Int),())
noncomputable def Bf:ai:=⟨_,ade,.unit,rfl,rQ⟩
theorem Np:FnOK G0 Tryz.prog 250 Bf:=au av (sg vB (sg FO (ba))) Tryz.func250
abbrev xe:Ty:=adj
noncomputable def lO(x:(Ty.T xe)):Option ((Ty.T xe) ⊕ ((Ty.T bu) ⊕ (Ty.T .unit))):=
match(decide (x.2.2.1<(9:Int)))with
|true=>
 bd (x.2.1.length+ [(IntKind.i64.wrap ((IntKind.i64.wrap (x.1+(IntKind.i64.wrap ((8:Int)*x.2.2.1))))+(12:Int)))].length) (
  some (.inl (x.1,(x.2.1++ [(IntKind.i64.wrap ((IntKind.i64.wrap (x.1+(IntKind.i64.wrap ((8:Int)*x.2.2.1))))+(12:Int)))]),(IntKind.i64.wrap (x.2.2.1+(1:Int))),())))
|false=>
 some (.inr (.inl (x.2.1,())))
noncomputable def Bg(x:Ty.T aV):Option (Ty.T bu):=
match ak lO (x.1,[],(0:Int),())with
|none=>none
|some (.inl v1)=>
 some (v1.1,())
|some (.inr v3)=>
 none
noncomputable def L7:ai:=⟨_,bu,.unit,rfl,Bg⟩
noncomputable def Jv:FuncId→Option ai:=ca []
theorem RN:∀f s,Jv f=some s→FnOK G0 Tryz.prog f s:=aX trivial
def G8:bg:=⟨[0,3,6],xe,0,[3],bu,[],.unit⟩
noncomputable def Jw:List aM:=[G8.spec lO]
theorem PH:bJ bL E0 Jv (bF Tryz.f251 Jw) Tryz.f251 0 G8 lO:=fun x=>by kernel_rfl
theorem V0:FnOK G0 Tryz.prog 251 L7:=bb av RN Tryz.func251 Jw (by kernel_rfl) (by exact⟨(PH).lok,trivial⟩) fun x=>by kernel_rfl
abbrev pM:Ty:=(.pair (.nptr sL) (.pair (.own 2 (.int .i64)) (.pair (.int .i64) (.pair (.list (.int .i64)) (.pair (.int .i64) (.pair (.int .i64) (.pair (.own 2 (.int .i64)) bM)))))))
abbrev wt:Ty:=(.pair (.nptr sL) (.pair (.own 2 (.int .i64)) (.pair (.int .i64) (.pair (.list (.int .i64)) bM))))
noncomputable def fq(x:(Ty.T pM)):Option ((Ty.T pM) ⊕ ((Ty.T wt) ⊕ (Ty.T .unit))):=
match(decide (x.2.2.2.2.2.2.2.2.1<x.2.2.2.2.2.2.2.1))with
|true=>
 ac (aI x.2.2.2.2.2.2.1 x.2.2.2.2.2.2.2.2.1) fun _=>
 match x.2.2.2.2.2.2.1[x.2.2.2.2.2.2.2.2.1.toNat]? with
 |none=>none
 |some v7=>
 match iP (x.1,v7,())with
 |none=>none
 |some v8=>
 some (.inl (x.1,x.2.1,(IntKind.i64.wrap ((IntKind.i64.wrap ((2:Int)*x.2.2.1))+v8.1)),x.2.2.2.1,x.2.2.2.2.1,x.2.2.2.2.2.1,x.2.2.2.2.2.2.1,x.2.2.2.2.2.2.2.1,(IntKind.i64.wrap (x.2.2.2.2.2.2.2.2.1+(1:Int))),()))
|false=>
 some (.inr (.inl (x.1,x.2.1,x.2.2.1,x.2.2.2.1,x.2.2.2.2.1,x.2.2.2.2.2.1,())))
abbrev qX:Ty:=(.pair (.nptr sL) (.pair (.own 2 (.int .i64)) (.pair (.list (.int .i64)) bM)))
noncomputable def fW(x:(Ty.T qX)):Option ((Ty.T qX) ⊕ ((Ty.T bu) ⊕ (Ty.T .unit))):=
match(decide (x.2.2.2.2.1<x.2.2.2.1))with
|true=>
 ac (aI x.2.2.1 x.2.2.2.2.1) fun v3=>
 match Bg (v3,())with
 |none=>none
 |some v4=>
 ac (aZ v4.1.length none (some (.dat (.int .i64) (8:Int)))) fun v5=>
 match ak fq (x.1,x.2.1,(0:Int),x.2.2.1,x.2.2.2.1,x.2.2.2.2.1,(List.take v5.2 v4.1),((List.take v5.2 v4.1).length:Int),(0:Int),())with
 |none=>none
 |some (.inl v6)=>
  bd (v6.2.1.length+ [v6.2.2.1].length) (
   some (.inl (v6.1,(v6.2.1++ [v6.2.2.1]),v6.2.2.2.1,v6.2.2.2.2.1,(IntKind.i64.wrap (v6.2.2.2.2.2.1+(1:Int))),())))
 |some (.inr v8)=>
  some (.inr (.inr (())))
|false=>
 some (.inr (.inl (x.2.1,())))
noncomputable def rR(x:Ty.T fg):Option (Ty.T oY):=
match rQ (x.1,())with
|none=>none
|some v1=>
match(v1.2.1 != (0:Int))with
|true=>
 some ([],v1.2.1,())
|false=>
 ac v1.1 fun v2=>
 match ak fW (v1.1,[],v2.2.2.1,(v2.2.2.1.length:Int),(0:Int),())with
 |none=>none
 |some (.inl v9)=>
  some (v9.1,(0:Int),())
 |some (.inr v11)=>
  none
noncomputable def PI:ai:=⟨_,oY,.unit,rfl,rR⟩
noncomputable def se:FuncId→Option ai:=ca [(250,Bf),(251,L7),(252,ng)]
theorem Jy:∀f s,se f=some s→FnOK G0 Tryz.prog f s:=aX ⟨Np,V0,rp,trivial⟩
def x8:bg:=⟨[4,6,24,25,26],qX,0,[6],bu,[],.unit⟩
def wu:bg:=⟨[4,6,9,24,25,26,32,33,34],pM,2,[4,6,9,24,25,26],wt,[],.unit⟩
noncomputable def sf:List aM:=[x8.spec fW,wu.spec fq]
theorem H1:bJ bL E0 se (bF Tryz.f227 sf) Tryz.f227 0 x8 fW:=fun x=>by kernel_rfl
theorem FP:bJ bL E0 se (bF Tryz.f227 sf) Tryz.f227 1 wu fq:=fun x=>by kernel_rfl
theorem Nq:FnOK G0 Tryz.prog 227 PI:=bb av Jy Tryz.func227 sf (by kernel_rfl) (by exact⟨(H1).lok,(FP).lok,trivial⟩) fun x=>by kernel_rfl
noncomputable def o7(x:Ty.T fg):Option (Ty.T oY):=
match rP (x.1,())with
|none=>none
|some v1=>
match(v1.2.1 != (0:Int))with
|true=>
 some ([],v1.2.1,())
|false=>
 match rR (v1.1,())with
 |none=>none
 |some v2=>
 some (v2.1,v2.2.1,())
noncomputable def Lk:ai:=⟨_,oY,.unit,rfl,o7⟩
theorem Jz:FnOK G0 Tryz.prog 200 Lk:=au av (sg Nn (sg Nq (ba))) Tryz.func200
abbrev ml:Ty:=(.pair (.list (.int .i64)) (.pair (.list (.int .i64)) bM))
noncomputable def dB(x:(Ty.T ml)):Option ((Ty.T ml) ⊕ ((Ty.T .unit) ⊕ (Ty.T aE))):=
match(decide (x.2.2.2.1<x.2.2.1))with
|true=>
 ac (aI x.1 x.2.2.2.1) fun v1=>
 ac (aI x.2.1 x.2.2.2.1) fun v2=>
 match(v1 != v2)with
 |true=>
  some (.inr (.inr (false,())))
 |false=>
  some (.inl (x.1,x.2.1,x.2.2.1,(IntKind.i64.wrap (x.2.2.2.1+(1:Int))),()))
|false=>
 some (.inr (.inl (())))
noncomputable def bW(x:Ty.T Vq):Option (Ty.T aE):=
match((x.1.length:Int) != (x.2.1.length:Int))with
|true=>
 some (false,())
|false=>
 match ak dB (x.1,x.2.1,(x.1.length:Int),(0:Int),())with
 |none=>none
 |some (.inl v3)=>
  some (true,())
 |some (.inr v4)=>
  some (v4.1,())
noncomputable def FQ:ai:=⟨_,aE,.unit,rfl,bW⟩
noncomputable def sS:FuncId→Option ai:=ca []
theorem AC:∀f s,sS f=some s→FnOK G0 Tryz.prog f s:=aX trivial
def rq:bg:=⟨[0,1,12,13],ml,0,[],.unit,[4],aE⟩
noncomputable def sU:List aM:=[rq.spec dB]
theorem zR:bJ bL E0 sS (bF Tryz.f229 sU) Tryz.f229 0 rq dB:=fun x=>by kernel_rfl
theorem nh:FnOK G0 Tryz.prog 229 FQ:=bb av AC Tryz.func229 sU (by kernel_rfl) (by exact⟨(zR).lok,trivial⟩) fun x=>by kernel_rfl
noncomputable def PJ(x:Ty.T aV):Option (Ty.T aE):=
match bU (x.1,(0:Int),(16777215:Int),())with
|none=>none
|some v1=>
some (v1.1,())
noncomputable def adv:ai:=⟨_,aE,.unit,rfl,PJ⟩
theorem abE:FnOK G0 Tryz.prog 253 adv:=au av (sg dl (ba)) Tryz.func253
noncomputable def fu(x:Ty.T fg):Option (Ty.T bu):=
My x.1 fun v1=>
match v1 with
|true=>
 some ([],())
|false=>
 bd (([]:List (Ty.T (.int .i64))).length+x.1.length) (
  some ((([]:List (Ty.T (.int .i64)))++x.1),()))
noncomputable def ub:ai:=⟨_,bu,.unit,rfl,fu⟩
theorem ni:FnOK G0 Tryz.prog 91 ub:=au av ba Tryz.func91
noncomputable def vC(x:Ty.T fg):Option (Ty.T xt):=
ac (aZ x.1.length none (some (.dat (.int .i64) (16:Int)))) fun v1=>
ac (aZ x.1.length (some (.dat (.int .i64) (16:Int))) (some (.dat (.int .i64) (20:Int)))) fun v2=>
ac (aZ x.1.length (some (.dat (.int .i64) (20:Int))) (some (.dat (.int .i64) (24:Int)))) fun v3=>
ac (aZ x.1.length (some (.dat (.int .i64) (24:Int))) (some (.dat (.int .i64) (32:Int)))) fun v4=>
ac (aZ x.1.length (some (.dat (.int .i64) (32:Int))) (some (.dat (.int .i64) (64:Int)))) fun v5=>
match dy ((List.drop v1.1 (List.take v1.2 x.1)),())with
|none=>none
|some v6=>
match dy ((List.drop v2.1 (List.take v2.2 x.1)),())with
|none=>none
|some v7=>
match dy ((List.drop v3.1 (List.take v3.2 x.1)),())with
|none=>none
|some v8=>
match dy ((List.drop v4.1 (List.take v4.2 x.1)),())with
|none=>none
|some v9=>
match dy ((List.drop v5.1 (List.take v5.2 x.1)),())with
|none=>none
|some v10=>
some ((v6.1,v7.1,v8.1,v9.1,v10.1,()),())
noncomputable def TU:ai:=⟨_,xt,.unit,rfl,vC⟩
theorem RO:FnOK G0 Tryz.prog 270 TU:=au av (sg G5 (ba)) Tryz.func270
noncomputable def vD(x:Ty.T fg):Option (Ty.T Z5):=
match((x.1.length:Int)==(0:Int))with
|true=>
 some (((0:Int),(0:Int),((0:Int),(0:Int),(0:Int),(0:Int),(0:Int),()),[],()),false,())
|false=>
 ac (aI x.1 (0:Int)) fun v1=>
 ac (aI x.1 (0:Int)) fun v2=>
 ac (aZ x.1.length (some (.dat (.int .i64) (1:Int))) none) fun v3=>
 match gC ((IntKind.i64.wrap (Int.tdiv v1 (64:Int))),())with
 |none=>none
 |some v4=>
 match v4.1 with
 |true=>
  match(decide (((List.drop v3.1 (List.take v3.2 x.1)).length:Int)<(8:Int)))with
  |true=>
   some (((0:Int),(0:Int),((0:Int),(0:Int),(0:Int),(0:Int),(0:Int),()),[],()),false,())
  |false=>
   ac (aZ (List.drop v3.1 (List.take v3.2 x.1)).length none (some (.dat (.int .i64) (8:Int)))) fun v5=>
   match r9 ((List.drop v5.1 (List.take v5.2 (List.drop v3.1 (List.take v3.2 x.1)))),())with
   |none=>none
   |some v6=>
   match vC (v6.1,())with
   |none=>none
   |some v7=>
   ac (aZ (List.drop v3.1 (List.take v3.2 x.1)).length (some (.dat (.int .i64) (8:Int))) none) fun v8=>
   match lW ((IntKind.i64.wrap (Int.tdiv v1 (64:Int))),())with
   |none=>none
   |some v9=>
   match v9.1 with
   |true=>
    match(decide (((List.drop v8.1 (List.take v8.2 (List.drop v3.1 (List.take v3.2 x.1)))).length:Int)>(0:Int)))with
    |true=>
     ac (aZ (List.drop v8.1 (List.take v8.2 (List.drop v3.1 (List.take v3.2 x.1)))).length (some (.dat (.int .i64) (1:Int))) none) fun v10=>
     match fu ((List.drop v10.1 (List.take v10.2 (List.drop v8.1 (List.take v8.2 (List.drop v3.1 (List.take v3.2 x.1)))))),())with
     |none=>none
     |some v11=>
     match ga (((IntKind.i64.wrap (Int.tdiv v1 (64:Int))),(Int.tmod (IntKind.i64.wrap (Int.tdiv v2 (8:Int))) (8:Int)),(v7.1.1,v7.1.2.1,v7.1.2.2.1,v7.1.2.2.2.1,v7.1.2.2.2.2.1,()),v11.1,()),())with
     |none=>none
     |some v12=>
     match(!v12.1)with
     |true=>
      some (((0:Int),(0:Int),((0:Int),(0:Int),(0:Int),(0:Int),(0:Int),()),[],()),false,())
     |false=>
      match im (((IntKind.i64.wrap (Int.tdiv v1 (64:Int))),(Int.tmod (IntKind.i64.wrap (Int.tdiv v2 (8:Int))) (8:Int)),(v7.1.1,v7.1.2.1,v7.1.2.2.1,v7.1.2.2.2.1,v7.1.2.2.2.2.1,()),v11.1,()),())with
      |none=>none
      |some v13=>
      match bW (v13.1,x.1,())with
      |none=>none
      |some v14=>
      match(!v14.1)with
      |true=>
       some (((0:Int),(0:Int),((0:Int),(0:Int),(0:Int),(0:Int),(0:Int),()),[],()),false,())
      |false=>
       some (((IntKind.i64.wrap (Int.tdiv v1 (64:Int))),(Int.tmod (IntKind.i64.wrap (Int.tdiv v2 (8:Int))) (8:Int)),(v7.1.1,v7.1.2.1,v7.1.2.2.1,v7.1.2.2.2.1,v7.1.2.2.2.2.1,()),v11.1,()),true,())
    |false=>
     match ga (((IntKind.i64.wrap (Int.tdiv v1 (64:Int))),(Int.tmod (IntKind.i64.wrap (Int.tdiv v2 (8:Int))) (8:Int)),(v7.1.1,v7.1.2.1,v7.1.2.2.1,v7.1.2.2.2.1,v7.1.2.2.2.2.1,()),[],()),())with
     |none=>none
     |some v15=>
     match(!v15.1)with
     |true=>
      some (((0:Int),(0:Int),((0:Int),(0:Int),(0:Int),(0:Int),(0:Int),()),[],()),false,())
     |false=>
      match im (((IntKind.i64.wrap (Int.tdiv v1 (64:Int))),(Int.tmod (IntKind.i64.wrap (Int.tdiv v2 (8:Int))) (8:Int)),(v7.1.1,v7.1.2.1,v7.1.2.2.1,v7.1.2.2.2.1,v7.1.2.2.2.2.1,()),[],()),())with
      |none=>none
      |some v16=>
      match bW (v16.1,x.1,())with
      |none=>none
      |some v17=>
      match(!v17.1)with
      |true=>
       some (((0:Int),(0:Int),((0:Int),(0:Int),(0:Int),(0:Int),(0:Int),()),[],()),false,())
      |false=>
       some (((IntKind.i64.wrap (Int.tdiv v1 (64:Int))),(Int.tmod (IntKind.i64.wrap (Int.tdiv v2 (8:Int))) (8:Int)),(v7.1.1,v7.1.2.1,v7.1.2.2.1,v7.1.2.2.2.1,v7.1.2.2.2.2.1,()),[],()),true,())
   |false=>
    match ga (((IntKind.i64.wrap (Int.tdiv v1 (64:Int))),(Int.tmod (IntKind.i64.wrap (Int.tdiv v2 (8:Int))) (8:Int)),(v7.1.1,v7.1.2.1,v7.1.2.2.1,v7.1.2.2.2.1,v7.1.2.2.2.2.1,()),[],()),())with
    |none=>none
    |some v18=>
    match(!v18.1)with
    |true=>
     some (((0:Int),(0:Int),((0:Int),(0:Int),(0:Int),(0:Int),(0:Int),()),[],()),false,())
    |false=>
     match im (((IntKind.i64.wrap (Int.tdiv v1 (64:Int))),(Int.tmod (IntKind.i64.wrap (Int.tdiv v2 (8:Int))) (8:Int)),(v7.1.1,v7.1.2.1,v7.1.2.2.1,v7.1.2.2.2.1,v7.1.2.2.2.2.1,()),[],()),())with
     |none=>none
     |some v19=>
     match bW (v19.1,x.1,())with
     |none=>none
     |some v20=>
     match(!v20.1)with
     |true=>
      some (((0:Int),(0:Int),((0:Int),(0:Int),(0:Int),(0:Int),(0:Int),()),[],()),false,())
     |false=>
      some (((IntKind.i64.wrap (Int.tdiv v1 (64:Int))),(Int.tmod (IntKind.i64.wrap (Int.tdiv v2 (8:Int))) (8:Int)),(v7.1.1,v7.1.2.1,v7.1.2.2.1,v7.1.2.2.2.1,v7.1.2.2.2.2.1,()),[],()),true,())
 |false=>
  match lW ((IntKind.i64.wrap (Int.tdiv v1 (64:Int))),())with
  |none=>none
  |some v21=>
  match v21.1 with
  |true=>
   match(decide (((List.drop v3.1 (List.take v3.2 x.1)).length:Int)>(0:Int)))with
   |true=>
    ac (aZ (List.drop v3.1 (List.take v3.2 x.1)).length (some (.dat (.int .i64) (1:Int))) none) fun v22=>
    match fu ((List.drop v22.1 (List.take v22.2 (List.drop v3.1 (List.take v3.2 x.1)))),())with
    |none=>none
    |some v23=>
    match ga (((IntKind.i64.wrap (Int.tdiv v1 (64:Int))),(Int.tmod (IntKind.i64.wrap (Int.tdiv v2 (8:Int))) (8:Int)),((0:Int),(0:Int),(0:Int),(0:Int),(0:Int),()),v23.1,()),())with
    |none=>none
    |some v24=>
    match(!v24.1)with
    |true=>
     some (((0:Int),(0:Int),((0:Int),(0:Int),(0:Int),(0:Int),(0:Int),()),[],()),false,())
    |false=>
     match im (((IntKind.i64.wrap (Int.tdiv v1 (64:Int))),(Int.tmod (IntKind.i64.wrap (Int.tdiv v2 (8:Int))) (8:Int)),((0:Int),(0:Int),(0:Int),(0:Int),(0:Int),()),v23.1,()),())with
     |none=>none
     |some v25=>
     match bW (v25.1,x.1,())with
     |none=>none
     |some v26=>
     match(!v26.1)with
     |true=>
      some (((0:Int),(0:Int),((0:Int),(0:Int),(0:Int),(0:Int),(0:Int),()),[],()),false,())
     |false=>
      some (((IntKind.i64.wrap (Int.tdiv v1 (64:Int))),(Int.tmod (IntKind.i64.wrap (Int.tdiv v2 (8:Int))) (8:Int)),((0:Int),(0:Int),(0:Int),(0:Int),(0:Int),()),v23.1,()),true,())
   |false=>
    match ga (((IntKind.i64.wrap (Int.tdiv v1 (64:Int))),(Int.tmod (IntKind.i64.wrap (Int.tdiv v2 (8:Int))) (8:Int)),((0:Int),(0:Int),(0:Int),(0:Int),(0:Int),()),[],()),())with
    |none=>none
    |some v27=>
    match(!v27.1)with
    |true=>
     some (((0:Int),(0:Int),((0:Int),(0:Int),(0:Int),(0:Int),(0:Int),()),[],()),false,())
    |false=>
     match im (((IntKind.i64.wrap (Int.tdiv v1 (64:Int))),(Int.tmod (IntKind.i64.wrap (Int.tdiv v2 (8:Int))) (8:Int)),((0:Int),(0:Int),(0:Int),(0:Int),(0:Int),()),[],()),())with
     |none=>none
     |some v28=>
     match bW (v28.1,x.1,())with
     |none=>none
     |some v29=>
     match(!v29.1)with
     |true=>
      some (((0:Int),(0:Int),((0:Int),(0:Int),(0:Int),(0:Int),(0:Int),()),[],()),false,())
     |false=>
      some (((IntKind.i64.wrap (Int.tdiv v1 (64:Int))),(Int.tmod (IntKind.i64.wrap (Int.tdiv v2 (8:Int))) (8:Int)),((0:Int),(0:Int),(0:Int),(0:Int),(0:Int),()),[],()),true,())
  |false=>
   match ga (((IntKind.i64.wrap (Int.tdiv v1 (64:Int))),(Int.tmod (IntKind.i64.wrap (Int.tdiv v2 (8:Int))) (8:Int)),((0:Int),(0:Int),(0:Int),(0:Int),(0:Int),()),[],()),())with
   |none=>none
   |some v30=>
   match(!v30.1)with
   |true=>
    some (((0:Int),(0:Int),((0:Int),(0:Int),(0:Int),(0:Int),(0:Int),()),[],()),false,())
   |false=>
    match im (((IntKind.i64.wrap (Int.tdiv v1 (64:Int))),(Int.tmod (IntKind.i64.wrap (Int.tdiv v2 (8:Int))) (8:Int)),((0:Int),(0:Int),(0:Int),(0:Int),(0:Int),()),[],()),())with
    |none=>none
    |some v31=>
    match bW (v31.1,x.1,())with
    |none=>none
    |some v32=>
    match(!v32.1)with
    |true=>
     some (((0:Int),(0:Int),((0:Int),(0:Int),(0:Int),(0:Int),(0:Int),()),[],()),false,())
    |false=>
     some (((IntKind.i64.wrap (Int.tdiv v1 (64:Int))),(Int.tmod (IntKind.i64.wrap (Int.tdiv v2 (8:Int))) (8:Int)),((0:Int),(0:Int),(0:Int),(0:Int),(0:Int),()),[],()),true,())
noncomputable def TV:ai:=⟨_,Z5,.unit,rfl,vD⟩
theorem RP:FnOK G0 Tryz.prog 254 TV:=au av (sg lM (sg ni (sg Jn (sg L0 (sg zx (sg L3 (sg nh (sg RO (ba))))))))) Tryz.func254
noncomputable def rr(x:Ty.T aeq):Option (Ty.T Z6):=
match gU ((x.2.2.1.1,x.2.2.1.2.1,x.2.2.1.2.2.1,x.2.2.1.2.2.2.1,x.2.2.1.2.2.2.2.1,()),())with
|none=>none
|some v1=>
match(!v1.1)with
|true=>
 some (((0:Int),(0:Int),((0:Int),(0:Int),(0:Int),(0:Int),(0:Int),()),[],()),(1:Int),())
|false=>
 match PJ (x.2.1,())with
 |none=>none
 |some v2=>
 match(!v2.1)with
 |true=>
  some (((0:Int),(0:Int),((0:Int),(0:Int),(0:Int),(0:Int),(0:Int),()),[],()),(2:Int),())
 |false=>
  match pH (x.1,())with
  |none=>none
  |some v3=>
  match(!v3.1)with
  |true=>
   some (((0:Int),(0:Int),((0:Int),(0:Int),(0:Int),(0:Int),(0:Int),()),[],()),(2:Int),())
  |false=>
   match(decide ((IntKind.i64.wrap ((x.1.length:Int)-(3:Int)))<(1:Int)))with
   |true=>
    some (((0:Int),(0:Int),((0:Int),(0:Int),(0:Int),(0:Int),(0:Int),()),[],()),(6:Int),())
   |false=>
    ac (aI x.1 (0:Int)) fun v4=>
    ac (aZ x.1.length none (some (.dat (.int .i64) (IntKind.i64.wrap ((x.1.length:Int)-(3:Int)))))) fun v5=>
    ac (aZ x.1.length (some (.dat (.int .i64) (IntKind.i64.wrap ((x.1.length:Int)-(3:Int))))) none) fun v6=>
    match ko ((IntKind.i64.wrap (Int.tdiv v4 (64:Int))),(List.drop v5.1 (List.take v5.2 x.1)),x.2.1,(x.2.2.1.1,x.2.2.1.2.1,x.2.2.1.2.2.1,x.2.2.1.2.2.2.1,x.2.2.1.2.2.2.2.1,()),())with
    |none=>none
    |some v7=>
    match nf (v7.1,())with
    |none=>none
    |some v8=>
    match bW (v8.1,(List.drop v6.1 (List.take v6.2 x.1)),())with
    |none=>none
    |some v9=>
    match(!v9.1)with
    |true=>
     some (((0:Int),(0:Int),((0:Int),(0:Int),(0:Int),(0:Int),(0:Int),()),[],()),(7:Int),())
    |false=>
     ac (aZ x.1.length none (some (.dat (.int .i64) (IntKind.i64.wrap ((x.1.length:Int)-(3:Int)))))) fun v10=>
     match vD ((List.drop v10.1 (List.take v10.2 x.1)),())with
     |none=>none
     |some v11=>
     match(!v11.2.1)with
     |true=>
      some (((0:Int),(0:Int),((0:Int),(0:Int),(0:Int),(0:Int),(0:Int),()),[],()),(6:Int),())
     |false=>
      match gC (v11.1.1,())with
      |none=>none
      |some v12=>
      match v12.1 with
      |true=>
       match(!(et ao (v11.1.2.2.1.1,v11.1.2.2.1.2.1,v11.1.2.2.1.2.2.1,v11.1.2.2.1.2.2.2.1,v11.1.2.2.1.2.2.2.2.1,()) (x.2.2.1.1,x.2.2.1.2.1,x.2.2.1.2.2.1,x.2.2.1.2.2.2.1,x.2.2.1.2.2.2.2.1,())))with
       |true=>
        some (((0:Int),(0:Int),((0:Int),(0:Int),(0:Int),(0:Int),(0:Int),()),[],()),(5:Int),())
       |false=>
        some ((v11.1.1,v11.1.2.1,(v11.1.2.2.1.1,v11.1.2.2.1.2.1,v11.1.2.2.1.2.2.1,v11.1.2.2.1.2.2.2.1,v11.1.2.2.1.2.2.2.2.1,()),v11.1.2.2.2.1,()),(0:Int),())
      |false=>
       some ((v11.1.1,v11.1.2.1,(v11.1.2.2.1.1,v11.1.2.2.1.2.1,v11.1.2.2.1.2.2.1,v11.1.2.2.1.2.2.2.1,v11.1.2.2.1.2.2.2.2.1,()),v11.1.2.2.2.1,()),(0:Int),())
noncomputable def TW:ai:=⟨_,Z6,.unit,rfl,rr⟩
theorem RQ:FnOK G0 Tryz.prog 228 TW:=au av (sg tW (sg lM (sg Be (sg zL (sg Jm (sg nh (sg abE (sg RP (ba))))))))) Tryz.func228
noncomputable def D2(x:Ty.T Vr):Option (Ty.T wN):=
match rr (x.2.2.1,x.1.1,(x.2.1.1,x.2.1.2.1,x.2.1.2.2.1,x.2.1.2.2.2.1,x.2.1.2.2.2.2.1,()),())with
|none=>none
|some v1=>
match(v1.2.1==(0:Int))with
|true=>
 match aN ((x.1.1,x.1.2.1,x.1.2.2.1,x.1.2.2.2.1,()),(x.2.1.1,x.2.1.2.1,x.2.1.2.2.1,x.2.1.2.2.2.1,x.2.1.2.2.2.2.1,()),())with
 |none=>none
 |some v2=>
 match zH (v2.1,(v1.1.1,v1.1.2.1,(v1.1.2.2.1.1,v1.1.2.2.1.2.1,v1.1.2.2.1.2.2.1,v1.1.2.2.1.2.2.2.1,v1.1.2.2.1.2.2.2.2.1,()),v1.1.2.2.2.1,()),())with
 |none=>none
 |some v3=>
 match(!v3.1)with
 |true=>
  match((5:Int) != (0:Int))with
  |true=>
   some (((2:Int),((0:Int),(0:Int),((0:Int),(0:Int),(0:Int),(0:Int),(0:Int),()),[],()),()),(5:Int),())
  |false=>
   some (((3:Int),(v1.1.1,v1.1.2.1,(v1.1.2.2.1.1,v1.1.2.2.1.2.1,v1.1.2.2.1.2.2.1,v1.1.2.2.1.2.2.2.1,v1.1.2.2.1.2.2.2.2.1,()),v1.1.2.2.2.1,()),()),(0:Int),())
 |false=>
  match(v1.2.1 != (0:Int))with
  |true=>
   some (((2:Int),((0:Int),(0:Int),((0:Int),(0:Int),(0:Int),(0:Int),(0:Int),()),[],()),()),v1.2.1,())
  |false=>
   some (((3:Int),(v1.1.1,v1.1.2.1,(v1.1.2.2.1.1,v1.1.2.2.1.2.1,v1.1.2.2.1.2.2.1,v1.1.2.2.1.2.2.2.1,v1.1.2.2.1.2.2.2.2.1,()),v1.1.2.2.2.1,()),()),(0:Int),())
|false=>
 match(v1.2.1 != (0:Int))with
 |true=>
  some (((2:Int),((0:Int),(0:Int),((0:Int),(0:Int),(0:Int),(0:Int),(0:Int),()),[],()),()),v1.2.1,())
 |false=>
  some (((3:Int),(v1.1.1,v1.1.2.1,(v1.1.2.2.1.1,v1.1.2.2.1.2.1,v1.1.2.2.1.2.2.1,v1.1.2.2.1.2.2.2.1,v1.1.2.2.1.2.2.2.2.1,()),v1.1.2.2.2.1,()),()),(0:Int),())
noncomputable def abF:ai:=⟨_,wN,.unit,rfl,D2⟩
theorem aah:FnOK G0 Tryz.prog 201 abF:=au av (sg dZ (sg SW (sg RQ (ba)))) Tryz.func201
noncomputable def wv(x:Ty.T Vr):Option (Ty.T wN):=
match o7 (x.2.2.1,())with
|none=>none
|some v1=>
match(v1.2.1==(0:Int))with
|true=>
 match D2 ((x.1.1,x.1.2.1,x.1.2.2.1,x.1.2.2.2.1,()),(x.2.1.1,x.2.1.2.1,x.2.1.2.2.1,x.2.1.2.2.2.1,x.2.1.2.2.2.2.1,()),v1.1,())with
 |none=>none
 |some v2=>
 some ((v2.1.1,(v2.1.2.1.1,v2.1.2.1.2.1,(v2.1.2.1.2.2.1.1,v2.1.2.1.2.2.1.2.1,v2.1.2.1.2.2.1.2.2.1,v2.1.2.1.2.2.1.2.2.2.1,v2.1.2.1.2.2.1.2.2.2.2.1,()),v2.1.2.1.2.2.2.1,()),()),v2.2.1,())
|false=>
 match(v1.2.1==(4:Int))with
 |true=>
  some (((0:Int),((0:Int),(0:Int),((0:Int),(0:Int),(0:Int),(0:Int),(0:Int),()),[],()),()),v1.2.1,())
 |false=>
  some (((1:Int),((0:Int),(0:Int),((0:Int),(0:Int),(0:Int),(0:Int),(0:Int),()),[],()),()),v1.2.1,())
noncomputable def XR:ai:=⟨_,wN,.unit,rfl,wv⟩
theorem V1:FnOK G0 Tryz.prog 151 XR:=au av (sg Jz (sg aah (ba))) Tryz.func151
noncomputable def gM(x:Ty.T Vr):Option (Ty.T wN):=
match sd (x.2.2.1,())with
|none=>none
|some v1=>
match xa ((x.1.1,x.1.2.1,x.1.2.2.1,x.1.2.2.2.1,()),(x.2.1.1,x.2.1.2.1,x.2.1.2.2.1,x.2.1.2.2.2.1,x.2.1.2.2.2.2.1,()),v1.1,())with
|none=>none
|some v2=>
match(v2.1 != (0:Int))with
|true=>
 some (((0:Int),((0:Int),(0:Int),((0:Int),(0:Int),(0:Int),(0:Int),(0:Int),()),[],()),()),v2.1,())
|false=>
 match wv ((x.1.1,x.1.2.1,x.1.2.2.1,x.1.2.2.2.1,()),(x.2.1.1,x.2.1.2.1,x.2.1.2.2.1,x.2.1.2.2.2.1,x.2.1.2.2.2.2.1,()),x.2.2.1,())with
 |none=>none
 |some v3=>
 some ((v3.1.1,(v3.1.2.1.1,v3.1.2.1.2.1,(v3.1.2.1.2.2.1.1,v3.1.2.1.2.2.1.2.1,v3.1.2.1.2.2.1.2.2.1,v3.1.2.1.2.2.1.2.2.2.1,v3.1.2.1.2.2.1.2.2.2.2.1,()),v3.1.2.1.2.2.2.1,()),()),(0:Int),())
noncomputable def JA:ai:=⟨_,wN,.unit,rfl,gM⟩
theorem H2:FnOK G0 Tryz.prog 89 JA:=au av (sg vB (sg Nl (sg V1 (ba)))) Tryz.func89
noncomputable def ru(x:Ty.T ac9):Option (Ty.T aE):=
match(x.1.1==x.2.1.1)with
|true=>
 match(x.1.2.1==x.2.1.2.1)with
 |true=>
  match(et ao (x.1.2.2.1.1,x.1.2.2.1.2.1,x.1.2.2.1.2.2.1,x.1.2.2.1.2.2.2.1,x.1.2.2.1.2.2.2.2.1,()) (x.2.1.2.2.1.1,x.2.1.2.2.1.2.1,x.2.1.2.2.1.2.2.1,x.2.1.2.2.1.2.2.2.1,x.2.1.2.2.1.2.2.2.2.1,()))with
  |true=>
   match bW (x.1.2.2.2.1,x.2.1.2.2.2.1,())with
   |none=>none
   |some v1=>
   some (v1.1,())
  |false=>
   some (false,())
 |false=>
  some (false,())
|false=>
 some (false,())
noncomputable def TX:ai:=⟨_,aE,.unit,rfl,ru⟩
theorem RR:FnOK G0 Tryz.prog 202 TX:=au av (sg nh (ba)) Tryz.func202
noncomputable def ov(x:Ty.T aei):Option (Ty.T aE):=
match(x.1.1==x.2.1.1)with
|true=>
 match ru ((x.1.2.1.1,x.1.2.1.2.1,(x.1.2.1.2.2.1.1,x.1.2.1.2.2.1.2.1,x.1.2.1.2.2.1.2.2.1,x.1.2.1.2.2.1.2.2.2.1,x.1.2.1.2.2.1.2.2.2.2.1,()),x.1.2.1.2.2.2.1,()),(x.2.1.2.1.1,x.2.1.2.1.2.1,(x.2.1.2.1.2.2.1.1,x.2.1.2.1.2.2.1.2.1,x.2.1.2.1.2.2.1.2.2.1,x.2.1.2.1.2.2.1.2.2.2.1,x.2.1.2.1.2.2.1.2.2.2.2.1,()),x.2.1.2.1.2.2.2.1,()),())with
 |none=>none
 |some v1=>
 some (v1.1,())
|false=>
 some (false,())
noncomputable def PL:ai:=⟨_,aE,.unit,rfl,ov⟩
theorem Nr:FnOK G0 Tryz.prog 152 PL:=au av (sg RR (ba)) Tryz.func152
noncomputable def KK(x:Ty.T aev):Option (Ty.T Z7):=
match(x.1.1==(3:Int))with
|true=>
 match ov ((x.1.1,(x.1.2.1.1,x.1.2.1.2.1,(x.1.2.1.2.2.1.1,x.1.2.1.2.2.1.2.1,x.1.2.1.2.2.1.2.2.1,x.1.2.1.2.2.1.2.2.2.1,x.1.2.1.2.2.1.2.2.2.2.1,()),x.1.2.1.2.2.2.1,()),()),(x.2.1.1,(x.2.1.2.1.1,x.2.1.2.1.2.1,(x.2.1.2.1.2.2.1.1,x.2.1.2.1.2.2.1.2.1,x.2.1.2.1.2.2.1.2.2.1,x.2.1.2.1.2.2.1.2.2.2.1,x.2.1.2.1.2.2.1.2.2.2.2.1,()),x.2.1.2.1.2.2.2.1,()),()),())with
 |none=>none
 |some v1=>
 match v1.1 with
 |true=>
  some ((x.1.1,(x.1.2.1.1,x.1.2.1.2.1,(x.1.2.1.2.2.1.1,x.1.2.1.2.2.1.2.1,x.1.2.1.2.2.1.2.2.1,x.1.2.1.2.2.1.2.2.2.1,x.1.2.1.2.2.1.2.2.2.2.1,()),x.1.2.1.2.2.2.1,()),()),())
 |false=>
  match(x.1.1==(3:Int))with
  |true=>
   match(x.2.1.1==(3:Int))with
   |true=>
    some (((4:Int),((0:Int),(0:Int),((0:Int),(0:Int),(0:Int),(0:Int),(0:Int),()),[],()),()),())
   |false=>
    match(x.1.1==(4:Int))with
    |true=>
     some (((4:Int),((0:Int),(0:Int),((0:Int),(0:Int),(0:Int),(0:Int),(0:Int),()),[],()),()),())
    |false=>
     match(x.2.1.1==(4:Int))with
     |true=>
      some (((4:Int),((0:Int),(0:Int),((0:Int),(0:Int),(0:Int),(0:Int),(0:Int),()),[],()),()),())
     |false=>
      match(decide (x.1.1≥x.2.1.1))with
      |true=>
       some ((x.1.1,(x.1.2.1.1,x.1.2.1.2.1,(x.1.2.1.2.2.1.1,x.1.2.1.2.2.1.2.1,x.1.2.1.2.2.1.2.2.1,x.1.2.1.2.2.1.2.2.2.1,x.1.2.1.2.2.1.2.2.2.2.1,()),x.1.2.1.2.2.2.1,()),()),())
      |false=>
       some ((x.2.1.1,(x.2.1.2.1.1,x.2.1.2.1.2.1,(x.2.1.2.1.2.2.1.1,x.2.1.2.1.2.2.1.2.1,x.2.1.2.1.2.2.1.2.2.1,x.2.1.2.1.2.2.1.2.2.2.1,x.2.1.2.1.2.2.1.2.2.2.2.1,()),x.2.1.2.1.2.2.2.1,()),()),())
  |false=>
   match(x.1.1==(4:Int))with
   |true=>
    some (((4:Int),((0:Int),(0:Int),((0:Int),(0:Int),(0:Int),(0:Int),(0:Int),()),[],()),()),())
   |false=>
    match(x.2.1.1==(4:Int))with
    |true=>
     some (((4:Int),((0:Int),(0:Int),((0:Int),(0:Int),(0:Int),(0:Int),(0:Int),()),[],()),()),())
    |false=>
     match(decide (x.1.1≥x.2.1.1))with
     |true=>
      some ((x.1.1,(x.1.2.1.1,x.1.2.1.2.1,(x.1.2.1.2.2.1.1,x.1.2.1.2.2.1.2.1,x.1.2.1.2.2.1.2.2.1,x.1.2.1.2.2.1.2.2.2.1,x.1.2.1.2.2.1.2.2.2.2.1,()),x.1.2.1.2.2.2.1,()),()),())
     |false=>
      some ((x.2.1.1,(x.2.1.2.1.1,x.2.1.2.1.2.1,(x.2.1.2.1.2.2.1.1,x.2.1.2.1.2.2.1.2.1,x.2.1.2.1.2.2.1.2.2.1,x.2.1.2.1.2.2.1.2.2.2.1,x.2.1.2.1.2.2.1.2.2.2.2.1,()),x.2.1.2.1.2.2.2.1,()),()),())
|false=>
 match(x.1.1==(3:Int))with
 |true=>
  match(x.2.1.1==(3:Int))with
  |true=>
   some (((4:Int),((0:Int),(0:Int),((0:Int),(0:Int),(0:Int),(0:Int),(0:Int),()),[],()),()),())
  |false=>
   match(x.1.1==(4:Int))with
   |true=>
    some (((4:Int),((0:Int),(0:Int),((0:Int),(0:Int),(0:Int),(0:Int),(0:Int),()),[],()),()),())
   |false=>
    match(x.2.1.1==(4:Int))with
    |true=>
     some (((4:Int),((0:Int),(0:Int),((0:Int),(0:Int),(0:Int),(0:Int),(0:Int),()),[],()),()),())
    |false=>
     match(decide (x.1.1≥x.2.1.1))with
     |true=>
      some ((x.1.1,(x.1.2.1.1,x.1.2.1.2.1,(x.1.2.1.2.2.1.1,x.1.2.1.2.2.1.2.1,x.1.2.1.2.2.1.2.2.1,x.1.2.1.2.2.1.2.2.2.1,x.1.2.1.2.2.1.2.2.2.2.1,()),x.1.2.1.2.2.2.1,()),()),())
     |false=>
      some ((x.2.1.1,(x.2.1.2.1.1,x.2.1.2.1.2.1,(x.2.1.2.1.2.2.1.1,x.2.1.2.1.2.2.1.2.1,x.2.1.2.1.2.2.1.2.2.1,x.2.1.2.1.2.2.1.2.2.2.1,x.2.1.2.1.2.2.1.2.2.2.2.1,()),x.2.1.2.1.2.2.2.1,()),()),())
 |false=>
  match(x.1.1==(4:Int))with
  |true=>
   some (((4:Int),((0:Int),(0:Int),((0:Int),(0:Int),(0:Int),(0:Int),(0:Int),()),[],()),()),())
  |false=>
   match(x.2.1.1==(4:Int))with
   |true=>
    some (((4:Int),((0:Int),(0:Int),((0:Int),(0:Int),(0:Int),(0:Int),(0:Int),()),[],()),()),())
   |false=>
    match(decide (x.1.1≥x.2.1.1))with
    |true=>
     some ((x.1.1,(x.1.2.1.1,x.1.2.1.2.1,(x.1.2.1.2.2.1.1,x.1.2.1.2.2.1.2.1,x.1.2.1.2.2.1.2.2.1,x.1.2.1.2.2.1.2.2.2.1,x.1.2.1.2.2.1.2.2.2.2.1,()),x.1.2.1.2.2.2.1,()),()),())
    |false=>
     some ((x.2.1.1,(x.2.1.2.1.1,x.2.1.2.1.2.1,(x.2.1.2.1.2.2.1.1,x.2.1.2.1.2.2.1.2.1,x.2.1.2.1.2.2.1.2.2.1,x.2.1.2.1.2.2.1.2.2.2.1,x.2.1.2.1.2.2.1.2.2.2.2.1,()),x.2.1.2.1.2.2.2.1,()),()),())
noncomputable def abG:ai:=⟨_,Z7,.unit,rfl,KK⟩
theorem aai:FnOK G0 Tryz.prog 90 abG:=au av (sg Nr (ba)) Tryz.func90
noncomputable def lP(x:Ty.T (.pair aA (.pair ao (.pair (.list (.int .i64)) (.pair (.list (.int .i64)) .unit))))):Option (Ty.T wN):=
match gM ((x.1.1,x.1.2.1,x.1.2.2.1,x.1.2.2.2.1,()),(x.2.1.1,x.2.1.2.1,x.2.1.2.2.1,x.2.1.2.2.2.1,x.2.1.2.2.2.2.1,()),x.2.2.1,())with
|none=>none
|some v1=>
match(v1.2.1 != (0:Int))with
|true=>
 some (((0:Int),((0:Int),(0:Int),((0:Int),(0:Int),(0:Int),(0:Int),(0:Int),()),[],()),()),v1.2.1,())
|false=>
 match gM ((x.1.1,x.1.2.1,x.1.2.2.1,x.1.2.2.2.1,()),(x.2.1.1,x.2.1.2.1,x.2.1.2.2.1,x.2.1.2.2.2.1,x.2.1.2.2.2.2.1,()),x.2.2.2.1,())with
 |none=>none
 |some v2=>
 match(v2.2.1 != (0:Int))with
 |true=>
  some (((0:Int),((0:Int),(0:Int),((0:Int),(0:Int),(0:Int),(0:Int),(0:Int),()),[],()),()),v2.2.1,())
 |false=>
  match KK ((v1.1.1,(v1.1.2.1.1,v1.1.2.1.2.1,(v1.1.2.1.2.2.1.1,v1.1.2.1.2.2.1.2.1,v1.1.2.1.2.2.1.2.2.1,v1.1.2.1.2.2.1.2.2.2.1,v1.1.2.1.2.2.1.2.2.2.2.1,()),v1.1.2.1.2.2.2.1,()),()),(v2.1.1,(v2.1.2.1.1,v2.1.2.1.2.1,(v2.1.2.1.2.2.1.1,v2.1.2.1.2.2.1.2.1,v2.1.2.1.2.2.1.2.2.1,v2.1.2.1.2.2.1.2.2.2.1,v2.1.2.1.2.2.1.2.2.2.2.1,()),v2.1.2.1.2.2.2.1,()),()),())with
  |none=>none
  |some v3=>
  some ((v3.1.1,(v3.1.2.1.1,v3.1.2.1.2.1,(v3.1.2.1.2.2.1.1,v3.1.2.1.2.2.1.2.1,v3.1.2.1.2.2.1.2.2.1,v3.1.2.1.2.2.1.2.2.2.1,v3.1.2.1.2.2.1.2.2.2.2.1,()),v3.1.2.1.2.2.2.1,()),()),(0:Int),())
noncomputable def PM:ai:=⟨_,wN,.unit,rfl,lP⟩
theorem Ns:FnOK G0 Tryz.prog 51 PM:=au av (sg H2 (sg aai (ba))) Tryz.func51
noncomputable def kP(x:Ty.T aV):Option (Ty.T aV):=
some ((IntKind.i64.wrap ((1:Int)-x.1)),())
noncomputable def Nt:ai:=⟨_,aV,.unit,rfl,kP⟩
theorem Ll:FnOK G0 Tryz.prog 153 Nt:=au av ba Tryz.func153
abbrev zS:Ty:=(.pair (.own 2 (.int .i64)) (.pair (.int .i64) (.pair (.fn (.pair (.int .i64) .unit) (.pair (.int .i64) .unit)) (.pair (.int .i64) .unit))))
noncomputable def jI(x:(Ty.T zS)):Option ((Ty.T zS) ⊕ ((Ty.T bu) ⊕ (Ty.T .unit))):=
match(decide (x.2.2.2.1<(if(x.1.length:Int)<x.2.1 then(x.1.length:Int)else x.2.1)))with
|true=>
 ac (aI x.1 x.2.2.2.1) fun _=>
 match x.1[x.2.2.2.1.toNat]? with
 |none=>none
 |some v2=>
 match x.2.2.1 (v2,())with
 |none=>none
 |some v3=>
 ac (aI x.1 x.2.2.2.1) fun _=>
 match x.1[x.2.2.2.1.toNat]? with
 |none=>none
 |some v5=>
 some (.inl ((x.1.set x.2.2.2.1.toNat v3.1),x.2.1,x.2.2.1,(IntKind.i64.wrap (x.2.2.2.1+(1:Int))),()))
|false=>
 some (.inr (.inl (x.1,())))
noncomputable def sh(x:Ty.T (.pair (.own 2 (.int .i64)) (.pair (.int .i64) (.pair (.int .i64) (.pair (.fn (.pair (.int .i64) .unit) (.pair (.int .i64) .unit)) .unit))))):Option (Ty.T bu):=
match ak jI (x.1,x.2.2.1,x.2.2.2.1,x.2.1,())with
|none=>none
|some (.inl v6)=>
 some (v6.1,())
|some (.inr v8)=>
 none
noncomputable def aaj:ai:=⟨_,.unit,bu,rfl,sh⟩
noncomputable def L8:FuncId→Option ai:=ca []
theorem TY:∀f s,L8 f=some s→FnOK G0 Tryz.prog f s:=aX trivial
def JB:bg:=⟨[0,2,3,8],zS,0,[0],bu,[],.unit⟩
noncomputable def L9:List aM:=[JB.spec jI]
theorem RS:bJ bL E0 L8 (bF Tryz.f154 L9) Tryz.f154 0 JB jI:=fun x=>by kernel_rfl
theorem XS:FnOK G0 Tryz.prog 154 aaj:=bb av TY Tryz.func154 L9 (by kernel_rfl) (by exact⟨(RS).lok,trivial⟩) fun x=>by kernel_rfl
noncomputable def lv(x:Ty.T MK):Option (Ty.T bu):=ac (Vj x.1 x.2.1 x.2.2.1) fun s=>some (s,())
noncomputable def D3:ai:=⟨MK,bu,.unit,rfl,lv⟩
theorem BV:FnOK G0 Tryz.prog 155 D3:=abw (nP Tryz.func155 (by kernel_rfl) (show Tryz.f155.body=some (fe Tryz.f155) by kernel_rfl))
noncomputable def lw(x:Ty.T aes):Option (Ty.T bu):=ac (Vk x.1 x.2.1 x.2.2.1) fun s=>some (s,())
noncomputable def D4:ai:=⟨aes,bu,.unit,rfl,lw⟩
theorem BW:FnOK G0 Tryz.prog 156 D4:=aby (nP Tryz.func156 (by kernel_rfl) (show Tryz.f156.body=some (fe Tryz.f156) by kernel_rfl))
noncomputable def qp(x:Ty.T aV):Option (Ty.T aV):=
some ((1:Int),())
noncomputable def Nu:ai:=⟨_,aV,.unit,rfl,qp⟩
theorem Lm:FnOK G0 Tryz.prog 157 Nu:=au av ba Tryz.func157
noncomputable def qq(x:Ty.T (.pair (.int .i64) (.pair (.ptr bk) .unit))):Option (Ty.T aV):=
some (x.2.1.2.2.2.1,())
noncomputable def Nv:ai:=⟨_,aV,.unit,rfl,qq⟩
theorem Ln:FnOK G0 Tryz.prog 158 Nv:=au av ba Tryz.func158
noncomputable def pN(x:Ty.T aeo):Option (Ty.T fg):=
match fu (x.1,())with
|none=>none
|some v1=>
match(x.2.1.1==(1:Int))with
|true=>
 match sh (v1.1,x.2.1.2.1,(IntKind.i64.wrap (x.2.1.2.1+(1:Int))),kP,())with
 |none=>none
 |some v2=>
 some (v2.1,())
|false=>
 match(x.2.1.1==(2:Int))with
 |true=>
  match sh (v1.1,x.2.1.2.1,(IntKind.i64.wrap (x.2.1.2.1+x.2.1.2.2.1)),kP,())with
  |none=>none
  |some v3=>
  some (v3.1,())
 |false=>
  match(x.2.1.1==(3:Int))with
  |true=>
   match lv (v1.1,(if x.2.1.2.1<(x.1.length:Int)then x.2.1.2.1 else(x.1.length:Int)),(if(IntKind.i64.wrap (x.2.1.2.1+x.2.1.2.2.1))<(x.1.length:Int)then(IntKind.i64.wrap (x.2.1.2.1+x.2.1.2.2.1))else(x.1.length:Int)),())with
   |none=>none
   |some v4=>
   some (v4.1,())
  |false=>
   match(x.2.1.1==(4:Int))with
   |true=>
    match(decide (x.2.1.2.1≤(x.1.length:Int)))with
    |true=>
     match uX ([],x.2.1.2.2.2.1,x.2.1.2.2.1,())with
     |none=>none
     |some v5=>
     match lw (v1.1,x.2.1.2.1,v5.1,())with
     |none=>none
     |some v6=>
     ac (aZ v6.1.length none (some (.dat (.int .i64) (if(v6.1.length:Int)<(8192:Int)then(v6.1.length:Int)else(8192:Int))))) fun v7=>
     some ((List.drop v7.1 (List.take v7.2 v6.1)),())
    |false=>
     ac (aZ v1.1.length none (some (.dat (.int .i64) (if(v1.1.length:Int)<(8192:Int)then(v1.1.length:Int)else(8192:Int))))) fun v8=>
     some ((List.drop v8.1 (List.take v8.2 v1.1)),())
   |false=>
    match(x.2.1.1==(5:Int))with
    |true=>
     match sh (v1.1,x.2.1.2.1,(x.1.length:Int),qp,())with
     |none=>none
     |some v9=>
     some (v9.1,())
    |false=>
     match(x.2.1.1==(6:Int))with
     |true=>
      match sh (v1.1,x.2.1.2.1,(IntKind.i64.wrap (x.2.1.2.1+x.2.1.2.2.1)),(fun z=>qq (z.1,(x.2.1.1,x.2.1.2.1,x.2.1.2.2.1,x.2.1.2.2.2.1,()),())),())with
      |none=>none
      |some v10=>
      some (v10.1,())
     |false=>
      some (v1.1,())
noncomputable def D5:ai:=⟨_,fg,.unit,rfl,pN⟩
theorem PN:FnOK G0 Tryz.prog 92 D5:=au av (sg L6 (sg ni (sg Ll (sg XS (sg BV (sg BW (sg Lm (sg Ln (ba))))))))) Tryz.func92
abbrev qY:Ty:=(.pair (.list (.int .i64)) (.pair (.list bk) bM))
noncomputable def fX(x:(Ty.T qY)):Option ((Ty.T qY) ⊕ ((Ty.T fg) ⊕ (Ty.T .unit))):=
match(decide (x.2.2.2.1<x.2.2.1))with
|true=>
 ac (aI x.2.1 x.2.2.2.1) fun v2=>
 match pN (x.1,(v2.1,v2.2.1,v2.2.2.1,v2.2.2.2.1,()),())with
 |none=>none
 |some v3=>
 some (.inl (v3.1,x.2.1,x.2.2.1,(IntKind.i64.wrap (x.2.2.2.1+(1:Int))),()))
|false=>
 some (.inr (.inl (x.1,())))
noncomputable def iH(x:Ty.T aep):Option (Ty.T fg):=
match fu (x.1,())with
|none=>none
|some v1=>
match ak fX (v1.1,x.2.1,(x.2.1.length:Int),(0:Int),())with
|none=>none
|some (.inl v4)=>
 some (v4.1,())
|some (.inr v6)=>
 none
noncomputable def PO:ai:=⟨_,fg,.unit,rfl,iH⟩
noncomputable def zT:FuncId→Option ai:=ca [(91,ub),(92,D5)]
theorem JC:∀f s,zT f=some s→FnOK G0 Tryz.prog f s:=aX ⟨ni,PN,trivial⟩
def x9:bg:=⟨[5,10,11,12],qY,0,[5],fg,[],.unit⟩
noncomputable def zU:List aM:=[x9.spec fX]
theorem H3:bJ bL E0 zT (bF Tryz.f52 zU) Tryz.f52 0 x9 fX:=fun x=>by kernel_rfl
theorem Nw:FnOK G0 Tryz.prog 52 PO:=bb av JC Tryz.func52 zU (by kernel_rfl) (by exact⟨(H3).lok,trivial⟩) fun x=>by kernel_rfl
noncomputable def JD(x:Ty.T bM):Option (Ty.T aV):=
if x.2.1<0 then none else
some ((bits BinOp.andNot .i64 x.1 (IntKind.i64.wrap ((1:Int)*2^min x.2.1.toNat IntKind.i64.bits))),())
noncomputable def XT:ai:=⟨_,aV,.unit,rfl,JD⟩
theorem V2:FnOK G0 Tryz.prog 93 XT:=au av ba Tryz.func93
noncomputable def ce(x:Ty.T af9):Option (Ty.T bM):=
match nU (x.1,())with
|none=>none
|some v1=>
match(!v1.1)with
|true=>
 some ((0:Int),(2:Int),())
|false=>
 match nT (x.2.1,())with
 |none=>none
 |some v2=>
 match(!v2.1)with
 |true=>
  some ((0:Int),(2:Int),())
 |false=>
  match x.2.2.1 with
  |true=>
   if x.2.1<0 then none else
   some ((bits BinOp.or .i64 x.1 (IntKind.i64.wrap ((1:Int)*2^min x.2.1.toNat IntKind.i64.bits))),(0:Int),())
  |false=>
   match JD (x.1,x.2.1,())with
   |none=>none
   |some v3=>
   some (v3.1,(0:Int),())
noncomputable def TZ:ai:=⟨_,bM,.unit,rfl,ce⟩
theorem RT:FnOK G0 Tryz.prog 53 TZ:=au av (sg wY (sg vy (sg V2 (ba)))) Tryz.func53
noncomputable def i6(x:Ty.T aej):Option (Ty.T aek):=
match gU ((x.1.1,x.1.2.1,x.1.2.2.1,x.1.2.2.2.1,x.1.2.2.2.2.1,()),())with
|none=>none
|some v1=>
match(!v1.1)with
|true=>
 some (((0:Int),(0:Int),(0:Int),(0:Int),(0:Int),()),(1:Int),())
|false=>
 match bU (x.2.1,(0:Int),(65535:Int),())with
 |none=>none
 |some v2=>
 match(!v2.1)with
 |true=>
  some (((0:Int),(0:Int),(0:Int),(0:Int),(0:Int),()),(2:Int),())
 |false=>
  match bU (x.2.2.1,(1:Int),(256:Int),())with
  |none=>none
  |some v3=>
  match(!v3.1)with
  |true=>
   some (((0:Int),(0:Int),(0:Int),(0:Int),(0:Int),()),(2:Int),())
  |false=>
   match bU (x.2.2.2.1,(1:Int),(16:Int),())with
   |none=>none
   |some v4=>
   match(!v4.1)with
   |true=>
    some (((0:Int),(0:Int),(0:Int),(0:Int),(0:Int),()),(2:Int),())
   |false=>
    match(decide (x.1.2.2.2.1≥x.2.2.1))with
    |true=>
     some (((0:Int),(0:Int),(0:Int),(0:Int),(0:Int),()),(2:Int),())
    |false=>
     match(decide (x.1.2.2.1≥x.2.2.2.1))with
     |true=>
      some (((0:Int),(0:Int),(0:Int),(0:Int),(0:Int),()),(2:Int),())
     |false=>
      match((IntKind.i64.wrap (x.1.2.2.2.1+(1:Int)))==x.2.2.1)with
      |true=>
       if x.2.2.2.1=0 then none else
       some (((Int.tmod (IntKind.i64.wrap (x.1.1+x.2.1)) (65536:Int)),x.1.2.1,(Int.tmod (IntKind.i64.wrap (x.1.2.2.1+(1:Int))) x.2.2.2.1),(0:Int),x.1.2.2.2.2.1,()),(0:Int),())
      |false=>
       some (((Int.tmod (IntKind.i64.wrap (x.1.1+x.2.1)) (65536:Int)),x.1.2.1,x.1.2.2.1,(IntKind.i64.wrap (x.1.2.2.2.1+(1:Int))),x.1.2.2.2.2.1,()),(0:Int),())
noncomputable def Nx:ai:=⟨_,aek,.unit,rfl,i6⟩
theorem Lo:FnOK G0 Tryz.prog 94 Nx:=au av (sg dl (sg tW (ba))) Tryz.func94
noncomputable def bX(x:Ty.T wM):Option (Ty.T xt):=
ac (aI x.1.2.2.1 x.2.1.2.1) fun v1=>
aD (
 match aN ((x.1.1,x.1.2.1,x.1.2.2.1,x.1.2.2.2.1,()),(x.2.1.1,x.2.1.2.1,x.2.1.2.2.1,x.2.1.2.2.2.1,x.2.1.2.2.2.2.1,()),())with
 |none=>none
 |some v2=>
 be (
  match i6 ((x.2.1.1,x.2.1.2.1,x.2.1.2.2.1,x.2.1.2.2.2.1,x.2.1.2.2.2.2.1,()),v2.1.2.2.2.1,v1.2.1,v1.1,())with
  |none=>none
  |some v3=>
  some ((v3.1.1,v3.1.2.1,v3.1.2.2.1,v3.1.2.2.2.1,v3.1.2.2.2.2.1,()),()))) (
 match aN ((x.1.1,x.1.2.1,x.1.2.2.1,x.1.2.2.2.1,()),(x.2.1.1,x.2.1.2.1,x.2.1.2.2.1,x.2.1.2.2.2.1,x.2.1.2.2.2.2.1,()),())with
 |none=>none
 |some v2=>
 match i6 ((x.2.1.1,x.2.1.2.1,x.2.1.2.2.1,x.2.1.2.2.2.1,x.2.1.2.2.2.2.1,()),v2.1.2.2.2.1,v1.2.1,v1.1,())with
 |none=>none
 |some v3=>
 some ((v3.1.1,v3.1.2.1,v3.1.2.2.1,v3.1.2.2.2.1,v3.1.2.2.2.2.1,()),()))
noncomputable def T0:ai:=⟨_,xt,.unit,rfl,bX⟩
theorem RU:FnOK G0 Tryz.prog 54 T0:=au av (sg dZ (sg Lo (ba))) Tryz.func54
noncomputable def yv(x:Ty.T II):Option (Ty.T Z8):=
match Pz x with
|none=>none
|some v1=>
aD (
 match iH (v1.1,x.2.2.1.2.2.1,())with
 |none=>none
 |some v2=>
 aD (
  match iH (v1.1,x.2.2.1.2.2.2.1,())with
  |none=>none
  |some v3=>
  be (
   match lP (x.1,x.2.1,v2.1,v3.1,())with
   |none=>none
   |some v4=>
   aD (
    aD (
     be (
      match aN (x.1,x.2.1,())with
      |none=>none
      |some v5=>
      match ce (x.2.1.2.2.2.2.1,v5.1.1,(v4.1.1==(3:Int)),())with
      |none=>none
      |some v6=>
      be (
       match bX (x.1,(x.2.1.1,x.2.1.2.1,x.2.1.2.2.1,x.2.1.2.2.2.1,v6.1,()),())with
       |none=>none
       |some v7=>
       some (v4.1,v7.1,())))) (
     match aN (x.1,x.2.1,())with
     |none=>none
     |some v5=>
     match ce (x.2.1.2.2.2.2.1,v5.1.1,(v4.1.1==(3:Int)),())with
     |none=>none
     |some v6=>
     be (
      match bX (x.1,(x.2.1.1,x.2.1.2.1,x.2.1.2.2.1,x.2.1.2.2.2.1,v6.1,()),())with
      |none=>none
      |some v7=>
      some (v4.1,v7.1,())))) (
    aD (
     aD (
      be (
       match aN (x.1,x.2.1,())with
       |none=>none
       |some v5=>
       match ce (x.2.1.2.2.2.2.1,v5.1.1,(v4.1.1==(3:Int)),())with
       |none=>none
       |some v6=>
       be (
        match bX (x.1,(x.2.1.1,x.2.1.2.1,x.2.1.2.2.1,x.2.1.2.2.2.1,v6.1,()),())with
        |none=>none
        |some v7=>
        some (v4.1,v7.1,())))) (
      aD (
       match aN (x.1,x.2.1,())with
       |none=>none
       |some v5=>
       be (
        match ce (x.2.1.2.2.2.2.1,v5.1.1,(v4.1.1==(3:Int)),())with
        |none=>none
        |some v6=>
        be (
         match bX (x.1,(x.2.1.1,x.2.1.2.1,x.2.1.2.2.1,x.2.1.2.2.2.1,v6.1,()),())with
         |none=>none
         |some v7=>
         some (v4.1,v7.1,())))) (
       be (
        match aN (x.1,x.2.1,())with
        |none=>none
        |some v5=>
        match ce (x.2.1.2.2.2.2.1,v5.1.1,(v4.1.1==(3:Int)),())with
        |none=>none
        |some v6=>
        be (
         match bX (x.1,(x.2.1.1,x.2.1.2.1,x.2.1.2.2.1,x.2.1.2.2.2.1,v6.1,()),())with
         |none=>none
         |some v7=>
         some (v4.1,v7.1,())))))) (
     aD (
      match aN (x.1,x.2.1,())with
      |none=>none
      |some v5=>
      match ce (x.2.1.2.2.2.2.1,v5.1.1,(v4.1.1==(3:Int)),())with
      |none=>none
      |some v6=>
      be (
       match bX (x.1,(x.2.1.1,x.2.1.2.1,x.2.1.2.2.1,x.2.1.2.2.2.1,v6.1,()),())with
       |none=>none
       |some v7=>
       some (v4.1,v7.1,()))) (
      be (
       match aN (x.1,x.2.1,())with
       |none=>none
       |some v5=>
       match ce (x.2.1.2.2.2.2.1,v5.1.1,(v4.1.1==(3:Int)),())with
       |none=>none
       |some v6=>
       be (
        match bX (x.1,(x.2.1.1,x.2.1.2.1,x.2.1.2.2.1,x.2.1.2.2.2.1,v6.1,()),())with
        |none=>none
        |some v7=>
        some (v4.1,v7.1,())))))))) (
  match iH (v1.1,x.2.2.1.2.2.2.1,())with
  |none=>none
  |some v3=>
  match lP (x.1,x.2.1,v2.1,v3.1,())with
  |none=>none
  |some v4=>
  aD (
   aD (
    be (
     match aN (x.1,x.2.1,())with
     |none=>none
     |some v5=>
     match ce (x.2.1.2.2.2.2.1,v5.1.1,(v4.1.1==(3:Int)),())with
     |none=>none
     |some v6=>
     be (
      match bX (x.1,(x.2.1.1,x.2.1.2.1,x.2.1.2.2.1,x.2.1.2.2.2.1,v6.1,()),())with
      |none=>none
      |some v7=>
      some (v4.1,v7.1,())))) (
    match aN (x.1,x.2.1,())with
    |none=>none
    |some v5=>
    match ce (x.2.1.2.2.2.2.1,v5.1.1,(v4.1.1==(3:Int)),())with
    |none=>none
    |some v6=>
    be (
     match bX (x.1,(x.2.1.1,x.2.1.2.1,x.2.1.2.2.1,x.2.1.2.2.2.1,v6.1,()),())with
     |none=>none
     |some v7=>
     some (v4.1,v7.1,())))) (
   aD (
    aD (
     be (
      match aN (x.1,x.2.1,())with
      |none=>none
      |some v5=>
      match ce (x.2.1.2.2.2.2.1,v5.1.1,(v4.1.1==(3:Int)),())with
      |none=>none
      |some v6=>
      be (
       match bX (x.1,(x.2.1.1,x.2.1.2.1,x.2.1.2.2.1,x.2.1.2.2.2.1,v6.1,()),())with
       |none=>none
       |some v7=>
       some (v4.1,v7.1,())))) (
     aD (
      match aN (x.1,x.2.1,())with
      |none=>none
      |some v5=>
      be (
       match ce (x.2.1.2.2.2.2.1,v5.1.1,(v4.1.1==(3:Int)),())with
       |none=>none
       |some v6=>
       be (
        match bX (x.1,(x.2.1.1,x.2.1.2.1,x.2.1.2.2.1,x.2.1.2.2.2.1,v6.1,()),())with
        |none=>none
        |some v7=>
        some (v4.1,v7.1,())))) (
      be (
       match aN (x.1,x.2.1,())with
       |none=>none
       |some v5=>
       match ce (x.2.1.2.2.2.2.1,v5.1.1,(v4.1.1==(3:Int)),())with
       |none=>none
       |some v6=>
       be (
        match bX (x.1,(x.2.1.1,x.2.1.2.1,x.2.1.2.2.1,x.2.1.2.2.2.1,v6.1,()),())with
        |none=>none
        |some v7=>
        some (v4.1,v7.1,())))))) (
    aD (
     match aN (x.1,x.2.1,())with
     |none=>none
     |some v5=>
     match ce (x.2.1.2.2.2.2.1,v5.1.1,(v4.1.1==(3:Int)),())with
     |none=>none
     |some v6=>
     be (
      match bX (x.1,(x.2.1.1,x.2.1.2.1,x.2.1.2.2.1,x.2.1.2.2.2.1,v6.1,()),())with
      |none=>none
      |some v7=>
      some (v4.1,v7.1,()))) (
     be (
      match aN (x.1,x.2.1,())with
      |none=>none
      |some v5=>
      match ce (x.2.1.2.2.2.2.1,v5.1.1,(v4.1.1==(3:Int)),())with
      |none=>none
      |some v6=>
      be (
       match bX (x.1,(x.2.1.1,x.2.1.2.1,x.2.1.2.2.1,x.2.1.2.2.2.1,v6.1,()),())with
       |none=>none
       |some v7=>
       some (v4.1,v7.1,())))))))) (
 match iH (v1.1,x.2.2.1.2.2.1,())with
 |none=>none
 |some v2=>
 match iH (v1.1,x.2.2.1.2.2.2.1,())with
 |none=>none
 |some v3=>
 match lP (x.1,x.2.1,v2.1,v3.1,())with
 |none=>none
 |some v4=>
 aD (
  aD (
   be (
    match aN (x.1,x.2.1,())with
    |none=>none
    |some v5=>
    match ce (x.2.1.2.2.2.2.1,v5.1.1,(v4.1.1==(3:Int)),())with
    |none=>none
    |some v6=>
    be (
     match bX (x.1,(x.2.1.1,x.2.1.2.1,x.2.1.2.2.1,x.2.1.2.2.2.1,v6.1,()),())with
     |none=>none
     |some v7=>
     some (v4.1,v7.1,())))) (
   match aN (x.1,x.2.1,())with
   |none=>none
   |some v5=>
   match ce (x.2.1.2.2.2.2.1,v5.1.1,(v4.1.1==(3:Int)),())with
   |none=>none
   |some v6=>
   be (
    match bX (x.1,(x.2.1.1,x.2.1.2.1,x.2.1.2.2.1,x.2.1.2.2.2.1,v6.1,()),())with
    |none=>none
    |some v7=>
    some (v4.1,v7.1,())))) (
  aD (
   aD (
    be (
     match aN (x.1,x.2.1,())with
     |none=>none
     |some v5=>
     match ce (x.2.1.2.2.2.2.1,v5.1.1,(v4.1.1==(3:Int)),())with
     |none=>none
     |some v6=>
     be (
      match bX (x.1,(x.2.1.1,x.2.1.2.1,x.2.1.2.2.1,x.2.1.2.2.2.1,v6.1,()),())with
      |none=>none
      |some v7=>
      some (v4.1,v7.1,())))) (
    aD (
     match aN (x.1,x.2.1,())with
     |none=>none
     |some v5=>
     be (
      match ce (x.2.1.2.2.2.2.1,v5.1.1,(v4.1.1==(3:Int)),())with
      |none=>none
      |some v6=>
      be (
       match bX (x.1,(x.2.1.1,x.2.1.2.1,x.2.1.2.2.1,x.2.1.2.2.2.1,v6.1,()),())with
       |none=>none
       |some v7=>
       some (v4.1,v7.1,())))) (
     be (
      match aN (x.1,x.2.1,())with
      |none=>none
      |some v5=>
      match ce (x.2.1.2.2.2.2.1,v5.1.1,(v4.1.1==(3:Int)),())with
      |none=>none
      |some v6=>
      be (
       match bX (x.1,(x.2.1.1,x.2.1.2.1,x.2.1.2.2.1,x.2.1.2.2.2.1,v6.1,()),())with
       |none=>none
       |some v7=>
       some (v4.1,v7.1,())))))) (
   aD (
    match aN (x.1,x.2.1,())with
    |none=>none
    |some v5=>
    match ce (x.2.1.2.2.2.2.1,v5.1.1,(v4.1.1==(3:Int)),())with
    |none=>none
    |some v6=>
    be (
     match bX (x.1,(x.2.1.1,x.2.1.2.1,x.2.1.2.2.1,x.2.1.2.2.2.1,v6.1,()),())with
     |none=>none
     |some v7=>
     some (v4.1,v7.1,()))) (
    be (
     match aN (x.1,x.2.1,())with
     |none=>none
     |some v5=>
     match ce (x.2.1.2.2.2.2.1,v5.1.1,(v4.1.1==(3:Int)),())with
     |none=>none
     |some v6=>
     be (
      match bX (x.1,(x.2.1.1,x.2.1.2.1,x.2.1.2.2.1,x.2.1.2.2.2.1,v6.1,()),())with
      |none=>none
      |some v7=>
      some (v4.1,v7.1,())))))))
noncomputable def V3:ai:=⟨_,Z8,.unit,rfl,yv⟩
theorem T1:FnOK G0 Tryz.prog 23 V3:=au av (sg dZ (sg abC (sg Ns (sg Nw (sg RT (sg RU (ba))))))) Tryz.func23
noncomputable def gE(x:Ty.T II):Option (Ty.T Vu):=
match vA (x.1,x.2.1,[x.2.2.1],())with
|none=>none
|some v1=>
match(v1.1 != (0:Int))with
|true=>
 some (((0:Int),((0:Int),(0:Int),((0:Int),(0:Int),(0:Int),(0:Int),(0:Int),()),[],()),()),((0:Int),(0:Int),(0:Int),(0:Int),(0:Int),()),v1.1,())
|false=>
 match yv x with
 |none=>none
 |some v2=>
 some (v2.1,v2.2.1,(0:Int),())
noncomputable def JE:ai:=⟨_,Vu,.unit,rfl,gE⟩
theorem T2:FnOK G0 Tryz.prog 6 JE:=au av (sg RE (sg T1 (ba))) Tryz.func6
abbrev uY:Ty:=(.pair (.list bk) (.pair (.int .i64) .unit))
noncomputable def i7(x:(Ty.T uY)):Option ((Ty.T uY) ⊕ ((Ty.T ZX) ⊕ (Ty.T aE))):=
match(decide (x.2.1<(x.1.length:Int)))with
|true=>
 ac (aI x.1 x.2.1) fun v1=>
 match pt (v1,())with
 |none=>none
 |some v2=>
 match(!v2.1)with
 |true=>
  some (.inr (.inr (false,())))
 |false=>
  some (.inl (x.1,(IntKind.i64.wrap (x.2.1+(1:Int))),()))
|false=>
 some (.inr (.inl (x.1,())))
noncomputable def uc(x:Ty.T ZX):Option (Ty.T aE):=
match ak i7 (x.1,(0:Int),())with
|none=>none
|some (.inl v3)=>
 some ((decide ((v3.1.length:Int)≤(30:Int))),())
|some (.inr v4)=>
 some (v4.1,())
noncomputable def V4:ai:=⟨_,aE,.unit,rfl,uc⟩
noncomputable def G9:FuncId→Option ai:=ca [(66,BQ)]
theorem PP:∀f s,G9 f=some s→FnOK G0 Tryz.prog f s:=aX ⟨I9,trivial⟩
def D6:bg:=⟨[0,3],uY,0,[0],ZX,[2],aE⟩
noncomputable def Ha:List aM:=[D6.spec i7]
theorem Ny:bJ bL E0 G9 (bF Tryz.f29 Ha) Tryz.f29 0 D6 i7:=fun x=>by kernel_rfl
theorem T3:FnOK G0 Tryz.prog 29 V4:=bb av PP Tryz.func29 Ha (by kernel_rfl) (by exact⟨(Ny).lok,trivial⟩) fun x=>by kernel_rfl
noncomputable def uZ(x:Ty.T ZV):Option (Ty.T aE):=
match cg (x.1.1,(0:Int),(255:Int),())with
|none=>none
|some v1=>
match v1.1 with
|true=>
 match cg (x.1.2.1,(0:Int),(7:Int),())with
 |none=>none
 |some v2=>
 match v2.1 with
 |true=>
  match uc (x.1.2.2.1,())with
  |none=>none
  |some v3=>
  match v3.1 with
  |true=>
   match uc (x.1.2.2.2.1,())with
   |none=>none
   |some v4=>
   some (v4.1,())
  |false=>
   some (false,())
 |false=>
  some (false,())
|false=>
 some (false,())
noncomputable def FR:ai:=⟨_,aE,.unit,rfl,uZ⟩
theorem Ma:FnOK G0 Tryz.prog 10 FR:=au av (sg dr (sg T3 (ba))) Tryz.func10
noncomputable def nG(x:Ty.T xt):Option (Ty.T aE):=
match cg (x.1.1,(0:Int),(65535:Int),())with
|none=>none
|some v1=>
match v1.1 with
|true=>
 match cg (x.1.2.1,(0:Int),(15:Int),())with
 |none=>none
 |some v2=>
 match v2.1 with
 |true=>
  match cg (x.1.2.2.1,(0:Int),(15:Int),())with
  |none=>none
  |some v3=>
  match v3.1 with
  |true=>
   match cg (x.1.2.2.2.1,(0:Int),(255:Int),())with
   |none=>none
   |some v4=>
   match v4.1 with
   |true=>
    match cg (x.1.2.2.2.2.1,(0:Int),(4294967295:Int),())with
    |none=>none
    |some v5=>
    some (v5.1,())
   |false=>
    some (false,())
  |false=>
   some (false,())
 |false=>
  some (false,())
|false=>
 some (false,())
noncomputable def XU:ai:=⟨_,aE,.unit,rfl,nG⟩
theorem JF:FnOK G0 Tryz.prog 159 XU:=au av (sg dr (ba)) Tryz.func159
noncomputable def JG(x:Ty.T af5):Option (Ty.T aE):=
match cg (x.2.1,(0:Int),(IntKind.i64.wrap ((x.1.length:Int)-(1:Int))),())with
|none=>none
|some v1=>
some (v1.1,())
noncomputable def XV:ai:=⟨_,aE,.unit,rfl,JG⟩
theorem V5:FnOK G0 Tryz.prog 160 XV:=au av (sg dr (ba)) Tryz.func160
noncomputable def pO(x:Ty.T wM):Option (Ty.T aE):=
match nG ((x.2.1.1,x.2.1.2.1,x.2.1.2.2.1,x.2.1.2.2.2.1,x.2.1.2.2.2.2.1,()),())with
|none=>none
|some v1=>
match(!v1.1)with
|true=>
 some (false,())
|false=>
 match JG (x.1.2.2.1,x.2.1.2.1,())with
 |none=>none
 |some v2=>
 match(!v2.1)with
 |true=>
  some (false,())
 |false=>
  ac (aI x.1.2.2.1 x.2.1.2.1) fun v3=>
  match(decide (x.2.1.2.2.1≥v3.1))with
  |true=>
   some (false,())
  |false=>
   ac (aI x.1.2.2.1 x.2.1.2.1) fun v4=>
   match(decide (x.2.1.2.2.2.1≥v4.2.1))with
   |true=>
    some (false,())
   |false=>
    match du (x.1.2.1,())with
    |none=>none
    |some v5=>
    some (((bits BinOp.and .i64 x.2.1.2.2.2.2.1 v5.1)==x.2.1.2.2.2.2.1),())
noncomputable def RV:ai:=⟨_,aE,.unit,rfl,pO⟩
theorem PQ:FnOK G0 Tryz.prog 95 RV:=au av (sg m4 (sg JF (sg V5 (ba)))) Tryz.func95
noncomputable def Bh(x:Ty.T wM):Option (Ty.T aV):=
match pr ((x.1.1,x.1.2.1,x.1.2.2.1,x.1.2.2.2.1,()),())with
|none=>none
|some v1=>
match(!v1.1)with
|true=>
 some ((1:Int),())
|false=>
 match pO ((x.1.1,x.1.2.1,x.1.2.2.1,x.1.2.2.2.1,()),(x.2.1.1,x.2.1.2.1,x.2.1.2.2.1,x.2.1.2.2.2.1,x.2.1.2.2.2.2.1,()),())with
 |none=>none
 |some v2=>
 match(!v2.1)with
 |true=>
  some ((2:Int),())
 |false=>
  some ((0:Int),())
noncomputable def Mb:ai:=⟨_,aV,.unit,rfl,Bh⟩
theorem V6:FnOK G0 Tryz.prog 55 Mb:=au av (sg LV (sg PQ (ba))) Tryz.func55
noncomputable def cX(x:(Ty.T ac5)):Option ((Ty.T ac5) ⊕ ((Ty.T aV) ⊕ (Ty.T .unit))):=
match(decide (x.2.2.1<(x.1.length:Int)))with
|true=>
 match(x.2.1==(0:Int))with
 |true=>
  ac (aI x.1 x.2.2.1) fun v2=>
  match uZ (v2,())with
  |none=>none
  |some v3=>
  match(!v3.1)with
  |true=>
   some (.inl (x.1,(5:Int),(IntKind.i64.wrap (x.2.2.1+(1:Int))),()))
  |false=>
   some (.inl (x.1,x.2.1,(IntKind.i64.wrap (x.2.2.1+(1:Int))),()))
 |false=>
  some (.inr (.inl (x.2.1,())))
|false=>
 some (.inr (.inl (x.2.1,())))
noncomputable def Bi(x:Ty.T af8):Option (Ty.T aV):=
match Bh (x.1,x.2.1,())with
|none=>none
|some v1=>
match(v1.1==(0:Int))with
|true=>
 match(decide ((x.2.2.1.length:Int)>(40:Int)))with
 |true=>
  match ak cX (x.2.2.1,(3:Int),(0:Int),())with
  |none=>none
  |some (.inl v4)=>
   some (v4.1,())
  |some (.inr v6)=>
   none
 |false=>
  match ak cX (x.2.2.1,v1.1,(0:Int),())with
  |none=>none
  |some (.inl v7)=>
   some (v7.1,())
  |some (.inr v9)=>
   none
|false=>
 match ak cX (x.2.2.1,v1.1,(0:Int),())with
 |none=>none
 |some (.inl v10)=>
  some (v10.1,())
 |some (.inr v12)=>
  none
noncomputable def XW:ai:=⟨_,aV,.unit,rfl,Bi⟩
noncomputable def JH:FuncId→Option ai:=ca [(10,FR),(55,Mb)]
theorem RX:∀f s,JH f=some s→FnOK G0 Tryz.prog f s:=aX ⟨Ma,V6,trivial⟩
def Hb:bg:=⟨[2,7,8],ac5,0,[7],aV,[],.unit⟩
noncomputable def JI:List aM:=[Hb.spec cX]
theorem PR:bJ bL E0 JH (bF Tryz.f24 JI) Tryz.f24 0 Hb cX:=fun x=>by kernel_rfl
theorem V7:FnOK G0 Tryz.prog 24 XW:=bb av RX Tryz.func24 JI (by kernel_rfl) (by exact⟨(PR).lok,trivial⟩) fun x=>by kernel_rfl
noncomputable def dJ(x:Ty.T wM):Option (Ty.T IH):=
match vV (x.1.2.2.2.1,x.2.1.2.1,x.2.1.2.2.1,x.2.1.2.2.2.1,())with
|none=>none
|some v1=>
ac (aI x.1.2.2.2.1 v1.1) fun v2=>
some ((v2.2.2.2.1.1,v2.2.2.2.1.2.1,v2.2.2.2.1.2.2.1,v2.2.2.2.1.2.2.2.1,v2.2.2.2.1.2.2.2.2.1,()),())
noncomputable def Mc:ai:=⟨_,IH,.unit,rfl,dJ⟩
theorem li:FnOK G0 Tryz.prog 61 Mc:=au av (sg I4 (ba)) Tryz.func61
abbrev u6:Ty:=age
noncomputable def kQ(x:(Ty.T u6)):Option ((Ty.T u6) ⊕ ((Ty.T bu) ⊕ (Ty.T .unit))):=
match(decide (x.1>(0:Int)))with
|true=>
 bd (x.2.2.1.length+ [x.2.1].length) (
  some (.inl ((IntKind.i64.wrap (x.1-(1:Int))),x.2.1,(x.2.2.1++ [x.2.1]),())))
|false=>
 some (.inr (.inl (x.2.2.1,())))
noncomputable def fI(x:Ty.T bM):Option (Ty.T bu):=
match ak kQ (x.1,x.2.1,[],())with
|none=>none
|some (.inl v1)=>
 some (v1.1,())
|some (.inr v3)=>
 none
noncomputable def zV:ai:=⟨_,bu,.unit,rfl,fI⟩
noncomputable def Hd:FuncId→Option ai:=ca []
theorem PS:∀f s,Hd f=some s→FnOK G0 Tryz.prog f s:=aX trivial
def D7:bg:=⟨[0,1,5],u6,0,[5],bu,[],.unit⟩
noncomputable def He:List aM:=[D7.spec kQ]
theorem Nz:bJ bL E0 Hd (bF Tryz.f100 He) Tryz.f100 0 D7 kQ:=fun x=>by kernel_rfl
theorem ow:FnOK G0 Tryz.prog 100 zV:=bb av PS Tryz.func100 He (by kernel_rfl) (by exact⟨(Nz).lok,trivial⟩) fun x=>by kernel_rfl
noncomputable def yw(x:Ty.T afR):Option (Ty.T Z4):=
match dJ (x.1,x.2.1,())with
|none=>none
|some v1=>
be (
 match fI (v1.1.2.2.1,x.2.2.1,())with
 |none=>none
 |some v2=>
 match fD (v1.1.2.1,())with
 |none=>none
 |some v3=>
 match v3.1 with
 |true=>
  some ((v1.1.2.1,x.2.2.2.1,x.2.1,v2.1,()),())
 |false=>
  some ((v1.1.2.1,x.2.2.2.1,((0:Int),(0:Int),(0:Int),(0:Int),(0:Int),()),v2.1,()),()))
noncomputable def JJ:ai:=⟨_,Z4,.unit,rfl,yw⟩
theorem T4:FnOK G0 Tryz.prog 96 JJ:=au av (sg li (sg ow (sg lJ (ba)))) Tryz.func96
noncomputable def fv(x:(Ty.T vP)):Option ((Ty.T vP) ⊕ ((Ty.T .unit) ⊕ (Ty.T aE))):=
match(decide (x.2.2.1<(x.1.length:Int)))with
|true=>
 ac (aI x.1 x.2.2.1) fun v1=>
 match cg (v1,(0:Int),x.2.1,())with
 |none=>none
 |some v2=>
 match(!v2.1)with
 |true=>
  some (.inr (.inr (false,())))
 |false=>
  some (.inl (x.1,x.2.1,(IntKind.i64.wrap (x.2.2.1+(1:Int))),()))
|false=>
 some (.inr (.inl (())))
noncomputable def u7(x:Ty.T vP):Option (Ty.T aE):=
match(decide ((x.1.length:Int)>x.2.1))with
|true=>
 some (false,())
|false=>
 match ak fv (x.1,x.2.2.1,(0:Int),())with
 |none=>none
 |some (.inl v3)=>
  some (true,())
 |some (.inr v4)=>
  some (v4.1,())
noncomputable def aak:ai:=⟨_,aE,.unit,rfl,u7⟩
noncomputable def Md:FuncId→Option ai:=ca [(28,pi)]
theorem T5:∀f s,Md f=some s→FnOK G0 Tryz.prog f s:=aX ⟨dr,trivial⟩
def JK:bg:=⟨[0,2,7],vP,0,[],.unit,[6],aE⟩
noncomputable def Me:List aM:=[JK.spec fv]
theorem RY:bJ bL E0 Md (bF Tryz.f210 Me) Tryz.f210 0 JK fv:=fun x=>by kernel_rfl
theorem Mf:FnOK G0 Tryz.prog 210 aak:=bb av T5 Tryz.func210 Me (by kernel_rfl) (by exact⟨(RY).lok,trivial⟩) fun x=>by kernel_rfl
noncomputable def ww(x:Ty.T fg):Option (Ty.T aE):=
match u7 (x.1,(1024:Int),(255:Int),())with
|none=>none
|some v1=>
some (v1.1,())
noncomputable def XX:ai:=⟨_,aE,.unit,rfl,ww⟩
theorem V8:FnOK G0 Tryz.prog 233 XX:=au av (sg Mf (ba)) Tryz.func233
noncomputable def dt(x:Ty.T ZW):Option (Ty.T aE):=
match vS (x.1.1,())with
|none=>none
|some v1=>
match(!v1.1)with
|true=>
 some (false,())
|false=>
 match cg (x.1.2.1,(0:Int),(7:Int),())with
 |none=>none
 |some v2=>
 match(!v2.1)with
 |true=>
  some (false,())
 |false=>
  match vT (x.1.1,(x.1.2.2.2.1.length:Int),())with
  |none=>none
  |some v3=>
  match(!v3.1)with
  |true=>
   some (false,())
  |false=>
   match ww (x.1.2.2.2.1,())with
   |none=>none
   |some v4=>
   match(!v4.1)with
   |true=>
    some (false,())
   |false=>
    match(x.1.1==(0:Int))with
    |true=>
     some ((et ao (x.1.2.2.1.1,x.1.2.2.1.2.1,x.1.2.2.1.2.2.1,x.1.2.2.1.2.2.2.1,x.1.2.2.1.2.2.2.2.1,()) ((0:Int),(0:Int),(0:Int),(0:Int),(0:Int),())),())
    |false=>
     match(x.1.1==(3:Int))with
     |true=>
      match kK (x.1.2.2.1.2.2.2.2.1,())with
      |none=>none
      |some v5=>
      match nG ((x.1.2.2.1.1,x.1.2.2.1.2.1,x.1.2.2.1.2.2.1,x.1.2.2.1.2.2.2.1,x.1.2.2.1.2.2.2.2.1,()),())with
      |none=>none
      |some v6=>
      match v6.1 with
      |true=>
       match(x.1.2.2.1.2.1==(0:Int))with
       |true=>
        match((v5.1.length:Int)==(1:Int))with
        |true=>
         some ((x.1.2.1==(0:Int)),())
        |false=>
         some (false,())
       |false=>
        some (false,())
      |false=>
       some (false,())
     |false=>
      match nG ((x.1.2.2.1.1,x.1.2.2.1.2.1,x.1.2.2.1.2.2.1,x.1.2.2.1.2.2.2.1,x.1.2.2.1.2.2.2.2.1,()),())with
      |none=>none
      |some v7=>
      some (v7.1,())
noncomputable def XY:ai:=⟨_,aE,.unit,rfl,dt⟩
theorem JL:FnOK G0 Tryz.prog 206 XY:=au av (sg dr (sg Dn (sg JF (sg IZ (sg I0 (sg V8 (ba))))))) Tryz.func206
noncomputable def em(x:Ty.T adb):Option (Ty.T aE):=
match fF ((x.1.1,x.1.2.1,x.1.2.2.1,x.1.2.2.2.1,x.1.2.2.2.2.1,()),())with
|none=>none
|some v1=>
match v1.1 with
|true=>
 match dt ((x.2.1.1,x.2.1.2.1,(x.2.1.2.2.1.1,x.2.1.2.2.1.2.1,x.2.1.2.2.1.2.2.1,x.2.1.2.2.1.2.2.2.1,x.2.1.2.2.1.2.2.2.2.1,()),x.2.1.2.2.2.1,()),())with
 |none=>none
 |some v2=>
 match v2.1 with
 |true=>
  match(x.2.1.1==x.1.2.1)with
  |true=>
   match((x.2.1.2.2.2.1.length:Int)==x.1.2.2.1)with
   |true=>
    match x.1.2.2.2.2.1 with
    |true=>
     some (true,())
    |false=>
     some ((x.2.1.2.1==(0:Int)),())
   |false=>
    some (false,())
  |false=>
   some (false,())
 |false=>
  some (false,())
|false=>
 some (false,())
noncomputable def JM:ai:=⟨_,aE,.unit,rfl,em⟩
theorem uC:FnOK G0 Tryz.prog 162 JM:=au av (sg xD (sg JL (ba))) Tryz.func162
noncomputable def oz(x:Ty.T Rd):Option (Ty.T aE):=
match dJ ((x.1.1,x.1.2.1,x.1.2.2.1,x.1.2.2.2.1,()),(x.2.1.1,x.2.1.2.1,x.2.1.2.2.1,x.2.1.2.2.2.1,x.2.1.2.2.2.2.1,()),())with
|none=>none
|some v1=>
match em (v1.1,(x.2.2.1.1,x.2.2.1.2.1,(x.2.2.1.2.2.1.1,x.2.2.1.2.2.1.2.1,x.2.2.1.2.2.1.2.2.1,x.2.2.1.2.2.1.2.2.2.1,x.2.2.1.2.2.1.2.2.2.2.1,()),x.2.2.1.2.2.2.1,()),())with
|none=>none
|some v2=>
match v2.1 with
|true=>
 match fD (x.2.2.1.1,())with
 |none=>none
 |some v3=>
 match(!v3.1)with
 |true=>
  some (true,())
 |false=>
  some ((et ao (x.2.2.1.2.2.1.1,x.2.2.1.2.2.1.2.1,x.2.2.1.2.2.1.2.2.1,x.2.2.1.2.2.1.2.2.2.1,x.2.2.1.2.2.1.2.2.2.2.1,()) (x.2.1.1,x.2.1.2.1,x.2.1.2.2.1,x.2.1.2.2.2.1,x.2.1.2.2.2.2.1,())),())
|false=>
 some (false,())
noncomputable def Bj:ai:=⟨_,aE,.unit,rfl,oz⟩
theorem NA:FnOK G0 Tryz.prog 97 Bj:=au av (sg li (sg lJ (sg uC (ba)))) Tryz.func97
abbrev si:Ty:=aet
abbrev zW:Ty:=adm
noncomputable def gN(x:(Ty.T si)):Option ((Ty.T si) ⊕ ((Ty.T zW) ⊕ (Ty.T .unit))):=
ac (aI x.2.1 x.2.2.2.1) fun v1=>
match(decide (x.2.2.2.2.1<v1))with
|true=>
 ac (aI x.1 x.2.2.2.1) fun v2=>
 bd (x.2.2.1.length+ [v2].length) (
  some (.inl (x.1,x.2.1,(x.2.2.1++ [v2]),x.2.2.2.1,(IntKind.i64.wrap (x.2.2.2.2.1+(1:Int))),())))
|false=>
 some (.inr (.inl (x.1,x.2.1,x.2.2.1,x.2.2.2.1,())))
abbrev sj:Ty:=adm
noncomputable def gO(x:(Ty.T sj)):Option ((Ty.T sj) ⊕ ((Ty.T bu) ⊕ (Ty.T .unit))):=
match(decide (x.2.2.2.1<(x.1.length:Int)))with
|true=>
 match ak gN (x.1,x.2.1,x.2.2.1,x.2.2.2.1,(0:Int),())with
 |none=>none
 |some (.inl v1)=>
  some (.inl (v1.1,v1.2.1,v1.2.2.1,(IntKind.i64.wrap (v1.2.2.2.1+(1:Int))),()))
 |some (.inr v3)=>
  some (.inr (.inr (())))
|false=>
 some (.inr (.inl (x.2.2.1,())))
noncomputable def zX(x:Ty.T Vq):Option (Ty.T bu):=
match ak gO (x.1,x.2.1,[],(0:Int),())with
|none=>none
|some (.inl v4)=>
 some (v4.1,())
|some (.inr v6)=>
 none
noncomputable def RZ:ai:=⟨_,bu,.unit,rfl,zX⟩
noncomputable def ud:FuncId→Option ai:=ca []
theorem Lp:∀f s,ud f=some s→FnOK G0 Tryz.prog f s:=aX trivial
def zY:bg:=⟨[0,1,5,6],sj,0,[5],bu,[],.unit⟩
def zZ:bg:=⟨[0,1,5,6,7],si,2,[0,1,5,6],zW,[],.unit⟩
noncomputable def ue:List aM:=[zY.spec gO,zZ.spec gN]
theorem JN:bJ bL E0 ud (bF Tryz.f163 ue) Tryz.f163 0 zY gO:=fun x=>by kernel_rfl
theorem JO:bJ bL E0 ud (bF Tryz.f163 ue) Tryz.f163 1 zZ gN:=fun x=>by kernel_rfl
theorem PT:FnOK G0 Tryz.prog 163 RZ:=bb av Lp Tryz.func163 ue (by kernel_rfl) (by exact⟨(JN).lok,(JO).lok,trivial⟩) fun x=>by kernel_rfl
noncomputable def pP(x:Ty.T fg):Option (Ty.T bu):=
match fI ((x.1.length:Int),(8:Int),())with
|none=>none
|some v1=>
match zX (x.1,v1.1,())with
|none=>none
|some v2=>
some (v2.1,())
noncomputable def D8:ai:=⟨_,bu,.unit,rfl,pP⟩
theorem PU:FnOK G0 Tryz.prog 98 D8:=au av (sg ow (sg PT (ba))) Tryz.func98
abbrev xf:Ty:=agb
abbrev Hf:Ty:=Vs
noncomputable def kq(x:(Ty.T xf)):Option ((Ty.T xf) ⊕ ((Ty.T Hf) ⊕ (Ty.T .unit))):=
match(decide (x.2.2.2.1≥(0:Int)))with
|true=>
 ac (aI x.1 x.2.2.1) fun v1=>
 if(IntKind.u64.wrap x.2.2.2.1)<0 then none else
 bd (x.2.1.length+ [(bits BinOp.and .i64 (Int.fdiv v1 (2^min (IntKind.u64.wrap x.2.2.2.1).toNat IntKind.i64.bits)) (1:Int))].length) (
  some (.inl (x.1,(x.2.1++ [(bits BinOp.and .i64 (Int.fdiv v1 (2^min (IntKind.u64.wrap x.2.2.2.1).toNat IntKind.i64.bits)) (1:Int))]),x.2.2.1,(IntKind.i64.wrap (x.2.2.2.1-(1:Int))),())))
|false=>
 some (.inr (.inl (x.1,x.2.1,x.2.2.1,())))
abbrev xg:Ty:=Vs
noncomputable def kr(x:(Ty.T xg)):Option ((Ty.T xg) ⊕ ((Ty.T bu) ⊕ (Ty.T .unit))):=
match(decide (x.2.2.1<(x.1.length:Int)))with
|true=>
 match ak kq (x.1,x.2.1,x.2.2.1,(7:Int),())with
 |none=>none
 |some (.inl v1)=>
  some (.inl (v1.1,v1.2.1,(IntKind.i64.wrap (v1.2.2.1+(1:Int))),()))
 |some (.inr v3)=>
  some (.inr (.inr (())))
|false=>
 some (.inr (.inl (x.2.1,())))
noncomputable def nH(x:Ty.T fg):Option (Ty.T bu):=
match ak kr (x.1,[],(0:Int),())with
|none=>none
|some (.inl v4)=>
 some (v4.1,())
|some (.inr v6)=>
 none
noncomputable def Mg:ai:=⟨_,bu,.unit,rfl,nH⟩
noncomputable def z6:FuncId→Option ai:=ca []
theorem R0:∀f s,z6 f=some s→FnOK G0 Tryz.prog f s:=aX trivial
def Hg:bg:=⟨[0,3,4],xg,0,[3],bu,[],.unit⟩
def Hh:bg:=⟨[0,3,4,5],xf,2,[0,3,4],Hf,[],.unit⟩
noncomputable def z7:List aM:=[Hg.spec kr,Hh.spec kq]
theorem PV:bJ bL E0 z6 (bF Tryz.f207 z7) Tryz.f207 0 Hg kr:=fun x=>by kernel_rfl
theorem PW:bJ bL E0 z6 (bF Tryz.f207 z7) Tryz.f207 1 Hh kq:=fun x=>by kernel_rfl
theorem z8:FnOK G0 Tryz.prog 207 Mg:=bb av R0 Tryz.func207 z7 (by kernel_rfl) (by exact⟨(PV).lok,(PW).lok,trivial⟩) fun x=>by kernel_rfl
abbrev u9:Ty:=Vs
noncomputable def i8(x:(Ty.T u9)):Option ((Ty.T u9) ⊕ ((Ty.T bu) ⊕ (Ty.T .unit))):=
match(decide (x.2.2.1<(x.1.length:Int)))with
|true=>
 bd (x.2.1.length+ [(1:Int),(0:Int)].length) (
  ac (aZ x.1.length (some (.dat (.int .i64) x.2.2.1)) (some (.dat (.int .i64) (IntKind.i64.wrap (x.2.2.1+(1:Int)))))) fun v1=>
  match nH ((List.drop v1.1 (List.take v1.2 x.1)),())with
  |none=>none
  |some v2=>
  bd ((x.2.1++ [(1:Int),(0:Int)]).length+v2.1.length) (
   some (.inl (x.1,((x.2.1++ [(1:Int),(0:Int)])++v2.1),(IntKind.i64.wrap (x.2.2.1+(1:Int))),()))))
|false=>
 some (.inr (.inl (x.2.1,())))
noncomputable def uf(x:Ty.T y7):Option (Ty.T bu):=
if 0≤x.2.1∧x.2.1≤x.2.1 then
 bd (x.2.1.toNat) (
  bd ((List.replicate x.2.1.toNat (0:Int)).length+ [(1:Int)].length) (
   match ak i8 (x.1,((List.replicate x.2.1.toNat (0:Int))++ [(1:Int)]),(0:Int),())with
   |none=>none
   |some (.inl v3)=>
    bd (v3.1.length+ [(0:Int),(1:Int)].length) (
     some ((v3.1++ [(0:Int),(1:Int)]),()))
   |some (.inr v5)=>
    none))
else none
noncomputable def V9:ai:=⟨_,bu,.unit,rfl,uf⟩
noncomputable def Hi:FuncId→Option ai:=ca [(207,Mg)]
theorem PX:∀f s,Hi f=some s→FnOK G0 Tryz.prog f s:=aX ⟨z8,trivial⟩
def D9:bg:=⟨[0,5,6],u9,0,[5],bu,[],.unit⟩
noncomputable def Hj:List aM:=[D9.spec i8]
theorem NB:bJ bL E0 Hi (bF Tryz.f164 Hj) Tryz.f164 0 D9 i8:=fun x=>by kernel_rfl
theorem T6:FnOK G0 Tryz.prog 164 V9:=bb av PX Tryz.func164 Hj (by kernel_rfl) (by exact⟨(NB).lok,trivial⟩) fun x=>by kernel_rfl
noncomputable def io(x:(Ty.T ac8)):Option ((Ty.T ac8) ⊕ ((Ty.T aV) ⊕ (Ty.T .unit))):=
match(decide (x.2.2.2.2.1<x.2.2.1))with
|true=>
 ac (aI x.1 (IntKind.i64.wrap (x.2.1+x.2.2.2.2.1))) fun v1=>
 some (.inl (x.1,x.2.1,x.2.2.1,(IntKind.i64.wrap ((IntKind.i64.wrap ((2:Int)*x.2.2.2.1))+v1)),(IntKind.i64.wrap (x.2.2.2.2.1+(1:Int))),()))
|false=>
 some (.inr (.inl (x.2.2.2.1,())))
noncomputable def dC(x:Ty.T vP):Option (Ty.T aV):=
match ak io (x.1,x.2.1,x.2.2.1,(0:Int),(0:Int),())with
|none=>none
|some (.inl v2)=>
 some (v2.1,())
|some (.inr v4)=>
 none
noncomputable def Hk:ai:=⟨_,aV,.unit,rfl,dC⟩
noncomputable def Ea:FuncId→Option ai:=ca []
theorem NC:∀f s,Ea f=some s→FnOK G0 Tryz.prog f s:=aX trivial
def Bk:bg:=⟨[0,1,2,7,8],ac8,0,[7],aV,[],.unit⟩
noncomputable def Eb:List aM:=[Bk.spec io]
theorem Lq:bJ bL E0 Ea (bF Tryz.f256 Eb) Tryz.f256 0 Bk io:=fun x=>by kernel_rfl
theorem Ec:FnOK G0 Tryz.prog 256 Hk:=bb av NC Tryz.func256 Eb (by kernel_rfl) (by exact⟨(Lq).lok,trivial⟩) fun x=>by kernel_rfl
abbrev va:Ty:=Vs
noncomputable def i9(x:(Ty.T va)):Option ((Ty.T va) ⊕ ((Ty.T bu) ⊕ (Ty.T .unit))):=
match(decide ((IntKind.i64.wrap (x.2.2.1+(8:Int)))≤(x.1.length:Int)))with
|true=>
 match dC (x.1,x.2.2.1,(8:Int),())with
 |none=>none
 |some v1=>
 bd (x.2.1.length+ [v1.1].length) (
  some (.inl (x.1,(x.2.1++ [v1.1]),(IntKind.i64.wrap (x.2.2.1+(8:Int))),())))
|false=>
 some (.inr (.inl (x.2.1,())))
noncomputable def yx(x:Ty.T fg):Option (Ty.T bu):=
match ak i9 (x.1,[],(0:Int),())with
|none=>none
|some (.inl v2)=>
 some (v2.1,())
|some (.inr v4)=>
 none
noncomputable def Wa:ai:=⟨_,bu,.unit,rfl,yx⟩
noncomputable def Hl:FuncId→Option ai:=ca [(256,Hk)]
theorem PY:∀f s,Hl f=some s→FnOK G0 Tryz.prog f s:=aX ⟨Ec,trivial⟩
def Ed:bg:=⟨[0,3,4],va,0,[3],bu,[],.unit⟩
noncomputable def Hm:List aM:=[Ed.spec i9]
theorem ND:bJ bL E0 Hl (bF Tryz.f234 Hm) Tryz.f234 0 Ed i9:=fun x=>by kernel_rfl
theorem T7:FnOK G0 Tryz.prog 234 Wa:=bb av PY Tryz.func234 Hm (by kernel_rfl) (by exact⟨(ND).lok,trivial⟩) fun x=>by kernel_rfl
abbrev ug:Ty:=adj
noncomputable def jR(x:(Ty.T ug)):Option ((Ty.T ug) ⊕ ((Ty.T bu) ⊕ (Ty.T .unit))):=
match(decide (x.2.2.1≥(0:Int)))with
|true=>
 if(IntKind.u64.wrap x.2.2.1)<0 then none else
 bd (x.2.1.length+ [(bits BinOp.and .i64 (Int.fdiv x.1 (2^min (IntKind.u64.wrap x.2.2.1).toNat IntKind.i64.bits)) (1:Int))].length) (
  some (.inl (x.1,(x.2.1++ [(bits BinOp.and .i64 (Int.fdiv x.1 (2^min (IntKind.u64.wrap x.2.2.1).toNat IntKind.i64.bits)) (1:Int))]),(IntKind.i64.wrap (x.2.2.1-(1:Int))),())))
|false=>
 some (.inr (.inl (x.2.1,())))
noncomputable def eG(x:Ty.T vP):Option (Ty.T bu):=
bd (([]:List (Ty.T (.int .i64))).length+x.1.length) (
 match ak jR (x.2.1,(([]:List (Ty.T (.int .i64)))++x.1),(IntKind.i64.wrap (x.2.2.1-(1:Int))),())with
 |none=>none
 |some (.inl v1)=>
  some (v1.1,())
 |some (.inr v3)=>
  none)
noncomputable def T8:ai:=⟨_,bu,.unit,rfl,eG⟩
noncomputable def Ee:FuncId→Option ai:=ca []
theorem NF:∀f s,Ee f=some s→FnOK G0 Tryz.prog f s:=aX trivial
def Bl:bg:=⟨[1,7,8],ug,0,[7],bu,[],.unit⟩
noncomputable def Ef:List aM:=[Bl.spec jR]
theorem Lr:bJ bL E0 Ee (bF Tryz.f257 Ef) Tryz.f257 0 Bl jR:=fun x=>by kernel_rfl
theorem R1:FnOK G0 Tryz.prog 257 T8:=bb av NF Tryz.func257 Ef (by kernel_rfl) (by exact⟨(Lr).lok,trivial⟩) fun x=>by kernel_rfl
noncomputable def pQ(x:Ty.T xt):Option (Ty.T bu):=
match eG ([],x.1.1,(16:Int),())with
|none=>none
|some v1=>
match eG (v1.1,x.1.2.1,(4:Int),())with
|none=>none
|some v2=>
match eG (v2.1,x.1.2.2.1,(4:Int),())with
|none=>none
|some v3=>
match eG (v3.1,x.1.2.2.2.1,(8:Int),())with
|none=>none
|some v4=>
match eG (v4.1,x.1.2.2.2.2.1,(32:Int),())with
|none=>none
|some v5=>
some (v5.1,())
noncomputable def XZ:ai:=⟨_,bu,.unit,rfl,pQ⟩
theorem JP:FnOK G0 Tryz.prog 235 XZ:=au av (sg R1 (ba)) Tryz.func235
noncomputable def cu(x:Ty.T ZW):Option (Ty.T bu):=
match fD (x.1.1,())with
|none=>none
|some v1=>
match v1.1 with
|true=>
 match pQ ((x.1.2.2.1.1,x.1.2.2.1.2.1,x.1.2.2.1.2.2.1,x.1.2.2.1.2.2.2.1,x.1.2.2.1.2.2.2.2.1,()),())with
 |none=>none
 |some v2=>
 match yx (v2.1,())with
 |none=>none
 |some v3=>
 bd ([(IntKind.i64.wrap ((IntKind.i64.wrap (x.1.1*(64:Int)))+(IntKind.i64.wrap (x.1.2.1*(8:Int)))))].length+v3.1.length) (
  match jG (x.1.1,())with
  |none=>none
  |some v4=>
  match v4.1 with
  |true=>
   bd (([(IntKind.i64.wrap ((IntKind.i64.wrap (x.1.1*(64:Int)))+(IntKind.i64.wrap (x.1.2.1*(8:Int)))))]++v3.1).length+ [(x.1.2.2.2.1.length:Int)].length) (
    bd ((([(IntKind.i64.wrap ((IntKind.i64.wrap (x.1.1*(64:Int)))+(IntKind.i64.wrap (x.1.2.1*(8:Int)))))]++v3.1)++ [(x.1.2.2.2.1.length:Int)]).length+x.1.2.2.2.1.length) (
     some (((([(IntKind.i64.wrap ((IntKind.i64.wrap (x.1.1*(64:Int)))+(IntKind.i64.wrap (x.1.2.1*(8:Int)))))]++v3.1)++ [(x.1.2.2.2.1.length:Int)])++x.1.2.2.2.1),())))
  |false=>
   some (([(IntKind.i64.wrap ((IntKind.i64.wrap (x.1.1*(64:Int)))+(IntKind.i64.wrap (x.1.2.1*(8:Int)))))]++v3.1),()))
|false=>
 match jG (x.1.1,())with
 |none=>none
 |some v5=>
 match v5.1 with
 |true=>
  bd ([(IntKind.i64.wrap ((IntKind.i64.wrap (x.1.1*(64:Int)))+(IntKind.i64.wrap (x.1.2.1*(8:Int)))))].length+ [(x.1.2.2.2.1.length:Int)].length) (
   bd (([(IntKind.i64.wrap ((IntKind.i64.wrap (x.1.1*(64:Int)))+(IntKind.i64.wrap (x.1.2.1*(8:Int)))))]++ [(x.1.2.2.2.1.length:Int)]).length+x.1.2.2.2.1.length) (
    some ((([(IntKind.i64.wrap ((IntKind.i64.wrap (x.1.1*(64:Int)))+(IntKind.i64.wrap (x.1.2.1*(8:Int)))))]++ [(x.1.2.2.2.1.length:Int)])++x.1.2.2.2.1),())))
 |false=>
  some ([(IntKind.i64.wrap ((IntKind.i64.wrap (x.1.1*(64:Int)))+(IntKind.i64.wrap (x.1.2.1*(8:Int)))))],())
noncomputable def X0:ai:=⟨_,bu,.unit,rfl,cu⟩
theorem JQ:FnOK G0 Tryz.prog 208 X0:=au av (sg lJ (sg tA (sg T7 (sg JP (ba))))) Tryz.func208
abbrev xh:Ty:=(.pair (.int .i64) (.pair (.list (.int .i64)) (.pair (.box bM) bM)))
noncomputable def gG(x:(Ty.T xh)):Option ((Ty.T xh) ⊕ ((Ty.T aV) ⊕ (Ty.T .unit))):=
match(decide (x.2.2.2.2.1<(x.2.1.length:Int)))with
|true=>
 if x.2.2.2.1=0 then none else
 ac (aI x.2.1 x.2.2.2.2.1) fun v1=>
 if x.2.2.2.1=0 then none else
 match((bits BinOp.xor .i64 (IntKind.i64.wrap (Int.tdiv x.1 x.2.2.2.1)) v1)==(1:Int))with
 |true=>
  some (.inl ((bits BinOp.xor .i64 (IntKind.i64.wrap ((Int.tmod x.1 x.2.2.2.1)*(2:Int))) x.2.2.1.2.1),x.2.1,(x.2.2.1.1,x.2.2.1.2.1,()),x.2.2.2.1,(IntKind.i64.wrap (x.2.2.2.2.1+(1:Int))),()))
 |false=>
  some (.inl ((IntKind.i64.wrap ((Int.tmod x.1 x.2.2.2.1)*(2:Int))),x.2.1,(x.2.2.1.1,x.2.2.1.2.1,()),x.2.2.2.1,(IntKind.i64.wrap (x.2.2.2.2.1+(1:Int))),()))
|false=>
 some (.inr (.inl (x.1,())))
noncomputable def sV(x:Ty.T agc):Option (Ty.T aV):=
if(IntKind.u64.wrap (IntKind.i64.wrap (x.1.1-(1:Int))))<0 then none else
match ak gG (x.2.1,x.2.2.1,(x.1.1,x.1.2.1,()),(IntKind.i64.wrap ((1:Int)*2^min (IntKind.u64.wrap (IntKind.i64.wrap (x.1.1-(1:Int)))).toNat IntKind.i64.bits)),(0:Int),())with
|none=>none
|some (.inl v2)=>
 some (v2.1,())
|some (.inr v4)=>
 none
noncomputable def X1:ai:=⟨_,aV,.unit,rfl,sV⟩
noncomputable def JR:FuncId→Option ai:=ca []
theorem R2:∀f s,JR f=some s→FnOK G0 Tryz.prog f s:=aX trivial
def Hn:bg:=⟨[1,2,3,7,8],xh,0,[1],aV,[],.unit⟩
noncomputable def JS:List aM:=[Hn.spec gG]
theorem PZ:bJ bL E0 JR (bF Tryz.f236 JS) Tryz.f236 0 Hn gG:=fun x=>by kernel_rfl
theorem Wb:FnOK G0 Tryz.prog 236 X1:=bb av R2 Tryz.func236 JS (by kernel_rfl) (by exact⟨(PZ).lok,trivial⟩) fun x=>by kernel_rfl
noncomputable def oA(x:Ty.T .unit):Option (Ty.T ZU):=
some (((24:Int),(6122955:Int),()),())
noncomputable def P0:ai:=⟨_,ZU,.unit,rfl,oA⟩
theorem NG:FnOK G0 Tryz.prog 237 P0:=au av ba Tryz.func237
noncomputable def mm(x:Ty.T agi):Option (Ty.T aV):=
match(x.1==(0:Int))with
|true=>
 match oA (())with
 |none=>none
 |some v1=>
 match pQ ((x.2.2.2.1.1,x.2.2.2.1.2.1,x.2.2.2.1.2.2.1,x.2.2.2.1.2.2.2.1,x.2.2.2.1.2.2.2.2.1,()),())with
 |none=>none
 |some v2=>
 match sV (v1.1,x.2.2.1,v2.1,())with
 |none=>none
 |some v3=>
 match oA (())with
 |none=>none
 |some v4=>
 match nH (x.2.1,())with
 |none=>none
 |some v5=>
 match sV (v4.1,v3.1,v5.1,())with
 |none=>none
 |some v6=>
 some (v6.1,())
|false=>
 match oA (())with
 |none=>none
 |some v7=>
 match nH (x.2.1,())with
 |none=>none
 |some v8=>
 match sV (v7.1,x.2.2.1,v8.1,())with
 |none=>none
 |some v9=>
 some (v9.1,())
noncomputable def T9:ai:=⟨_,aV,.unit,rfl,mm⟩
theorem Eg:FnOK G0 Tryz.prog 209 T9:=au av (sg z8 (sg JP (sg Wb (sg NG (ba))))) Tryz.func209
noncomputable def sW(x:Ty.T af7):Option (Ty.T bu):=
match cu ((x.1.1,x.1.2.1,(x.1.2.2.1.1,x.1.2.2.1.2.1,x.1.2.2.1.2.2.1,x.1.2.2.1.2.2.2.1,x.1.2.2.1.2.2.2.2.1,()),x.1.2.2.2.1,()),())with
|none=>none
|some v1=>
match mm (x.1.1,v1.1,x.2.1,(x.2.2.1.1,x.2.2.1.2.1,x.2.2.1.2.2.1,x.2.2.1.2.2.2.1,x.2.2.1.2.2.2.2.1,()),())with
|none=>none
|some v2=>
bd (v1.1.length+ [(IntKind.i64.wrap (Int.tdiv v2.1 (65536:Int))),(Int.tmod (IntKind.i64.wrap (Int.tdiv v2.1 (256:Int))) (256:Int)),(Int.tmod v2.1 (256:Int))].length) (
 some ((v1.1++ [(IntKind.i64.wrap (Int.tdiv v2.1 (65536:Int))),(Int.tmod (IntKind.i64.wrap (Int.tdiv v2.1 (256:Int))) (256:Int)),(Int.tmod v2.1 (256:Int))]),()))
noncomputable def X2:ai:=⟨_,bu,.unit,rfl,sW⟩
theorem Wc:FnOK G0 Tryz.prog 165 X2:=au av (sg JQ (sg Eg (ba))) Tryz.func165
noncomputable def uh(x:Ty.T Rd):Option (Ty.T bu):=
be (
 match fI ((8:Int),(1:Int),())with
 |none=>none
 |some v1=>
 match sW ((x.2.2.1.1,x.2.2.1.2.1,(x.2.2.1.2.2.1.1,x.2.2.1.2.2.1.2.1,x.2.2.1.2.2.1.2.2.1,x.2.2.1.2.2.1.2.2.2.1,x.2.2.1.2.2.1.2.2.2.2.1,()),x.2.2.1.2.2.2.1,()),x.1.1,(x.2.1.1,x.2.1.2.1,x.2.1.2.2.1,x.2.1.2.2.2.1,x.2.1.2.2.2.2.1,()),())with
 |none=>none
 |some v2=>
 match uf (v2.1,(8:Int),())with
 |none=>none
 |some v3=>
 bd (v1.1.length+v3.1.length) (
  match dJ ((x.1.1,x.1.2.1,x.1.2.2.1,x.1.2.2.2.1,()),(x.2.1.1,x.2.1.2.1,x.2.1.2.2.1,x.2.1.2.2.2.1,x.2.1.2.2.2.2.1,()),())with
  |none=>none
  |some v4=>
  match fI ((IntKind.i64.wrap (v4.1.2.2.2.1-((v1.1++v3.1).length:Int))),(1:Int),())with
  |none=>none
  |some v5=>
  bd ((v1.1++v3.1).length+v5.1.length) (
   some (((v1.1++v3.1)++v5.1),()))))
noncomputable def JT:ai:=⟨_,bu,.unit,rfl,uh⟩
theorem Ua:FnOK G0 Tryz.prog 99 JT:=au av (sg li (sg ow (sg T6 (sg Wc (ba))))) Tryz.func99
abbrev sk:Ty:=(.pair (.box aA) (.pair (.box ao) (.pair (.box bI) (.pair (.own 2 (.int .i64)) (.pair (.int .i64) .unit)))))
abbrev Aa:Ty:=afZ
noncomputable def eo(x:(Ty.T sk)):Option ((Ty.T sk) ⊕ ((Ty.T Aa) ⊕ (Ty.T bu))):=
match(decide (x.2.2.2.2.1<(2:Int)))with
|true=>
 ac (aI x.2.2.2.1 x.2.2.2.2.1) fun _=>
 match x.2.2.2.1[x.2.2.2.2.1.toNat]? with
 |none=>none
 |some v2=>
 be (
  match yw (x.1,x.2.1,x.2.2.1.1,v2,())with
  |none=>none
  |some v3=>
  match oz (x.1,x.2.1,v3.1,())with
  |none=>none
  |some v4=>
  match v4.1 with
  |true=>
   match uh (x.1,x.2.1,v3.1,())with
   |none=>none
   |some v5=>
   match pP (v5.1,())with
   |none=>none
   |some v6=>
   some (.inr (.inr (v6.1,())))
  |false=>
   some (.inl (x.1,x.2.1,x.2.2.1,x.2.2.2.1,(IntKind.i64.wrap (x.2.2.2.2.1+(1:Int))),())))
|false=>
 some (.inr (.inl (x.1,x.2.1,())))
noncomputable def ui(x:Ty.T II):Option (Ty.T bu):=
match ak eo (x.1,x.2.1,x.2.2.1,[x.2.2.1.2.1,(0:Int)],(0:Int),())with
|none=>none
|some (.inl v7)=>
 match dJ v7 with
 |none=>none
 |some v9=>
 match fI ((IntKind.i64.wrap ((8:Int)*v9.1.2.2.2.1)),(1:Int),())with
 |none=>none
 |some v10=>
 some (v10.1,())
|some (.inr v8)=>
 some (v8.1,())
noncomputable def R3:ai:=⟨_,bu,.unit,rfl,ui⟩
noncomputable def Bm:FuncId→Option ai:=ca [(61,Mc),(96,JJ),(97,Bj),(98,D8),(99,JT),(100,zV)]
theorem Ls:∀f s,Bm f=some s→FnOK G0 Tryz.prog f s:=aX ⟨li,T4,NA,PU,Ua,ow,trivial⟩
def Ab:bg:=⟨[3,4,5,7,8],sk,0,[3,4],Aa,[6],bu⟩
noncomputable def Bo:List aM:=[Ab.spec eo]
theorem JU:bJ bL E0 Bm (bF Tryz.f56 Bo) Tryz.f56 0 Ab eo:=fun x=>by kernel_rfl
theorem P1:FnOK G0 Tryz.prog 56 R3:=bb av Ls Tryz.func56 Bo (by kernel_rfl) (by exact⟨(JU).lok,trivial⟩) fun x=>by kernel_rfl
noncomputable def Ac(x:Ty.T fg):Option (Ty.T aE):=
match u7 (x.1,(8192:Int),(1:Int),())with
|none=>none
|some v1=>
some (v1.1,())
noncomputable def aal:ai:=⟨_,aE,.unit,rfl,Ac⟩
theorem Mh:FnOK G0 Tryz.prog 166 aal:=au av (sg Mf (ba)) Tryz.func166
noncomputable def gX(x:(Ty.T vP)):Option ((Ty.T vP) ⊕ ((Ty.T .unit) ⊕ (Ty.T aV))):=
match(decide (x.2.2.1<(x.1.length:Int)))with
|true=>
 ac (aI x.1 x.2.2.1) fun v1=>
 match(v1==x.2.1)with
 |true=>
  some (.inr (.inr (x.2.2.1,())))
 |false=>
  some (.inl (x.1,x.2.1,(IntKind.i64.wrap (x.2.2.1+(1:Int))),()))
|false=>
 some (.inr (.inl (())))
noncomputable def dj(x:Ty.T vP):Option (Ty.T aV):=
match ak gX (x.1,x.2.2.1,(IntKind.i64.wrap (x.2.1+(1:Int))),())with
|none=>none
|some (.inl v2)=>
 some ((-1:Int),())
|some (.inr v3)=>
 some (v3.1,())
noncomputable def JV:ai:=⟨_,aV,.unit,rfl,dj⟩
noncomputable def Ho:FuncId→Option ai:=ca []
theorem P2:∀f s,Ho f=some s→FnOK G0 Tryz.prog f s:=aX trivial
def Eh:bg:=⟨[0,2,7],vP,0,[],.unit,[6],aV⟩
noncomputable def Hp:List aM:=[Eh.spec gX]
theorem NH:bJ bL E0 Ho (bF Tryz.f258 Hp) Tryz.f258 0 Eh gX:=fun x=>by kernel_rfl
theorem xi:FnOK G0 Tryz.prog 258 JV:=bb av P2 Tryz.func258 Hp (by kernel_rfl) (by exact⟨(NH).lok,trivial⟩) fun x=>by kernel_rfl
noncomputable def uj(x:Ty.T aV):Option (Ty.T aV):=
some ((IntKind.i64.wrap (Int.tdiv (IntKind.i64.wrap (x.1+(4:Int))) (8:Int))),())
noncomputable def Wd:ai:=⟨_,aV,.unit,rfl,uj⟩
theorem Ub:FnOK G0 Tryz.prog 259 Wd:=au av ba Tryz.func259
noncomputable def oB(x:Ty.T aV):Option (Ty.T aE):=
match cg (x.1,(3:Int),(15:Int),())with
|none=>none
|some v1=>
some (v1.1,())
noncomputable def P3:ai:=⟨_,aE,.unit,rfl,oB⟩
theorem NI:FnOK G0 Tryz.prog 260 P3:=au av (sg dr (ba)) Tryz.func260
noncomputable def sX(x:Ty.T y7):Option (Ty.T aV):=
match dj (x.1,(IntKind.i64.wrap (x.2.1+(11:Int))),(0:Int),())with
|none=>none
|some v1=>
match(decide (v1.1≥(0:Int)))with
|true=>
 some ((6:Int),())
|false=>
 some ((0:Int),())
noncomputable def Mi:ai:=⟨_,aV,.unit,rfl,sX⟩
theorem JW:FnOK G0 Tryz.prog 261 Mi:=au av (sg xi (ba)) Tryz.func261
noncomputable def Ei(x:Ty.T y7):Option (Ty.T aV):=
match(decide (x.2.1≥(x.1.length:Int)))with
|true=>
 some ((1:Int),())
|false=>
 ac (aI x.1 x.2.1) fun v1=>
 some (v1,())
noncomputable def JX:ai:=⟨_,aV,.unit,rfl,Ei⟩
theorem P4:FnOK G0 Tryz.prog 239 JX:=au av ba Tryz.func239
abbrev vd:Ty:=(.pair (.list (.int .i64)) (.pair (.int .i64) (.pair (.own 2 (.int .i64)) .unit)))
noncomputable def dR(x:(Ty.T vd)):Option ((Ty.T vd) ⊕ ((Ty.T .unit) ⊕ (Ty.T oY))):=
bd (x.2.2.1.length+ [x.2.1].length) (
 match Ei (x.1,(IntKind.i64.wrap (x.2.1+(76:Int))),())with
 |none=>none
 |some v1=>
 match(v1.1==(0:Int))with
 |true=>
  match sX (x.1,(IntKind.i64.wrap (x.2.1+(72:Int))),())with
  |none=>none
  |some v2=>
  some (.inr (.inr ((x.2.2.1++ [x.2.1]),v2.1,())))
 |false=>
  match dj (x.1,(IntKind.i64.wrap (x.2.1+(76:Int))),(0:Int),())with
  |none=>none
  |some v3=>
  match(decide (v3.1<(0:Int)))with
  |true=>
   some (.inr (.inr ([],(6:Int),())))
  |false=>
   match(decide (v3.1>(IntKind.i64.wrap (x.2.1+(84:Int)))))with
   |true=>
    some (.inr (.inr ([],(6:Int),())))
   |false=>
    some (.inl (x.1,v3.1,(x.2.2.1++ [x.2.1]),())))
noncomputable def uk(x:Ty.T y7):Option (Ty.T oY):=
match ak dR (x.1,x.2.1,[],())with
|none=>none
|some (.inl v4)=>
 none
|some (.inr v5)=>
 some (v5.1,v5.2.1,())
noncomputable def We:ai:=⟨_,oY,.unit,rfl,uk⟩
noncomputable def Hq:FuncId→Option ai:=ca [(239,JX),(258,JV),(261,Mi)]
theorem P5:∀f s,Hq f=some s→FnOK G0 Tryz.prog f s:=aX ⟨P4,xi,JW,trivial⟩
def Ej:bg:=⟨[0,1,6],vd,999999,[],.unit,[4,5],oY⟩
noncomputable def Hr:List aM:=[Ej.spec dR]
theorem NJ:bJ bL E0 Hq (bF Tryz.f262 Hr) Tryz.f262 0 Ej dR:=fun x=>by kernel_rfl
theorem Uc:FnOK G0 Tryz.prog 262 We:=bb av P5 Tryz.func262 Hr (by kernel_rfl) (by exact⟨(NJ).lok,trivial⟩) fun x=>by kernel_rfl
noncomputable def FS(x:Ty.T fg):Option (Ty.T (.pair tv .unit)):=
match dj (x.1,(-1:Int),(0:Int),())with
|none=>none
|some v1=>
match(decide (v1.1<(0:Int)))with
|true=>
 some (((0:Int),[],(4:Int),()),())
|false=>
 match dj (x.1,v1.1,(1:Int),())with
 |none=>none
 |some v2=>
 match(decide (v2.1<(0:Int)))with
 |true=>
  match uj ((IntKind.i64.wrap ((x.1.length:Int)-v1.1)),())with
  |none=>none
  |some v3=>
  match dj (x.1,(x.1.length:Int),(0:Int),())with
  |none=>none
  |some v4=>
  match oB (v3.1,())with
  |none=>none
  |some v5=>
  match(!v5.1)with
  |true=>
   some (((0:Int),[],(6:Int),()),())
  |false=>
   match(decide (v4.1<(0:Int)))with
   |true=>
    some (((0:Int),[],(6:Int),()),())
   |false=>
    match(decide ((IntKind.i64.wrap (v4.1-(x.1.length:Int)))>(19:Int)))with
    |true=>
     some (((0:Int),[],(6:Int),()),())
    |false=>
     match(decide ((IntKind.i64.wrap (v4.1-(x.1.length:Int)))<(5:Int)))with
     |true=>
      some (((0:Int),[],(6:Int),()),())
     |false=>
      match((IntKind.i64.wrap (v4.1-(x.1.length:Int)))==(12:Int))with
      |true=>
       some (((0:Int),[],(6:Int),()),())
      |false=>
       match(decide ((IntKind.i64.wrap (v4.1-(x.1.length:Int)))<(12:Int)))with
       |true=>
        match sX (x.1,v4.1,())with
        |none=>none
        |some v6=>
        some ((v3.1,[],v6.1,()),())
       |false=>
        match uk (x.1,v4.1,())with
        |none=>none
        |some v7=>
        some ((v3.1,v7.1,v7.2.1,()),())
 |false=>
  match uj ((IntKind.i64.wrap (v2.1-v1.1)),())with
  |none=>none
  |some v8=>
  match dj (x.1,v2.1,(0:Int),())with
  |none=>none
  |some v9=>
  match oB (v8.1,())with
  |none=>none
  |some v10=>
  match(!v10.1)with
  |true=>
   some (((0:Int),[],(6:Int),()),())
  |false=>
   match(decide (v9.1<(0:Int)))with
   |true=>
    some (((0:Int),[],(6:Int),()),())
   |false=>
    match(decide ((IntKind.i64.wrap (v9.1-v2.1))>(19:Int)))with
    |true=>
     some (((0:Int),[],(6:Int),()),())
    |false=>
     match(decide ((IntKind.i64.wrap (v9.1-v2.1))<(5:Int)))with
     |true=>
      some (((0:Int),[],(6:Int),()),())
     |false=>
      match((IntKind.i64.wrap (v9.1-v2.1))==(12:Int))with
      |true=>
       some (((0:Int),[],(6:Int),()),())
      |false=>
       match(decide ((IntKind.i64.wrap (v9.1-v2.1))<(12:Int)))with
       |true=>
        match sX (x.1,v9.1,())with
        |none=>none
        |some v11=>
        some ((v8.1,[],v11.1,()),())
       |false=>
        match uk (x.1,v9.1,())with
        |none=>none
        |some v12=>
        some ((v8.1,v12.1,v12.2.1,()),())
noncomputable def aam:ai:=⟨_,(.pair tv .unit),.unit,rfl,FS⟩
theorem X3:FnOK G0 Tryz.prog 238 aam:=au av (sg xi (sg Ub (sg NI (sg JW (sg Uc (ba)))))) Tryz.func238
noncomputable def Bp(x:Ty.T fg):Option (Ty.T ael):=
match Ac (x.1,())with
|none=>none
|some v1=>
match(!v1.1)with
|true=>
 some (((0:Int),[],(0:Int),()),(1:Int),())
|false=>
 match FS (x.1,())with
 |none=>none
 |some v2=>
 some ((v2.1.1,v2.1.2.1,v2.1.2.2.1,()),v2.1.2.2.1,())
noncomputable def X4:ai:=⟨_,ael,.unit,rfl,Bp⟩
theorem Wg:FnOK G0 Tryz.prog 211 X4:=au av (sg Mh (sg X3 (ba))) Tryz.func211
abbrev ve:Ty:=(.pair (.list (.int .i64)) (.pair (.list (.int .i64)) (.pair (.own 2 (.int .i64)) (.pair (.int .i64) bM))))
abbrev Ek:Ty:=aet
noncomputable def ja(x:(Ty.T ve)):Option ((Ty.T ve) ⊕ ((Ty.T Ek) ⊕ (Ty.T .unit))):=
match(decide (x.2.2.2.2.2.1<(8:Int)))with
|true=>
 ac (aI x.2.1 x.2.2.2.1) fun v1=>
 match Ei (x.1,(IntKind.i64.wrap ((IntKind.i64.wrap (v1+(IntKind.i64.wrap ((8:Int)*x.2.2.2.2.2.1))))+(12:Int))),())with
 |none=>none
 |some v2=>
 some (.inl (x.1,x.2.1,x.2.2.1,x.2.2.2.1,(IntKind.i64.wrap ((IntKind.i64.wrap ((2:Int)*x.2.2.2.2.1))+v2.1)),(IntKind.i64.wrap (x.2.2.2.2.2.1+(1:Int))),()))
|false=>
 some (.inr (.inl (x.1,x.2.1,x.2.2.1,x.2.2.2.1,x.2.2.2.2.1,())))
abbrev vf:Ty:=adm
noncomputable def jb(x:(Ty.T vf)):Option ((Ty.T vf) ⊕ ((Ty.T bu) ⊕ (Ty.T .unit))):=
match(decide (x.2.2.2.1<(x.2.1.length:Int)))with
|true=>
 match ak ja (x.1,x.2.1,x.2.2.1,x.2.2.2.1,(0:Int),(0:Int),())with
 |none=>none
 |some (.inl v1)=>
  bd (v1.2.2.1.length+ [v1.2.2.2.2.1].length) (
   some (.inl (v1.1,v1.2.1,(v1.2.2.1++ [v1.2.2.2.2.1]),(IntKind.i64.wrap (v1.2.2.2.1+(1:Int))),())))
 |some (.inr v3)=>
  some (.inr (.inr (())))
|false=>
 some (.inr (.inl (x.2.2.1,())))
noncomputable def ul(x:Ty.T Vq):Option (Ty.T bu):=
match ak jb (x.1,x.2.1,[],(0:Int),())with
|none=>none
|some (.inl v4)=>
 some (v4.1,())
|some (.inr v6)=>
 none
noncomputable def Wh:ai:=⟨_,bu,.unit,rfl,ul⟩
noncomputable def xj:FuncId→Option ai:=ca [(239,JX)]
theorem P6:∀f s,xj f=some s→FnOK G0 Tryz.prog f s:=aX ⟨P4,trivial⟩
def El:bg:=⟨[0,1,5,6],vf,0,[5],bu,[],.unit⟩
def Em:bg:=⟨[0,1,5,6,7,8],ve,2,[0,1,5,6,7],Ek,[],.unit⟩
noncomputable def xk:List aM:=[El.spec jb,Em.spec ja]
theorem NK:bJ bL E0 xj (bF Tryz.f212 xk) Tryz.f212 0 El jb:=fun x=>by kernel_rfl
theorem NL:bJ bL E0 xj (bF Tryz.f212 xk) Tryz.f212 1 Em ja:=fun x=>by kernel_rfl
theorem Ud:FnOK G0 Tryz.prog 212 Wh:=bb av P6 Tryz.func212 xk (by kernel_rfl) (by exact⟨(NK).lok,(NL).lok,trivial⟩) fun x=>by kernel_rfl
noncomputable def rS(x:Ty.T fg):Option (Ty.T oY):=
match Bp (x.1,())with
|none=>none
|some v1=>
match(v1.2.1 != (0:Int))with
|true=>
 some ([],v1.2.1,())
|false=>
 match ul (x.1,v1.1.2.1,())with
 |none=>none
 |some v2=>
 some (v2.1,(0:Int),())
noncomputable def P7:ai:=⟨_,oY,.unit,rfl,rS⟩
theorem NM:FnOK G0 Tryz.prog 167 P7:=au av (sg Wg (sg Ud (ba))) Tryz.func167
abbrev xl:Ty:=adf
noncomputable def gH(x:(Ty.T xl)):Option ((Ty.T xl) ⊕ ((Ty.T aV) ⊕ (Ty.T .unit))):=
match(decide (x.2.2.2.1≤x.2.1))with
|true=>
 match(decide (x.2.2.2.1<(0:Int)))with
 |true=>
  some (.inl (x.1,x.2.1,(IntKind.i64.wrap (x.2.2.1+(1:Int))),(IntKind.i64.wrap (x.2.2.2.1+(1:Int))),()))
 |false=>
  ac (aI x.1 x.2.2.2.1) fun v1=>
  some (.inl (x.1,x.2.1,(IntKind.i64.wrap (x.2.2.1+v1)),(IntKind.i64.wrap (x.2.2.2.1+(1:Int))),()))
|false=>
 some (.inr (.inl (x.2.2.1,())))
noncomputable def Bq(x:Ty.T y7):Option (Ty.T aV):=
match ak gH (x.1,x.2.1,(0:Int),(IntKind.i64.wrap ((IntKind.i64.wrap (x.2.1-(5:Int)))+(1:Int))),())with
|none=>none
|some (.inl v2)=>
 some (v2.1,())
|some (.inr v4)=>
 none
noncomputable def Mj:ai:=⟨_,aV,.unit,rfl,Bq⟩
noncomputable def JY:FuncId→Option ai:=ca []
theorem R4:∀f s,JY f=some s→FnOK G0 Tryz.prog f s:=aX trivial
def Hs:bg:=⟨[0,1,5,6],xl,0,[5],aV,[],.unit⟩
noncomputable def JZ:List aM:=[Hs.spec gH]
theorem P8:bJ bL E0 JY (bF Tryz.f213 JZ) Tryz.f213 0 Hs gH:=fun x=>by kernel_rfl
theorem Wi:FnOK G0 Tryz.prog 213 Mj:=bb av R4 Tryz.func213 JZ (by kernel_rfl) (by exact⟨(P8).lok,trivial⟩) fun x=>by kernel_rfl
abbrev xm:Ty:=Vs
noncomputable def ks(x:(Ty.T xm)):Option ((Ty.T xm) ⊕ ((Ty.T bu) ⊕ (Ty.T .unit))):=
match(decide (x.2.2.1<(x.1.length:Int)))with
|true=>
 match Bq (x.1,x.2.2.1,())with
 |none=>none
 |some v1=>
 match(decide (v1.1≥(3:Int)))with
 |true=>
  bd (x.2.1.length+ [(1:Int)].length) (
   some (.inl (x.1,(x.2.1++ [(1:Int)]),(IntKind.i64.wrap (x.2.2.1+(1:Int))),())))
 |false=>
  bd (x.2.1.length+ [(0:Int)].length) (
   some (.inl (x.1,(x.2.1++ [(0:Int)]),(IntKind.i64.wrap (x.2.2.1+(1:Int))),())))
|false=>
 some (.inr (.inl (x.2.1,())))
noncomputable def Br(x:Ty.T fg):Option (Ty.T bu):=
match ak ks (x.1,[],(0:Int),())with
|none=>none
|some (.inl v2)=>
 some (v2.1,())
|some (.inr v4)=>
 none
noncomputable def X5:ai:=⟨_,bu,.unit,rfl,Br⟩
noncomputable def J0:FuncId→Option ai:=ca [(213,Mj)]
theorem R5:∀f s,J0 f=some s→FnOK G0 Tryz.prog f s:=aX ⟨Wi,trivial⟩
def Ht:bg:=⟨[0,3,4],xm,0,[3],bu,[],.unit⟩
noncomputable def J1:List aM:=[Ht.spec ks]
theorem P9:bJ bL E0 J0 (bF Tryz.f168 J1) Tryz.f168 0 Ht ks:=fun x=>by kernel_rfl
theorem Wj:FnOK G0 Tryz.prog 168 X5:=bb av R5 Tryz.func168 J1 (by kernel_rfl) (by exact⟨(P9).lok,trivial⟩) fun x=>by kernel_rfl
noncomputable def o8(x:Ty.T fg):Option (Ty.T oY):=
match Ac (x.1,())with
|none=>none
|some v1=>
match(!v1.1)with
|true=>
 some ([],(1:Int),())
|false=>
 match Br (x.1,())with
 |none=>none
 |some v2=>
 match rS (v2.1,())with
 |none=>none
 |some v3=>
 some (v3.1,v3.2.1,())
noncomputable def Lt:ai:=⟨_,oY,.unit,rfl,o8⟩
theorem J2:FnOK G0 Tryz.prog 101 Lt:=au av (sg Mh (sg NM (sg Wj (ba)))) Tryz.func101
noncomputable def mn(x:Ty.T fg):Option (Ty.T bu):=
bd (([]:List (Ty.T (.int .i64))).length+x.1.length) (
 some ((([]:List (Ty.T (.int .i64)))++x.1),()))
noncomputable def FT:ai:=⟨_,bu,.unit,rfl,mn⟩
theorem BX:FnOK G0 Tryz.prog 103 FT:=au av ba Tryz.func103
abbrev xn:Ty:=aer
noncomputable def kt(x:(Ty.T xn)):Option ((Ty.T xn) ⊕ ((Ty.T .unit) ⊕ (Ty.T aE))):=
match(decide (x.2.2.1<(x.1.length:Int)))with
|true=>
 ac (aI x.1 x.2.2.1) fun v1=>
 ac (aI x.2.1 x.2.2.1) fun v2=>
 match(v1 != v2)with
 |true=>
  some (.inr (.inr (false,())))
 |false=>
  some (.inl (x.1,x.2.1,(IntKind.i64.wrap (x.2.2.1+(1:Int))),()))
|false=>
 some (.inr (.inl (())))
noncomputable def cw(x:Ty.T Vq):Option (Ty.T aE):=
match((x.1.length:Int) != (x.2.1.length:Int))with
|true=>
 some (false,())
|false=>
 match ak kt (x.1,x.2.1,(0:Int),())with
 |none=>none
 |some (.inl v3)=>
  some (true,())
 |some (.inr v4)=>
  some (v4.1,())
noncomputable def X6:ai:=⟨_,aE,.unit,rfl,cw⟩
noncomputable def J3:FuncId→Option ai:=ca []
theorem R6:∀f s,J3 f=some s→FnOK G0 Tryz.prog f s:=aX trivial
def Hu:bg:=⟨[0,1,5],xn,0,[],.unit,[4],aE⟩
noncomputable def J4:List aM:=[Hu.spec kt]
theorem Qa:bJ bL E0 J3 (bF Tryz.f170 J4) Tryz.f170 0 Hu kt:=fun x=>by kernel_rfl
theorem J5:FnOK G0 Tryz.prog 170 X6:=bb av R6 Tryz.func170 J4 (by kernel_rfl) (by exact⟨(Qa).lok,trivial⟩) fun x=>by kernel_rfl
noncomputable def yy(x:Ty.T fg):Option (Ty.T xt):=
match dC (x.1,(0:Int),(16:Int),())with
|none=>none
|some v1=>
match dC (x.1,(16:Int),(4:Int),())with
|none=>none
|some v2=>
match dC (x.1,(20:Int),(4:Int),())with
|none=>none
|some v3=>
match dC (x.1,(24:Int),(8:Int),())with
|none=>none
|some v4=>
match dC (x.1,(32:Int),(32:Int),())with
|none=>none
|some v5=>
some ((v1.1,v2.1,v3.1,v4.1,v5.1,()),())
noncomputable def Wk:ai:=⟨_,xt,.unit,rfl,yy⟩
theorem Ue:FnOK G0 Tryz.prog 240 Wk:=au av (sg Ec (ba)) Tryz.func240
noncomputable def yz(x:Ty.T fg):Option (Ty.T Z5):=
match((x.1.length:Int)==(0:Int))with
|true=>
 some (((0:Int),(0:Int),((0:Int),(0:Int),(0:Int),(0:Int),(0:Int),()),[],()),false,())
|false=>
 ac (aI x.1 (0:Int)) fun v1=>
 ac (aI x.1 (0:Int)) fun v2=>
 ac (aZ x.1.length (some (.dat (.int .i64) (1:Int))) none) fun v3=>
 match fD ((IntKind.i64.wrap (Int.tdiv v1 (64:Int))),())with
 |none=>none
 |some v4=>
 match v4.1 with
 |true=>
  match(decide (((List.drop v3.1 (List.take v3.2 x.1)).length:Int)<(8:Int)))with
  |true=>
   some (((0:Int),(0:Int),((0:Int),(0:Int),(0:Int),(0:Int),(0:Int),()),[],()),false,())
  |false=>
   ac (aZ (List.drop v3.1 (List.take v3.2 x.1)).length none (some (.dat (.int .i64) (8:Int)))) fun v5=>
   match nH ((List.drop v5.1 (List.take v5.2 (List.drop v3.1 (List.take v3.2 x.1)))),())with
   |none=>none
   |some v6=>
   match yy (v6.1,())with
   |none=>none
   |some v7=>
   ac (aZ (List.drop v3.1 (List.take v3.2 x.1)).length (some (.dat (.int .i64) (8:Int))) none) fun v8=>
   match jG ((IntKind.i64.wrap (Int.tdiv v1 (64:Int))),())with
   |none=>none
   |some v9=>
   match v9.1 with
   |true=>
    match(((List.drop v8.1 (List.take v8.2 (List.drop v3.1 (List.take v3.2 x.1)))).length:Int)==(0:Int))with
    |true=>
     some (((0:Int),(0:Int),((0:Int),(0:Int),(0:Int),(0:Int),(0:Int),()),[],()),false,())
    |false=>
     ac (aZ (List.drop v8.1 (List.take v8.2 (List.drop v3.1 (List.take v3.2 x.1)))).length (some (.dat (.int .i64) (1:Int))) none) fun v10=>
     match mn ((List.drop v10.1 (List.take v10.2 (List.drop v8.1 (List.take v8.2 (List.drop v3.1 (List.take v3.2 x.1)))))),())with
     |none=>none
     |some v11=>
     aD (
      match dt (((IntKind.i64.wrap (Int.tdiv v1 (64:Int))),(Int.tmod (IntKind.i64.wrap (Int.tdiv v2 (8:Int))) (8:Int)),(v7.1.1,v7.1.2.1,v7.1.2.2.1,v7.1.2.2.2.1,v7.1.2.2.2.2.1,()),v11.1,()),())with
      |none=>none
      |some v12=>
      match v12.1 with
      |true=>
       match cu (((IntKind.i64.wrap (Int.tdiv v1 (64:Int))),(Int.tmod (IntKind.i64.wrap (Int.tdiv v2 (8:Int))) (8:Int)),(v7.1.1,v7.1.2.1,v7.1.2.2.1,v7.1.2.2.2.1,v7.1.2.2.2.2.1,()),v11.1,()),())with
       |none=>none
       |some v13=>
       match cw (v13.1,x.1,())with
       |none=>none
       |some v14=>
       some (((IntKind.i64.wrap (Int.tdiv v1 (64:Int))),(Int.tmod (IntKind.i64.wrap (Int.tdiv v2 (8:Int))) (8:Int)),(v7.1.1,v7.1.2.1,v7.1.2.2.1,v7.1.2.2.2.1,v7.1.2.2.2.2.1,()),v11.1,()),v14.1,())
      |false=>
       some (((IntKind.i64.wrap (Int.tdiv v1 (64:Int))),(Int.tmod (IntKind.i64.wrap (Int.tdiv v2 (8:Int))) (8:Int)),(v7.1.1,v7.1.2.1,v7.1.2.2.1,v7.1.2.2.2.1,v7.1.2.2.2.2.1,()),v11.1,()),false,())) (
      aD (
       match dt (((IntKind.i64.wrap (Int.tdiv v1 (64:Int))),(Int.tmod (IntKind.i64.wrap (Int.tdiv v2 (8:Int))) (8:Int)),(v7.1.1,v7.1.2.1,v7.1.2.2.1,v7.1.2.2.2.1,v7.1.2.2.2.2.1,()),v11.1,()),())with
       |none=>none
       |some v12=>
       match v12.1 with
       |true=>
        match cu (((IntKind.i64.wrap (Int.tdiv v1 (64:Int))),(Int.tmod (IntKind.i64.wrap (Int.tdiv v2 (8:Int))) (8:Int)),(v7.1.1,v7.1.2.1,v7.1.2.2.1,v7.1.2.2.2.1,v7.1.2.2.2.2.1,()),v11.1,()),())with
        |none=>none
        |some v13=>
        match cw (v13.1,x.1,())with
        |none=>none
        |some v14=>
        some (((IntKind.i64.wrap (Int.tdiv v1 (64:Int))),(Int.tmod (IntKind.i64.wrap (Int.tdiv v2 (8:Int))) (8:Int)),(v7.1.1,v7.1.2.1,v7.1.2.2.1,v7.1.2.2.2.1,v7.1.2.2.2.2.1,()),v11.1,()),v14.1,())
       |false=>
        some (((IntKind.i64.wrap (Int.tdiv v1 (64:Int))),(Int.tmod (IntKind.i64.wrap (Int.tdiv v2 (8:Int))) (8:Int)),(v7.1.1,v7.1.2.1,v7.1.2.2.1,v7.1.2.2.2.1,v7.1.2.2.2.2.1,()),v11.1,()),false,())) (
       match dt (((IntKind.i64.wrap (Int.tdiv v1 (64:Int))),(Int.tmod (IntKind.i64.wrap (Int.tdiv v2 (8:Int))) (8:Int)),(v7.1.1,v7.1.2.1,v7.1.2.2.1,v7.1.2.2.2.1,v7.1.2.2.2.2.1,()),v11.1,()),())with
       |none=>none
       |some v12=>
       match v12.1 with
       |true=>
        aD (
         match cu (((IntKind.i64.wrap (Int.tdiv v1 (64:Int))),(Int.tmod (IntKind.i64.wrap (Int.tdiv v2 (8:Int))) (8:Int)),(v7.1.1,v7.1.2.1,v7.1.2.2.1,v7.1.2.2.2.1,v7.1.2.2.2.2.1,()),v11.1,()),())with
         |none=>none
         |some v13=>
         match cw (v13.1,x.1,())with
         |none=>none
         |some v14=>
         some (((IntKind.i64.wrap (Int.tdiv v1 (64:Int))),(Int.tmod (IntKind.i64.wrap (Int.tdiv v2 (8:Int))) (8:Int)),(v7.1.1,v7.1.2.1,v7.1.2.2.1,v7.1.2.2.2.1,v7.1.2.2.2.2.1,()),v11.1,()),v14.1,())) (
         aD (
          match cu (((IntKind.i64.wrap (Int.tdiv v1 (64:Int))),(Int.tmod (IntKind.i64.wrap (Int.tdiv v2 (8:Int))) (8:Int)),(v7.1.1,v7.1.2.1,v7.1.2.2.1,v7.1.2.2.2.1,v7.1.2.2.2.2.1,()),v11.1,()),())with
          |none=>none
          |some v13=>
          match cw (v13.1,x.1,())with
          |none=>none
          |some v14=>
          some (((IntKind.i64.wrap (Int.tdiv v1 (64:Int))),(Int.tmod (IntKind.i64.wrap (Int.tdiv v2 (8:Int))) (8:Int)),(v7.1.1,v7.1.2.1,v7.1.2.2.1,v7.1.2.2.2.1,v7.1.2.2.2.2.1,()),v11.1,()),v14.1,())) (
          match cu (((IntKind.i64.wrap (Int.tdiv v1 (64:Int))),(Int.tmod (IntKind.i64.wrap (Int.tdiv v2 (8:Int))) (8:Int)),(v7.1.1,v7.1.2.1,v7.1.2.2.1,v7.1.2.2.2.1,v7.1.2.2.2.2.1,()),v11.1,()),())with
          |none=>none
          |some v13=>
          be (
           match cw (v13.1,x.1,())with
           |none=>none
           |some v14=>
           some (((IntKind.i64.wrap (Int.tdiv v1 (64:Int))),(Int.tmod (IntKind.i64.wrap (Int.tdiv v2 (8:Int))) (8:Int)),(v7.1.1,v7.1.2.1,v7.1.2.2.1,v7.1.2.2.2.1,v7.1.2.2.2.2.1,()),v11.1,()),v14.1,()))))
       |false=>
        aD (
         some (((IntKind.i64.wrap (Int.tdiv v1 (64:Int))),(Int.tmod (IntKind.i64.wrap (Int.tdiv v2 (8:Int))) (8:Int)),(v7.1.1,v7.1.2.1,v7.1.2.2.1,v7.1.2.2.2.1,v7.1.2.2.2.2.1,()),v11.1,()),false,())) (
         aD (
          some (((IntKind.i64.wrap (Int.tdiv v1 (64:Int))),(Int.tmod (IntKind.i64.wrap (Int.tdiv v2 (8:Int))) (8:Int)),(v7.1.1,v7.1.2.1,v7.1.2.2.1,v7.1.2.2.2.1,v7.1.2.2.2.2.1,()),v11.1,()),false,())) (
          be (
           some (((IntKind.i64.wrap (Int.tdiv v1 (64:Int))),(Int.tmod (IntKind.i64.wrap (Int.tdiv v2 (8:Int))) (8:Int)),(v7.1.1,v7.1.2.1,v7.1.2.2.1,v7.1.2.2.2.1,v7.1.2.2.2.2.1,()),v11.1,()),false,()))))))
   |false=>
    aD (
     match dt (((IntKind.i64.wrap (Int.tdiv v1 (64:Int))),(Int.tmod (IntKind.i64.wrap (Int.tdiv v2 (8:Int))) (8:Int)),(v7.1.1,v7.1.2.1,v7.1.2.2.1,v7.1.2.2.2.1,v7.1.2.2.2.2.1,()),[],()),())with
     |none=>none
     |some v15=>
     match v15.1 with
     |true=>
      match cu (((IntKind.i64.wrap (Int.tdiv v1 (64:Int))),(Int.tmod (IntKind.i64.wrap (Int.tdiv v2 (8:Int))) (8:Int)),(v7.1.1,v7.1.2.1,v7.1.2.2.1,v7.1.2.2.2.1,v7.1.2.2.2.2.1,()),[],()),())with
      |none=>none
      |some v16=>
      match cw (v16.1,x.1,())with
      |none=>none
      |some v17=>
      some (((IntKind.i64.wrap (Int.tdiv v1 (64:Int))),(Int.tmod (IntKind.i64.wrap (Int.tdiv v2 (8:Int))) (8:Int)),(v7.1.1,v7.1.2.1,v7.1.2.2.1,v7.1.2.2.2.1,v7.1.2.2.2.2.1,()),[],()),v17.1,())
     |false=>
      some (((IntKind.i64.wrap (Int.tdiv v1 (64:Int))),(Int.tmod (IntKind.i64.wrap (Int.tdiv v2 (8:Int))) (8:Int)),(v7.1.1,v7.1.2.1,v7.1.2.2.1,v7.1.2.2.2.1,v7.1.2.2.2.2.1,()),[],()),false,())) (
     aD (
      match dt (((IntKind.i64.wrap (Int.tdiv v1 (64:Int))),(Int.tmod (IntKind.i64.wrap (Int.tdiv v2 (8:Int))) (8:Int)),(v7.1.1,v7.1.2.1,v7.1.2.2.1,v7.1.2.2.2.1,v7.1.2.2.2.2.1,()),[],()),())with
      |none=>none
      |some v15=>
      match v15.1 with
      |true=>
       match cu (((IntKind.i64.wrap (Int.tdiv v1 (64:Int))),(Int.tmod (IntKind.i64.wrap (Int.tdiv v2 (8:Int))) (8:Int)),(v7.1.1,v7.1.2.1,v7.1.2.2.1,v7.1.2.2.2.1,v7.1.2.2.2.2.1,()),[],()),())with
       |none=>none
       |some v16=>
       match cw (v16.1,x.1,())with
       |none=>none
       |some v17=>
       some (((IntKind.i64.wrap (Int.tdiv v1 (64:Int))),(Int.tmod (IntKind.i64.wrap (Int.tdiv v2 (8:Int))) (8:Int)),(v7.1.1,v7.1.2.1,v7.1.2.2.1,v7.1.2.2.2.1,v7.1.2.2.2.2.1,()),[],()),v17.1,())
      |false=>
       some (((IntKind.i64.wrap (Int.tdiv v1 (64:Int))),(Int.tmod (IntKind.i64.wrap (Int.tdiv v2 (8:Int))) (8:Int)),(v7.1.1,v7.1.2.1,v7.1.2.2.1,v7.1.2.2.2.1,v7.1.2.2.2.2.1,()),[],()),false,())) (
      match dt (((IntKind.i64.wrap (Int.tdiv v1 (64:Int))),(Int.tmod (IntKind.i64.wrap (Int.tdiv v2 (8:Int))) (8:Int)),(v7.1.1,v7.1.2.1,v7.1.2.2.1,v7.1.2.2.2.1,v7.1.2.2.2.2.1,()),[],()),())with
      |none=>none
      |some v15=>
      match v15.1 with
      |true=>
       aD (
        match cu (((IntKind.i64.wrap (Int.tdiv v1 (64:Int))),(Int.tmod (IntKind.i64.wrap (Int.tdiv v2 (8:Int))) (8:Int)),(v7.1.1,v7.1.2.1,v7.1.2.2.1,v7.1.2.2.2.1,v7.1.2.2.2.2.1,()),[],()),())with
        |none=>none
        |some v16=>
        match cw (v16.1,x.1,())with
        |none=>none
        |some v17=>
        some (((IntKind.i64.wrap (Int.tdiv v1 (64:Int))),(Int.tmod (IntKind.i64.wrap (Int.tdiv v2 (8:Int))) (8:Int)),(v7.1.1,v7.1.2.1,v7.1.2.2.1,v7.1.2.2.2.1,v7.1.2.2.2.2.1,()),[],()),v17.1,())) (
        aD (
         match cu (((IntKind.i64.wrap (Int.tdiv v1 (64:Int))),(Int.tmod (IntKind.i64.wrap (Int.tdiv v2 (8:Int))) (8:Int)),(v7.1.1,v7.1.2.1,v7.1.2.2.1,v7.1.2.2.2.1,v7.1.2.2.2.2.1,()),[],()),())with
         |none=>none
         |some v16=>
         match cw (v16.1,x.1,())with
         |none=>none
         |some v17=>
         some (((IntKind.i64.wrap (Int.tdiv v1 (64:Int))),(Int.tmod (IntKind.i64.wrap (Int.tdiv v2 (8:Int))) (8:Int)),(v7.1.1,v7.1.2.1,v7.1.2.2.1,v7.1.2.2.2.1,v7.1.2.2.2.2.1,()),[],()),v17.1,())) (
         match cu (((IntKind.i64.wrap (Int.tdiv v1 (64:Int))),(Int.tmod (IntKind.i64.wrap (Int.tdiv v2 (8:Int))) (8:Int)),(v7.1.1,v7.1.2.1,v7.1.2.2.1,v7.1.2.2.2.1,v7.1.2.2.2.2.1,()),[],()),())with
         |none=>none
         |some v16=>
         be (
          match cw (v16.1,x.1,())with
          |none=>none
          |some v17=>
          some (((IntKind.i64.wrap (Int.tdiv v1 (64:Int))),(Int.tmod (IntKind.i64.wrap (Int.tdiv v2 (8:Int))) (8:Int)),(v7.1.1,v7.1.2.1,v7.1.2.2.1,v7.1.2.2.2.1,v7.1.2.2.2.2.1,()),[],()),v17.1,()))))
      |false=>
       aD (
        some (((IntKind.i64.wrap (Int.tdiv v1 (64:Int))),(Int.tmod (IntKind.i64.wrap (Int.tdiv v2 (8:Int))) (8:Int)),(v7.1.1,v7.1.2.1,v7.1.2.2.1,v7.1.2.2.2.1,v7.1.2.2.2.2.1,()),[],()),false,())) (
        aD (
         some (((IntKind.i64.wrap (Int.tdiv v1 (64:Int))),(Int.tmod (IntKind.i64.wrap (Int.tdiv v2 (8:Int))) (8:Int)),(v7.1.1,v7.1.2.1,v7.1.2.2.1,v7.1.2.2.2.1,v7.1.2.2.2.2.1,()),[],()),false,())) (
         be (
          some (((IntKind.i64.wrap (Int.tdiv v1 (64:Int))),(Int.tmod (IntKind.i64.wrap (Int.tdiv v2 (8:Int))) (8:Int)),(v7.1.1,v7.1.2.1,v7.1.2.2.1,v7.1.2.2.2.1,v7.1.2.2.2.2.1,()),[],()),false,()))))))
 |false=>
  match jG ((IntKind.i64.wrap (Int.tdiv v1 (64:Int))),())with
  |none=>none
  |some v18=>
  match v18.1 with
  |true=>
   match(((List.drop v3.1 (List.take v3.2 x.1)).length:Int)==(0:Int))with
   |true=>
    some (((0:Int),(0:Int),((0:Int),(0:Int),(0:Int),(0:Int),(0:Int),()),[],()),false,())
   |false=>
    ac (aZ (List.drop v3.1 (List.take v3.2 x.1)).length (some (.dat (.int .i64) (1:Int))) none) fun v19=>
    match mn ((List.drop v19.1 (List.take v19.2 (List.drop v3.1 (List.take v3.2 x.1)))),())with
    |none=>none
    |some v20=>
    aD (
     match dt (((IntKind.i64.wrap (Int.tdiv v1 (64:Int))),(Int.tmod (IntKind.i64.wrap (Int.tdiv v2 (8:Int))) (8:Int)),((0:Int),(0:Int),(0:Int),(0:Int),(0:Int),()),v20.1,()),())with
     |none=>none
     |some v21=>
     match v21.1 with
     |true=>
      match cu (((IntKind.i64.wrap (Int.tdiv v1 (64:Int))),(Int.tmod (IntKind.i64.wrap (Int.tdiv v2 (8:Int))) (8:Int)),((0:Int),(0:Int),(0:Int),(0:Int),(0:Int),()),v20.1,()),())with
      |none=>none
      |some v22=>
      match cw (v22.1,x.1,())with
      |none=>none
      |some v23=>
      some (((IntKind.i64.wrap (Int.tdiv v1 (64:Int))),(Int.tmod (IntKind.i64.wrap (Int.tdiv v2 (8:Int))) (8:Int)),((0:Int),(0:Int),(0:Int),(0:Int),(0:Int),()),v20.1,()),v23.1,())
     |false=>
      some (((IntKind.i64.wrap (Int.tdiv v1 (64:Int))),(Int.tmod (IntKind.i64.wrap (Int.tdiv v2 (8:Int))) (8:Int)),((0:Int),(0:Int),(0:Int),(0:Int),(0:Int),()),v20.1,()),false,())) (
     aD (
      match dt (((IntKind.i64.wrap (Int.tdiv v1 (64:Int))),(Int.tmod (IntKind.i64.wrap (Int.tdiv v2 (8:Int))) (8:Int)),((0:Int),(0:Int),(0:Int),(0:Int),(0:Int),()),v20.1,()),())with
      |none=>none
      |some v21=>
      match v21.1 with
      |true=>
       match cu (((IntKind.i64.wrap (Int.tdiv v1 (64:Int))),(Int.tmod (IntKind.i64.wrap (Int.tdiv v2 (8:Int))) (8:Int)),((0:Int),(0:Int),(0:Int),(0:Int),(0:Int),()),v20.1,()),())with
       |none=>none
       |some v22=>
       match cw (v22.1,x.1,())with
       |none=>none
       |some v23=>
       some (((IntKind.i64.wrap (Int.tdiv v1 (64:Int))),(Int.tmod (IntKind.i64.wrap (Int.tdiv v2 (8:Int))) (8:Int)),((0:Int),(0:Int),(0:Int),(0:Int),(0:Int),()),v20.1,()),v23.1,())
      |false=>
       some (((IntKind.i64.wrap (Int.tdiv v1 (64:Int))),(Int.tmod (IntKind.i64.wrap (Int.tdiv v2 (8:Int))) (8:Int)),((0:Int),(0:Int),(0:Int),(0:Int),(0:Int),()),v20.1,()),false,())) (
      match dt (((IntKind.i64.wrap (Int.tdiv v1 (64:Int))),(Int.tmod (IntKind.i64.wrap (Int.tdiv v2 (8:Int))) (8:Int)),((0:Int),(0:Int),(0:Int),(0:Int),(0:Int),()),v20.1,()),())with
      |none=>none
      |some v21=>
      match v21.1 with
      |true=>
       aD (
        match cu (((IntKind.i64.wrap (Int.tdiv v1 (64:Int))),(Int.tmod (IntKind.i64.wrap (Int.tdiv v2 (8:Int))) (8:Int)),((0:Int),(0:Int),(0:Int),(0:Int),(0:Int),()),v20.1,()),())with
        |none=>none
        |some v22=>
        match cw (v22.1,x.1,())with
        |none=>none
        |some v23=>
        some (((IntKind.i64.wrap (Int.tdiv v1 (64:Int))),(Int.tmod (IntKind.i64.wrap (Int.tdiv v2 (8:Int))) (8:Int)),((0:Int),(0:Int),(0:Int),(0:Int),(0:Int),()),v20.1,()),v23.1,())) (
        aD (
         match cu (((IntKind.i64.wrap (Int.tdiv v1 (64:Int))),(Int.tmod (IntKind.i64.wrap (Int.tdiv v2 (8:Int))) (8:Int)),((0:Int),(0:Int),(0:Int),(0:Int),(0:Int),()),v20.1,()),())with
         |none=>none
         |some v22=>
         match cw (v22.1,x.1,())with
         |none=>none
         |some v23=>
         some (((IntKind.i64.wrap (Int.tdiv v1 (64:Int))),(Int.tmod (IntKind.i64.wrap (Int.tdiv v2 (8:Int))) (8:Int)),((0:Int),(0:Int),(0:Int),(0:Int),(0:Int),()),v20.1,()),v23.1,())) (
         match cu (((IntKind.i64.wrap (Int.tdiv v1 (64:Int))),(Int.tmod (IntKind.i64.wrap (Int.tdiv v2 (8:Int))) (8:Int)),((0:Int),(0:Int),(0:Int),(0:Int),(0:Int),()),v20.1,()),())with
         |none=>none
         |some v22=>
         be (
          match cw (v22.1,x.1,())with
          |none=>none
          |some v23=>
          some (((IntKind.i64.wrap (Int.tdiv v1 (64:Int))),(Int.tmod (IntKind.i64.wrap (Int.tdiv v2 (8:Int))) (8:Int)),((0:Int),(0:Int),(0:Int),(0:Int),(0:Int),()),v20.1,()),v23.1,()))))
      |false=>
       aD (
        some (((IntKind.i64.wrap (Int.tdiv v1 (64:Int))),(Int.tmod (IntKind.i64.wrap (Int.tdiv v2 (8:Int))) (8:Int)),((0:Int),(0:Int),(0:Int),(0:Int),(0:Int),()),v20.1,()),false,())) (
        aD (
         some (((IntKind.i64.wrap (Int.tdiv v1 (64:Int))),(Int.tmod (IntKind.i64.wrap (Int.tdiv v2 (8:Int))) (8:Int)),((0:Int),(0:Int),(0:Int),(0:Int),(0:Int),()),v20.1,()),false,())) (
         be (
          some (((IntKind.i64.wrap (Int.tdiv v1 (64:Int))),(Int.tmod (IntKind.i64.wrap (Int.tdiv v2 (8:Int))) (8:Int)),((0:Int),(0:Int),(0:Int),(0:Int),(0:Int),()),v20.1,()),false,()))))))
  |false=>
   aD (
    match dt (((IntKind.i64.wrap (Int.tdiv v1 (64:Int))),(Int.tmod (IntKind.i64.wrap (Int.tdiv v2 (8:Int))) (8:Int)),((0:Int),(0:Int),(0:Int),(0:Int),(0:Int),()),[],()),())with
    |none=>none
    |some v24=>
    match v24.1 with
    |true=>
     match cu (((IntKind.i64.wrap (Int.tdiv v1 (64:Int))),(Int.tmod (IntKind.i64.wrap (Int.tdiv v2 (8:Int))) (8:Int)),((0:Int),(0:Int),(0:Int),(0:Int),(0:Int),()),[],()),())with
     |none=>none
     |some v25=>
     match cw (v25.1,x.1,())with
     |none=>none
     |some v26=>
     some (((IntKind.i64.wrap (Int.tdiv v1 (64:Int))),(Int.tmod (IntKind.i64.wrap (Int.tdiv v2 (8:Int))) (8:Int)),((0:Int),(0:Int),(0:Int),(0:Int),(0:Int),()),[],()),v26.1,())
    |false=>
     some (((IntKind.i64.wrap (Int.tdiv v1 (64:Int))),(Int.tmod (IntKind.i64.wrap (Int.tdiv v2 (8:Int))) (8:Int)),((0:Int),(0:Int),(0:Int),(0:Int),(0:Int),()),[],()),false,())) (
    aD (
     match dt (((IntKind.i64.wrap (Int.tdiv v1 (64:Int))),(Int.tmod (IntKind.i64.wrap (Int.tdiv v2 (8:Int))) (8:Int)),((0:Int),(0:Int),(0:Int),(0:Int),(0:Int),()),[],()),())with
     |none=>none
     |some v24=>
     match v24.1 with
     |true=>
      match cu (((IntKind.i64.wrap (Int.tdiv v1 (64:Int))),(Int.tmod (IntKind.i64.wrap (Int.tdiv v2 (8:Int))) (8:Int)),((0:Int),(0:Int),(0:Int),(0:Int),(0:Int),()),[],()),())with
      |none=>none
      |some v25=>
      match cw (v25.1,x.1,())with
      |none=>none
      |some v26=>
      some (((IntKind.i64.wrap (Int.tdiv v1 (64:Int))),(Int.tmod (IntKind.i64.wrap (Int.tdiv v2 (8:Int))) (8:Int)),((0:Int),(0:Int),(0:Int),(0:Int),(0:Int),()),[],()),v26.1,())
     |false=>
      some (((IntKind.i64.wrap (Int.tdiv v1 (64:Int))),(Int.tmod (IntKind.i64.wrap (Int.tdiv v2 (8:Int))) (8:Int)),((0:Int),(0:Int),(0:Int),(0:Int),(0:Int),()),[],()),false,())) (
     match dt (((IntKind.i64.wrap (Int.tdiv v1 (64:Int))),(Int.tmod (IntKind.i64.wrap (Int.tdiv v2 (8:Int))) (8:Int)),((0:Int),(0:Int),(0:Int),(0:Int),(0:Int),()),[],()),())with
     |none=>none
     |some v24=>
     match v24.1 with
     |true=>
      aD (
       match cu (((IntKind.i64.wrap (Int.tdiv v1 (64:Int))),(Int.tmod (IntKind.i64.wrap (Int.tdiv v2 (8:Int))) (8:Int)),((0:Int),(0:Int),(0:Int),(0:Int),(0:Int),()),[],()),())with
       |none=>none
       |some v25=>
       match cw (v25.1,x.1,())with
       |none=>none
       |some v26=>
       some (((IntKind.i64.wrap (Int.tdiv v1 (64:Int))),(Int.tmod (IntKind.i64.wrap (Int.tdiv v2 (8:Int))) (8:Int)),((0:Int),(0:Int),(0:Int),(0:Int),(0:Int),()),[],()),v26.1,())) (
       aD (
        match cu (((IntKind.i64.wrap (Int.tdiv v1 (64:Int))),(Int.tmod (IntKind.i64.wrap (Int.tdiv v2 (8:Int))) (8:Int)),((0:Int),(0:Int),(0:Int),(0:Int),(0:Int),()),[],()),())with
        |none=>none
        |some v25=>
        match cw (v25.1,x.1,())with
        |none=>none
        |some v26=>
        some (((IntKind.i64.wrap (Int.tdiv v1 (64:Int))),(Int.tmod (IntKind.i64.wrap (Int.tdiv v2 (8:Int))) (8:Int)),((0:Int),(0:Int),(0:Int),(0:Int),(0:Int),()),[],()),v26.1,())) (
        match cu (((IntKind.i64.wrap (Int.tdiv v1 (64:Int))),(Int.tmod (IntKind.i64.wrap (Int.tdiv v2 (8:Int))) (8:Int)),((0:Int),(0:Int),(0:Int),(0:Int),(0:Int),()),[],()),())with
        |none=>none
        |some v25=>
        be (
         match cw (v25.1,x.1,())with
         |none=>none
         |some v26=>
         some (((IntKind.i64.wrap (Int.tdiv v1 (64:Int))),(Int.tmod (IntKind.i64.wrap (Int.tdiv v2 (8:Int))) (8:Int)),((0:Int),(0:Int),(0:Int),(0:Int),(0:Int),()),[],()),v26.1,()))))
     |false=>
      aD (
       some (((IntKind.i64.wrap (Int.tdiv v1 (64:Int))),(Int.tmod (IntKind.i64.wrap (Int.tdiv v2 (8:Int))) (8:Int)),((0:Int),(0:Int),(0:Int),(0:Int),(0:Int),()),[],()),false,())) (
       aD (
        some (((IntKind.i64.wrap (Int.tdiv v1 (64:Int))),(Int.tmod (IntKind.i64.wrap (Int.tdiv v2 (8:Int))) (8:Int)),((0:Int),(0:Int),(0:Int),(0:Int),(0:Int),()),[],()),false,())) (
        be (
         some (((IntKind.i64.wrap (Int.tdiv v1 (64:Int))),(Int.tmod (IntKind.i64.wrap (Int.tdiv v2 (8:Int))) (8:Int)),((0:Int),(0:Int),(0:Int),(0:Int),(0:Int),()),[],()),false,()))))))
noncomputable def Wl:ai:=⟨_,Z5,.unit,rfl,yz⟩
theorem Uf:FnOK G0 Tryz.prog 214 Wl:=au av (sg BX (sg lJ (sg J5 (sg tA (sg JL (sg z8 (sg JQ (sg Ue (ba))))))))) Tryz.func214
noncomputable def sY(x:Ty.T aeq):Option (Ty.T Z6):=
match(decide ((IntKind.i64.wrap ((x.1.length:Int)-(3:Int)))<(1:Int)))with
|true=>
 some (((0:Int),(0:Int),((0:Int),(0:Int),(0:Int),(0:Int),(0:Int),()),[],()),(6:Int),())
|false=>
 ac (aI x.1 (IntKind.i64.wrap ((x.1.length:Int)-(3:Int)))) fun v1=>
 ac (aI x.1 (IntKind.i64.wrap ((IntKind.i64.wrap ((x.1.length:Int)-(3:Int)))+(1:Int)))) fun v2=>
 ac (aI x.1 (IntKind.i64.wrap ((IntKind.i64.wrap ((x.1.length:Int)-(3:Int)))+(2:Int)))) fun v3=>
 ac (aI x.1 (0:Int)) fun v4=>
 ac (aZ x.1.length none (some (.dat (.int .i64) (IntKind.i64.wrap ((x.1.length:Int)-(3:Int)))))) fun v5=>
 match mm ((IntKind.i64.wrap (Int.tdiv v4 (64:Int))),(List.drop v5.1 (List.take v5.2 x.1)),x.2.1,(x.2.2.1.1,x.2.2.1.2.1,x.2.2.1.2.2.1,x.2.2.1.2.2.2.1,x.2.2.1.2.2.2.2.1,()),())with
 |none=>none
 |some v6=>
 match(v6.1 != (IntKind.i64.wrap ((IntKind.i64.wrap ((IntKind.i64.wrap (v1*(65536:Int)))+(IntKind.i64.wrap (v2*(256:Int)))))+v3)))with
 |true=>
  some (((0:Int),(0:Int),((0:Int),(0:Int),(0:Int),(0:Int),(0:Int),()),[],()),(7:Int),())
 |false=>
  ac (aZ x.1.length none (some (.dat (.int .i64) (IntKind.i64.wrap ((x.1.length:Int)-(3:Int)))))) fun v7=>
  match yz ((List.drop v7.1 (List.take v7.2 x.1)),())with
  |none=>none
  |some v8=>
  match(!v8.2.1)with
  |true=>
   some (((0:Int),(0:Int),((0:Int),(0:Int),(0:Int),(0:Int),(0:Int),()),[],()),(6:Int),())
  |false=>
   match fD (v8.1.1,())with
   |none=>none
   |some v9=>
   match v9.1 with
   |true=>
    match(!(et ao (v8.1.2.2.1.1,v8.1.2.2.1.2.1,v8.1.2.2.1.2.2.1,v8.1.2.2.1.2.2.2.1,v8.1.2.2.1.2.2.2.2.1,()) (x.2.2.1.1,x.2.2.1.2.1,x.2.2.1.2.2.1,x.2.2.1.2.2.2.1,x.2.2.1.2.2.2.2.1,())))with
    |true=>
     some (((0:Int),(0:Int),((0:Int),(0:Int),(0:Int),(0:Int),(0:Int),()),[],()),(5:Int),())
    |false=>
     some ((v8.1.1,v8.1.2.1,(v8.1.2.2.1.1,v8.1.2.2.1.2.1,v8.1.2.2.1.2.2.1,v8.1.2.2.1.2.2.2.1,v8.1.2.2.1.2.2.2.2.1,()),v8.1.2.2.2.1,()),(0:Int),())
   |false=>
    some ((v8.1.1,v8.1.2.1,(v8.1.2.2.1.1,v8.1.2.2.1.2.1,v8.1.2.2.1.2.2.1,v8.1.2.2.1.2.2.2.1,v8.1.2.2.1.2.2.2.2.1,()),v8.1.2.2.2.1,()),(0:Int),())
noncomputable def X7:ai:=⟨_,Z6,.unit,rfl,sY⟩
theorem Wm:FnOK G0 Tryz.prog 169 X7:=au av (sg lJ (sg Eg (sg Uf (ba)))) Tryz.func169
noncomputable def um(x:Ty.T Vr):Option (Ty.T wN):=
match sY (x.2.2.1,x.1.1,(x.2.1.1,x.2.1.2.1,x.2.1.2.2.1,x.2.1.2.2.2.1,x.2.1.2.2.2.2.1,()),())with
|none=>none
|some v1=>
match(v1.2.1==(0:Int))with
|true=>
 match dJ ((x.1.1,x.1.2.1,x.1.2.2.1,x.1.2.2.2.1,()),(x.2.1.1,x.2.1.2.1,x.2.1.2.2.1,x.2.1.2.2.2.1,x.2.1.2.2.2.2.1,()),())with
 |none=>none
 |some v2=>
 match em (v2.1,(v1.1.1,v1.1.2.1,(v1.1.2.2.1.1,v1.1.2.2.1.2.1,v1.1.2.2.1.2.2.1,v1.1.2.2.1.2.2.2.1,v1.1.2.2.1.2.2.2.2.1,()),v1.1.2.2.2.1,()),())with
 |none=>none
 |some v3=>
 match(!v3.1)with
 |true=>
  match((5:Int) != (0:Int))with
  |true=>
   some (((2:Int),((0:Int),(0:Int),((0:Int),(0:Int),(0:Int),(0:Int),(0:Int),()),[],()),()),(5:Int),())
  |false=>
   some (((3:Int),(v1.1.1,v1.1.2.1,(v1.1.2.2.1.1,v1.1.2.2.1.2.1,v1.1.2.2.1.2.2.1,v1.1.2.2.1.2.2.2.1,v1.1.2.2.1.2.2.2.2.1,()),v1.1.2.2.2.1,()),()),(0:Int),())
 |false=>
  match(v1.2.1 != (0:Int))with
  |true=>
   some (((2:Int),((0:Int),(0:Int),((0:Int),(0:Int),(0:Int),(0:Int),(0:Int),()),[],()),()),v1.2.1,())
  |false=>
   some (((3:Int),(v1.1.1,v1.1.2.1,(v1.1.2.2.1.1,v1.1.2.2.1.2.1,v1.1.2.2.1.2.2.1,v1.1.2.2.1.2.2.2.1,v1.1.2.2.1.2.2.2.2.1,()),v1.1.2.2.2.1,()),()),(0:Int),())
|false=>
 match(v1.2.1 != (0:Int))with
 |true=>
  some (((2:Int),((0:Int),(0:Int),((0:Int),(0:Int),(0:Int),(0:Int),(0:Int),()),[],()),()),v1.2.1,())
 |false=>
  some (((3:Int),(v1.1.1,v1.1.2.1,(v1.1.2.2.1.1,v1.1.2.2.1.2.1,v1.1.2.2.1.2.2.1,v1.1.2.2.1.2.2.2.1,v1.1.2.2.1.2.2.2.2.1,()),v1.1.2.2.2.1,()),()),(0:Int),())
noncomputable def Wn:ai:=⟨_,wN,.unit,rfl,um⟩
theorem Ug:FnOK G0 Tryz.prog 102 Wn:=au av (sg li (sg uC (sg Wm (ba)))) Tryz.func102
noncomputable def ip(x:Ty.T Vr):Option (Ty.T wN):=
match o8 (x.2.2.1,())with
|none=>none
|some v1=>
match(v1.2.1==(0:Int))with
|true=>
 match um ((x.1.1,x.1.2.1,x.1.2.2.1,x.1.2.2.2.1,()),(x.2.1.1,x.2.1.2.1,x.2.1.2.2.1,x.2.1.2.2.2.1,x.2.1.2.2.2.2.1,()),v1.1,())with
 |none=>none
 |some v2=>
 some ((v2.1.1,(v2.1.2.1.1,v2.1.2.1.2.1,(v2.1.2.1.2.2.1.1,v2.1.2.1.2.2.1.2.1,v2.1.2.1.2.2.1.2.2.1,v2.1.2.1.2.2.1.2.2.2.1,v2.1.2.1.2.2.1.2.2.2.2.1,()),v2.1.2.1.2.2.2.1,()),()),v2.2.1,())
|false=>
 match(v1.2.1==(4:Int))with
 |true=>
  some (((0:Int),((0:Int),(0:Int),((0:Int),(0:Int),(0:Int),(0:Int),(0:Int),()),[],()),()),v1.2.1,())
 |false=>
  some (((1:Int),((0:Int),(0:Int),((0:Int),(0:Int),(0:Int),(0:Int),(0:Int),()),[],()),()),v1.2.1,())
noncomputable def R7:ai:=⟨_,wN,.unit,rfl,ip⟩
theorem Qb:FnOK G0 Tryz.prog 57 R7:=au av (sg J2 (sg Ug (ba))) Tryz.func57
abbrev Bt:Ty:=Vt
noncomputable def dW(x:(Ty.T Bt)):Option ((Ty.T Bt) ⊕ ((Ty.T bu) ⊕ (Ty.T .unit))):=
match(decide (x.2.2.2.1<x.2.1))with
|true=>
 match(x.1.1==(5:Int))with
 |true=>
  ac (aI x.2.2.1 x.2.2.2.1) fun _=>
  match x.2.2.1[x.2.2.2.1.toNat]? with
  |none=>none
  |some v3=>
  some (.inl ((x.1.1,x.1.2.1,x.1.2.2.1,x.1.2.2.2.1,()),x.2.1,(x.2.2.1.set x.2.2.2.1.toNat (1:Int)),(IntKind.i64.wrap (x.2.2.2.1+(1:Int))),()))
 |false=>
  match(x.1.1==(6:Int))with
  |true=>
   ac (aI x.2.2.1 x.2.2.2.1) fun _=>
   match x.2.2.1[x.2.2.2.1.toNat]? with
   |none=>none
   |some v5=>
   some (.inl ((x.1.1,x.1.2.1,x.1.2.2.1,x.1.2.2.2.1,()),x.2.1,(x.2.2.1.set x.2.2.2.1.toNat x.1.2.2.2.1),(IntKind.i64.wrap (x.2.2.2.1+(1:Int))),()))
  |false=>
   ac (aI x.2.2.1 x.2.2.2.1) fun _=>
   match x.2.2.1[x.2.2.2.1.toNat]? with
   |none=>none
   |some v7=>
   ac (aI x.2.2.1 x.2.2.2.1) fun _=>
   match x.2.2.1[x.2.2.2.1.toNat]? with
   |none=>none
   |some v9=>
   some (.inl ((x.1.1,x.1.2.1,x.1.2.2.1,x.1.2.2.2.1,()),x.2.1,(x.2.2.1.set x.2.2.2.1.toNat (IntKind.i64.wrap ((1:Int)-v7))),(IntKind.i64.wrap (x.2.2.2.1+(1:Int))),()))
|false=>
 some (.inr (.inl (x.2.2.1,())))
noncomputable def iq(x:Ty.T adg):Option (Unit ⊕ (Ty.T fg)):=
match mn (x.1,())with
|none=>none
|some v1=>
match ak dW ((x.2.1.1,x.2.1.2.1,x.2.1.2.2.1,x.2.1.2.2.2.1,()),x.2.2.2.1,v1.1,x.2.2.1,())with
|none=>none
|some (.inl v2)=>
 some (.inr (v2.1,()))
|some (.inr v4)=>
 none
noncomputable def nj(x:Ty.T adk):Option (Unit ⊕ (Ty.T fg)):=
match(x.2.1.1==(1:Int))with
|true=>
 match iq (x.1,(x.2.1.1,x.2.1.2.1,x.2.1.2.2.1,x.2.1.2.2.2.1,()),x.2.2.2.1,(if(IntKind.i64.wrap (x.2.1.2.1+(1:Int)))<x.2.2.1 then(IntKind.i64.wrap (x.2.1.2.1+(1:Int)))else x.2.2.1),())with
 |none=>none
 |some (.inl v6)=>none
 |some (.inr v5)=>
  some (.inr (v5.1,()))
|false=>
 match(x.2.1.1==(5:Int))with
 |true=>
  match iq (x.1,(x.2.1.1,x.2.1.2.1,x.2.1.2.2.1,x.2.1.2.2.2.1,()),x.2.2.2.1,x.2.2.1,())with
  |none=>none
  |some (.inl v8)=>none
  |some (.inr v7)=>
   some (.inr (v7.1,()))
 |false=>
  match(x.2.1.1==(3:Int))with
  |true=>
   ac (aZ x.1.length none (some (.dat (.int .i64) x.2.2.2.1))) fun v9=>
   ac (aZ x.1.length (some (.dat (.int .i64) x.2.2.2.2.1)) none) fun v10=>
   match mn ((List.drop v9.1 (List.take v9.2 x.1)),())with
   |none=>none
   |some v11=>
   bd (v11.1.length+(List.drop v10.1 (List.take v10.2 x.1)).length) (
    some (.inr ((v11.1++(List.drop v10.1 (List.take v10.2 x.1))),())))
  |false=>
   match(x.2.1.1==(4:Int))with
   |true=>
    match(decide (x.2.1.2.1>x.2.2.1))with
    |true=>
     match mn (x.1,())with
     |none=>none
     |some v12=>
     some (.inr (v12.1,()))
    |false=>
     ac (aZ x.1.length none (some (.dat (.int .i64) x.2.2.2.1))) fun v13=>
     match mn ((List.drop v13.1 (List.take v13.2 x.1)),())with
     |none=>none
     |some v14=>
     match fI (x.2.1.2.2.1,x.2.1.2.2.2.1,())with
     |none=>none
     |some v15=>
     bd (v14.1.length+v15.1.length) (
      ac (aZ x.1.length (some (.dat (.int .i64) x.2.2.2.1)) none) fun v16=>
      bd ((v14.1++v15.1).length+(List.drop v16.1 (List.take v16.2 x.1)).length) (
       ac (aZ ((v14.1++v15.1)++(List.drop v16.1 (List.take v16.2 x.1))).length none (some (.dat (.int .i64) (if(8192:Int)<(((v14.1++v15.1)++(List.drop v16.1 (List.take v16.2 x.1))).length:Int)then(8192:Int)else(((v14.1++v15.1)++(List.drop v16.1 (List.take v16.2 x.1))).length:Int))))) fun v17=>
       some (.inr ((List.drop v17.1 (List.take v17.2 ((v14.1++v15.1)++(List.drop v16.1 (List.take v16.2 x.1))))),()))))
   |false=>
    match iq (x.1,(x.2.1.1,x.2.1.2.1,x.2.1.2.2.1,x.2.1.2.2.2.1,()),x.2.2.2.1,x.2.2.2.2.1,())with
    |none=>none
    |some (.inl v19)=>none
    |some (.inr v18)=>
     some (.inr (v18.1,()))
noncomputable def qr(x:Ty.T aeo):Option (Ty.T fg):=
be (
 match nj (x.1,(x.2.1.1,x.2.1.2.1,x.2.1.2.2.1,x.2.1.2.2.2.1,()),(x.1.length:Int),(if x.2.1.2.1<(x.1.length:Int)then x.2.1.2.1 else(x.1.length:Int)),(if(IntKind.i64.wrap (x.2.1.2.1+x.2.1.2.2.1))<(x.1.length:Int)then(IntKind.i64.wrap (x.2.1.2.1+x.2.1.2.2.1))else(x.1.length:Int)),())with
 |none=>none
 |some (.inl v21)=>none
 |some (.inr v20)=>
  some (v20.1,()))
noncomputable def Ad:ai:=⟨_,fg,.unit,rfl,qr⟩
noncomputable def iI:FuncId→Option ai:=ca [(100,zV),(103,FT)]
theorem Qc:∀f s,iI f=some s→FnOK G0 Tryz.prog f s:=aX ⟨ow,BX,trivial⟩
noncomputable def Bu:List (Nat×aM):=[(3,⟨[0,3,5,6,7],adk,1000003,[],.unit,[4],fg,nj⟩),(16,⟨[0,3,6,7],adg,1000016,[],.unit,[4],fg,iq⟩)]
noncomputable def oC:Nat→Option aM:=Q5 (cF (fe Tryz.f104)) [⟨[3,7,9,10],Vt,1,[9],bu,[],.unit,ak dW⟩] Bu
theorem NN(x):d6 bL E0 iI oC Tryz.f104.ntmps (vO Tryz.f104 2) (eS Tryz.f104.ntmps [0,3,5,6,7] adk x) (yi iI Tryz.f104.ntmps 1000003 [] .unit [4] fg)=nj x:=by kernel_rfl
theorem Lu(x):d6 bL E0 iI oC Tryz.f104.ntmps (vO Tryz.f104 3) (eS Tryz.f104.ntmps [0,3,6,7] adg x) (yi iI Tryz.f104.ntmps 1000016 [] .unit [4] fg)=iq x:=by kernel_rfl
theorem Lv(x):d6 bL E0 iI oC Tryz.f104.ntmps (Q7 Tryz.f104 0) (eS Tryz.f104.ntmps [3,7,9,10] Vt x) (Fw iI Tryz.f104.ntmps [3,7,9,10] Vt 1 [9] bu [] .unit)=dW x:=by kernel_rfl
theorem Uh:FnOK G0 Tryz.prog 104 Ad:=abp (Λ:=oC) av Qc Tryz.func104 (by kernel_rfl) (show Tryz.f104.body=some (fe Tryz.f104) by kernel_rfl) [⟨[3,7,9,10],Vt,1,[9],bu,[],.unit,ak dW⟩] Bu rfl (by kernel_rfl) (by exact⟨Vd (Lv),trivial⟩) (by exact⟨trivial,trivial,Q6 NN,Q6 Lu,trivial,trivial,trivial,trivial,trivial,trivial,trivial,trivial,trivial,trivial,trivial,trivial,trivial,trivial,trivial,trivial,trivial,trivial,trivial,trivial,trivial,trivial,trivial⟩) (by kernel_rfl)
 fun x y h=>(show th bL E0 iI oC Tryz.f104 Ad x=qr x by kernel_rfl).trans h
abbrev vg:Ty:=(.pair (.list bk) (.pair (.list (.int .i64)) (.pair (.int .i64) .unit)))
noncomputable def jc(x:(Ty.T vg)):Option ((Ty.T vg) ⊕ ((Ty.T fg) ⊕ (Ty.T .unit))):=
match(decide (x.2.2.1<(x.1.length:Int)))with
|true=>
 ac (aI x.1 x.2.2.1) fun v2=>
 match qr (x.2.1,v2,())with
 |none=>none
 |some v3=>
 some (.inl (x.1,v3.1,(IntKind.i64.wrap (x.2.2.1+(1:Int))),()))
|false=>
 some (.inr (.inl (x.2.1,())))
noncomputable def kC(x:Ty.T aep):Option (Ty.T fg):=
match mn (x.1,())with
|none=>none
|some v1=>
match ak jc (x.2.1,v1.1,(0:Int),())with
|none=>none
|some (.inl v4)=>
 some (v4.1,())
|some (.inr v6)=>
 none
noncomputable def Wo:ai:=⟨_,fg,.unit,rfl,kC⟩
noncomputable def Hv:FuncId→Option ai:=ca [(103,FT),(104,Ad)]
theorem Qd:∀f s,Hv f=some s→FnOK G0 Tryz.prog f s:=aX ⟨BX,Uh,trivial⟩
def En:bg:=⟨[1,5,6],vg,0,[5],fg,[],.unit⟩
noncomputable def Hw:List aM:=[En.spec jc]
theorem NP:bJ bL E0 Hv (bF Tryz.f58 Hw) Tryz.f58 0 En jc:=fun x=>by kernel_rfl
theorem Ui:FnOK G0 Tryz.prog 58 Wo:=bb av Qd Tryz.func58 Hw (by kernel_rfl) (by exact⟨(NP).lok,trivial⟩) fun x=>by kernel_rfl
noncomputable def wA(x:Ty.T ac9):Option (Ty.T aE):=
match(x.1.1==x.2.1.1)with
|true=>
 match(x.1.2.1==x.2.1.2.1)with
 |true=>
  match(et ao (x.1.2.2.1.1,x.1.2.2.1.2.1,x.1.2.2.1.2.2.1,x.1.2.2.1.2.2.2.1,x.1.2.2.1.2.2.2.2.1,()) (x.2.1.2.2.1.1,x.2.1.2.2.1.2.1,x.2.1.2.2.1.2.2.1,x.2.1.2.2.1.2.2.2.1,x.2.1.2.2.1.2.2.2.2.1,()))with
  |true=>
   match cw (x.1.2.2.2.1,x.2.1.2.2.2.1,())with
   |none=>none
   |some v1=>
   some (v1.1,())
  |false=>
   some (false,())
 |false=>
  some (false,())
|false=>
 some (false,())
noncomputable def X8:ai:=⟨_,aE,.unit,rfl,wA⟩
theorem Wp:FnOK G0 Tryz.prog 105 X8:=au av (sg J5 (ba)) Tryz.func105
end Go.Proofs.YtnambbcafhnhpaaGreatDoor
