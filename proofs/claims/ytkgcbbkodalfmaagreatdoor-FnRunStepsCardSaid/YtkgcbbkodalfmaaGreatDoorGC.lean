import Derived.Test.YtkgcbbkodalfmaaGreatDoorGB
namespace Go.Proofs.YtkgcbbkodalfmaaGreatDoor
open Go.RowKit
set_option linter.unusedVariables false
noncomputable def lp(x:Ty.T adZ):Option (Ty.T ae):=
match cJ ((x.1.1,x.1.2.1,x.1.2.2.1,x.1.2.2.2.1,()),(x.2.1.1,x.2.1.2.1,x.2.1.2.2.1,x.2.1.2.2.2.1,x.2.1.2.2.2.2.1,()),())with
|none=>none
|some v1=>
match du (v1.1,(x.2.2.1.1,x.2.2.1.2.1,(x.2.2.1.2.2.1.1,x.2.2.1.2.2.1.2.1,x.2.2.1.2.2.1.2.2.1,x.2.2.1.2.2.1.2.2.2.1,x.2.2.1.2.2.1.2.2.2.2.1,()),x.2.2.1.2.2.2.1,()),())with
|none=>none
|some v2=>
match v2.1 with
|true=>
 match dL (x.2.2.1.1,())with
 |none=>none
 |some v3=>
 match(!v3.1)with
 |true=>
  some (true,())
 |false=>
  some ((dy ab (x.2.2.1.2.2.1.1,x.2.2.1.2.2.1.2.1,x.2.2.1.2.2.1.2.2.1,x.2.2.1.2.2.1.2.2.2.1,x.2.2.1.2.2.1.2.2.2.2.1,()) (x.2.1.1,x.2.1.2.1,x.2.1.2.2.1,x.2.1.2.2.2.1,x.2.1.2.2.2.2.1,())),())
|false=>
 some (false,())
noncomputable def wW:Spec:=⟨_,ae,.unit,rfl,lp⟩
theorem Iv:FnOK G0 Tryz.prog 155 wW:=ap ao (sg gT (sg jp (sg qy (aJ)))) Tryz.func155
abbrev abj:Ty:=(.pair (.box ac) (.pair (.box ab) (.pair (.box au) (.pair (.own 2 (.int .i64)) (.pair (.int .i64) .unit)))))
abbrev acK:Ty:=afR
noncomputable def dv(x:(Ty.T abj)):Option ((Ty.T abj) ⊕ ((Ty.T acK) ⊕ (Ty.T la))):=
match(decide (x.2.2.2.2.1<(2:Int)))with
|true=>
 aa (aq x.2.2.2.1 x.2.2.2.2.1) fun _=>
 match x.2.2.2.1[x.2.2.2.2.1.toNat]? with
 |none=>none
 |some v2=>
 aI (
  match tZ (x.1,x.2.1,x.2.2.1.1,v2,())with
  |none=>none
  |some v3=>
  match lp (x.1,x.2.1,v3.1,())with
  |none=>none
  |some v4=>
  match v4.1 with
  |true=>
   match p8 (x.1,x.2.1,v3.1,())with
   |none=>none
   |some v5=>
   match mq (v5.1,())with
   |none=>none
   |some v6=>
   some (.inr (.inr (v6.1,())))
  |false=>
   some (.inl (x.1,x.2.1,x.2.2.1,x.2.2.2.1,(IntKind.i64.wrap (x.2.2.2.2.1+(1:Int))),())))
|false=>
 some (.inr (.inl (x.1,x.2.1,())))
noncomputable def p9(x:Ty.T aeS):Option (Ty.T la):=
match ag dv (x.1,x.2.1,x.2.2.1,[x.2.2.1.2.1,(0:Int)],(0:Int),())with
|none=>none
|some (.inl v7)=>
 match cJ v7 with
 |none=>none
 |some v9=>
 match dQ ((IntKind.i64.wrap ((8:Int)*v9.1.2.2.2.1)),(1:Int),())with
 |none=>none
 |some v10=>
 some (v10.1,())
|some (.inr v8)=>
 some (v8.1,())
noncomputable def MB:Spec:=⟨_,la,.unit,rfl,p9⟩
noncomputable def wX:FuncId→Option Spec:=bh [(84,xP),(95,Ed),(98,y4),(99,Ek),(153,vr),(155,wW)]
theorem FV:∀f s,wX f=some s→FnOK G0 Tryz.prog f s:=aF ⟨gT,OJ,KB,OO,ll,Iv,trivial⟩
def vA:aO:=⟨[3,4,5,7,8],abj,0,[3,4],acK,[6],la⟩
noncomputable def wY:List ay:=[vA.spec dv]
theorem Eo:bc bd E0 wX (ba Tryz.f133 wY) Tryz.f133 0 vA dv:=fun x=>by kernel_rfl
theorem KI:FnOK G0 Tryz.prog 133 MB:=aH ao FV Tryz.func133 wY (by kernel_rfl) (by exact⟨(Eo).lok,trivial⟩) fun x=>by kernel_rfl
noncomputable def vB(x:Ty.T Fn):Option (Ty.T ae):=
match qL (x.1,(8192:Int),(1:Int),())with
|none=>none
|some v1=>
some (v1.1,())
noncomputable def UM:Spec:=⟨_,ae,.unit,rfl,vB⟩
theorem GO:FnOK G0 Tryz.prog 102 UM:=ap ao (sg GN (aJ)) Tryz.func102
noncomputable def fJ(x:(Ty.T y_6)):Option ((Ty.T y_6) ⊕ ((Ty.T .unit) ⊕ (Ty.T et))):=
match(decide (x.2.2.1<(x.1.length:Int)))with
|true=>
 aa (aq x.1 x.2.2.1) fun v1=>
 match(v1==x.2.1)with
 |true=>
  some (.inr (.inr (x.2.2.1,())))
 |false=>
  some (.inl (x.1,x.2.1,(IntKind.i64.wrap (x.2.2.1+(1:Int))),()))
|false=>
 some (.inr (.inl (())))
noncomputable def cF(x:Ty.T y_6):Option (Ty.T et):=
match ag fJ (x.1,x.2.2.1,(IntKind.i64.wrap (x.2.1+(1:Int))),())with
|none=>none
|some (.inl v2)=>
 some ((-1:Int),())
|some (.inr v3)=>
 some (v3.1,())
noncomputable def Ep:Spec:=⟨_,et,.unit,rfl,cF⟩
noncomputable def B4:FuncId→Option Spec:=bh []
theorem KJ:∀f s,B4 f=some s→FnOK G0 Tryz.prog f s:=aF trivial
def ze:aO:=⟨[0,2,7],y_6,0,[],.unit,[6],et⟩
noncomputable def B5:List ay:=[ze.spec fJ]
theorem Iw:bc bd E0 B4 (ba Tryz.f324 B5) Tryz.f324 0 ze fJ:=fun x=>by kernel_rfl
theorem sH:FnOK G0 Tryz.prog 324 Ep:=aH ao KJ Tryz.func324 B5 (by kernel_rfl) (by exact⟨(Iw).lok,trivial⟩) fun x=>by kernel_rfl
noncomputable def qa(x:Ty.T et):Option (Ty.T et):=
some ((IntKind.i64.wrap (Int.tdiv (IntKind.i64.wrap (x.1+(4:Int))) (8:Int))),())
noncomputable def QI:Spec:=⟨_,et,.unit,rfl,qa⟩
theorem OQ:FnOK G0 Tryz.prog 325 QI:=ap ao aJ Tryz.func325
noncomputable def lq(x:Ty.T et):Option (Ty.T ae):=
match bp (x.1,(3:Int),(15:Int),())with
|none=>none
|some v1=>
some (v1.1,())
noncomputable def KK:Spec:=⟨_,ae,.unit,rfl,lq⟩
theorem Ix:FnOK G0 Tryz.prog 326 KK:=ap ao (sg cD (aJ)) Tryz.func326
noncomputable def pb(x:Ty.T y_9):Option (Ty.T et):=
match cF (x.1,(IntKind.i64.wrap (x.2.1+(11:Int))),(0:Int),())with
|none=>none
|some v1=>
match(decide (v1.1≥(0:Int)))with
|true=>
 some ((6:Int),())
|false=>
 some ((0:Int),())
noncomputable def GP:Spec:=⟨_,et,.unit,rfl,pb⟩
theorem Er:FnOK G0 Tryz.prog 327 GP:=ap ao (sg sH (aJ)) Tryz.func327
noncomputable def zf(x:Ty.T y_9):Option (Ty.T et):=
match(decide (x.2.1≥(x.1.length:Int)))with
|true=>
 some ((1:Int),())
|false=>
 aa (aq x.1 x.2.1) fun v1=>
 some (v1,())
noncomputable def Es:Spec:=⟨_,et,.unit,rfl,zf⟩
theorem KL:FnOK G0 Tryz.prog 311 Es:=ap ao aJ Tryz.func311
abbrev abT:Ty:=(.pair (.list (.int .i64)) (.pair (.int .i64) (.pair (.own 2 (.int .i64)) .unit)))
noncomputable def de(x:(Ty.T abT)):Option ((Ty.T abT) ⊕ ((Ty.T .unit) ⊕ (Ty.T y_5))):=
aA (x.2.2.1.length+ [x.2.1].length) (
 match zf (x.1,(IntKind.i64.wrap (x.2.1+(76:Int))),())with
 |none=>none
 |some v1=>
 match(v1.1==(0:Int))with
 |true=>
  match pb (x.1,(IntKind.i64.wrap (x.2.1+(72:Int))),())with
  |none=>none
  |some v2=>
  some (.inr (.inr ((x.2.2.1++ [x.2.1]),v2.1,())))
 |false=>
  match cF (x.1,(IntKind.i64.wrap (x.2.1+(76:Int))),(0:Int),())with
  |none=>none
  |some v3=>
  match(decide (v3.1<(0:Int)))with
  |true=>
   some (.inr (.inr ([],(6:Int),())))
  |false=>
   match(decide (v3.1>(IntKind.i64.wrap (x.2.1+(84:Int)))))with
   |true=>
    some (.inr (.inr ([],(6:Int),())))
   |false=>
    some (.inl (x.1,v3.1,(x.2.2.1++ [x.2.1]),())))
noncomputable def qb(x:Ty.T y_9):Option (Ty.T y_5):=
match ag de (x.1,x.2.1,[],())with
|none=>none
|some (.inl v4)=>
 none
|some (.inr v5)=>
 some (v5.1,v5.2.1,())
noncomputable def QJ:Spec:=⟨_,y_5,.unit,rfl,qb⟩
noncomputable def B6:FuncId→Option Spec:=bh [(311,Es),(324,Ep),(327,GP)]
theorem KM:∀f s,B6 f=some s→FnOK G0 Tryz.prog f s:=aF ⟨KL,sH,Er,trivial⟩
def zg:aO:=⟨[0,1,6],abT,999999,[],.unit,[4,5],y_5⟩
noncomputable def B7:List ay:=[zg.spec de]
theorem Iy:bc bd E0 B6 (ba Tryz.f328 B7) Tryz.f328 0 zg de:=fun x=>by kernel_rfl
theorem OS:FnOK G0 Tryz.prog 328 QJ:=aH ao KM Tryz.func328 B7 (by kernel_rfl) (by exact⟨(Iy).lok,trivial⟩) fun x=>by kernel_rfl
noncomputable def Ar(x:Ty.T Fn):Option (Ty.T (.pair mK .unit)):=
match cF (x.1,(-1:Int),(0:Int),())with
|none=>none
|some v1=>
match(decide (v1.1<(0:Int)))with
|true=>
 some (((0:Int),[],(4:Int),()),())
|false=>
 match cF (x.1,v1.1,(1:Int),())with
 |none=>none
 |some v2=>
 match(decide (v2.1<(0:Int)))with
 |true=>
  match qa ((IntKind.i64.wrap ((x.1.length:Int)-v1.1)),())with
  |none=>none
  |some v3=>
  match cF (x.1,(x.1.length:Int),(0:Int),())with
  |none=>none
  |some v4=>
  match lq (v3.1,())with
  |none=>none
  |some v5=>
  match(!v5.1)with
  |true=>
   some (((0:Int),[],(6:Int),()),())
  |false=>
   match(decide (v4.1<(0:Int)))with
   |true=>
    some (((0:Int),[],(6:Int),()),())
   |false=>
    match(decide ((IntKind.i64.wrap (v4.1-(x.1.length:Int)))>(19:Int)))with
    |true=>
     some (((0:Int),[],(6:Int),()),())
    |false=>
     match(decide ((IntKind.i64.wrap (v4.1-(x.1.length:Int)))<(5:Int)))with
     |true=>
      some (((0:Int),[],(6:Int),()),())
     |false=>
      match((IntKind.i64.wrap (v4.1-(x.1.length:Int)))==(12:Int))with
      |true=>
       some (((0:Int),[],(6:Int),()),())
      |false=>
       match(decide ((IntKind.i64.wrap (v4.1-(x.1.length:Int)))<(12:Int)))with
       |true=>
        match pb (x.1,v4.1,())with
        |none=>none
        |some v6=>
        some ((v3.1,[],v6.1,()),())
       |false=>
        match qb (x.1,v4.1,())with
        |none=>none
        |some v7=>
        some ((v3.1,v7.1,v7.2.1,()),())
 |false=>
  match qa ((IntKind.i64.wrap (v2.1-v1.1)),())with
  |none=>none
  |some v8=>
  match cF (x.1,v2.1,(0:Int),())with
  |none=>none
  |some v9=>
  match lq (v8.1,())with
  |none=>none
  |some v10=>
  match(!v10.1)with
  |true=>
   some (((0:Int),[],(6:Int),()),())
  |false=>
   match(decide (v9.1<(0:Int)))with
   |true=>
    some (((0:Int),[],(6:Int),()),())
   |false=>
    match(decide ((IntKind.i64.wrap (v9.1-v2.1))>(19:Int)))with
    |true=>
     some (((0:Int),[],(6:Int),()),())
    |false=>
     match(decide ((IntKind.i64.wrap (v9.1-v2.1))<(5:Int)))with
     |true=>
      some (((0:Int),[],(6:Int),()),())
     |false=>
      match((IntKind.i64.wrap (v9.1-v2.1))==(12:Int))with
      |true=>
       some (((0:Int),[],(6:Int),()),())
      |false=>
       match(decide ((IntKind.i64.wrap (v9.1-v2.1))<(12:Int)))with
       |true=>
        match pb (x.1,v9.1,())with
        |none=>none
        |some v11=>
        some ((v8.1,[],v11.1,()),())
       |false=>
        match qb (x.1,v9.1,())with
        |none=>none
        |some v12=>
        some ((v8.1,v12.1,v12.2.1,()),())
noncomputable def UN:Spec:=⟨_,(.pair mK .unit),.unit,rfl,Ar⟩
theorem SS:FnOK G0 Tryz.prog 310 UN:=ap ao (sg sH (sg OQ (sg Ix (sg Er (sg OS (aJ)))))) Tryz.func310
noncomputable def wZ(x:Ty.T Fn):Option (Ty.T afO):=
match vB (x.1,())with
|none=>none
|some v1=>
match(!v1.1)with
|true=>
 some (((0:Int),[],(0:Int),()),(1:Int),())
|false=>
 match Ar (x.1,())with
 |none=>none
 |some v2=>
 some ((v2.1.1,v2.1.2.1,v2.1.2.2.1,()),v2.1.2.2.1,())
noncomputable def ST:Spec:=⟨_,afO,.unit,rfl,wZ⟩
theorem QK:FnOK G0 Tryz.prog 287 ST:=ap ao (sg GO (sg SS (aJ))) Tryz.func287
abbrev abU:Ty:=(.pair (.list (.int .i64)) (.pair (.list (.int .i64)) (.pair (.own 2 (.int .i64)) (.pair (.int .i64) an))))
abbrev ac1:Ty:=afZ
noncomputable def gD(x:(Ty.T abU)):Option ((Ty.T abU) ⊕ ((Ty.T ac1) ⊕ (Ty.T .unit))):=
match(decide (x.2.2.2.2.2.1<(8:Int)))with
|true=>
 aa (aq x.2.1 x.2.2.2.1) fun v1=>
 match zf (x.1,(IntKind.i64.wrap ((IntKind.i64.wrap (v1+(IntKind.i64.wrap ((8:Int)*x.2.2.2.2.2.1))))+(12:Int))),())with
 |none=>none
 |some v2=>
 some (.inl (x.1,x.2.1,x.2.2.1,x.2.2.2.1,(IntKind.i64.wrap ((IntKind.i64.wrap ((2:Int)*x.2.2.2.2.1))+v2.1)),(IntKind.i64.wrap (x.2.2.2.2.2.1+(1:Int))),()))
|false=>
 some (.inr (.inl (x.1,x.2.1,x.2.2.1,x.2.2.2.1,x.2.2.2.2.1,())))
abbrev abV:Ty:=afx
noncomputable def gE(x:(Ty.T abV)):Option ((Ty.T abV) ⊕ ((Ty.T la) ⊕ (Ty.T .unit))):=
match(decide (x.2.2.2.1<(x.2.1.length:Int)))with
|true=>
 match ag gD (x.1,x.2.1,x.2.2.1,x.2.2.2.1,(0:Int),(0:Int),())with
 |none=>none
 |some (.inl v1)=>
  aA (v1.2.2.1.length+ [v1.2.2.2.2.1].length) (
   some (.inl (v1.1,v1.2.1,(v1.2.2.1++ [v1.2.2.2.2.1]),(IntKind.i64.wrap (v1.2.2.2.1+(1:Int))),())))
 |some (.inr v3)=>
  some (.inr (.inr (())))
|false=>
 some (.inr (.inl (x.2.2.1,())))
noncomputable def qc(x:Ty.T aeh):Option (Ty.T la):=
match ag gE (x.1,x.2.1,[],(0:Int),())with
|none=>none
|some (.inl v4)=>
 some (v4.1,())
|some (.inr v6)=>
 none
noncomputable def QL:Spec:=⟨_,la,.unit,rfl,qc⟩
noncomputable def sI:FuncId→Option Spec:=bh [(311,Es)]
theorem KN:∀f s,sI f=some s→FnOK G0 Tryz.prog f s:=aF ⟨KL,trivial⟩
def zh:aO:=⟨[0,1,5,6],abV,0,[5],la,[],.unit⟩
def zi:aO:=⟨[0,1,5,6,7,8],abU,2,[0,1,5,6,7],ac1,[],.unit⟩
noncomputable def sJ:List ay:=[zh.spec gE,zi.spec gD]
theorem Iz:bc bd E0 sI (ba Tryz.f288 sJ) Tryz.f288 0 zh gE:=fun x=>by kernel_rfl
theorem IA:bc bd E0 sI (ba Tryz.f288 sJ) Tryz.f288 1 zi gD:=fun x=>by kernel_rfl
theorem OT:FnOK G0 Tryz.prog 288 QL:=aH ao KN Tryz.func288 sJ (by kernel_rfl) (by exact⟨(Iz).lok,(IA).lok,trivial⟩) fun x=>by kernel_rfl
noncomputable def ob(x:Ty.T Fn):Option (Ty.T y_5):=
match wZ (x.1,())with
|none=>none
|some v1=>
match(v1.2.1 != (0:Int))with
|true=>
 some ([],v1.2.1,())
|false=>
 match qc (x.1,v1.1.2.1,())with
 |none=>none
 |some v2=>
 some (v2.1,(0:Int),())
noncomputable def KO:Spec:=⟨_,y_5,.unit,rfl,ob⟩
theorem IB:FnOK G0 Tryz.prog 249 KO:=ap ao (sg QK (sg OT (aJ))) Tryz.func249
abbrev acj:Ty:=afp
noncomputable def fl(x:(Ty.T acj)):Option ((Ty.T acj) ⊕ ((Ty.T et) ⊕ (Ty.T .unit))):=
match(decide (x.2.2.2.1≤x.2.1))with
|true=>
 match(decide (x.2.2.2.1<(0:Int)))with
 |true=>
  some (.inl (x.1,x.2.1,(IntKind.i64.wrap (x.2.2.1+(1:Int))),(IntKind.i64.wrap (x.2.2.2.1+(1:Int))),()))
 |false=>
  aa (aq x.1 x.2.2.2.1) fun v1=>
  some (.inl (x.1,x.2.1,(IntKind.i64.wrap (x.2.2.1+v1)),(IntKind.i64.wrap (x.2.2.2.1+(1:Int))),()))
|false=>
 some (.inr (.inl (x.2.2.1,())))
noncomputable def w6(x:Ty.T y_9):Option (Ty.T et):=
match ag fl (x.1,x.2.1,(0:Int),(IntKind.i64.wrap ((IntKind.i64.wrap (x.2.1-(5:Int)))+(1:Int))),())with
|none=>none
|some (.inl v2)=>
 some (v2.1,())
|some (.inr v4)=>
 none
noncomputable def GQ:Spec:=⟨_,et,.unit,rfl,w6⟩
noncomputable def Et:FuncId→Option Spec:=bh []
theorem MC:∀f s,Et f=some s→FnOK G0 Tryz.prog f s:=aF trivial
def B8:aO:=⟨[0,1,5,6],acj,0,[5],et,[],.unit⟩
noncomputable def Eu:List ay:=[B8.spec fl]
theorem KP:bc bd E0 Et (ba Tryz.f289 Eu) Tryz.f289 0 B8 fl:=fun x=>by kernel_rfl
theorem QM:FnOK G0 Tryz.prog 289 GQ:=aH ao MC Tryz.func289 Eu (by kernel_rfl) (by exact⟨(KP).lok,trivial⟩) fun x=>by kernel_rfl
abbrev ack:Ty:=aej
noncomputable def ir(x:(Ty.T ack)):Option ((Ty.T ack) ⊕ ((Ty.T la) ⊕ (Ty.T .unit))):=
match(decide (x.2.2.1<(x.1.length:Int)))with
|true=>
 match w6 (x.1,x.2.2.1,())with
 |none=>none
 |some v1=>
 match(decide (v1.1≥(3:Int)))with
 |true=>
  aA (x.2.1.length+ [(1:Int)].length) (
   some (.inl (x.1,(x.2.1++ [(1:Int)]),(IntKind.i64.wrap (x.2.2.1+(1:Int))),())))
 |false=>
  aA (x.2.1.length+ [(0:Int)].length) (
   some (.inl (x.1,(x.2.1++ [(0:Int)]),(IntKind.i64.wrap (x.2.2.1+(1:Int))),())))
|false=>
 some (.inr (.inl (x.2.1,())))
noncomputable def w7(x:Ty.T Fn):Option (Ty.T la):=
match ag ir (x.1,[],(0:Int),())with
|none=>none
|some (.inl v2)=>
 some (v2.1,())
|some (.inr v4)=>
 none
noncomputable def SU:Spec:=⟨_,la,.unit,rfl,w7⟩
noncomputable def Ev:FuncId→Option Spec:=bh [(289,GQ)]
theorem MD:∀f s,Ev f=some s→FnOK G0 Tryz.prog f s:=aF ⟨QM,trivial⟩
def B9:aO:=⟨[0,3,4],ack,0,[3],la,[],.unit⟩
noncomputable def Ew:List ay:=[B9.spec ir]
theorem KQ:bc bd E0 Ev (ba Tryz.f250 Ew) Tryz.f250 0 B9 ir:=fun x=>by kernel_rfl
theorem QN:FnOK G0 Tryz.prog 250 SU:=aH ao MD Tryz.func250 Ew (by kernel_rfl) (by exact⟨(KQ).lok,trivial⟩) fun x=>by kernel_rfl
noncomputable def lG(x:Ty.T Fn):Option (Ty.T y_5):=
match vB (x.1,())with
|none=>none
|some v1=>
match(!v1.1)with
|true=>
 some ([],(1:Int),())
|false=>
 match w7 (x.1,())with
 |none=>none
 |some v2=>
 match ob (v2.1,())with
 |none=>none
 |some v3=>
 some (v3.1,v3.2.1,())
noncomputable def FW:Spec:=⟨_,y_5,.unit,rfl,lG⟩
theorem Ey:FnOK G0 Tryz.prog 193 FW:=ap ao (sg GO (sg IB (sg QN (aJ)))) Tryz.func193
noncomputable def t7(x:Ty.T Fn):Option (Ty.T y_7):=
match cU (x.1,(0:Int),(16:Int),())with
|none=>none
|some v1=>
match cU (x.1,(16:Int),(4:Int),())with
|none=>none
|some v2=>
match cU (x.1,(20:Int),(4:Int),())with
|none=>none
|some v3=>
match cU (x.1,(24:Int),(8:Int),())with
|none=>none
|some v4=>
match cU (x.1,(32:Int),(32:Int),())with
|none=>none
|some v5=>
some ((v1.1,v2.1,v3.1,v4.1,v5.1,()),())
noncomputable def QO:Spec:=⟨_,y_7,.unit,rfl,t7⟩
theorem OU:FnOK G0 Tryz.prog 312 QO:=ap ao (sg y8 (aJ)) Tryz.func312
noncomputable def t8(x:Ty.T Fn):Option (Ty.T aeW):=
match((x.1.length:Int)==(0:Int))with
|true=>
 some (((0:Int),(0:Int),((0:Int),(0:Int),(0:Int),(0:Int),(0:Int),()),[],()),false,())
|false=>
 aa (aq x.1 (0:Int)) fun v1=>
 aa (aq x.1 (0:Int)) fun v2=>
 aI (
  aa (aL x.1.length (some (.dat (.int .i64) (1:Int))) none) fun v3=>
  match dL ((IntKind.i64.wrap (Int.tdiv v1 (64:Int))),())with
  |none=>none
  |some v4=>
  match v4.1 with
  |true=>
   match(decide (((List.drop v3.1 (List.take v3.2 x.1)).length:Int)<(8:Int)))with
   |true=>
    some (((0:Int),(0:Int),((0:Int),(0:Int),(0:Int),(0:Int),(0:Int),()),[],()),false,())
   |false=>
    aa (aL (List.drop v3.1 (List.take v3.2 x.1)).length none (some (.dat (.int .i64) (8:Int)))) fun v5=>
    match kC ((List.drop v5.1 (List.take v5.2 (List.drop v3.1 (List.take v3.2 x.1)))),())with
    |none=>none
    |some v6=>
    match t7 (v6.1,())with
    |none=>none
    |some v7=>
    aa (aL (List.drop v3.1 (List.take v3.2 x.1)).length (some (.dat (.int .i64) (8:Int))) none) fun v8=>
    match gQ ((IntKind.i64.wrap (Int.tdiv v1 (64:Int))),())with
    |none=>none
    |some v9=>
    match v9.1 with
    |true=>
     match(((List.drop v8.1 (List.take v8.2 (List.drop v3.1 (List.take v3.2 x.1)))).length:Int)==(0:Int))with
     |true=>
      some (((0:Int),(0:Int),((0:Int),(0:Int),(0:Int),(0:Int),(0:Int),()),[],()),false,())
     |false=>
      aa (aL (List.drop v8.1 (List.take v8.2 (List.drop v3.1 (List.take v3.2 x.1)))).length (some (.dat (.int .i64) (1:Int))) none) fun v10=>
      match jP ((List.drop v10.1 (List.take v10.2 (List.drop v8.1 (List.take v8.2 (List.drop v3.1 (List.take v3.2 x.1)))))),())with
      |none=>none
      |some v11=>
      aQ (
       match cL (((IntKind.i64.wrap (Int.tdiv v1 (64:Int))),(Int.tmod (IntKind.i64.wrap (Int.tdiv v2 (8:Int))) (8:Int)),(v7.1.1,v7.1.2.1,v7.1.2.2.1,v7.1.2.2.2.1,v7.1.2.2.2.2.1,()),v11.1,()),())with
       |none=>none
       |some v12=>
       match v12.1 with
       |true=>
        match bJ (((IntKind.i64.wrap (Int.tdiv v1 (64:Int))),(Int.tmod (IntKind.i64.wrap (Int.tdiv v2 (8:Int))) (8:Int)),(v7.1.1,v7.1.2.1,v7.1.2.2.1,v7.1.2.2.2.1,v7.1.2.2.2.2.1,()),v11.1,()),())with
        |none=>none
        |some v13=>
        match bI (v13.1,x.1,())with
        |none=>none
        |some v14=>
        some (((IntKind.i64.wrap (Int.tdiv v1 (64:Int))),(Int.tmod (IntKind.i64.wrap (Int.tdiv v2 (8:Int))) (8:Int)),(v7.1.1,v7.1.2.1,v7.1.2.2.1,v7.1.2.2.2.1,v7.1.2.2.2.2.1,()),v11.1,()),v14.1,())
       |false=>
        some (((IntKind.i64.wrap (Int.tdiv v1 (64:Int))),(Int.tmod (IntKind.i64.wrap (Int.tdiv v2 (8:Int))) (8:Int)),(v7.1.1,v7.1.2.1,v7.1.2.2.1,v7.1.2.2.2.1,v7.1.2.2.2.2.1,()),v11.1,()),false,())) (
       aQ (
        match cL (((IntKind.i64.wrap (Int.tdiv v1 (64:Int))),(Int.tmod (IntKind.i64.wrap (Int.tdiv v2 (8:Int))) (8:Int)),(v7.1.1,v7.1.2.1,v7.1.2.2.1,v7.1.2.2.2.1,v7.1.2.2.2.2.1,()),v11.1,()),())with
        |none=>none
        |some v12=>
        match v12.1 with
        |true=>
         match bJ (((IntKind.i64.wrap (Int.tdiv v1 (64:Int))),(Int.tmod (IntKind.i64.wrap (Int.tdiv v2 (8:Int))) (8:Int)),(v7.1.1,v7.1.2.1,v7.1.2.2.1,v7.1.2.2.2.1,v7.1.2.2.2.2.1,()),v11.1,()),())with
         |none=>none
         |some v13=>
         match bI (v13.1,x.1,())with
         |none=>none
         |some v14=>
         some (((IntKind.i64.wrap (Int.tdiv v1 (64:Int))),(Int.tmod (IntKind.i64.wrap (Int.tdiv v2 (8:Int))) (8:Int)),(v7.1.1,v7.1.2.1,v7.1.2.2.1,v7.1.2.2.2.1,v7.1.2.2.2.2.1,()),v11.1,()),v14.1,())
        |false=>
         some (((IntKind.i64.wrap (Int.tdiv v1 (64:Int))),(Int.tmod (IntKind.i64.wrap (Int.tdiv v2 (8:Int))) (8:Int)),(v7.1.1,v7.1.2.1,v7.1.2.2.1,v7.1.2.2.2.1,v7.1.2.2.2.2.1,()),v11.1,()),false,())) (
        match cL (((IntKind.i64.wrap (Int.tdiv v1 (64:Int))),(Int.tmod (IntKind.i64.wrap (Int.tdiv v2 (8:Int))) (8:Int)),(v7.1.1,v7.1.2.1,v7.1.2.2.1,v7.1.2.2.2.1,v7.1.2.2.2.2.1,()),v11.1,()),())with
        |none=>none
        |some v12=>
        match v12.1 with
        |true=>
         aQ (
          match bJ (((IntKind.i64.wrap (Int.tdiv v1 (64:Int))),(Int.tmod (IntKind.i64.wrap (Int.tdiv v2 (8:Int))) (8:Int)),(v7.1.1,v7.1.2.1,v7.1.2.2.1,v7.1.2.2.2.1,v7.1.2.2.2.2.1,()),v11.1,()),())with
          |none=>none
          |some v13=>
          match bI (v13.1,x.1,())with
          |none=>none
          |some v14=>
          some (((IntKind.i64.wrap (Int.tdiv v1 (64:Int))),(Int.tmod (IntKind.i64.wrap (Int.tdiv v2 (8:Int))) (8:Int)),(v7.1.1,v7.1.2.1,v7.1.2.2.1,v7.1.2.2.2.1,v7.1.2.2.2.2.1,()),v11.1,()),v14.1,())) (
          aQ (
           match bJ (((IntKind.i64.wrap (Int.tdiv v1 (64:Int))),(Int.tmod (IntKind.i64.wrap (Int.tdiv v2 (8:Int))) (8:Int)),(v7.1.1,v7.1.2.1,v7.1.2.2.1,v7.1.2.2.2.1,v7.1.2.2.2.2.1,()),v11.1,()),())with
           |none=>none
           |some v13=>
           match bI (v13.1,x.1,())with
           |none=>none
           |some v14=>
           some (((IntKind.i64.wrap (Int.tdiv v1 (64:Int))),(Int.tmod (IntKind.i64.wrap (Int.tdiv v2 (8:Int))) (8:Int)),(v7.1.1,v7.1.2.1,v7.1.2.2.1,v7.1.2.2.2.1,v7.1.2.2.2.2.1,()),v11.1,()),v14.1,())) (
           match bJ (((IntKind.i64.wrap (Int.tdiv v1 (64:Int))),(Int.tmod (IntKind.i64.wrap (Int.tdiv v2 (8:Int))) (8:Int)),(v7.1.1,v7.1.2.1,v7.1.2.2.1,v7.1.2.2.2.1,v7.1.2.2.2.2.1,()),v11.1,()),())with
           |none=>none
           |some v13=>
           aI (
            match bI (v13.1,x.1,())with
            |none=>none
            |some v14=>
            some (((IntKind.i64.wrap (Int.tdiv v1 (64:Int))),(Int.tmod (IntKind.i64.wrap (Int.tdiv v2 (8:Int))) (8:Int)),(v7.1.1,v7.1.2.1,v7.1.2.2.1,v7.1.2.2.2.1,v7.1.2.2.2.2.1,()),v11.1,()),v14.1,()))))
        |false=>
         aQ (
          some (((IntKind.i64.wrap (Int.tdiv v1 (64:Int))),(Int.tmod (IntKind.i64.wrap (Int.tdiv v2 (8:Int))) (8:Int)),(v7.1.1,v7.1.2.1,v7.1.2.2.1,v7.1.2.2.2.1,v7.1.2.2.2.2.1,()),v11.1,()),false,())) (
          aQ (
           some (((IntKind.i64.wrap (Int.tdiv v1 (64:Int))),(Int.tmod (IntKind.i64.wrap (Int.tdiv v2 (8:Int))) (8:Int)),(v7.1.1,v7.1.2.1,v7.1.2.2.1,v7.1.2.2.2.1,v7.1.2.2.2.2.1,()),v11.1,()),false,())) (
           aI (
            some (((IntKind.i64.wrap (Int.tdiv v1 (64:Int))),(Int.tmod (IntKind.i64.wrap (Int.tdiv v2 (8:Int))) (8:Int)),(v7.1.1,v7.1.2.1,v7.1.2.2.1,v7.1.2.2.2.1,v7.1.2.2.2.2.1,()),v11.1,()),false,()))))))
    |false=>
     aQ (
      match cL (((IntKind.i64.wrap (Int.tdiv v1 (64:Int))),(Int.tmod (IntKind.i64.wrap (Int.tdiv v2 (8:Int))) (8:Int)),(v7.1.1,v7.1.2.1,v7.1.2.2.1,v7.1.2.2.2.1,v7.1.2.2.2.2.1,()),[],()),())with
      |none=>none
      |some v15=>
      match v15.1 with
      |true=>
       match bJ (((IntKind.i64.wrap (Int.tdiv v1 (64:Int))),(Int.tmod (IntKind.i64.wrap (Int.tdiv v2 (8:Int))) (8:Int)),(v7.1.1,v7.1.2.1,v7.1.2.2.1,v7.1.2.2.2.1,v7.1.2.2.2.2.1,()),[],()),())with
       |none=>none
       |some v16=>
       match bI (v16.1,x.1,())with
       |none=>none
       |some v17=>
       some (((IntKind.i64.wrap (Int.tdiv v1 (64:Int))),(Int.tmod (IntKind.i64.wrap (Int.tdiv v2 (8:Int))) (8:Int)),(v7.1.1,v7.1.2.1,v7.1.2.2.1,v7.1.2.2.2.1,v7.1.2.2.2.2.1,()),[],()),v17.1,())
      |false=>
       some (((IntKind.i64.wrap (Int.tdiv v1 (64:Int))),(Int.tmod (IntKind.i64.wrap (Int.tdiv v2 (8:Int))) (8:Int)),(v7.1.1,v7.1.2.1,v7.1.2.2.1,v7.1.2.2.2.1,v7.1.2.2.2.2.1,()),[],()),false,())) (
      aQ (
       match cL (((IntKind.i64.wrap (Int.tdiv v1 (64:Int))),(Int.tmod (IntKind.i64.wrap (Int.tdiv v2 (8:Int))) (8:Int)),(v7.1.1,v7.1.2.1,v7.1.2.2.1,v7.1.2.2.2.1,v7.1.2.2.2.2.1,()),[],()),())with
       |none=>none
       |some v15=>
       match v15.1 with
       |true=>
        match bJ (((IntKind.i64.wrap (Int.tdiv v1 (64:Int))),(Int.tmod (IntKind.i64.wrap (Int.tdiv v2 (8:Int))) (8:Int)),(v7.1.1,v7.1.2.1,v7.1.2.2.1,v7.1.2.2.2.1,v7.1.2.2.2.2.1,()),[],()),())with
        |none=>none
        |some v16=>
        match bI (v16.1,x.1,())with
        |none=>none
        |some v17=>
        some (((IntKind.i64.wrap (Int.tdiv v1 (64:Int))),(Int.tmod (IntKind.i64.wrap (Int.tdiv v2 (8:Int))) (8:Int)),(v7.1.1,v7.1.2.1,v7.1.2.2.1,v7.1.2.2.2.1,v7.1.2.2.2.2.1,()),[],()),v17.1,())
       |false=>
        some (((IntKind.i64.wrap (Int.tdiv v1 (64:Int))),(Int.tmod (IntKind.i64.wrap (Int.tdiv v2 (8:Int))) (8:Int)),(v7.1.1,v7.1.2.1,v7.1.2.2.1,v7.1.2.2.2.1,v7.1.2.2.2.2.1,()),[],()),false,())) (
       match cL (((IntKind.i64.wrap (Int.tdiv v1 (64:Int))),(Int.tmod (IntKind.i64.wrap (Int.tdiv v2 (8:Int))) (8:Int)),(v7.1.1,v7.1.2.1,v7.1.2.2.1,v7.1.2.2.2.1,v7.1.2.2.2.2.1,()),[],()),())with
       |none=>none
       |some v15=>
       match v15.1 with
       |true=>
        aQ (
         match bJ (((IntKind.i64.wrap (Int.tdiv v1 (64:Int))),(Int.tmod (IntKind.i64.wrap (Int.tdiv v2 (8:Int))) (8:Int)),(v7.1.1,v7.1.2.1,v7.1.2.2.1,v7.1.2.2.2.1,v7.1.2.2.2.2.1,()),[],()),())with
         |none=>none
         |some v16=>
         match bI (v16.1,x.1,())with
         |none=>none
         |some v17=>
         some (((IntKind.i64.wrap (Int.tdiv v1 (64:Int))),(Int.tmod (IntKind.i64.wrap (Int.tdiv v2 (8:Int))) (8:Int)),(v7.1.1,v7.1.2.1,v7.1.2.2.1,v7.1.2.2.2.1,v7.1.2.2.2.2.1,()),[],()),v17.1,())) (
         aQ (
          match bJ (((IntKind.i64.wrap (Int.tdiv v1 (64:Int))),(Int.tmod (IntKind.i64.wrap (Int.tdiv v2 (8:Int))) (8:Int)),(v7.1.1,v7.1.2.1,v7.1.2.2.1,v7.1.2.2.2.1,v7.1.2.2.2.2.1,()),[],()),())with
          |none=>none
          |some v16=>
          match bI (v16.1,x.1,())with
          |none=>none
          |some v17=>
          some (((IntKind.i64.wrap (Int.tdiv v1 (64:Int))),(Int.tmod (IntKind.i64.wrap (Int.tdiv v2 (8:Int))) (8:Int)),(v7.1.1,v7.1.2.1,v7.1.2.2.1,v7.1.2.2.2.1,v7.1.2.2.2.2.1,()),[],()),v17.1,())) (
          match bJ (((IntKind.i64.wrap (Int.tdiv v1 (64:Int))),(Int.tmod (IntKind.i64.wrap (Int.tdiv v2 (8:Int))) (8:Int)),(v7.1.1,v7.1.2.1,v7.1.2.2.1,v7.1.2.2.2.1,v7.1.2.2.2.2.1,()),[],()),())with
          |none=>none
          |some v16=>
          aI (
           match bI (v16.1,x.1,())with
           |none=>none
           |some v17=>
           some (((IntKind.i64.wrap (Int.tdiv v1 (64:Int))),(Int.tmod (IntKind.i64.wrap (Int.tdiv v2 (8:Int))) (8:Int)),(v7.1.1,v7.1.2.1,v7.1.2.2.1,v7.1.2.2.2.1,v7.1.2.2.2.2.1,()),[],()),v17.1,()))))
       |false=>
        aQ (
         some (((IntKind.i64.wrap (Int.tdiv v1 (64:Int))),(Int.tmod (IntKind.i64.wrap (Int.tdiv v2 (8:Int))) (8:Int)),(v7.1.1,v7.1.2.1,v7.1.2.2.1,v7.1.2.2.2.1,v7.1.2.2.2.2.1,()),[],()),false,())) (
         aQ (
          some (((IntKind.i64.wrap (Int.tdiv v1 (64:Int))),(Int.tmod (IntKind.i64.wrap (Int.tdiv v2 (8:Int))) (8:Int)),(v7.1.1,v7.1.2.1,v7.1.2.2.1,v7.1.2.2.2.1,v7.1.2.2.2.2.1,()),[],()),false,())) (
          aI (
           some (((IntKind.i64.wrap (Int.tdiv v1 (64:Int))),(Int.tmod (IntKind.i64.wrap (Int.tdiv v2 (8:Int))) (8:Int)),(v7.1.1,v7.1.2.1,v7.1.2.2.1,v7.1.2.2.2.1,v7.1.2.2.2.2.1,()),[],()),false,()))))))
  |false=>
   match gQ ((IntKind.i64.wrap (Int.tdiv v1 (64:Int))),())with
   |none=>none
   |some v18=>
   match v18.1 with
   |true=>
    match(((List.drop v3.1 (List.take v3.2 x.1)).length:Int)==(0:Int))with
    |true=>
     some (((0:Int),(0:Int),((0:Int),(0:Int),(0:Int),(0:Int),(0:Int),()),[],()),false,())
    |false=>
     aa (aL (List.drop v3.1 (List.take v3.2 x.1)).length (some (.dat (.int .i64) (1:Int))) none) fun v19=>
     match jP ((List.drop v19.1 (List.take v19.2 (List.drop v3.1 (List.take v3.2 x.1)))),())with
     |none=>none
     |some v20=>
     aQ (
      match cL (((IntKind.i64.wrap (Int.tdiv v1 (64:Int))),(Int.tmod (IntKind.i64.wrap (Int.tdiv v2 (8:Int))) (8:Int)),((0:Int),(0:Int),(0:Int),(0:Int),(0:Int),()),v20.1,()),())with
      |none=>none
      |some v21=>
      match v21.1 with
      |true=>
       match bJ (((IntKind.i64.wrap (Int.tdiv v1 (64:Int))),(Int.tmod (IntKind.i64.wrap (Int.tdiv v2 (8:Int))) (8:Int)),((0:Int),(0:Int),(0:Int),(0:Int),(0:Int),()),v20.1,()),())with
       |none=>none
       |some v22=>
       match bI (v22.1,x.1,())with
       |none=>none
       |some v23=>
       some (((IntKind.i64.wrap (Int.tdiv v1 (64:Int))),(Int.tmod (IntKind.i64.wrap (Int.tdiv v2 (8:Int))) (8:Int)),((0:Int),(0:Int),(0:Int),(0:Int),(0:Int),()),v20.1,()),v23.1,())
      |false=>
       some (((IntKind.i64.wrap (Int.tdiv v1 (64:Int))),(Int.tmod (IntKind.i64.wrap (Int.tdiv v2 (8:Int))) (8:Int)),((0:Int),(0:Int),(0:Int),(0:Int),(0:Int),()),v20.1,()),false,())) (
      aQ (
       match cL (((IntKind.i64.wrap (Int.tdiv v1 (64:Int))),(Int.tmod (IntKind.i64.wrap (Int.tdiv v2 (8:Int))) (8:Int)),((0:Int),(0:Int),(0:Int),(0:Int),(0:Int),()),v20.1,()),())with
       |none=>none
       |some v21=>
       match v21.1 with
       |true=>
        match bJ (((IntKind.i64.wrap (Int.tdiv v1 (64:Int))),(Int.tmod (IntKind.i64.wrap (Int.tdiv v2 (8:Int))) (8:Int)),((0:Int),(0:Int),(0:Int),(0:Int),(0:Int),()),v20.1,()),())with
        |none=>none
        |some v22=>
        match bI (v22.1,x.1,())with
        |none=>none
        |some v23=>
        some (((IntKind.i64.wrap (Int.tdiv v1 (64:Int))),(Int.tmod (IntKind.i64.wrap (Int.tdiv v2 (8:Int))) (8:Int)),((0:Int),(0:Int),(0:Int),(0:Int),(0:Int),()),v20.1,()),v23.1,())
       |false=>
        some (((IntKind.i64.wrap (Int.tdiv v1 (64:Int))),(Int.tmod (IntKind.i64.wrap (Int.tdiv v2 (8:Int))) (8:Int)),((0:Int),(0:Int),(0:Int),(0:Int),(0:Int),()),v20.1,()),false,())) (
       match cL (((IntKind.i64.wrap (Int.tdiv v1 (64:Int))),(Int.tmod (IntKind.i64.wrap (Int.tdiv v2 (8:Int))) (8:Int)),((0:Int),(0:Int),(0:Int),(0:Int),(0:Int),()),v20.1,()),())with
       |none=>none
       |some v21=>
       match v21.1 with
       |true=>
        aQ (
         match bJ (((IntKind.i64.wrap (Int.tdiv v1 (64:Int))),(Int.tmod (IntKind.i64.wrap (Int.tdiv v2 (8:Int))) (8:Int)),((0:Int),(0:Int),(0:Int),(0:Int),(0:Int),()),v20.1,()),())with
         |none=>none
         |some v22=>
         match bI (v22.1,x.1,())with
         |none=>none
         |some v23=>
         some (((IntKind.i64.wrap (Int.tdiv v1 (64:Int))),(Int.tmod (IntKind.i64.wrap (Int.tdiv v2 (8:Int))) (8:Int)),((0:Int),(0:Int),(0:Int),(0:Int),(0:Int),()),v20.1,()),v23.1,())) (
         aQ (
          match bJ (((IntKind.i64.wrap (Int.tdiv v1 (64:Int))),(Int.tmod (IntKind.i64.wrap (Int.tdiv v2 (8:Int))) (8:Int)),((0:Int),(0:Int),(0:Int),(0:Int),(0:Int),()),v20.1,()),())with
          |none=>none
          |some v22=>
          match bI (v22.1,x.1,())with
          |none=>none
          |some v23=>
          some (((IntKind.i64.wrap (Int.tdiv v1 (64:Int))),(Int.tmod (IntKind.i64.wrap (Int.tdiv v2 (8:Int))) (8:Int)),((0:Int),(0:Int),(0:Int),(0:Int),(0:Int),()),v20.1,()),v23.1,())) (
          match bJ (((IntKind.i64.wrap (Int.tdiv v1 (64:Int))),(Int.tmod (IntKind.i64.wrap (Int.tdiv v2 (8:Int))) (8:Int)),((0:Int),(0:Int),(0:Int),(0:Int),(0:Int),()),v20.1,()),())with
          |none=>none
          |some v22=>
          aI (
           match bI (v22.1,x.1,())with
           |none=>none
           |some v23=>
           some (((IntKind.i64.wrap (Int.tdiv v1 (64:Int))),(Int.tmod (IntKind.i64.wrap (Int.tdiv v2 (8:Int))) (8:Int)),((0:Int),(0:Int),(0:Int),(0:Int),(0:Int),()),v20.1,()),v23.1,()))))
       |false=>
        aQ (
         some (((IntKind.i64.wrap (Int.tdiv v1 (64:Int))),(Int.tmod (IntKind.i64.wrap (Int.tdiv v2 (8:Int))) (8:Int)),((0:Int),(0:Int),(0:Int),(0:Int),(0:Int),()),v20.1,()),false,())) (
         aQ (
          some (((IntKind.i64.wrap (Int.tdiv v1 (64:Int))),(Int.tmod (IntKind.i64.wrap (Int.tdiv v2 (8:Int))) (8:Int)),((0:Int),(0:Int),(0:Int),(0:Int),(0:Int),()),v20.1,()),false,())) (
          aI (
           some (((IntKind.i64.wrap (Int.tdiv v1 (64:Int))),(Int.tmod (IntKind.i64.wrap (Int.tdiv v2 (8:Int))) (8:Int)),((0:Int),(0:Int),(0:Int),(0:Int),(0:Int),()),v20.1,()),false,()))))))
   |false=>
    aQ (
     match cL (((IntKind.i64.wrap (Int.tdiv v1 (64:Int))),(Int.tmod (IntKind.i64.wrap (Int.tdiv v2 (8:Int))) (8:Int)),((0:Int),(0:Int),(0:Int),(0:Int),(0:Int),()),[],()),())with
     |none=>none
     |some v24=>
     match v24.1 with
     |true=>
      match bJ (((IntKind.i64.wrap (Int.tdiv v1 (64:Int))),(Int.tmod (IntKind.i64.wrap (Int.tdiv v2 (8:Int))) (8:Int)),((0:Int),(0:Int),(0:Int),(0:Int),(0:Int),()),[],()),())with
      |none=>none
      |some v25=>
      match bI (v25.1,x.1,())with
      |none=>none
      |some v26=>
      some (((IntKind.i64.wrap (Int.tdiv v1 (64:Int))),(Int.tmod (IntKind.i64.wrap (Int.tdiv v2 (8:Int))) (8:Int)),((0:Int),(0:Int),(0:Int),(0:Int),(0:Int),()),[],()),v26.1,())
     |false=>
      some (((IntKind.i64.wrap (Int.tdiv v1 (64:Int))),(Int.tmod (IntKind.i64.wrap (Int.tdiv v2 (8:Int))) (8:Int)),((0:Int),(0:Int),(0:Int),(0:Int),(0:Int),()),[],()),false,())) (
     aQ (
      match cL (((IntKind.i64.wrap (Int.tdiv v1 (64:Int))),(Int.tmod (IntKind.i64.wrap (Int.tdiv v2 (8:Int))) (8:Int)),((0:Int),(0:Int),(0:Int),(0:Int),(0:Int),()),[],()),())with
      |none=>none
      |some v24=>
      match v24.1 with
      |true=>
       match bJ (((IntKind.i64.wrap (Int.tdiv v1 (64:Int))),(Int.tmod (IntKind.i64.wrap (Int.tdiv v2 (8:Int))) (8:Int)),((0:Int),(0:Int),(0:Int),(0:Int),(0:Int),()),[],()),())with
       |none=>none
       |some v25=>
       match bI (v25.1,x.1,())with
       |none=>none
       |some v26=>
       some (((IntKind.i64.wrap (Int.tdiv v1 (64:Int))),(Int.tmod (IntKind.i64.wrap (Int.tdiv v2 (8:Int))) (8:Int)),((0:Int),(0:Int),(0:Int),(0:Int),(0:Int),()),[],()),v26.1,())
      |false=>
       some (((IntKind.i64.wrap (Int.tdiv v1 (64:Int))),(Int.tmod (IntKind.i64.wrap (Int.tdiv v2 (8:Int))) (8:Int)),((0:Int),(0:Int),(0:Int),(0:Int),(0:Int),()),[],()),false,())) (
      match cL (((IntKind.i64.wrap (Int.tdiv v1 (64:Int))),(Int.tmod (IntKind.i64.wrap (Int.tdiv v2 (8:Int))) (8:Int)),((0:Int),(0:Int),(0:Int),(0:Int),(0:Int),()),[],()),())with
      |none=>none
      |some v24=>
      match v24.1 with
      |true=>
       aQ (
        match bJ (((IntKind.i64.wrap (Int.tdiv v1 (64:Int))),(Int.tmod (IntKind.i64.wrap (Int.tdiv v2 (8:Int))) (8:Int)),((0:Int),(0:Int),(0:Int),(0:Int),(0:Int),()),[],()),())with
        |none=>none
        |some v25=>
        match bI (v25.1,x.1,())with
        |none=>none
        |some v26=>
        some (((IntKind.i64.wrap (Int.tdiv v1 (64:Int))),(Int.tmod (IntKind.i64.wrap (Int.tdiv v2 (8:Int))) (8:Int)),((0:Int),(0:Int),(0:Int),(0:Int),(0:Int),()),[],()),v26.1,())) (
        aQ (
         match bJ (((IntKind.i64.wrap (Int.tdiv v1 (64:Int))),(Int.tmod (IntKind.i64.wrap (Int.tdiv v2 (8:Int))) (8:Int)),((0:Int),(0:Int),(0:Int),(0:Int),(0:Int),()),[],()),())with
         |none=>none
         |some v25=>
         match bI (v25.1,x.1,())with
         |none=>none
         |some v26=>
         some (((IntKind.i64.wrap (Int.tdiv v1 (64:Int))),(Int.tmod (IntKind.i64.wrap (Int.tdiv v2 (8:Int))) (8:Int)),((0:Int),(0:Int),(0:Int),(0:Int),(0:Int),()),[],()),v26.1,())) (
         match bJ (((IntKind.i64.wrap (Int.tdiv v1 (64:Int))),(Int.tmod (IntKind.i64.wrap (Int.tdiv v2 (8:Int))) (8:Int)),((0:Int),(0:Int),(0:Int),(0:Int),(0:Int),()),[],()),())with
         |none=>none
         |some v25=>
         aI (
          match bI (v25.1,x.1,())with
          |none=>none
          |some v26=>
          some (((IntKind.i64.wrap (Int.tdiv v1 (64:Int))),(Int.tmod (IntKind.i64.wrap (Int.tdiv v2 (8:Int))) (8:Int)),((0:Int),(0:Int),(0:Int),(0:Int),(0:Int),()),[],()),v26.1,()))))
      |false=>
       aQ (
        some (((IntKind.i64.wrap (Int.tdiv v1 (64:Int))),(Int.tmod (IntKind.i64.wrap (Int.tdiv v2 (8:Int))) (8:Int)),((0:Int),(0:Int),(0:Int),(0:Int),(0:Int),()),[],()),false,())) (
        aQ (
         some (((IntKind.i64.wrap (Int.tdiv v1 (64:Int))),(Int.tmod (IntKind.i64.wrap (Int.tdiv v2 (8:Int))) (8:Int)),((0:Int),(0:Int),(0:Int),(0:Int),(0:Int),()),[],()),false,())) (
         aI (
          some (((IntKind.i64.wrap (Int.tdiv v1 (64:Int))),(Int.tmod (IntKind.i64.wrap (Int.tdiv v2 (8:Int))) (8:Int)),((0:Int),(0:Int),(0:Int),(0:Int),(0:Int),()),[],()),false,())))))))
noncomputable def QP:Spec:=⟨_,aeW,.unit,rfl,t8⟩
theorem OV:FnOK G0 Tryz.prog 290 QP:=ap ao (sg jp (sg xQ (sg pz (sg vz (sg Eh (sg Ec (sg Em (sg OU (aJ))))))))) Tryz.func290
noncomputable def pc(x:Ty.T afV):Option (Ty.T aeX):=
match(decide ((IntKind.i64.wrap ((x.1.length:Int)-(3:Int)))<(1:Int)))with
|true=>
 some (((0:Int),(0:Int),((0:Int),(0:Int),(0:Int),(0:Int),(0:Int),()),[],()),(6:Int),())
|false=>
 aa (aq x.1 (IntKind.i64.wrap ((x.1.length:Int)-(3:Int)))) fun v1=>
 aa (aq x.1 (IntKind.i64.wrap ((IntKind.i64.wrap ((x.1.length:Int)-(3:Int)))+(1:Int)))) fun v2=>
 aa (aq x.1 (IntKind.i64.wrap ((IntKind.i64.wrap ((x.1.length:Int)-(3:Int)))+(2:Int)))) fun v3=>
 aa (aq x.1 (0:Int)) fun v4=>
 aa (aL x.1.length none (some (.dat (.int .i64) (IntKind.i64.wrap ((x.1.length:Int)-(3:Int)))))) fun v5=>
 match jQ ((IntKind.i64.wrap (Int.tdiv v4 (64:Int))),(List.drop v5.1 (List.take v5.2 x.1)),x.2.1,(x.2.2.1.1,x.2.2.1.2.1,x.2.2.1.2.2.1,x.2.2.1.2.2.2.1,x.2.2.1.2.2.2.2.1,()),())with
 |none=>none
 |some v6=>
 match(v6.1 != (IntKind.i64.wrap ((IntKind.i64.wrap ((IntKind.i64.wrap (v1*(65536:Int)))+(IntKind.i64.wrap (v2*(256:Int)))))+v3)))with
 |true=>
  some (((0:Int),(0:Int),((0:Int),(0:Int),(0:Int),(0:Int),(0:Int),()),[],()),(7:Int),())
 |false=>
  aa (aL x.1.length none (some (.dat (.int .i64) (IntKind.i64.wrap ((x.1.length:Int)-(3:Int)))))) fun v7=>
  match t8 ((List.drop v7.1 (List.take v7.2 x.1)),())with
  |none=>none
  |some v8=>
  match(!v8.2.1)with
  |true=>
   some (((0:Int),(0:Int),((0:Int),(0:Int),(0:Int),(0:Int),(0:Int),()),[],()),(6:Int),())
  |false=>
   match dL (v8.1.1,())with
   |none=>none
   |some v9=>
   match v9.1 with
   |true=>
    match(!(dy ab (v8.1.2.2.1.1,v8.1.2.2.1.2.1,v8.1.2.2.1.2.2.1,v8.1.2.2.1.2.2.2.1,v8.1.2.2.1.2.2.2.2.1,()) (x.2.2.1.1,x.2.2.1.2.1,x.2.2.1.2.2.1,x.2.2.1.2.2.2.1,x.2.2.1.2.2.2.2.1,())))with
    |true=>
     some (((0:Int),(0:Int),((0:Int),(0:Int),(0:Int),(0:Int),(0:Int),()),[],()),(5:Int),())
    |false=>
     some ((v8.1.1,v8.1.2.1,(v8.1.2.2.1.1,v8.1.2.2.1.2.1,v8.1.2.2.1.2.2.1,v8.1.2.2.1.2.2.2.1,v8.1.2.2.1.2.2.2.2.1,()),v8.1.2.2.2.1,()),(0:Int),())
   |false=>
    some ((v8.1.1,v8.1.2.1,(v8.1.2.2.1.1,v8.1.2.2.1.2.1,v8.1.2.2.1.2.2.1,v8.1.2.2.1.2.2.2.1,v8.1.2.2.1.2.2.2.2.1,()),v8.1.2.2.2.1,()),(0:Int),())
noncomputable def SV:Spec:=⟨_,aeX,.unit,rfl,pc⟩
theorem QQ:FnOK G0 Tryz.prog 251 SV:=ap ao (sg jp (sg zd (sg OV (aJ)))) Tryz.func251
noncomputable def qd(x:Ty.T aei):Option (Ty.T ab1):=
match pc (x.2.2.1,x.1.1,(x.2.1.1,x.2.1.2.1,x.2.1.2.2.1,x.2.1.2.2.2.1,x.2.1.2.2.2.2.1,()),())with
|none=>none
|some v1=>
match(v1.2.1==(0:Int))with
|true=>
 match cJ ((x.1.1,x.1.2.1,x.1.2.2.1,x.1.2.2.2.1,()),(x.2.1.1,x.2.1.2.1,x.2.1.2.2.1,x.2.1.2.2.2.1,x.2.1.2.2.2.2.1,()),())with
 |none=>none
 |some v2=>
 match du (v2.1,(v1.1.1,v1.1.2.1,(v1.1.2.2.1.1,v1.1.2.2.1.2.1,v1.1.2.2.1.2.2.1,v1.1.2.2.1.2.2.2.1,v1.1.2.2.1.2.2.2.2.1,()),v1.1.2.2.2.1,()),())with
 |none=>none
 |some v3=>
 match(!v3.1)with
 |true=>
  match((5:Int) != (0:Int))with
  |true=>
   some (((2:Int),((0:Int),(0:Int),((0:Int),(0:Int),(0:Int),(0:Int),(0:Int),()),[],()),()),(5:Int),())
  |false=>
   some (((3:Int),(v1.1.1,v1.1.2.1,(v1.1.2.2.1.1,v1.1.2.2.1.2.1,v1.1.2.2.1.2.2.1,v1.1.2.2.1.2.2.2.1,v1.1.2.2.1.2.2.2.2.1,()),v1.1.2.2.2.1,()),()),(0:Int),())
 |false=>
  match(v1.2.1 != (0:Int))with
  |true=>
   some (((2:Int),((0:Int),(0:Int),((0:Int),(0:Int),(0:Int),(0:Int),(0:Int),()),[],()),()),v1.2.1,())
  |false=>
   some (((3:Int),(v1.1.1,v1.1.2.1,(v1.1.2.2.1.1,v1.1.2.2.1.2.1,v1.1.2.2.1.2.2.1,v1.1.2.2.1.2.2.2.1,v1.1.2.2.1.2.2.2.2.1,()),v1.1.2.2.2.1,()),()),(0:Int),())
|false=>
 match(v1.2.1 != (0:Int))with
 |true=>
  some (((2:Int),((0:Int),(0:Int),((0:Int),(0:Int),(0:Int),(0:Int),(0:Int),()),[],()),()),v1.2.1,())
 |false=>
  some (((3:Int),(v1.1.1,v1.1.2.1,(v1.1.2.2.1.1,v1.1.2.2.1.2.1,v1.1.2.2.1.2.2.1,v1.1.2.2.1.2.2.2.1,v1.1.2.2.1.2.2.2.2.1,()),v1.1.2.2.2.1,()),()),(0:Int),())
noncomputable def QR:Spec:=⟨_,ab1,.unit,rfl,qd⟩
theorem OW:FnOK G0 Tryz.prog 194 QR:=ap ao (sg gT (sg qy (sg QQ (aJ)))) Tryz.func194
noncomputable def fZ(x:Ty.T aei):Option (Ty.T ab1):=
match lG (x.2.2.1,())with
|none=>none
|some v1=>
match(v1.2.1==(0:Int))with
|true=>
 match qd ((x.1.1,x.1.2.1,x.1.2.2.1,x.1.2.2.2.1,()),(x.2.1.1,x.2.1.2.1,x.2.1.2.2.1,x.2.1.2.2.2.1,x.2.1.2.2.2.2.1,()),v1.1,())with
 |none=>none
 |some v2=>
 some ((v2.1.1,(v2.1.2.1.1,v2.1.2.1.2.1,(v2.1.2.1.2.2.1.1,v2.1.2.1.2.2.1.2.1,v2.1.2.1.2.2.1.2.2.1,v2.1.2.1.2.2.1.2.2.2.1,v2.1.2.1.2.2.1.2.2.2.2.1,()),v2.1.2.1.2.2.2.1,()),()),v2.2.1,())
|false=>
 match(v1.2.1==(4:Int))with
 |true=>
  some (((0:Int),((0:Int),(0:Int),((0:Int),(0:Int),(0:Int),(0:Int),(0:Int),()),[],()),()),v1.2.1,())
 |false=>
  some (((1:Int),((0:Int),(0:Int),((0:Int),(0:Int),(0:Int),(0:Int),(0:Int),()),[],()),()),v1.2.1,())
noncomputable def ME:Spec:=⟨_,ab1,.unit,rfl,fZ⟩
theorem KR:FnOK G0 Tryz.prog 134 ME:=ap ao (sg Ey (sg OW (aJ))) Tryz.func134
noncomputable def mu(x:Ty.T afL):Option (Ty.T y_7):=
match((IntKind.i64.wrap (x.1.2.2.2.1+(1:Int)))==x.2.2.1)with
|true=>
 if x.2.2.2.1=0 then none else
 some (((Int.tmod (IntKind.i64.wrap (x.1.1+x.2.1)) (65536:Int)),x.1.2.1,(Int.tmod (IntKind.i64.wrap (x.1.2.2.1+(1:Int))) x.2.2.2.1),(0:Int),x.1.2.2.2.2.1,()),())
|false=>
 some (((Int.tmod (IntKind.i64.wrap (x.1.1+x.2.1)) (65536:Int)),x.1.2.1,x.1.2.2.1,(IntKind.i64.wrap (x.1.2.2.2.1+(1:Int))),x.1.2.2.2.2.1,()),())
noncomputable def MF:Spec:=⟨_,y_7,.unit,rfl,mu⟩
theorem KS:FnOK G0 Tryz.prog 196 MF:=ap ao aJ Tryz.func196
noncomputable def kD(x:Ty.T acQ):Option (Ty.T y_7):=
aa (aq x.1.2.2.1 x.2.1.2.1) fun v1=>
aa (aq x.1.2.2.1 x.2.1.2.1) fun v2=>
match cJ ((x.1.1,x.1.2.1,x.1.2.2.1,x.1.2.2.2.1,()),(x.2.1.1,x.2.1.2.1,x.2.1.2.2.1,x.2.1.2.2.2.1,x.2.1.2.2.2.2.1,()),())with
|none=>none
|some v3=>
match mu ((x.2.1.1,x.2.1.2.1,x.2.1.2.2.1,x.2.1.2.2.2.1,x.2.1.2.2.2.2.1,()),v3.1.2.2.2.1,v1.2.1,v2.1,())with
|none=>none
|some v4=>
some ((v4.1.1,v4.1.2.1,v4.1.2.2.1,v4.1.2.2.2.1,v4.1.2.2.2.2.1,()),())
noncomputable def SW:Spec:=⟨_,y_7,.unit,rfl,kD⟩
theorem QS:FnOK G0 Tryz.prog 136 SW:=ap ao (sg gT (sg KS (aJ))) Tryz.func136
noncomputable def r4(x:Ty.T aeS):Option (Ty.T aeZ):=
match p9 x with
|none=>none
|some v1=>
aQ (
 match iz (v1.1,x.2.2.1.2.2.1,())with
 |none=>none
 |some v2=>
 aI (
  match fZ (x.1,x.2.1,v2.1,())with
  |none=>none
  |some v3=>
  aQ (
   match iz (v1.1,x.2.2.1.2.2.2.1,())with
   |none=>none
   |some v4=>
   aI (
    match fZ (x.1,x.2.1,v4.1,())with
    |none=>none
    |some v5=>
    match kQ (v3.1,v5.1,())with
    |none=>none
    |some v6=>
    aI (
     match cJ (x.1,x.2.1,())with
     |none=>none
     |some v7=>
     match iV (x.2.1.2.2.2.2.1,v7.1.1,(v6.1.1==(3:Int)),())with
     |none=>none
     |some v8=>
     aI (
      match kD (x.1,(x.2.1.1,x.2.1.2.1,x.2.1.2.2.1,x.2.1.2.2.2.1,v8.1,()),())with
      |none=>none
      |some v9=>
      some (v6.1,v9.1,()))))) (
   match iz (v1.1,x.2.2.1.2.2.2.1,())with
   |none=>none
   |some v4=>
   match fZ (x.1,x.2.1,v4.1,())with
   |none=>none
   |some v5=>
   match kQ (v3.1,v5.1,())with
   |none=>none
   |some v6=>
   aI (
    match cJ (x.1,x.2.1,())with
    |none=>none
    |some v7=>
    match iV (x.2.1.2.2.2.2.1,v7.1.1,(v6.1.1==(3:Int)),())with
    |none=>none
    |some v8=>
    aI (
     match kD (x.1,(x.2.1.1,x.2.1.2.1,x.2.1.2.2.1,x.2.1.2.2.2.1,v8.1,()),())with
     |none=>none
     |some v9=>
     some (v6.1,v9.1,())))))) (
 match iz (v1.1,x.2.2.1.2.2.1,())with
 |none=>none
 |some v2=>
 match fZ (x.1,x.2.1,v2.1,())with
 |none=>none
 |some v3=>
 aQ (
  match iz (v1.1,x.2.2.1.2.2.2.1,())with
  |none=>none
  |some v4=>
  aI (
   match fZ (x.1,x.2.1,v4.1,())with
   |none=>none
   |some v5=>
   match kQ (v3.1,v5.1,())with
   |none=>none
   |some v6=>
   aI (
    match cJ (x.1,x.2.1,())with
    |none=>none
    |some v7=>
    match iV (x.2.1.2.2.2.2.1,v7.1.1,(v6.1.1==(3:Int)),())with
    |none=>none
    |some v8=>
    aI (
     match kD (x.1,(x.2.1.1,x.2.1.2.1,x.2.1.2.2.1,x.2.1.2.2.2.1,v8.1,()),())with
     |none=>none
     |some v9=>
     some (v6.1,v9.1,()))))) (
  match iz (v1.1,x.2.2.1.2.2.2.1,())with
  |none=>none
  |some v4=>
  match fZ (x.1,x.2.1,v4.1,())with
  |none=>none
  |some v5=>
  match kQ (v3.1,v5.1,())with
  |none=>none
  |some v6=>
  aI (
   match cJ (x.1,x.2.1,())with
   |none=>none
   |some v7=>
   match iV (x.2.1.2.2.2.2.1,v7.1.1,(v6.1.1==(3:Int)),())with
   |none=>none
   |some v8=>
   aI (
    match kD (x.1,(x.2.1.1,x.2.1.2.1,x.2.1.2.2.1,x.2.1.2.2.2.1,v8.1,()),())with
    |none=>none
    |some v9=>
    some (v6.1,v9.1,())))))
noncomputable def GR:Spec:=⟨_,aeZ,.unit,rfl,r4⟩
theorem QU:FnOK G0 Tryz.prog 67 GR:=ap ao (sg gT (sg OH (sg OI (sg KI (sg KR (sg xF (sg QS (aJ)))))))) Tryz.func67
abbrev acL:Ty:=(.pair (.list au) (.pair (.box ac) (.pair (.box ab) (.pair (.box ab) (.pair (.own 38 aB) an)))))
abbrev adt:Ty:=(.pair (.box ab) (.pair (.box ab) (.pair (.own 38 aB) .unit)))
noncomputable def gU(x:(Ty.T acL)):Option ((Ty.T acL) ⊕ ((Ty.T adt) ⊕ (Ty.T .unit))):=
match(decide (x.2.2.2.2.2.2.1<(x.1.length:Int)))with
|true=>
 aa (aq x.1 x.2.2.2.2.2.2.1) fun v1=>
 aQ (
  match r4 (x.2.1,x.2.2.1,v1,())with
  |none=>none
  |some v2=>
  aI (
   aA (x.2.2.2.2.1.length+ [v2.1].length) (
    match(v2.1.1==(3:Int))with
    |true=>
     match(decide (v2.1.2.1.2.1≥(1:Int)))with
     |true=>
      aa (aq x.2.1.2.2.1 x.2.2.1.2.1) fun v3=>
      match ou (v3.2.2.1,(IntKind.i64.wrap (v2.1.2.1.2.1-(1:Int))),())with
      |none=>none
      |some v4=>
      match v4.1 with
      |true=>
       match(decide ((IntKind.i64.wrap (v2.1.2.1.2.1-(1:Int)))≥(0:Int)))with
       |true=>
        match(v2.2.1.2.2.1==(0:Int))with
        |true=>
         match(v2.2.1.2.2.2.1==(0:Int))with
         |true=>
          some (.inl (x.1,x.2.1,(v2.2.1.1,(IntKind.i64.wrap (v2.1.2.1.2.1-(1:Int))),v2.2.1.2.2.1,v2.2.1.2.2.2.1,v2.2.1.2.2.2.2.1,()),x.2.2.2.1,(x.2.2.2.2.1++ [v2.1]),(-1:Int),(IntKind.i64.wrap (x.2.2.2.2.2.2.1+(1:Int))),()))
         |false=>
          some (.inl (x.1,x.2.1,v2.2.1,x.2.2.2.1,(x.2.2.2.2.1++ [v2.1]),(IntKind.i64.wrap (v2.1.2.1.2.1-(1:Int))),(IntKind.i64.wrap (x.2.2.2.2.2.2.1+(1:Int))),()))
        |false=>
         some (.inl (x.1,x.2.1,v2.2.1,x.2.2.2.1,(x.2.2.2.2.1++ [v2.1]),(IntKind.i64.wrap (v2.1.2.1.2.1-(1:Int))),(IntKind.i64.wrap (x.2.2.2.2.2.2.1+(1:Int))),()))
       |false=>
        some (.inl (x.1,x.2.1,v2.2.1,x.2.2.2.1,(x.2.2.2.2.1++ [v2.1]),(IntKind.i64.wrap (v2.1.2.1.2.1-(1:Int))),(IntKind.i64.wrap (x.2.2.2.2.2.2.1+(1:Int))),()))
      |false=>
       match(decide (x.2.2.2.2.2.1≥(0:Int)))with
       |true=>
        match(v2.2.1.2.2.1==(0:Int))with
        |true=>
         match(v2.2.1.2.2.2.1==(0:Int))with
         |true=>
          some (.inl (x.1,x.2.1,(v2.2.1.1,x.2.2.2.2.2.1,v2.2.1.2.2.1,v2.2.1.2.2.2.1,v2.2.1.2.2.2.2.1,()),x.2.2.2.1,(x.2.2.2.2.1++ [v2.1]),(-1:Int),(IntKind.i64.wrap (x.2.2.2.2.2.2.1+(1:Int))),()))
         |false=>
          some (.inl (x.1,x.2.1,v2.2.1,x.2.2.2.1,(x.2.2.2.2.1++ [v2.1]),x.2.2.2.2.2.1,(IntKind.i64.wrap (x.2.2.2.2.2.2.1+(1:Int))),()))
        |false=>
         some (.inl (x.1,x.2.1,v2.2.1,x.2.2.2.1,(x.2.2.2.2.1++ [v2.1]),x.2.2.2.2.2.1,(IntKind.i64.wrap (x.2.2.2.2.2.2.1+(1:Int))),()))
       |false=>
        some (.inl (x.1,x.2.1,v2.2.1,x.2.2.2.1,(x.2.2.2.2.1++ [v2.1]),x.2.2.2.2.2.1,(IntKind.i64.wrap (x.2.2.2.2.2.2.1+(1:Int))),()))
     |false=>
      match(decide (x.2.2.2.2.2.1≥(0:Int)))with
      |true=>
       match(v2.2.1.2.2.1==(0:Int))with
       |true=>
        match(v2.2.1.2.2.2.1==(0:Int))with
        |true=>
         some (.inl (x.1,x.2.1,(v2.2.1.1,x.2.2.2.2.2.1,v2.2.1.2.2.1,v2.2.1.2.2.2.1,v2.2.1.2.2.2.2.1,()),x.2.2.2.1,(x.2.2.2.2.1++ [v2.1]),(-1:Int),(IntKind.i64.wrap (x.2.2.2.2.2.2.1+(1:Int))),()))
        |false=>
         some (.inl (x.1,x.2.1,v2.2.1,x.2.2.2.1,(x.2.2.2.2.1++ [v2.1]),x.2.2.2.2.2.1,(IntKind.i64.wrap (x.2.2.2.2.2.2.1+(1:Int))),()))
       |false=>
        some (.inl (x.1,x.2.1,v2.2.1,x.2.2.2.1,(x.2.2.2.2.1++ [v2.1]),x.2.2.2.2.2.1,(IntKind.i64.wrap (x.2.2.2.2.2.2.1+(1:Int))),()))
      |false=>
       some (.inl (x.1,x.2.1,v2.2.1,x.2.2.2.1,(x.2.2.2.2.1++ [v2.1]),x.2.2.2.2.2.1,(IntKind.i64.wrap (x.2.2.2.2.2.2.1+(1:Int))),()))
    |false=>
     match(decide (x.2.2.2.2.2.1≥(0:Int)))with
     |true=>
      match(v2.2.1.2.2.1==(0:Int))with
      |true=>
       match(v2.2.1.2.2.2.1==(0:Int))with
       |true=>
        some (.inl (x.1,x.2.1,(v2.2.1.1,x.2.2.2.2.2.1,v2.2.1.2.2.1,v2.2.1.2.2.2.1,v2.2.1.2.2.2.2.1,()),x.2.2.2.1,(x.2.2.2.2.1++ [v2.1]),(-1:Int),(IntKind.i64.wrap (x.2.2.2.2.2.2.1+(1:Int))),()))
       |false=>
        some (.inl (x.1,x.2.1,v2.2.1,x.2.2.2.1,(x.2.2.2.2.1++ [v2.1]),x.2.2.2.2.2.1,(IntKind.i64.wrap (x.2.2.2.2.2.2.1+(1:Int))),()))
      |false=>
       some (.inl (x.1,x.2.1,v2.2.1,x.2.2.2.1,(x.2.2.2.2.1++ [v2.1]),x.2.2.2.2.2.1,(IntKind.i64.wrap (x.2.2.2.2.2.2.1+(1:Int))),()))
     |false=>
      some (.inl (x.1,x.2.1,v2.2.1,x.2.2.2.1,(x.2.2.2.2.1++ [v2.1]),x.2.2.2.2.2.1,(IntKind.i64.wrap (x.2.2.2.2.2.2.1+(1:Int))),()))))) (
  aI (
   aI (
    match r4 (x.2.1,x.2.2.1,v1,())with
    |none=>none
    |some v2=>
    aA (x.2.2.2.2.1.length+ [v2.1].length) (
     match(v2.1.1==(3:Int))with
     |true=>
      match(decide (v2.1.2.1.2.1≥(1:Int)))with
      |true=>
       aa (aq x.2.1.2.2.1 x.2.2.1.2.1) fun v3=>
       match ou (v3.2.2.1,(IntKind.i64.wrap (v2.1.2.1.2.1-(1:Int))),())with
       |none=>none
       |some v4=>
       match v4.1 with
       |true=>
        match(decide ((IntKind.i64.wrap (v2.1.2.1.2.1-(1:Int)))≥(0:Int)))with
        |true=>
         match(v2.2.1.2.2.1==(0:Int))with
         |true=>
          match(v2.2.1.2.2.2.1==(0:Int))with
          |true=>
           some (.inl (x.1,x.2.1,(v2.2.1.1,(IntKind.i64.wrap (v2.1.2.1.2.1-(1:Int))),v2.2.1.2.2.1,v2.2.1.2.2.2.1,v2.2.1.2.2.2.2.1,()),x.2.2.2.1,(x.2.2.2.2.1++ [v2.1]),(-1:Int),(IntKind.i64.wrap (x.2.2.2.2.2.2.1+(1:Int))),()))
          |false=>
           some (.inl (x.1,x.2.1,v2.2.1,x.2.2.2.1,(x.2.2.2.2.1++ [v2.1]),(IntKind.i64.wrap (v2.1.2.1.2.1-(1:Int))),(IntKind.i64.wrap (x.2.2.2.2.2.2.1+(1:Int))),()))
         |false=>
          some (.inl (x.1,x.2.1,v2.2.1,x.2.2.2.1,(x.2.2.2.2.1++ [v2.1]),(IntKind.i64.wrap (v2.1.2.1.2.1-(1:Int))),(IntKind.i64.wrap (x.2.2.2.2.2.2.1+(1:Int))),()))
        |false=>
         some (.inl (x.1,x.2.1,v2.2.1,x.2.2.2.1,(x.2.2.2.2.1++ [v2.1]),(IntKind.i64.wrap (v2.1.2.1.2.1-(1:Int))),(IntKind.i64.wrap (x.2.2.2.2.2.2.1+(1:Int))),()))
       |false=>
        match(decide (x.2.2.2.2.2.1≥(0:Int)))with
        |true=>
         match(v2.2.1.2.2.1==(0:Int))with
         |true=>
          match(v2.2.1.2.2.2.1==(0:Int))with
          |true=>
           some (.inl (x.1,x.2.1,(v2.2.1.1,x.2.2.2.2.2.1,v2.2.1.2.2.1,v2.2.1.2.2.2.1,v2.2.1.2.2.2.2.1,()),x.2.2.2.1,(x.2.2.2.2.1++ [v2.1]),(-1:Int),(IntKind.i64.wrap (x.2.2.2.2.2.2.1+(1:Int))),()))
          |false=>
           some (.inl (x.1,x.2.1,v2.2.1,x.2.2.2.1,(x.2.2.2.2.1++ [v2.1]),x.2.2.2.2.2.1,(IntKind.i64.wrap (x.2.2.2.2.2.2.1+(1:Int))),()))
         |false=>
          some (.inl (x.1,x.2.1,v2.2.1,x.2.2.2.1,(x.2.2.2.2.1++ [v2.1]),x.2.2.2.2.2.1,(IntKind.i64.wrap (x.2.2.2.2.2.2.1+(1:Int))),()))
        |false=>
         some (.inl (x.1,x.2.1,v2.2.1,x.2.2.2.1,(x.2.2.2.2.1++ [v2.1]),x.2.2.2.2.2.1,(IntKind.i64.wrap (x.2.2.2.2.2.2.1+(1:Int))),()))
      |false=>
       match(decide (x.2.2.2.2.2.1≥(0:Int)))with
       |true=>
        match(v2.2.1.2.2.1==(0:Int))with
        |true=>
         match(v2.2.1.2.2.2.1==(0:Int))with
         |true=>
          some (.inl (x.1,x.2.1,(v2.2.1.1,x.2.2.2.2.2.1,v2.2.1.2.2.1,v2.2.1.2.2.2.1,v2.2.1.2.2.2.2.1,()),x.2.2.2.1,(x.2.2.2.2.1++ [v2.1]),(-1:Int),(IntKind.i64.wrap (x.2.2.2.2.2.2.1+(1:Int))),()))
         |false=>
          some (.inl (x.1,x.2.1,v2.2.1,x.2.2.2.1,(x.2.2.2.2.1++ [v2.1]),x.2.2.2.2.2.1,(IntKind.i64.wrap (x.2.2.2.2.2.2.1+(1:Int))),()))
        |false=>
         some (.inl (x.1,x.2.1,v2.2.1,x.2.2.2.1,(x.2.2.2.2.1++ [v2.1]),x.2.2.2.2.2.1,(IntKind.i64.wrap (x.2.2.2.2.2.2.1+(1:Int))),()))
       |false=>
        some (.inl (x.1,x.2.1,v2.2.1,x.2.2.2.1,(x.2.2.2.2.1++ [v2.1]),x.2.2.2.2.2.1,(IntKind.i64.wrap (x.2.2.2.2.2.2.1+(1:Int))),()))
     |false=>
      match(decide (x.2.2.2.2.2.1≥(0:Int)))with
      |true=>
       match(v2.2.1.2.2.1==(0:Int))with
       |true=>
        match(v2.2.1.2.2.2.1==(0:Int))with
        |true=>
         some (.inl (x.1,x.2.1,(v2.2.1.1,x.2.2.2.2.2.1,v2.2.1.2.2.1,v2.2.1.2.2.2.1,v2.2.1.2.2.2.2.1,()),x.2.2.2.1,(x.2.2.2.2.1++ [v2.1]),(-1:Int),(IntKind.i64.wrap (x.2.2.2.2.2.2.1+(1:Int))),()))
        |false=>
         some (.inl (x.1,x.2.1,v2.2.1,x.2.2.2.1,(x.2.2.2.2.1++ [v2.1]),x.2.2.2.2.2.1,(IntKind.i64.wrap (x.2.2.2.2.2.2.1+(1:Int))),()))
       |false=>
        some (.inl (x.1,x.2.1,v2.2.1,x.2.2.2.1,(x.2.2.2.2.1++ [v2.1]),x.2.2.2.2.2.1,(IntKind.i64.wrap (x.2.2.2.2.2.2.1+(1:Int))),()))
      |false=>
       some (.inl (x.1,x.2.1,v2.2.1,x.2.2.2.1,(x.2.2.2.2.1++ [v2.1]),x.2.2.2.2.2.1,(IntKind.i64.wrap (x.2.2.2.2.2.2.1+(1:Int))),()))))))
|false=>
 some (.inr (.inl (x.2.2.1,x.2.2.2.1,x.2.2.2.2.1,())))
noncomputable def mv(x:Ty.T ad0):Option (Ty.T afP):=
match ag gU (x.2.2.1,x.1,x.2.1,((0:Int),(0:Int),(0:Int),(0:Int),(0:Int),()),[],(-1:Int),(0:Int),())with
|none=>none
|some (.inl v5)=>
 some (v5.2.2.1,v5.1,())
|some (.inr v7)=>
 none
noncomputable def As:Spec:=⟨_,afP,.unit,rfl,mv⟩
noncomputable def GS:FuncId→Option Spec:=bh [(67,GR),(145,Ab)]
theorem OX:∀f s,GS f=some s→FnOK G0 Tryz.prog f s:=aF ⟨QU,Gn,trivial⟩
def Ez:aO:=⟨[2,3,4,7,8,9,10],acL,0,[4,7,8],adt,[],.unit⟩
noncomputable def GU:List ay:=[Ez.spec gU]
theorem MG:bc bd E0 GS (ba Tryz.f83 GU) Tryz.f83 0 Ez gU:=fun x=>by kernel_rfl
theorem xR:FnOK G0 Tryz.prog 83 As:=aH ao OX Tryz.func83 GU (by kernel_rfl) (by exact⟨(MG).lok,trivial⟩) fun x=>by kernel_rfl
noncomputable def qf(x:Ty.T ad0):Option (Ty.T aeU):=
match o7 x with
|none=>none
|some v1=>
match(v1.1 != (0:Int))with
|true=>
 some ([],((0:Int),(0:Int),(0:Int),(0:Int),(0:Int),()),v1.1,())
|false=>
 match mv x with
 |none=>none
 |some v2=>
 some (v2.1,v2.2.1,(0:Int),())
noncomputable def EA:Spec:=⟨_,aeU,.unit,rfl,qf⟩
theorem OY:FnOK G0 Tryz.prog 29 EA:=ap ao (sg D9 (sg xR (aJ))) Tryz.func29
end Go.Proofs.YtkgcbbkodalfmaaGreatDoor
