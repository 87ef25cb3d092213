import Derived.Test.YtkgcbbkodalfmaaGreatDoorQT
namespace Go.Proofs.YtkgcbbkodalfmaaGreatDoor
open Go.RowKit
set_option linter.unusedVariables false
noncomputable def cv(x:(Ty.T (.pair (.box ac) (.pair (.box ab) (.pair (.box ah) (.pair (.box ac) (.pair (.box ab) (.pair (.own 49 au) (.pair (.int .i64) .unit))))))))):Option ((Ty.T (.pair (.box ac) (.pair (.box ab) (.pair (.box ah) (.pair (.box ac) (.pair (.box ab) (.pair (.own 49 au) (.pair (.int .i64) .unit)))))))) ⊕ ((Ty.T (.pair (.box ac) (.pair (.box ab) (.pair (.box ac) (.pair (.box ab) (.pair (.own 49 au) .unit)))))) ⊕ (Ty.T .unit))):=
match(decide (x.2.2.2.2.2.2.1<(x.2.2.2.2.2.1.length:Int)))with
|true=>
 match ai ((x.2.2.1.1,x.2.2.1.2.1,x.2.2.1.2.2.1,()),(2:Int),())with
 |none=>none
 |some v3=>
 match(v3.1==(0:Int))with
 |true=>
  aa (aq x.2.2.2.2.2.1 x.2.2.2.2.2.2.1) fun _=>
  match x.2.2.2.2.2.1[x.2.2.2.2.2.2.1.toNat]? with
  |none=>none
  |some v5=>
  some (.inl ((x.1.1,x.1.2.1,x.1.2.2.1,x.1.2.2.2.1,()),(x.2.1.1,x.2.1.2.1,x.2.1.2.2.1,x.2.1.2.2.2.1,x.2.1.2.2.2.2.1,()),(v3.2.1.1,v3.2.1.2.1,v3.2.1.2.2.1,()),(x.2.2.2.1.1,x.2.2.2.1.2.1,x.2.2.2.1.2.2.1,x.2.2.2.1.2.2.2.1,()),(x.2.2.2.2.1.1,x.2.2.2.2.1.2.1,x.2.2.2.2.1.2.2.1,x.2.2.2.2.1.2.2.2.1,x.2.2.2.2.1.2.2.2.2.1,()),(x.2.2.2.2.2.1.set x.2.2.2.2.2.2.1.toNat (x.2.2.2.2.2.2.1,(0:Int),[],[],())),(IntKind.i64.wrap (x.2.2.2.2.2.2.1+(1:Int))),()))
 |false=>
  some (.inl ((x.1.1,x.1.2.1,x.1.2.2.1,x.1.2.2.2.1,()),(x.2.1.1,x.2.1.2.1,x.2.1.2.2.1,x.2.1.2.2.2.1,x.2.1.2.2.2.2.1,()),(v3.2.1.1,v3.2.1.2.1,v3.2.1.2.2.1,()),(x.2.2.2.1.1,x.2.2.2.1.2.1,x.2.2.2.1.2.2.1,x.2.2.2.1.2.2.2.1,()),(x.2.2.2.2.1.1,x.2.2.2.2.1.2.1,x.2.2.2.2.1.2.2.1,x.2.2.2.2.1.2.2.2.1,x.2.2.2.2.1.2.2.2.2.1,()),x.2.2.2.2.2.1,(IntKind.i64.wrap (x.2.2.2.2.2.2.1+(1:Int))),()))
|false=>
 some (.inr (.inl ((x.1.1,x.1.2.1,x.1.2.2.1,x.1.2.2.2.1,()),(x.2.1.1,x.2.1.2.1,x.2.1.2.2.1,x.2.1.2.2.2.1,x.2.1.2.2.2.2.1,()),(x.2.2.2.1.1,x.2.2.2.1.2.1,x.2.2.2.1.2.2.1,x.2.2.2.1.2.2.2.1,()),(x.2.2.2.2.1.1,x.2.2.2.2.1.2.1,x.2.2.2.2.1.2.2.1,x.2.2.2.2.1.2.2.2.1,x.2.2.2.2.1.2.2.2.2.1,()),x.2.2.2.2.2.1,())))
noncomputable def jl(x:Ty.T (.pair (.list (.int .u8)) .unit)):Option (Ty.T (.pair ac (.pair ab (.pair (.own 49 au) .unit)))):=
match kA (x.1,())with
|none=>none
|some v1=>
match kB ((v1.1.1,v1.1.2.1,v1.1.2.2.1,()),())with
|none=>none
|some v2=>
match ag cv (((0:Int),[],[],[],()),((0:Int),(0:Int),(0:Int),(0:Int),(0:Int),()),(v2.2.2.2.1.1,v2.2.2.2.1.2.1,v2.2.2.2.1.2.2.1,()),(v2.1.1,v2.1.2.1,v2.1.2.2.1,v2.1.2.2.2.1,()),(v2.2.1.1,v2.2.1.2.1,v2.2.1.2.2.1,v2.2.1.2.2.2.1,v2.2.1.2.2.2.2.1,()),v2.2.2.1,(0:Int),())with
|none=>none
|some (.inl v6)=>
 aI (
  some ((v6.2.2.1.1,v6.2.2.1.2.1,v6.2.2.1.2.2.1,v6.2.2.1.2.2.2.1,()),(v6.2.2.2.1.1,v6.2.2.2.1.2.1,v6.2.2.2.1.2.2.1,v6.2.2.2.1.2.2.2.1,v6.2.2.2.1.2.2.2.2.1,()),v6.2.2.2.2.1,()))
|some (.inr v8)=>
 none
noncomputable def pg:Spec:=⟨_,(.pair ac (.pair ab (.pair (.own 49 au) .unit))),.unit,rfl,jl⟩
noncomputable def nR:FuncId→Option Spec:=bh [(47,Ge),(52,iC),(81,Gt)]
theorem vX:∀f s,nR f=some s→FnOK G0 Tryz.prog f s:=aF ⟨pw,bR,Dz,trivial⟩
def nk:aO:=⟨[2,3,5,6,7,8,9],(.pair (.box ac) (.pair (.box ab) (.pair (.box ah) (.pair (.box ac) (.pair (.box ab) (.pair (.own 49 au) (.pair (.int .i64) .unit))))))),0,[2,3,6,7,8],(.pair (.box ac) (.pair (.box ab) (.pair (.box ac) (.pair (.box ab) (.pair (.own 49 au) .unit))))),[],.unit⟩
noncomputable def nS:List ay:=[nk.spec cv]
theorem uk:bc bd E0 nR (ba Tryz.f37 nS) Tryz.f37 0 nk cv:=fun x=>by kernel_rfl
theorem xY:FnOK G0 Tryz.prog 37 pg:=aH ao vX Tryz.func37 nS (by kernel_rfl) (by exact⟨(uk).lok,trivial⟩) fun x=>by kernel_rfl
noncomputable def ce(x:(Ty.T (.pair (.list aB) (.pair (.fn (.pair aB .unit) (.pair .bool .unit)) an)))):Option ((Ty.T (.pair (.list aB) (.pair (.fn (.pair aB .unit) (.pair .bool .unit)) an))) ⊕ ((Ty.T .unit) ⊕ (Ty.T (.pair (.int .i64) .unit)))):=
match(decide (x.2.2.2.1<x.2.2.1))with
|true=>
 aa (aq x.1 x.2.2.2.1) fun v1=>
 match x.2.1 (v1,())with
 |none=>none
 |some v2=>
 match v2.1 with
 |true=>
  some (.inr (.inr (x.2.2.2.1,())))
 |false=>
  some (.inl (x.1,x.2.1,x.2.2.1,(IntKind.i64.wrap (x.2.2.2.1+(1:Int))),()))
|false=>
 some (.inr (.inl (())))
noncomputable def el(x:Ty.T (.pair (.list aB) (.pair (.fn (.pair aB .unit) (.pair .bool .unit)) .unit))):Option (Ty.T (.pair (.int .i64) .unit)):=
match ag ce (x.1,x.2.1,(x.1.length:Int),(0:Int),())with
|none=>none
|some (.inl v3)=>
 some ((-1:Int),())
|some (.inr v4)=>
 some (v4.1,())
noncomputable def sO:Spec:=⟨_,(.pair (.int .i64) .unit),.unit,rfl,el⟩
noncomputable def kE:FuncId→Option Spec:=bh []
theorem qt:∀f s,kE f=some s→FnOK G0 Tryz.prog f s:=aF trivial
def ky:aO:=⟨[0,1,7,8],(.pair (.list aB) (.pair (.fn (.pair aB .unit) (.pair .bool .unit)) an)),0,[],.unit,[4],(.pair (.int .i64) .unit)⟩
noncomputable def kF:List ay:=[ky.spec ce]
theorem qp:bc bd E0 kE (ba Tryz.f149 kF) Tryz.f149 0 ky ce:=fun x=>by kernel_rfl
theorem sn:FnOK G0 Tryz.prog 149 sO:=aH ao qt Tryz.func149 kF (by kernel_rfl) (by exact⟨(qp).lok,trivial⟩) fun x=>by kernel_rfl
noncomputable def fb(x:Ty.T (.pair (.list aB) (.pair (.fn (.pair aB .unit) (.pair .bool .unit)) .unit))):Option (Ty.T (.pair .bool .unit)):=
match el (x.1,x.2.1,())with
|none=>none
|some v1=>
some ((decide (v1.1≥(0:Int))),())
noncomputable def qu:Spec:=⟨_,(.pair .bool .unit),.unit,rfl,fb⟩
theorem qq:FnOK G0 Tryz.prog 87 qu:=ap ao (sg sn (aJ)) Tryz.func87
noncomputable def nu(x:Ty.T (.pair aB .unit)):Option (Ty.T (.pair .bool .unit)):=
some ((x.1.1 != (3:Int)),())
noncomputable def CK:Spec:=⟨_,(.pair .bool .unit),.unit,rfl,nu⟩
theorem AW:FnOK G0 Tryz.prog 88 CK:=ap ao aJ Tryz.func88
noncomputable def lN(x:Ty.T (.pair ac (.pair ab (.pair (.list au) .unit)))):Option (Ty.T (.pair .bool (.pair (.int .i64) .unit))):=
match pZ ((x.1.1,x.1.2.1,x.1.2.2.1,x.1.2.2.2.1,()),(x.2.1.1,x.2.1.2.1,x.2.1.2.2.1,x.2.1.2.2.2.1,x.2.1.2.2.2.2.1,()),x.2.2.1,())with
|none=>none
|some v1=>
match fb (v1.1,nu,())with
|none=>none
|some v2=>
match(v1.2.2.1==(0:Int))with
|true=>
 some ((!v2.1),v1.2.2.1,())
|false=>
 some (false,v1.2.2.1,())
noncomputable def tF:Spec:=⟨_,(.pair .bool (.pair (.int .i64) .unit)),.unit,rfl,lN⟩
theorem EV:FnOK G0 Tryz.prog 38 tF:=ap ao (sg OD (sg qq (sg AW (aJ)))) Tryz.func38
noncomputable def dJ(x:(Ty.T (.pair (.own 38 aB) (.pair (.int .i64) .unit)))):Option ((Ty.T (.pair (.own 38 aB) (.pair (.int .i64) .unit))) ⊕ ((Ty.T .unit) ⊕ (Ty.T (.pair .bool (.pair (.int .i64) .unit))))):=
match(decide (x.2.1<(x.1.length:Int)))with
|true=>
 aa (aq x.1 x.2.1) fun _=>
 match x.1[x.2.1.toNat]? with
 |none=>none
 |some v4=>
 match(v4.1 != (3:Int))with
 |true=>
  some (.inr (.inr (false,(0:Int),())))
 |false=>
  some (.inl (x.1,(IntKind.i64.wrap (x.2.1+(1:Int))),()))
|false=>
 some (.inr (.inl (())))
noncomputable def lO(x:Ty.T (.pair ac (.pair ab (.pair (.list au) .unit)))):Option (Ty.T (.pair .bool (.pair (.int .i64) .unit))):=
match o7 ((x.1.1,x.1.2.1,x.1.2.2.1,x.1.2.2.2.1,()),(x.2.1.1,x.2.1.2.1,x.2.1.2.2.1,x.2.1.2.2.2.1,x.2.1.2.2.2.2.1,()),x.2.2.1,())with
|none=>none
|some v1=>
match(v1.1 != (0:Int))with
|true=>
 some (false,v1.1,())
|false=>
 match mv ((x.1.1,x.1.2.1,x.1.2.2.1,x.1.2.2.2.1,()),(x.2.1.1,x.2.1.2.1,x.2.1.2.2.1,x.2.1.2.2.2.1,x.2.1.2.2.2.2.1,()),x.2.2.1,())with
 |none=>none
 |some v2=>
 match ag dJ (v2.1,(0:Int),())with
 |none=>none
 |some (.inl v5)=>
  some (true,(0:Int),())
 |some (.inr v6)=>
  some (v6.1,v6.2.1,())
noncomputable def tG:Spec:=⟨_,(.pair .bool (.pair (.int .i64) .unit)),.unit,rfl,lO⟩
noncomputable def so:FuncId→Option Spec:=bh [(66,GJ),(83,As)]
theorem AX:∀f s,so f=some s→FnOK G0 Tryz.prog f s:=aF ⟨D9,xR,trivial⟩
def qz:aO:=⟨[9,11],(.pair (.own 38 aB) (.pair (.int .i64) .unit)),0,[],.unit,[6,7],(.pair .bool (.pair (.int .i64) .unit))⟩
noncomputable def sp:List ay:=[qz.spec dJ]
theorem zA:bc bd E0 so (ba Tryz.f39 sp) Tryz.f39 0 qz dJ:=fun x=>by kernel_rfl
theorem EW:FnOK G0 Tryz.prog 39 tG:=aH ao AX Tryz.func39 sp (by kernel_rfl) (by exact⟨(zA).lok,trivial⟩) fun x=>by kernel_rfl
noncomputable def kW(x:Ty.T (.pair (.list (.int .u8)) .unit)):Option (Ty.T (.pair (.int .i64) .unit)):=
match kA (x.1,())with
|none=>none
|some v1=>
match ai ((v1.1.1,v1.1.2.1,v1.1.2.2.1,()),(9:Int),())with
|none=>none
|some v2=>
match ai ((v2.2.1.1,v2.2.1.2.1,v2.2.1.2.2.1,()),(5:Int),())with
|none=>none
|some v3=>
aa (aq [v2.1,(0:Int),(40:Int),(41:Int),(-1:Int)] v3.1) fun _=>
match [v2.1,(0:Int),(40:Int),(41:Int),(-1:Int)][v3.1.toNat]? with
|none=>none
|some v5=>
some (v5,())
noncomputable def sq:Spec:=⟨_,(.pair (.int .i64) .unit),.unit,rfl,kW⟩
theorem CL:FnOK G0 Tryz.prog 40 sq:=ap ao (sg pw (sg bR (aJ))) Tryz.func40
noncomputable def qr(x:Ty.T (.pair (.int .i64) .unit)):Option (Ty.T (.pair (.own 49 au) (.pair (.int .i64) .unit))):=
match bj (x.1,(0:Int),(40:Int),())with
|none=>none
|some v1=>
match(!v1.1)with
|true=>
 some ([],(3:Int),())
|false=>
 if 0≤x.1∧x.1≤x.1 then
  aA (x.1.toNat) (
   some ((List.replicate x.1.toNat ((0:Int),(0:Int),[],[],())),(0:Int),()))
 else none
noncomputable def zB:Spec:=⟨_,(.pair (.own 49 au) (.pair (.int .i64) .unit)),.unit,rfl,qr⟩
theorem Lk:FnOK G0 Tryz.prog 41 zB:=ap ao (sg ci (aJ)) Tryz.func41
noncomputable def qs(x:Ty.T (.pair (.int .i64) .unit)):Option (Ty.T (.pair (.own 49 au) (.pair (.int .i64) .unit))):=
match bp (x.1,(0:Int),(40:Int),())with
|none=>none
|some v1=>
match(!v1.1)with
|true=>
 some ([],(3:Int),())
|false=>
 if 0≤x.1∧x.1≤x.1 then
  aA (x.1.toNat) (
   some ((List.replicate x.1.toNat ((0:Int),(0:Int),[],[],())),(0:Int),()))
 else none
noncomputable def zC:Spec:=⟨_,(.pair (.own 49 au) (.pair (.int .i64) .unit)),.unit,rfl,qs⟩
theorem Ll:FnOK G0 Tryz.prog 42 zC:=ap ao (sg cD (aJ)) Tryz.func42
noncomputable def lz(x:Ty.T (.pair (.list (.int .u8)) .unit)):Option (Ty.T (.pair ab (.pair ab .unit))):=
match kA (x.1,())with
|none=>none
|some v1=>
match iW ((v1.1.1,v1.1.2.1,v1.1.2.2.1,()),())with
|none=>none
|some v2=>
match ai ((v2.2.1.1,v2.2.1.2.1,v2.2.1.2.2.1,()),(2:Int),())with
|none=>none
|some v3=>
match(v3.1==(0:Int))with
|true=>
 aI (
  match iW ((v3.2.1.1,v3.2.1.2.1,v3.2.1.2.2.1,()),())with
  |none=>none
  |some v4=>
  some ((v2.1.1,v2.1.2.1,v2.1.2.2.1,v2.1.2.2.2.1,v2.1.2.2.2.2.1,()),(v4.1.1,v4.1.2.1,v4.1.2.2.1,v4.1.2.2.2.1,v4.1.2.2.2.2.1,()),()))
|false=>
 aI (
  match ai ((v3.2.1.1,v3.2.1.2.1,v3.2.1.2.2.1,()),(16:Int),())with
  |none=>none
  |some v5=>
  aI (
   match ai ((v5.2.1.1,v5.2.1.2.1,v5.2.1.2.2.1,()),(3:Int),())with
   |none=>none
   |some v6=>
   aQ (
    aI (
     some ((v2.1.1,v2.1.2.1,v2.1.2.2.1,v2.1.2.2.2.1,v2.1.2.2.2.2.1,()),((Int.tmod (IntKind.i64.wrap (v2.1.1+v6.1)) (65536:Int)),v2.1.2.1,v2.1.2.2.1,v2.1.2.2.2.1,(bits BinOp.xor .i64 v2.1.2.2.2.2.1 v5.1),()),()))) (
    some ((v2.1.1,v2.1.2.1,v2.1.2.2.1,v2.1.2.2.2.1,v2.1.2.2.2.2.1,()),((Int.tmod (IntKind.i64.wrap (v2.1.1+v6.1)) (65536:Int)),v2.1.2.1,v2.1.2.2.1,v2.1.2.2.2.1,(bits BinOp.xor .i64 v2.1.2.2.2.2.1 v5.1),()),()))))
noncomputable def zD:Spec:=⟨_,(.pair ab (.pair ab .unit)),.unit,rfl,lz⟩
theorem xZ:FnOK G0 Tryz.prog 89 zD:=ap ao (sg pw (sg bR (sg wv (aJ)))) Tryz.func89
noncomputable def ka(x:Ty.T (.pair (.list (.int .u8)) .unit)):Option (Ty.T (.pair ab (.pair ab .unit))):=
match lz (x.1,())with
|none=>none
|some v1=>
some ((v1.1.1,v1.1.2.1,v1.1.2.2.1,v1.1.2.2.2.1,v1.1.2.2.2.2.1,()),(v1.2.1.1,v1.2.1.2.1,v1.2.1.2.2.1,v1.2.1.2.2.2.1,v1.2.1.2.2.2.2.1,()),())
noncomputable def qA:Spec:=⟨_,(.pair ab (.pair ab .unit)),.unit,rfl,ka⟩
theorem AY:FnOK G0 Tryz.prog 43 qA:=ap ao (sg xZ (aJ)) Tryz.func43
noncomputable def oe(x:Ty.T (.pair ab (.pair ab .unit))):Option (Ty.T an):=
match dl ((x.1.1,x.1.2.1,x.1.2.2.1,x.1.2.2.2.1,x.1.2.2.2.2.1,()),())with
|none=>none
|some v1=>
match(!v1.1)with
|true=>
 some ((0:Int),(1:Int),())
|false=>
 match dl ((x.2.1.1,x.2.1.2.1,x.2.1.2.2.1,x.2.1.2.2.2.1,x.2.1.2.2.2.2.1,()),())with
 |none=>none
 |some v2=>
 match(!v2.1)with
 |true=>
  some ((0:Int),(1:Int),())
 |false=>
  some ((bits BinOp.andNot .i64 x.1.2.2.2.2.1 x.2.1.2.2.2.2.1),(0:Int),())
noncomputable def xq:Spec:=⟨_,an,.unit,rfl,oe⟩
theorem IQ:FnOK G0 Tryz.prog 44 xq:=ap ao (sg ko (aJ)) Tryz.func44
noncomputable def og(x:Ty.T (.pair ab (.pair ab .unit))):Option (Ty.T an):=
match iH ((x.1.1,x.1.2.1,x.1.2.2.1,x.1.2.2.2.1,x.1.2.2.2.2.1,()),())with
|none=>none
|some v1=>
match(!v1.1)with
|true=>
 some ((0:Int),(1:Int),())
|false=>
 match iH ((x.2.1.1,x.2.1.2.1,x.2.1.2.2.1,x.2.1.2.2.2.1,x.2.1.2.2.2.2.1,()),())with
 |none=>none
 |some v2=>
 match(!v2.1)with
 |true=>
  some ((0:Int),(1:Int),())
 |false=>
  some ((bits BinOp.andNot .i64 x.1.2.2.2.2.1 x.2.1.2.2.2.2.1),(0:Int),())
noncomputable def xr:Spec:=⟨_,an,.unit,rfl,og⟩
theorem IR:FnOK G0 Tryz.prog 45 xr:=ap ao (sg vq (aJ)) Tryz.func45
noncomputable def sP(x:Ty.T (.pair aY .unit)):Option (Ty.T (.pair .bool .unit)):=
some ((x.1.2.2.1 != (3:Int)),())
noncomputable def Lm:Spec:=⟨_,(.pair .bool .unit),.unit,rfl,sP⟩
theorem IU:FnOK G0 Tryz.prog 92 Lm:=ap ao aJ Tryz.func92
noncomputable def rk(x:Ty.T (.pair (.list aY) .unit)):Option (Ty.T an):=
match si (x.1,())with
|none=>none
|some v1=>
match(!v1.1)with
|true=>
 some ((0:Int),(1:Int),())
|false=>
 match dS (x.1,sP,())with
 |none=>none
 |some v2=>
 match(decide (v2.1<(0:Int)))with
 |true=>
  some ((0:Int),(4:Int),())
 |false=>
  some (v2.1,(0:Int),())
noncomputable def Cf:Spec:=⟨_,an,.unit,rfl,rk⟩
theorem M5:FnOK G0 Tryz.prog 46 Cf:=ap ao (sg EU (sg mF (sg IU (aJ)))) Tryz.func46
noncomputable def eV(x:(Ty.T (.pair (.box ac) (.pair (.box ab) (.pair (.own 49 au) (.pair .bool (.pair (.int .i64) (.pair (.own 49 au) (.pair (.int .i64) .unit))))))))):Option ((Ty.T (.pair (.box ac) (.pair (.box ab) (.pair (.own 49 au) (.pair .bool (.pair (.int .i64) (.pair (.own 49 au) (.pair (.int .i64) .unit)))))))) ⊕ ((Ty.T (.pair (.box ac) (.pair (.box ab) (.pair (.own 49 au) (.pair .bool (.pair (.int .i64) .unit)))))) ⊕ (Ty.T (.pair .bool .unit)))):=
match(decide (x.2.2.2.2.2.2.1<(x.2.2.2.2.2.1.length:Int)))with
|true=>
 aa (aq x.2.2.2.2.2.1 x.2.2.2.2.2.2.1) fun _=>
 match x.2.2.2.2.2.1[x.2.2.2.2.2.2.1.toNat]? with
 |none=>none
 |some v12=>
 match(v12.1 != (0:Int))with
 |true=>
  some (.inr (.inr (false,())))
 |false=>
  aa (aq x.2.2.2.2.2.1 x.2.2.2.2.2.2.1) fun _=>
  match x.2.2.2.2.2.1[x.2.2.2.2.2.2.1.toNat]? with
  |none=>none
  |some v14=>
  match(v14.2.1 != (0:Int))with
  |true=>
   some (.inr (.inr (false,())))
  |false=>
   aa (aq x.2.2.2.2.2.1 x.2.2.2.2.2.2.1) fun _=>
   match x.2.2.2.2.2.1[x.2.2.2.2.2.2.1.toNat]? with
   |none=>none
   |some v16=>
   match((v16.2.2.1.length:Int) != (0:Int))with
   |true=>
    some (.inr (.inr (false,())))
   |false=>
    aa (aq x.2.2.2.2.2.1 x.2.2.2.2.2.2.1) fun _=>
    match x.2.2.2.2.2.1[x.2.2.2.2.2.2.1.toNat]? with
    |none=>none
    |some v18=>
    match((v18.2.2.2.1.length:Int) != (0:Int))with
    |true=>
     some (.inr (.inr (false,())))
    |false=>
     some (.inl (x.1,x.2.1,x.2.2.1,x.2.2.2.1,x.2.2.2.2.1,x.2.2.2.2.2.1,(IntKind.i64.wrap (x.2.2.2.2.2.2.1+(1:Int))),()))
|false=>
 some (.inr (.inl (x.1,x.2.1,x.2.2.1,x.2.2.2.1,x.2.2.2.2.1,())))
noncomputable def vY(x:Ty.T (.pair (.list (.int .u8)) .unit)):Option (Ty.T (.pair .bool .unit)):=
match Jm (x.1,())with
|none=>none
|some v1=>
match v1.1 with
|true=>
 some (true,())
|false=>
 match jl (x.1,())with
 |none=>none
 |some v2=>
 match lN v2 with
 |none=>none
 |some v3=>
 match lO v2 with
 |none=>none
 |some v4=>
 match kW (x.1,())with
 |none=>none
 |some v5=>
 match qr (v5.1,())with
 |none=>none
 |some v6=>
 match qs (v5.1,())with
 |none=>none
 |some v7=>
 match ka (x.1,())with
 |none=>none
 |some v8=>
 match oe v8 with
 |none=>none
 |some v9=>
 match og v8 with
 |none=>none
 |some v10=>
 match(v3.2.1 != v4.2.1)with
 |true=>
  some (false,())
 |false=>
  match(v3.1 != v4.1)with
  |true=>
   some (false,())
  |false=>
   match(v6.2.1 != v7.2.1)with
   |true=>
    some (false,())
   |false=>
    match((v6.1.length:Int) != (v7.1.length:Int))with
    |true=>
     some (false,())
    |false=>
     match(v9.2.1 != v10.2.1)with
     |true=>
      some (false,())
     |false=>
      match(v9.1 != v10.1)with
      |true=>
       some (false,())
      |false=>
       match ag eV (v2.1,v2.2.1,v2.2.2.1,v3.1,v3.2.1,v6.1,(0:Int),())with
       |none=>none
       |some (.inl v11)=>
        match(v11.2.2.2.2.1 != (0:Int))with
        |true=>
         some (true,())
        |false=>
         match mC (v11.1,v11.2.1,v11.2.2.1,())with
         |none=>none
         |some v13=>
         match rk (v13.1,())with
         |none=>none
         |some v14=>
         match(v13.2.1==(0:Int))with
         |true=>
          some ((v11.2.2.2.1==(v14.2.1==(4:Int))),())
         |false=>
          some (false,())
       |some (.inr v12)=>
        some (v12.1,())
noncomputable def M6:Spec:=⟨_,(.pair .bool .unit),.unit,rfl,vY⟩
noncomputable def xt:FuncId→Option Spec:=bh [(8,LI),(31,qS),(37,pg),(38,tF),(39,tG),(40,sq),(41,zB),(42,zC),(43,qA),(44,xq),(45,xr),(46,Cf)]
theorem F3:∀f s,xt f=some s→FnOK G0 Tryz.prog f s:=aF ⟨P1,xl,xY,EV,EW,CL,Lk,Ll,AY,IQ,IR,M5,trivial⟩
def tH:aO:=⟨[3,4,5,6,7,11,21],(.pair (.box ac) (.pair (.box ab) (.pair (.own 49 au) (.pair .bool (.pair (.int .i64) (.pair (.own 49 au) (.pair (.int .i64) .unit))))))),0,[3,4,5,6,7],(.pair (.box ac) (.pair (.box ab) (.pair (.own 49 au) (.pair .bool (.pair (.int .i64) .unit))))),[2],(.pair .bool .unit)⟩
noncomputable def xu:List ay:=[tH.spec eV]
theorem CM:bc bd E0 xt (ba Tryz.f7 xu) Tryz.f7 0 tH eV:=fun x=>by kernel_rfl
theorem Ln:FnOK G0 Tryz.prog 7 M6:=aH ao F3 Tryz.func7 xu (by kernel_rfl) (by exact⟨(CM).lok,trivial⟩) fun x=>by kernel_rfl
end Go.Proofs.YtkgcbbkodalfmaaGreatDoor
namespace Go.Proofs.YtkgcbbkodalfmaaGreatDoor
open Go.RowKit
set_option linter.unusedVariables false
set_option linter.unusedSimpArgs false
theorem O4(l:List (Ty.T aB))(hl:l.length≤1099511627776)(p:(Ty.pair aB .unit).T→Option (Ty.pair .bool .unit).T)(q:Ty.T aB→Bool)(hq:∀i (h:i<l.length),p (l[i],())=some (q l[i],())):
  el (l,p,())=some ((match bv q 0 l with|none=>(-1:Int)|some i=>(i:Int)),()):=by
 have e:=kR (B:=ce) l (fun i=>(l,p,(l.length:Int),(i:Int),())) q (.inl ()) (fun i=>.inr ((i:Int),())) (by simp only[ce,be]) (fun i h=>by
  simp only[ce,a7 h,aG h hl,ar h,aa,hq i h]
  cases q l[i]<;>simp)
 have e0:el (l,p,())=match ag ce (l,p,(l.length:Int),((0:Nat):Int),())with
  |none=>none
  |some (.inl _)=>some ((-1:Int),())
  |some (.inr v4)=>some (v4.1,()):=rfl
 rw[e0,e]
 cases bv q 0 l<;>rfl
theorem IV(l:List (Ty.T aB))(hl:l.length≤1099511627776)(p:(Ty.pair aB .unit).T→Option (Ty.pair .bool .unit).T)(q:Ty.T aB→Bool)(hq:∀i (h:i<l.length),p (l[i],())=some (q l[i],())):
  fb (l,p,())=some (l.any q,()):=by
 have e0:fb (l,p,())=match el (l,p,())with
  |none=>none
  |some v1=>some ((decide (v1.1≥(0:Int))),()):=rfl
 rw[e0,O4 l hl p q hq,←fm q 0 l]
 cases bv q 0 l<;>simp
end Go.Proofs.YtkgcbbkodalfmaaGreatDoor
namespace Go.Proofs.YtkgcbbkodalfmaaGreatDoor
open Go.RowKit
set_option linter.unusedVariables false
set_option linter.unusedSimpArgs false
noncomputable def oh(m:ac.T)(st:ab.T)(l:List au.T):Bool×Int×Unit:=if ch m st l=0 then((aX m l st (-1)).1.all (fun v=>v.1==(3:Int)),(0:Int),())else(false,ch m st l,())
theorem Zi(m:ac.T)(st:ab.T)(l:List au.T)(hz:bU m)(hl:l.length≤1048576)(hs:∀x ∈ l,gY x):lN (m,st,l,())=some (oh m st l):=by
 have hr:=aac m st l hz hl hs
 have hc:=fun(vs:List aB.T) (hv:vs.length≤1099511627776)=>IV vs hv nu (fun v=>v.1 != (3:Int)) (fun i h=>rfl)
 have hr:pZ ((m.1,m.2.1,m.2.2.1,m.2.2.2.1,()),(st.1,st.2.1,st.2.2.1,st.2.2.2.1,st.2.2.2.2.1,()),l,())=_:=hr
 unfold lN oh
 simp only[hr]
 by_cases h:ch m st l=0
 ·obtain⟨h1,h2,h3,h4⟩:=m8 h
  have hlen:=(m9 m l st (-1)).1
  have hc1:=hc (aX m l st (-1)).1 (by omega)
  have k0:((0:Int)==0)=true:=rfl
  have hany:(aX m l st (-1)).1.any (fun v=>v.1 != (3:Int))= !(aX m l st (-1)).1.all (fun v=>v.1==(3:Int)):=by
   rw[List.all_eq_not_any_not,Bool.not_not]
   rfl
  simp only[if_pos h,hc1,k0,hany,Bool.not_not]
 ·have hc0:=hc [] (by simp)
  have k0:(ch m st l==0)=false:=by simpa using h
  simp only[if_neg h,hc0,k0]
theorem Zj(m:ac.T)(st:ab.T)(l:List au.T)(hz:bU m)(hl:l.length≤1048576)(hs:∀x ∈ l,gY x):lO (m,st,l,())=some (oh m st l):=by
 have hc:=RE m st l hz hl hs
 have hc:o7 ((m.1,m.2.1,m.2.2.1,m.2.2.2.1,()),(st.1,st.2.1,st.2.2.1,st.2.2.2.1,st.2.2.2.2.1,()),l,())=_:=hc
 unfold lO oh
 simp only[hc]
 by_cases h:ch m st l=0
 ·obtain⟨h1,h2,h3,h4⟩:=m8 h
  have hr:=RH m st l hz h1 h2 h4 h3
  have hr:mv ((m.1,m.2.1,m.2.2.1,m.2.2.2.1,()),(st.1,st.2.1,st.2.2.1,st.2.2.2.1,st.2.2.2.2.1,()),l,())=_:=hr
  have hlen:=(m9 m l st (-1)).1
  have k0:(ch m st l != 0)=false:=by rw[h];rfl
  rw[if_pos h]
  simp only[k0,hr]
  generalize (aX m l st (-1)).1=vs at hlen
  have e:=i8 (B:=dJ) vs (fun i=>(vs,(i:Int),())) (fun v=>v.1==(3:Int)) (.inl ()) (.inr (false,(0:Int),())) (by simp only[dJ,be]) (fun i hi=>by
   simp only[dJ,a7 hi,aG hi (show vs.length≤1099511627776 by omega),ar hi,aa,List.getElem?_eq_getElem hi,Int.toNat_natCast]
   have:(vs[i].1 != (3:Int))= !(vs[i].1==(3:Int)):=rfl
   rw[this]
   cases vs[i].1==(3:Int)<;>rfl)
  have e:ag dJ (vs,(0:Int),())=_:=e
  simp only[e]
  cases vs.all (fun v=>v.1==(3:Int))<;>rfl
 ·have k0:(ch m st l != 0)=true:=by simpa using h
  rw[if_neg h]
  simp only[k0]
end Go.Proofs.YtkgcbbkodalfmaaGreatDoor
namespace Go.Proofs.YtkgcbbkodalfmaaGreatDoor
open Go.RowKit
set_option linter.unusedVariables false
set_option linter.unusedSimpArgs false
theorem AZ(m0 m:ac.T)(t0 t:ab.T):∀(k i:Nat) (s:ah.T) (l:List au.T),i+k=l.length→l.length≤100→bk s→(∀x ∈ l,gY x)→
  ∃l',ag cv (m0,t0,s,m,t,l,(i:Int),())=some (.inl (m0,t0,m,t,l',()))∧l'.length≤100∧∀x ∈ l',gY x
 |0,i,s,l,hi,hl,hs,hx=>by
  have hi:i=l.length:=by omega
  refine⟨l, ?_,hl,hx⟩
  rw[am,hi]
  simp only[cv,be]
 |k+1,i,s,l,hi,hl,hs,hx=>by
  have hlt:i<l.length:=by omega
  obtain⟨z,hz,hd,hg⟩:=aP (n:=2) hs
  have hz:ai ((s.1,s.2.1,s.2.2.1,()),(2:Int),())=some z:=hz
  by_cases h0:z.1=0
  ·have hq:(z.1==(0:Int))=true:=by rw[h0];rfl
   obtain⟨l',h1,h2⟩:=AZ m0 m t0 t k (i+1) (z.2.1.1,z.2.1.2.1,z.2.1.2.2.1,()) (l.set i ((i:Int),(0:Int),[],[],())) (by rw[List.length_set];omega) (by rw[List.length_set];omega) hg (fun x hxm=>by
    rcases List.mem_or_eq_of_mem_set hxm with h|rfl
    ·exact hx x h
    ·exact⟨by simp,by simp⟩)
   refine⟨l', ?_,h2⟩
   rw[am]
   simp only[cv,a7 hlt,hz,hq,ar hlt,aa,Int.toNat_natCast,List.getElem?_eq_getElem hlt,aG hlt (show l.length≤1099511627776 by omega)]
   exact h1
  ·have hq:(z.1==(0:Int))=false:=by simpa using h0
   obtain⟨l',h1,h2⟩:=AZ m0 m t0 t k (i+1) (z.2.1.1,z.2.1.2.1,z.2.1.2.2.1,()) l (by omega) hl hg hx
   refine⟨l', ?_,h2⟩
   rw[am]
   simp only[cv,a7 hlt,hz,hq,aG hlt (show l.length≤1099511627776 by omega)]
   exact h1
theorem aaG {l:List Int}(hl:l.length≤4096)(hb:∀b ∈ l,(0:Int)≤b∧b≤255):∃m st steps,jl (l,())=some (m,st,steps,())∧bU m∧steps.length≤100∧∀x ∈ steps,gY x:=by
 obtain⟨s,h1,hs⟩:=Fs l hl hb
 obtain⟨v,h2,hg,h3,h4,h5⟩:=W0 hs
 have h2:kB ((s.1,s.2.1,s.2.2.1,()),())=_:=h2
 obtain⟨l',e,e2,e3⟩:=AZ ((0:Int),[],[],[],()) v.1 ((0:Int),(0:Int),(0:Int),(0:Int),(0:Int),()) v.2.1 v.2.2.1.length 0 (v.2.2.2.1.1,v.2.2.2.1.2.1,v.2.2.2.1.2.2.1,()) v.2.2.1 (by omega) h4 hg (fun x hx=>Hb (h5 x hx))
 have e:ag cv (((0:Int),[],[],[],()),((0:Int),(0:Int),(0:Int),(0:Int),(0:Int),()),(v.2.2.2.1.1,v.2.2.2.1.2.1,v.2.2.2.1.2.2.1,()),(v.1.1,v.1.2.1,v.1.2.2.1,v.1.2.2.2.1,()),(v.2.1.1,v.2.1.2.1,v.2.1.2.2.1,v.2.1.2.2.2.1,v.2.1.2.2.2.2.1,()),v.2.2.1,(0:Int),())=_:=e
 refine⟨v.1,v.2.1,l', ?_,vT h3,e2,e3⟩
 unfold jl
 simp only[h1,h2,e,kw]
theorem aak {l:List Int}(hl:l.length≤4096)(hb:∀b ∈ l,(0:Int)≤b∧b≤255):∃n:Int,kW (l,())=some (n,()):=by
 obtain⟨s,h1,hs⟩:=Fs l hl hb
 obtain⟨v2,e2,hd2,hg2⟩:=aP (n:=9) hs
 have e2:ai ((s.1,s.2.1,s.2.2.1,()),(9:Int),())=some v2:=e2
 obtain⟨v3,e3,hd3,hg3⟩:=aP (n:=5) hg2
 obtain⟨u,hu1,hu2,hu3⟩:=pick [v2.1,(0:Int),(40:Int),(41:Int),(-1:Int)] hd3 (by simp) (by simp)
 refine⟨u, ?_⟩
 unfold kW
 simp only[h1,e2,e3,hu1,hu2,aa]
theorem aaH {l:List Int}(hl:l.length≤4096)(hb:∀b ∈ l,(0:Int)≤b∧b≤255):∃v,ka (l,())=some v:=by
 obtain⟨s,h1,hs⟩:=Fs l hl hb
 obtain⟨v2,e2,hg2⟩:=M1 hs
 have e2:iW ((s.1,s.2.1,s.2.2.1,()),())=some v2:=e2
 obtain⟨v3,e3,hd3,hg3⟩:=aP (n:=2) hg2
 obtain⟨v4,e4,hg4⟩:=M1 hg3
 obtain⟨v5,e5,hd5,hg5⟩:=aP (n:=16) hg3
 obtain⟨v6,e6,hd6,hg6⟩:=aP (n:=3) hg5
 unfold ka lz
 simp only[h1,e2,e3,e4,e5,e6,bM,kw]
 cases v3.1==(0:Int)
 ·exact⟨_,rfl⟩
 ·exact⟨_,rfl⟩
theorem Zk(v):∃a e:Int,oe v=some (a,e,())∧og v=some (a,e,()):=by
 unfold oe og
 simp only[uq,ML]
 repeat' first
  |exact⟨_,_,rfl,rfl⟩
  |split
theorem X8(n:Int):∃(l:List au.T) (e:Int),qs (n,())=some (l,e,())∧qr (n,())=some (l,e,())∧l.length≤40∧∀v ∈ l,v=((0:Int),(0:Int),[],[],()):=by
 unfold qs qr
 simp only[i9,kS]
 cases h:aS n 0 40 with
 |false=>exact⟨[],3,rfl,rfl,by simp,fun v hv=>by cases hv⟩
 |true=>
  obtain⟨h0,h1⟩:=aR.1 h
  have hc:0≤n∧n≤n:=⟨h0,Int.le_refl n⟩
  simp only[Bool.not_true,if_pos hc]
  have hr:n.toNat≤1099511627776:=by omega
  unfold aA
  rw[if_pos hr]
  exact⟨_,_,rfl,rfl,by simp;omega,fun v hv=>List.eq_of_mem_replicate hv⟩
theorem Lo(m:ac.T)(st:ab.T)(steps:List au.T)(b:Bool)(c:Int)(q:List au.T)(hl:q.length≤40)(hq:∀v ∈ q,v=((0:Int),(0:Int),[],[],())):∀(k i:Nat),i+k=q.length→
  ag eV (m,st,steps,b,c,q,(i:Int),())=some (.inl (m,st,steps,b,c,()))
 |0,i,hi=>by
  have hi:i=q.length:=by omega
  rw[am,hi]
  simp only[eV,be]
 |k+1,i,hi=>by
  have hlt:i<q.length:=by omega
  have ih:=Lo m st steps b c q hl hq k (i+1) (by omega)
  have hv:=hq _ (List.getElem_mem hlt)
  have hset:q.set i ((0:Int),(0:Int),[],[],())=q:=by
   rw[←hv]
   exact List.set_getElem_self hlt
  have hb:((0:Int) != 0)=false:=rfl
  have hn:∀ {A:Type},((([]:List A).length:Int) != (0:Int))=false:=fun {A}=>rfl
  rw[am]
  simp only[eV,a7 hlt,ar hlt,aa,Int.toNat_natCast,List.getElem?_eq_getElem hlt,hv,hb,hn,hset,aG hlt (show q.length≤1099511627776 by omega)]
  exact ih
theorem Vk(t:List aY.T)(hl:t.length≤60)(hm:∀x ∈ t,oc x=true):∃n:Int,rk (t,())=some (n,(if t.any (fun x=>x.2.2.1 != (3:Int))then(0:Int)else 4),()):=by
 have h:=Lj t (by omega) sP (fun x=>x.2.2.1 != (3:Int)) (fun i h=>rfl)
 have ha:=fm (fun x:aY.T=>x.2.2.1 != (3:Int)) 0 t
 unfold rk
 simp only[RY t hl hm,Bool.not_true,h]
 cases hf:bv (fun x:aY.T=>x.2.2.1 != (3:Int)) 0 t with
 |none=>
  rw[hf]at ha
  rw[←ha]
  exact⟨0,rfl⟩
 |some i=>
  rw[hf]at ha
  rw[←ha]
  have hd:decide ((i:Int)<0)=false:=decide_eq_false (by omega)
  simp only[hd]
  exact⟨_,rfl⟩
theorem W7(m:ac.T)(st:ab.T)(l:List au.T):(bF m st l).any (fun x=>x.2.2.1 != (3:Int))= !((aX m l st (-1)).1.all (fun v=>v.1==(3:Int))):=by
 obtain⟨n1,n2⟩:=m9 m l st (-1)
 have hlen:=uj m st l
 rw[Bool.eq_iff_iff,List.any_eq_true,Bool.not_eq_true',List.all_eq_false]
 constructor
 ·rintro ⟨x,hx,hq⟩
  obtain⟨i,hi,rfl⟩:=List.getElem_of_mem hx
  obtain⟨g1,g2,e⟩:=sk i hi
  rw[e]at hq
  refine⟨_,List.getElem_mem g2, ?_⟩
  have hq:((aX m l st (-1)).1[i].1 != (3:Int))=true:=hq
  simpa using hq
 ·rintro ⟨v,hv,hq⟩
  obtain⟨i,hi,rfl⟩:=List.getElem_of_mem hv
  have hi2:i<(bF m st l).length:=by omega
  obtain⟨g1,g2,e⟩:=sk i hi2
  refine⟨_,List.getElem_mem hi2, ?_⟩
  rw[e]
  show((aX m l st (-1)).1[i].1 != (3:Int))=true
  simpa using hq
theorem R2(x)(hx:Wf (.pair (.list (.int .u8)) .unit) x):vY x=some (true,()):=by
 obtain⟨(l:List Int),u⟩:=x
 unfold vY Jm
 by_cases hbig:(l.length:Int)>4096
 ·simp only[decide_eq_true hbig]
 ·have hb:=RJ hx.1
  obtain⟨m,st,steps,hd,hz,hl,hs⟩:=aaG (l:=l) (by omega) hb
  obtain⟨n,hn⟩:=aak (l:=l) (by omega) hb
  obtain⟨q,qe,q1,q2,q3,q4⟩:=X8 n
  obtain⟨v,hv⟩:=aaH (l:=l) (by omega) hb
  obtain⟨a,ae,a1,a2⟩:=Zk v
  have ei:=Zi m st steps hz (by omega) hs
  have es:=Zj m st steps hz (by omega) hs
  have ql:=Lo m st steps (oh m st steps).1 (oh m st steps).2.1 q q3 q4 q.length 0 (by omega)
  have ql:ag eV (m,st,steps,(oh m st steps).1,(oh m st steps).2.1,q,(0:Int),())=_:=ql
  have hb0:∀a:Int,(a != a)=false:=m4
  have hb1:∀a:Bool,(a != a)=false:=UO
  simp only[decide_eq_false hbig,hd,ei,es,hn,q1,q2,hv,a1,a2,hb0,hb1,ql]
  by_cases h0:ch m st steps=0
  ·obtain⟨h1,h2,h3,h4⟩:=m8 h0
   have hlen2:=uj m st steps
   have et:oh m st steps=((aX m steps st (-1)).1.all (fun v=>v.1==(3:Int)),(0:Int),()):=by
    unfold oh
    rw[if_pos h0]
   have er:kx m st steps=(bF m st steps,(0:Int),()):=by
    unfold kx
    rw[if_pos h0]
   have ht:=RV m st steps hz (by omega) hs
   rw[er]at ht
   obtain⟨k,hk⟩:=Vk (bF m st steps) (by omega) (IP h1 h2 h4)
   rw[W7]at hk
   have hz0:((0:Int)==0)=true:=rfl
   have hz1:((0:Int) != 0)=false:=rfl
   rw[et]
   simp only[hz1,ht,hk,hz0]
   cases (aX m steps st (-1)).1.all (fun v=>v.1==(3:Int))<;>rfl
  ·have et:oh m st steps=(false,ch m st steps,()):=by
    unfold oh
    rw[if_neg h0]
   have hz1:(ch m st steps != 0)=true:=by simpa using h0
   rw[et]
   simp only[hz1]
end Go.Proofs.YtkgcbbkodalfmaaGreatDoor
