import Derived.Test.YtkgcbbkodalfmaaGreatDoorGC
namespace Go.Proofs.YtkgcbbkodalfmaaGreatDoor
open Go.RowKit
set_option linter.unusedVariables false
noncomputable def lL(x:Ty.T (.pair ac (.pair ab .unit))):Option (Ty.T (.pair bf (.pair (.int .i64) .unit))):=
match dr ((x.1.1,x.1.2.1,x.1.2.2.1,x.1.2.2.2.1,()),(x.2.1.1,x.2.1.2.1,x.2.1.2.2.1,x.2.1.2.2.2.1,x.2.1.2.2.2.2.1,()),())with
|none=>none
|some v1=>
match(v1.1 != (0:Int))with
|true=>
 some (((0:Int),(0:Int),(0:Int),(0:Int),false,()),v1.1,())
|false=>
 match az ((x.1.1,x.1.2.1,x.1.2.2.1,x.1.2.2.2.1,()),(x.2.1.1,x.2.1.2.1,x.2.1.2.2.1,x.2.1.2.2.2.1,x.2.1.2.2.2.2.1,()),())with
 |none=>none
 |some v2=>
 some ((v2.1.1,v2.1.2.1,v2.1.2.2.1,v2.1.2.2.2.1,v2.1.2.2.2.2.1,()),(0:Int),())
noncomputable def tC:Spec:=⟨_,(.pair bf (.pair (.int .i64) .unit)),.unit,rfl,lL⟩
theorem ER:FnOK G0 Tryz.prog 21 tC:=ap ao (sg ju (sg cQ (aJ))) Tryz.func21
noncomputable def kV(x:Ty.T (.pair (.list (.int .u8)) .unit)):Option (Ty.T (.pair ac (.pair ab (.pair (.own 49 au) .unit)))):=
match kA (x.1,())with
|none=>none
|some v1=>
match kB ((v1.1.1,v1.1.2.1,v1.1.2.2.1,()),())with
|none=>none
|some v2=>
some ((v2.1.1,v2.1.2.1,v2.1.2.2.1,v2.1.2.2.2.1,()),(v2.2.1.1,v2.2.1.2.1,v2.2.1.2.2.1,v2.2.1.2.2.2.1,v2.2.1.2.2.2.2.1,()),v2.2.2.1,())
noncomputable def se:Spec:=⟨_,(.pair ac (.pair ab (.pair (.own 49 au) .unit))),.unit,rfl,kV⟩
theorem CI:FnOK G0 Tryz.prog 30 se:=ap ao (sg pw (sg Dz (aJ))) Tryz.func30
noncomputable def fz(x:(Ty.T (.pair (.ptr ac) (.pair (.own 78 aY) (.pair (.own 30 ab) (.pair (.own 38 aB) an)))))):Option ((Ty.T (.pair (.ptr ac) (.pair (.own 78 aY) (.pair (.own 30 ab) (.pair (.own 38 aB) an))))) ⊕ ((Ty.T (.pair (.own 78 aY) .unit)) ⊕ (Ty.T .unit))):=
match(decide (x.2.2.2.2.2.1<x.2.2.2.2.1))with
|true=>
 aa (aq x.2.2.2.1 x.2.2.2.2.2.1) fun _=>
 match x.2.2.2.1[x.2.2.2.2.2.1.toNat]? with
 |none=>none
 |some v4=>
 aa (aq x.2.2.1 x.2.2.2.2.2.1) fun _=>
 aa (aq x.2.2.1 x.2.2.2.2.2.1) fun _=>
 aQ (
  match x.2.2.1[x.2.2.2.2.2.1.toNat]? with
  |none=>none
  |some v7=>
  match x.2.2.1[x.2.2.2.2.2.1.toNat]? with
  |none=>none
  |some v8=>
  match az (x.1,v8,())with
  |none=>none
  |some v9=>
  aA (x.2.1.length+ [((v7.1,v7.2.1,v7.2.2.1,v7.2.2.2.1,v7.2.2.2.2.1,()),v9.1.1,v4.1,())].length) (
   some (.inl (x.1,(x.2.1++ [((v7.1,v7.2.1,v7.2.2.1,v7.2.2.2.1,v7.2.2.2.2.1,()),v9.1.1,v4.1,())]),x.2.2.1,x.2.2.2.1,x.2.2.2.2.1,(IntKind.i64.wrap (x.2.2.2.2.2.1+(1:Int))),())))) (
  match x.2.2.1[x.2.2.2.2.2.1.toNat]? with
  |none=>none
  |some v7=>
  aQ (
   match x.2.2.1[x.2.2.2.2.2.1.toNat]? with
   |none=>none
   |some v8=>
   match az (x.1,v7,())with
   |none=>none
   |some v9=>
   aA (x.2.1.length+ [((v8.1,v8.2.1,v8.2.2.1,v8.2.2.2.1,v8.2.2.2.2.1,()),v9.1.1,v4.1,())].length) (
    some (.inl (x.1,(x.2.1++ [((v8.1,v8.2.1,v8.2.2.1,v8.2.2.2.1,v8.2.2.2.2.1,()),v9.1.1,v4.1,())]),x.2.2.1,x.2.2.2.1,x.2.2.2.2.1,(IntKind.i64.wrap (x.2.2.2.2.2.1+(1:Int))),())))) (
   match az (x.1,v7,())with
   |none=>none
   |some v8=>
   match x.2.2.1[x.2.2.2.2.2.1.toNat]? with
   |none=>none
   |some v9=>
   aA (x.2.1.length+ [((v9.1,v9.2.1,v9.2.2.1,v9.2.2.2.1,v9.2.2.2.2.1,()),v8.1.1,v4.1,())].length) (
    some (.inl (x.1,(x.2.1++ [((v9.1,v9.2.1,v9.2.2.1,v9.2.2.2.1,v9.2.2.2.2.1,()),v8.1.1,v4.1,())]),x.2.2.1,x.2.2.2.1,x.2.2.2.2.1,(IntKind.i64.wrap (x.2.2.2.2.2.1+(1:Int))),())))))
|false=>
 some (.inr (.inl (x.2.1,())))
noncomputable def mC(x:Ty.T (.pair ac (.pair ab (.pair (.list au) .unit)))):Option (Ty.T (.pair (.own 78 aY) (.pair (.int .i64) .unit))):=
match lv ((x.1.1,x.1.2.1,x.1.2.2.1,x.1.2.2.2.1,()),(x.2.1.1,x.2.1.2.1,x.2.1.2.2.1,x.2.1.2.2.2.1,x.2.1.2.2.2.2.1,()),x.2.2.1,())with
|none=>none
|some v1=>
match(v1.1 != (0:Int))with
|true=>
 some ([],v1.1,())
|false=>
 match mY ((x.1.1,x.1.2.1,x.1.2.2.1,x.1.2.2.2.1,()),(x.2.1.1,x.2.1.2.1,x.2.1.2.2.1,x.2.1.2.2.2.1,x.2.1.2.2.2.2.1,()),x.2.2.1,())with
 |none=>none
 |some v2=>
 match ag fz ((x.1.1,x.1.2.1,x.1.2.2.1,x.1.2.2.2.1,()),[],v2.2.1,v2.1,(v2.1.length:Int),(0:Int),())with
 |none=>none
 |some (.inl v10)=>
  some (v10.1,(0:Int),())
 |some (.inr v12)=>
  none
noncomputable def qS:Spec:=⟨_,(.pair (.own 78 aY) (.pair (.int .i64) .unit)),.unit,rfl,mC⟩
noncomputable def xj:FuncId→Option Spec:=bh [(64,Bx),(73,nq),(82,D5)]
theorem FY:∀f s,xj f=some s→FnOK G0 Tryz.prog f s:=aF ⟨yG,cQ,BM,trivial⟩
def vU:aO:=⟨[3,9,11,31,32,33],(.pair (.ptr ac) (.pair (.own 78 aY) (.pair (.own 30 ab) (.pair (.own 38 aB) an)))),0,[9],(.pair (.own 78 aY) .unit),[],.unit⟩
noncomputable def xk:List ay:=[vU.spec fz]
theorem ES:bc bd E0 xj (ba Tryz.f31 xk) Tryz.f31 0 vU fz:=fun x=>by kernel_rfl
theorem xl:FnOK G0 Tryz.prog 31 qS:=aH ao FY Tryz.func31 xk (by kernel_rfl) (by exact⟨(ES).lok,trivial⟩) fun x=>by kernel_rfl
noncomputable def fA(x:(Ty.T (.pair (.list au) (.pair (.ptr ac) (.pair (.box ab) (.pair (.own 38 aB) (.pair (.own 78 aY) (.pair (.int .i64) .unit)))))))):Option ((Ty.T (.pair (.list au) (.pair (.ptr ac) (.pair (.box ab) (.pair (.own 38 aB) (.pair (.own 78 aY) (.pair (.int .i64) .unit))))))) ⊕ ((Ty.T (.pair (.own 78 aY) .unit)) ⊕ (Ty.T .unit))):=
match(decide (x.2.2.2.2.2.1<(x.2.2.2.1.length:Int)))with
|true=>
 aa (aL x.1.length none (some (.dat (.int .i64) x.2.2.2.2.2.1))) fun v2=>
 aI (
  match mv (x.2.1,(x.2.2.1.1,x.2.2.1.2.1,x.2.2.1.2.2.1,x.2.2.1.2.2.2.1,x.2.2.1.2.2.2.2.1,()),(List.drop v2.1 (List.take v2.2 x.1)),())with
  |none=>none
  |some v3=>
  aa (aq x.2.2.2.1 x.2.2.2.2.2.1) fun _=>
  aQ (
   match cJ (x.2.1,(v3.2.1.1,v3.2.1.2.1,v3.2.1.2.2.1,v3.2.1.2.2.2.1,v3.2.1.2.2.2.2.1,()),())with
   |none=>none
   |some v5=>
   match x.2.2.2.1[x.2.2.2.2.2.1.toNat]? with
   |none=>none
   |some v6=>
   aA (x.2.2.2.2.1.length+ [((v3.2.1.1,v3.2.1.2.1,v3.2.1.2.2.1,v3.2.1.2.2.2.1,v3.2.1.2.2.2.2.1,()),v5.1.1,v6.1,())].length) (
    some (.inl (x.1,x.2.1,(x.2.2.1.1,x.2.2.1.2.1,x.2.2.1.2.2.1,x.2.2.1.2.2.2.1,x.2.2.1.2.2.2.2.1,()),x.2.2.2.1,(x.2.2.2.2.1++ [((v3.2.1.1,v3.2.1.2.1,v3.2.1.2.2.1,v3.2.1.2.2.2.1,v3.2.1.2.2.2.2.1,()),v5.1.1,v6.1,())]),(IntKind.i64.wrap (x.2.2.2.2.2.1+(1:Int))),())))) (
   match x.2.2.2.1[x.2.2.2.2.2.1.toNat]? with
   |none=>none
   |some v5=>
   match cJ (x.2.1,(v3.2.1.1,v3.2.1.2.1,v3.2.1.2.2.1,v3.2.1.2.2.2.1,v3.2.1.2.2.2.2.1,()),())with
   |none=>none
   |some v6=>
   aA (x.2.2.2.2.1.length+ [((v3.2.1.1,v3.2.1.2.1,v3.2.1.2.2.1,v3.2.1.2.2.2.1,v3.2.1.2.2.2.2.1,()),v6.1.1,v5.1,())].length) (
    some (.inl (x.1,x.2.1,(x.2.2.1.1,x.2.2.1.2.1,x.2.2.1.2.2.1,x.2.2.1.2.2.2.1,x.2.2.1.2.2.2.2.1,()),x.2.2.2.1,(x.2.2.2.2.1++ [((v3.2.1.1,v3.2.1.2.1,v3.2.1.2.2.1,v3.2.1.2.2.2.1,v3.2.1.2.2.2.2.1,()),v6.1.1,v5.1,())]),(IntKind.i64.wrap (x.2.2.2.2.2.1+(1:Int))),())))))
|false=>
 some (.inr (.inl (x.2.2.2.2.1,())))
noncomputable def qn(x:Ty.T (.pair ac (.pair ab (.pair (.list au) .unit)))):Option (Ty.T (.pair (.own 78 aY) (.pair (.int .i64) .unit))):=
match qf ((x.1.1,x.1.2.1,x.1.2.2.1,x.1.2.2.2.1,()),(x.2.1.1,x.2.1.2.1,x.2.1.2.2.1,x.2.1.2.2.2.1,x.2.1.2.2.2.2.1,()),x.2.2.1,())with
|none=>none
|some v1=>
match(v1.2.2.1 != (0:Int))with
|true=>
 some ([],v1.2.2.1,())
|false=>
 match ag fA (x.2.2.1,(x.1.1,x.1.2.1,x.1.2.2.1,x.1.2.2.2.1,()),(x.2.1.1,x.2.1.2.1,x.2.1.2.2.1,x.2.1.2.2.2.1,x.2.1.2.2.2.2.1,()),v1.1,[],(0:Int),())with
 |none=>none
 |some (.inl v7)=>
  some (v7.1,(0:Int),())
 |some (.inr v9)=>
  none
noncomputable def zx:Spec:=⟨_,(.pair (.own 78 aY) (.pair (.int .i64) .unit)),.unit,rfl,qn⟩
noncomputable def xm:FuncId→Option Spec:=bh [(29,EA),(83,As),(84,xP)]
theorem FZ:∀f s,xm f=some s→FnOK G0 Tryz.prog f s:=aF ⟨OY,xR,gT,trivial⟩
def vV:aO:=⟨[2,3,4,8,11,12],(.pair (.list au) (.pair (.ptr ac) (.pair (.box ab) (.pair (.own 38 aB) (.pair (.own 78 aY) (.pair (.int .i64) .unit)))))),0,[11],(.pair (.own 78 aY) .unit),[],.unit⟩
noncomputable def xn:List ay:=[vV.spec fA]
theorem ET:bc bd E0 xm (ba Tryz.f32 xn) Tryz.f32 0 vV fA:=fun x=>by kernel_rfl
theorem Lg:FnOK G0 Tryz.prog 32 zx:=aH ao FZ Tryz.func32 xn (by kernel_rfl) (by exact⟨(ET).lok,trivial⟩) fun x=>by kernel_rfl
noncomputable def ga(x:(Ty.T (.pair (.list aY) (.pair (.list aY) (.pair (.int .i64) .unit))))):Option ((Ty.T (.pair (.list aY) (.pair (.list aY) (.pair (.int .i64) .unit)))) ⊕ ((Ty.T .unit) ⊕ (Ty.T (.pair .bool .unit)))):=
match(decide (x.2.2.1<(x.1.length:Int)))with
|true=>
 aa (aq x.1 x.2.2.1) fun v1=>
 aa (aq x.2.1 x.2.2.1) fun v2=>
 match(!(dy aY v1 v2))with
 |true=>
  some (.inr (.inr (false,())))
 |false=>
  some (.inl (x.1,x.2.1,(IntKind.i64.wrap (x.2.2.1+(1:Int))),()))
|false=>
 some (.inr (.inl (())))
noncomputable def ri(x:Ty.T (.pair (.list aY) (.pair (.list aY) .unit))):Option (Ty.T (.pair .bool .unit)):=
match((x.1.length:Int) != (x.2.1.length:Int))with
|true=>
 some (false,())
|false=>
 match ag ga (x.1,x.2.1,(0:Int),())with
 |none=>none
 |some (.inl v3)=>
  some (true,())
 |some (.inr v4)=>
  some (v4.1,())
noncomputable def Cc:Spec:=⟨_,(.pair .bool .unit),.unit,rfl,ri⟩
noncomputable def zy:FuncId→Option Spec:=bh []
theorem IO:∀f s,zy f=some s→FnOK G0 Tryz.prog f s:=aF trivial
def xo:aO:=⟨[0,1,5],(.pair (.list aY) (.pair (.list aY) (.pair (.int .i64) .unit))),0,[],.unit,[4],(.pair .bool .unit)⟩
noncomputable def zz:List ay:=[xo.spec ga]
theorem F0:bc bd E0 zy (ba Tryz.f33 zz) Tryz.f33 0 xo ga:=fun x=>by kernel_rfl
theorem M3:FnOK G0 Tryz.prog 33 Cc:=aH ao IO Tryz.func33 zz (by kernel_rfl) (by exact⟨(F0).lok,trivial⟩) fun x=>by kernel_rfl
noncomputable def qT(x:Ty.T (.pair aY .unit)):Option (Ty.T (.pair .bool .unit)):=
match dl ((x.1.1.1,x.1.1.2.1,x.1.1.2.2.1,x.1.1.2.2.2.1,x.1.1.2.2.2.2.1,()),())with
|none=>none
|some v1=>
match v1.1 with
|true=>
 match kN (x.1.2.1,())with
 |none=>none
 |some v2=>
 match v2.1 with
 |true=>
  match bj (x.1.2.2.1,(0:Int),(4:Int),())with
  |none=>none
  |some v3=>
  some (v3.1,())
 |false=>
  some (false,())
|false=>
 some (false,())
noncomputable def Lh:Spec:=⟨_,(.pair .bool .unit),.unit,rfl,qT⟩
theorem Hd:FnOK G0 Tryz.prog 34 Lh:=ap ao (sg ci (sg q6 (sg ko (aJ)))) Tryz.func34
noncomputable def cH(x:(Ty.T (.pair (.list aY) (.pair (.fn (.pair aY .unit) (.pair .bool .unit)) an)))):Option ((Ty.T (.pair (.list aY) (.pair (.fn (.pair aY .unit) (.pair .bool .unit)) an))) ⊕ ((Ty.T .unit) ⊕ (Ty.T (.pair (.int .i64) .unit)))):=
match(decide (x.2.2.2.1<x.2.2.1))with
|true=>
 aa (aq x.1 x.2.2.2.1) fun v1=>
 match x.2.1 (v1,())with
 |none=>none
 |some v2=>
 match v2.1 with
 |true=>
  some (.inr (.inr (x.2.2.2.1,())))
 |false=>
  some (.inl (x.1,x.2.1,x.2.2.1,(IntKind.i64.wrap (x.2.2.2.1+(1:Int))),()))
|false=>
 some (.inr (.inl (())))
noncomputable def dS(x:Ty.T (.pair (.list aY) (.pair (.fn (.pair aY .unit) (.pair .bool .unit)) .unit))):Option (Ty.T (.pair (.int .i64) .unit)):=
match ag cH (x.1,x.2.1,(x.1.length:Int),(0:Int),())with
|none=>none
|some (.inl v3)=>
 some ((-1:Int),())
|some (.inr v4)=>
 some (v4.1,())
noncomputable def wd:Spec:=⟨_,(.pair (.int .i64) .unit),.unit,rfl,dS⟩
noncomputable def mD:FuncId→Option Spec:=bh []
theorem sM:∀f s,mD f=some s→FnOK G0 Tryz.prog f s:=aF trivial
def lM:aO:=⟨[0,1,7,8],(.pair (.list aY) (.pair (.fn (.pair aY .unit) (.pair .bool .unit)) an)),0,[],.unit,[4],(.pair (.int .i64) .unit)⟩
noncomputable def mE:List ay:=[lM.spec cH]
theorem sf:bc bd E0 mD (ba Tryz.f91 mE) Tryz.f91 0 lM cH:=fun x=>by kernel_rfl
theorem mF:FnOK G0 Tryz.prog 91 wd:=aH ao sM Tryz.func91 mE (by kernel_rfl) (by exact⟨(sf).lok,trivial⟩) fun x=>by kernel_rfl
noncomputable def gb(x:Ty.T (.pair (.list aY) (.pair (.fn (.pair aY .unit) (.pair .bool .unit)) .unit))):Option (Ty.T (.pair .bool .unit)):=
match dS (x.1,x.2.1,())with
|none=>none
|some v1=>
some ((decide (v1.1≥(0:Int))),())
noncomputable def sN:Spec:=⟨_,(.pair .bool .unit),.unit,rfl,gb⟩
theorem sh:FnOK G0 Tryz.prog 147 sN:=ap ao (sg mF (aJ)) Tryz.func147
noncomputable def rj(x:Ty.T (.pair aY .unit)):Option (Ty.T (.pair .bool .unit)):=
match qT (((x.1.1.1,x.1.1.2.1,x.1.1.2.2.1,x.1.1.2.2.2.1,x.1.1.2.2.2.2.1,()),x.1.2.1,x.1.2.2.1,()),())with
|none=>none
|some v1=>
some ((!v1.1),())
noncomputable def O1:Spec:=⟨_,(.pair .bool .unit),.unit,rfl,rj⟩
theorem M4:FnOK G0 Tryz.prog 148 O1:=ap ao (sg Hd (aJ)) Tryz.func148
noncomputable def si(x:Ty.T (.pair (.list aY) .unit)):Option (Ty.T (.pair .bool .unit)):=
match(decide ((x.1.length:Int)≤(60:Int)))with
|true=>
 match gb (x.1,rj,())with
 |none=>none
 |some v1=>
 some ((!v1.1),())
|false=>
 some (false,())
noncomputable def He:Spec:=⟨_,(.pair .bool .unit),.unit,rfl,si⟩
theorem EU:FnOK G0 Tryz.prog 86 He:=ap ao (sg sh (sg M4 (aJ))) Tryz.func86
noncomputable def ej(x:(Ty.T (.pair (.own 2 (.int .i64)) (.pair (.list aY) an)))):Option ((Ty.T (.pair (.own 2 (.int .i64)) (.pair (.list aY) an))) ⊕ ((Ty.T (.pair (.own 2 (.int .i64)) .unit)) ⊕ (Ty.T .unit))):=
match(decide (x.2.2.2.1<x.2.2.1))with
|true=>
 aa (aq x.2.1 x.2.2.2.1) fun v2=>
 aa (aq x.1 v2.2.2.1) fun _=>
 match x.1[v2.2.2.1.toNat]? with
 |none=>none
 |some v4=>
 aa (aq x.1 v2.2.2.1) fun _=>
 match x.1[v2.2.2.1.toNat]? with
 |none=>none
 |some v6=>
 some (.inl ((x.1.set v2.2.2.1.toNat (IntKind.i64.wrap (v4+(1:Int)))),x.2.1,x.2.2.1,(IntKind.i64.wrap (x.2.2.2.1+(1:Int))),()))
|false=>
 some (.inr (.inl (x.1,())))
noncomputable def na(x:Ty.T (.pair (.list aY) .unit)):Option (Ty.T (.pair (.own 2 (.int .i64)) (.pair (.int .i64) .unit))):=
match si (x.1,())with
|none=>none
|some v1=>
match(!v1.1)with
|true=>
 some ([],(1:Int),())
|false=>
 if 0≤(5:Int)∧(5:Int)≤(5:Int)then
  aA ((5:Int).toNat) (
   match ag ej ((List.replicate (5:Int).toNat (0:Int)),x.1,(x.1.length:Int),(0:Int),())with
   |none=>none
   |some (.inl v7)=>
    some (v7.1,(0:Int),())
   |some (.inr v9)=>
    none)
 else none
noncomputable def vW:Spec:=⟨_,(.pair (.own 2 (.int .i64)) (.pair (.int .i64) .unit)),.unit,rfl,na⟩
noncomputable def tD:FuncId→Option Spec:=bh [(86,He)]
theorem CJ:∀f s,tD f=some s→FnOK G0 Tryz.prog f s:=aF ⟨EU,trivial⟩
def sj:aO:=⟨[4,11,12,13],(.pair (.own 2 (.int .i64)) (.pair (.list aY) an)),0,[4],(.pair (.own 2 (.int .i64)) .unit),[],.unit⟩
noncomputable def tE:List ay:=[sj.spec ej]
theorem AS:bc bd E0 tD (ba Tryz.f35 tE) Tryz.f35 0 sj ej:=fun x=>by kernel_rfl
theorem F1:FnOK G0 Tryz.prog 35 vW:=aH ao CJ Tryz.func35 tE (by kernel_rfl) (by exact⟨(AS).lok,trivial⟩) fun x=>by kernel_rfl
noncomputable def mG(x:(Ty.T (.pair (.list (.int .i64)) an))):Option ((Ty.T (.pair (.list (.int .i64)) an)) ⊕ ((Ty.T (.pair (.int .i64) .unit)) ⊕ (Ty.T .unit))):=
match(decide (x.2.2.1<(x.1.length:Int)))with
|true=>
 aa (aq x.1 x.2.2.1) fun v1=>
 some (.inl (x.1,(IntKind.i64.wrap (x.2.1+v1)),(IntKind.i64.wrap (x.2.2.1+(1:Int))),()))
|false=>
 some (.inr (.inl (x.2.1,())))
noncomputable def Pe(x:Ty.T (.pair (.list (.int .i64)) .unit)):Option (Ty.T (.pair (.int .i64) .unit)):=
match ag mG (x.1,(0:Int),(0:Int),())with
|none=>none
|some (.inl v2)=>
 some (v2.1,())
|some (.inr v4)=>
 none
noncomputable def T7:Spec:=⟨_,(.pair (.int .i64) .unit),.unit,rfl,Pe⟩
noncomputable def RQ:FuncId→Option Spec:=bh []
theorem Vg:∀f s,RQ f=some s→FnOK G0 Tryz.prog f s:=aF trivial
def NZ:aO:=⟨[0,3,4],(.pair (.list (.int .i64)) an),0,[3],(.pair (.int .i64) .unit),[],.unit⟩
noncomputable def RR:List ay:=[NZ.spec mG]
theorem Tc:bc bd E0 RQ (ba Tryz.f36 RR) Tryz.f36 0 NZ mG:=fun x=>by kernel_rfl
theorem X4:FnOK G0 Tryz.prog 36 T7:=aH ao Vg Tryz.func36 RR (by kernel_rfl) (by exact⟨(Tc).lok,trivial⟩) fun x=>by kernel_rfl
noncomputable def gc(x:(Ty.T (.pair (.box ac) (.pair (.box ab) (.pair (.own 49 au) (.pair (.own 78 aY) (.pair (.int .i64) .unit))))))):Option ((Ty.T (.pair (.box ac) (.pair (.box ab) (.pair (.own 49 au) (.pair (.own 78 aY) (.pair (.int .i64) .unit)))))) ⊕ ((Ty.T (.pair (.box ab) (.pair (.own 49 au) (.pair (.own 78 aY) .unit)))) ⊕ (Ty.T (.pair .bool .unit)))):=
match(decide (x.2.2.2.2.1<(x.2.2.2.1.length:Int)))with
|true=>
 aa (aq x.2.2.2.1 x.2.2.2.2.1) fun _=>
 match x.2.2.2.1[x.2.2.2.2.1.toNat]? with
 |none=>none
 |some v7=>
 aI (
  match lL (x.1,v7.1,())with
  |none=>none
  |some v8=>
  match(v8.2.1 != (0:Int))with
  |true=>
   some (.inr (.inr (false,())))
  |false=>
   aa (aq x.2.2.2.1 x.2.2.2.2.1) fun _=>
   match x.2.2.2.1[x.2.2.2.2.1.toNat]? with
   |none=>none
   |some v10=>
   match(v8.1.1 != v10.2.1)with
   |true=>
    some (.inr (.inr (false,())))
   |false=>
    aa (aq x.2.2.2.1 x.2.2.2.2.1) fun _=>
    match x.2.2.2.1[x.2.2.2.2.1.toNat]? with
    |none=>none
    |some v12=>
    match qT (v12,())with
    |none=>none
    |some v13=>
    match(!v13.1)with
    |true=>
     some (.inr (.inr (false,())))
    |false=>
     some (.inl (x.1,x.2.1,x.2.2.1,x.2.2.2.1,(IntKind.i64.wrap (x.2.2.2.2.1+(1:Int))),())))
|false=>
 some (.inr (.inl (x.2.1,x.2.2.1,x.2.2.2.1,())))
noncomputable def AU(x:Ty.T (.pair (.list (.int .u8)) .unit)):Option (Ty.T (.pair .bool .unit)):=
match Jm (x.1,())with
|none=>none
|some v1=>
match v1.1 with
|true=>
 some (true,())
|false=>
 match kV (x.1,())with
 |none=>none
 |some v2=>
 match mC v2 with
 |none=>none
 |some v3=>
 match qn v2 with
 |none=>none
 |some v4=>
 match(v3.2.1 != v4.2.1)with
 |true=>
  some (false,())
 |false=>
  match ri (v3.1,v4.1,())with
  |none=>none
  |some v5=>
  match(!v5.1)with
  |true=>
   some (false,())
  |false=>
   match(v3.2.1 != (0:Int))with
   |true=>
    some (true,())
   |false=>
    match((v2.2.2.1.length:Int)==(0:Int))with
    |true=>
     some (true,())
    |false=>
     match ag gc (v2.1,v2.2.1,v2.2.2.1,v3.1,(0:Int),())with
     |none=>none
     |some (.inl v6)=>
      match na (v6.2.2.1,())with
      |none=>none
      |some v8=>
      match(v8.2.1==(0:Int))with
      |true=>
       aa (aq v6.2.2.1 (0:Int)) fun _=>
       match v6.2.2.1[(0:Int).toNat]? with
       |none=>none
       |some v10=>
       match(dy ab v10.1 v6.1)with
       |true=>
        aI (
         match((v6.2.2.1.length:Int)==(v6.2.1.length:Int))with
         |true=>
          aI (
           match Pe (v8.1,())with
           |none=>none
           |some v11=>
           some ((v11.1==(v6.2.1.length:Int)),()))
         |false=>
          aI (
           some (false,())))
       |false=>
        aI (
         aI (
          some (false,())))
      |false=>
       aI (
        aI (
         some (false,())))
     |some (.inr v7)=>
      some (v7.1,())
noncomputable def RS:Spec:=⟨_,(.pair .bool .unit),.unit,rfl,AU⟩
noncomputable def Cd:FuncId→Option Spec:=bh [(8,LI),(21,tC),(30,se),(31,qS),(32,zx),(33,Cc),(34,Lh),(35,vW),(36,T7)]
theorem Li:∀f s,Cd f=some s→FnOK G0 Tryz.prog f s:=aF ⟨P1,ER,CI,xl,Lg,M3,Hd,F1,X4,trivial⟩
def xp:aO:=⟨[3,4,5,6,10],(.pair (.box ac) (.pair (.box ab) (.pair (.own 49 au) (.pair (.own 78 aY) (.pair (.int .i64) .unit))))),0,[4,5,6],(.pair (.box ab) (.pair (.own 49 au) (.pair (.own 78 aY) .unit))),[2],(.pair .bool .unit)⟩
noncomputable def Ce:List ay:=[xp.spec gc]
theorem F2:bc bd E0 Cd (ba Tryz.f6 Ce) Tryz.f6 0 xp gc:=fun x=>by kernel_rfl
theorem O2:FnOK G0 Tryz.prog 6 RS:=aH ao Li Tryz.func6 Ce (by kernel_rfl) (by exact⟨(F2).lok,trivial⟩) fun x=>by kernel_rfl
end Go.Proofs.YtkgcbbkodalfmaaGreatDoor
