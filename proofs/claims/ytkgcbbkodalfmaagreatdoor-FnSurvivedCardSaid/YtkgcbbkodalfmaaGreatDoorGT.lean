import Derived.Test.YtkgcbbkodalfmaaGreatDoorGC
namespace Go.Proofs.YtkgcbbkodalfmaaGreatDoor
open Go.RowKit
set_option linter.unusedVariables false
noncomputable def fz(x:(Ty.T (.pair (.ptr ac) (.pair (.own 78 aY) (.pair (.own 30 ab) (.pair (.own 38 aB) an)))))):Option ((Ty.T (.pair (.ptr ac) (.pair (.own 78 aY) (.pair (.own 30 ab) (.pair (.own 38 aB) an))))) ⊕ ((Ty.T (.pair (.own 78 aY) .unit)) ⊕ (Ty.T .unit))):=
match(decide (x.2.2.2.2.2.1<x.2.2.2.2.1))with
|true=>
 aa (aq x.2.2.2.1 x.2.2.2.2.2.1) fun _=>
 match x.2.2.2.1[x.2.2.2.2.2.1.toNat]? with
 |none=>none
 |some v4=>
 aa (aq x.2.2.1 x.2.2.2.2.2.1) fun _=>
 aa (aq x.2.2.1 x.2.2.2.2.2.1) fun _=>
 aQ (
  match x.2.2.1[x.2.2.2.2.2.1.toNat]? with
  |none=>none
  |some v7=>
  match x.2.2.1[x.2.2.2.2.2.1.toNat]? with
  |none=>none
  |some v8=>
  match az (x.1,v8,())with
  |none=>none
  |some v9=>
  aA (x.2.1.length+ [((v7.1,v7.2.1,v7.2.2.1,v7.2.2.2.1,v7.2.2.2.2.1,()),v9.1.1,v4.1,())].length) (
   some (.inl (x.1,(x.2.1++ [((v7.1,v7.2.1,v7.2.2.1,v7.2.2.2.1,v7.2.2.2.2.1,()),v9.1.1,v4.1,())]),x.2.2.1,x.2.2.2.1,x.2.2.2.2.1,(IntKind.i64.wrap (x.2.2.2.2.2.1+(1:Int))),())))) (
  match x.2.2.1[x.2.2.2.2.2.1.toNat]? with
  |none=>none
  |some v7=>
  aQ (
   match x.2.2.1[x.2.2.2.2.2.1.toNat]? with
   |none=>none
   |some v8=>
   match az (x.1,v7,())with
   |none=>none
   |some v9=>
   aA (x.2.1.length+ [((v8.1,v8.2.1,v8.2.2.1,v8.2.2.2.1,v8.2.2.2.2.1,()),v9.1.1,v4.1,())].length) (
    some (.inl (x.1,(x.2.1++ [((v8.1,v8.2.1,v8.2.2.1,v8.2.2.2.1,v8.2.2.2.2.1,()),v9.1.1,v4.1,())]),x.2.2.1,x.2.2.2.1,x.2.2.2.2.1,(IntKind.i64.wrap (x.2.2.2.2.2.1+(1:Int))),())))) (
   match az (x.1,v7,())with
   |none=>none
   |some v8=>
   match x.2.2.1[x.2.2.2.2.2.1.toNat]? with
   |none=>none
   |some v9=>
   aA (x.2.1.length+ [((v9.1,v9.2.1,v9.2.2.1,v9.2.2.2.1,v9.2.2.2.2.1,()),v8.1.1,v4.1,())].length) (
    some (.inl (x.1,(x.2.1++ [((v9.1,v9.2.1,v9.2.2.1,v9.2.2.2.1,v9.2.2.2.2.1,()),v8.1.1,v4.1,())]),x.2.2.1,x.2.2.2.1,x.2.2.2.2.1,(IntKind.i64.wrap (x.2.2.2.2.2.1+(1:Int))),())))))
|false=>
 some (.inr (.inl (x.2.1,())))
noncomputable def mC(x:Ty.T (.pair ac (.pair ab (.pair (.list au) .unit)))):Option (Ty.T (.pair (.own 78 aY) (.pair (.int .i64) .unit))):=
match lv ((x.1.1,x.1.2.1,x.1.2.2.1,x.1.2.2.2.1,()),(x.2.1.1,x.2.1.2.1,x.2.1.2.2.1,x.2.1.2.2.2.1,x.2.1.2.2.2.2.1,()),x.2.2.1,())with
|none=>none
|some v1=>
match(v1.1 != (0:Int))with
|true=>
 some ([],v1.1,())
|false=>
 match mY ((x.1.1,x.1.2.1,x.1.2.2.1,x.1.2.2.2.1,()),(x.2.1.1,x.2.1.2.1,x.2.1.2.2.1,x.2.1.2.2.2.1,x.2.1.2.2.2.2.1,()),x.2.2.1,())with
 |none=>none
 |some v2=>
 match ag fz ((x.1.1,x.1.2.1,x.1.2.2.1,x.1.2.2.2.1,()),[],v2.2.1,v2.1,(v2.1.length:Int),(0:Int),())with
 |none=>none
 |some (.inl v10)=>
  some (v10.1,(0:Int),())
 |some (.inr v12)=>
  none
noncomputable def qS:Spec:=⟨_,(.pair (.own 78 aY) (.pair (.int .i64) .unit)),.unit,rfl,mC⟩
noncomputable def xj:FuncId→Option Spec:=bh [(64,Bx),(73,nq),(82,D5)]
theorem FY:∀f s,xj f=some s→FnOK G0 Tryz.prog f s:=aF ⟨yG,cQ,BM,trivial⟩
def vU:aO:=⟨[3,9,11,31,32,33],(.pair (.ptr ac) (.pair (.own 78 aY) (.pair (.own 30 ab) (.pair (.own 38 aB) an)))),0,[9],(.pair (.own 78 aY) .unit),[],.unit⟩
noncomputable def xk:List ay:=[vU.spec fz]
theorem ES:bc bd E0 xj (ba Tryz.f31 xk) Tryz.f31 0 vU fz:=fun x=>by kernel_rfl
theorem xl:FnOK G0 Tryz.prog 31 qS:=aH ao FY Tryz.func31 xk (by kernel_rfl) (by exact⟨(ES).lok,trivial⟩) fun x=>by kernel_rfl
noncomputable def qT(x:Ty.T (.pair aY .unit)):Option (Ty.T (.pair .bool .unit)):=
match dl ((x.1.1.1,x.1.1.2.1,x.1.1.2.2.1,x.1.1.2.2.2.1,x.1.1.2.2.2.2.1,()),())with
|none=>none
|some v1=>
match v1.1 with
|true=>
 match kN (x.1.2.1,())with
 |none=>none
 |some v2=>
 match v2.1 with
 |true=>
  match bj (x.1.2.2.1,(0:Int),(4:Int),())with
  |none=>none
  |some v3=>
  some (v3.1,())
 |false=>
  some (false,())
|false=>
 some (false,())
noncomputable def Lh:Spec:=⟨_,(.pair .bool .unit),.unit,rfl,qT⟩
theorem Hd:FnOK G0 Tryz.prog 34 Lh:=ap ao (sg ci (sg q6 (sg ko (aJ)))) Tryz.func34
noncomputable def cH(x:(Ty.T (.pair (.list aY) (.pair (.fn (.pair aY .unit) (.pair .bool .unit)) an)))):Option ((Ty.T (.pair (.list aY) (.pair (.fn (.pair aY .unit) (.pair .bool .unit)) an))) ⊕ ((Ty.T .unit) ⊕ (Ty.T (.pair (.int .i64) .unit)))):=
match(decide (x.2.2.2.1<x.2.2.1))with
|true=>
 aa (aq x.1 x.2.2.2.1) fun v1=>
 match x.2.1 (v1,())with
 |none=>none
 |some v2=>
 match v2.1 with
 |true=>
  some (.inr (.inr (x.2.2.2.1,())))
 |false=>
  some (.inl (x.1,x.2.1,x.2.2.1,(IntKind.i64.wrap (x.2.2.2.1+(1:Int))),()))
|false=>
 some (.inr (.inl (())))
noncomputable def dS(x:Ty.T (.pair (.list aY) (.pair (.fn (.pair aY .unit) (.pair .bool .unit)) .unit))):Option (Ty.T (.pair (.int .i64) .unit)):=
match ag cH (x.1,x.2.1,(x.1.length:Int),(0:Int),())with
|none=>none
|some (.inl v3)=>
 some ((-1:Int),())
|some (.inr v4)=>
 some (v4.1,())
noncomputable def wd:Spec:=⟨_,(.pair (.int .i64) .unit),.unit,rfl,dS⟩
noncomputable def mD:FuncId→Option Spec:=bh []
theorem sM:∀f s,mD f=some s→FnOK G0 Tryz.prog f s:=aF trivial
def lM:aO:=⟨[0,1,7,8],(.pair (.list aY) (.pair (.fn (.pair aY .unit) (.pair .bool .unit)) an)),0,[],.unit,[4],(.pair (.int .i64) .unit)⟩
noncomputable def mE:List ay:=[lM.spec cH]
theorem sf:bc bd E0 mD (ba Tryz.f91 mE) Tryz.f91 0 lM cH:=fun x=>by kernel_rfl
theorem mF:FnOK G0 Tryz.prog 91 wd:=aH ao sM Tryz.func91 mE (by kernel_rfl) (by exact⟨(sf).lok,trivial⟩) fun x=>by kernel_rfl
noncomputable def gb(x:Ty.T (.pair (.list aY) (.pair (.fn (.pair aY .unit) (.pair .bool .unit)) .unit))):Option (Ty.T (.pair .bool .unit)):=
match dS (x.1,x.2.1,())with
|none=>none
|some v1=>
some ((decide (v1.1≥(0:Int))),())
noncomputable def sN:Spec:=⟨_,(.pair .bool .unit),.unit,rfl,gb⟩
theorem sh:FnOK G0 Tryz.prog 147 sN:=ap ao (sg mF (aJ)) Tryz.func147
noncomputable def rj(x:Ty.T (.pair aY .unit)):Option (Ty.T (.pair .bool .unit)):=
match qT (((x.1.1.1,x.1.1.2.1,x.1.1.2.2.1,x.1.1.2.2.2.1,x.1.1.2.2.2.2.1,()),x.1.2.1,x.1.2.2.1,()),())with
|none=>none
|some v1=>
some ((!v1.1),())
noncomputable def O1:Spec:=⟨_,(.pair .bool .unit),.unit,rfl,rj⟩
theorem M4:FnOK G0 Tryz.prog 148 O1:=ap ao (sg Hd (aJ)) Tryz.func148
noncomputable def si(x:Ty.T (.pair (.list aY) .unit)):Option (Ty.T (.pair .bool .unit)):=
match(decide ((x.1.length:Int)≤(60:Int)))with
|true=>
 match gb (x.1,rj,())with
 |none=>none
 |some v1=>
 some ((!v1.1),())
|false=>
 some (false,())
noncomputable def He:Spec:=⟨_,(.pair .bool .unit),.unit,rfl,si⟩
theorem EU:FnOK G0 Tryz.prog 86 He:=ap ao (sg sh (sg M4 (aJ))) Tryz.func86
end Go.Proofs.YtkgcbbkodalfmaaGreatDoor
