import Derived.Test.YtkgcbbkodalfmaaGreatDoorGB
namespace Go.Proofs.YtkgcbbkodalfmaaGreatDoor
open Go.RowKit
set_option linter.unusedVariables false
abbrev rk:Ty:=(.pair (.int .i64) (.pair (.own 167 al) (.pair (.list al) bB)))
noncomputable def gp(x:(Ty.T rk)):Option ((Ty.T rk) ⊕ ((Ty.T VV) ⊕ (Ty.T .unit))):=
match(decide (x.2.2.2.2.1<x.2.2.2.1))with
|true=>
 ab (aq x.2.2.1 x.2.2.2.2.1) fun v1=>
 match(v1.1==x.1)with
 |true=>
  aI (x.2.1.length+ [(v1.1,v1.2.1,v1.2.2.1,(v1.2.2.2.1.1,v1.2.2.2.1.2.1,v1.2.2.2.1.2.2.1,v1.2.2.2.1.2.2.2.1,v1.2.2.2.1.2.2.2.2.1,()),())].length) (
   some (.inl (x.1,(x.2.1++ [(v1.1,v1.2.1,v1.2.2.1,(v1.2.2.2.1.1,v1.2.2.2.1.2.1,v1.2.2.2.1.2.2.1,v1.2.2.2.1.2.2.2.1,v1.2.2.2.1.2.2.2.2.1,()),())]),x.2.2.1,x.2.2.2.1,(IntKind.i64.wrap (x.2.2.2.2.1+(1:Int))),())))
 |false=>
  some (.inl (x.1,x.2.1,x.2.2.1,x.2.2.2.1,(IntKind.i64.wrap (x.2.2.2.2.1+(1:Int))),()))
|false=>
 some (.inr (.inl (x.2.1,())))
noncomputable def oE(x:Ty.T abP):Option (Ty.T VV):=
match ac gp (x.2.1,[],x.1.2.2.2.1,(x.1.2.2.2.1.length:Int),(0:Int),())with
|none=>none
|some (.inl v2)=>
 some (v2.1,())
|some (.inr v4)=>
 none
noncomputable def DK:ae:=⟨_,VV,.unit,rfl,oE⟩
noncomputable def A7:FuncId→Option ae:=bC []
theorem JU:∀f s,A7 f=some s→FnOK G0 Tryz.prog f s:=aD trivial
def ze:aO:=⟨[1,5,10,11,12],rk,0,[5],VV,[],.unit⟩
noncomputable def A8:List aw:=[ze.spec gp]
theorem HM:bg bi E0 A7 (bc Tryz.f259 A8) Tryz.f259 0 ze gp:=fun x=>by kernel_rfl
theorem NY:FnOK G0 Tryz.prog 259 DK:=aJ aj JU Tryz.func259 A8 (by kernel_rfl) (by exact⟨(HM).lok,trivial⟩) fun x=>by kernel_rfl
noncomputable def iW(x:(Ty.T vh)):Option ((Ty.T vh) ⊕ ((Ty.T .unit) ⊕ (Ty.T ao))):=
match(decide (x.2.2.1<x.2.1))with
|true=>
 match oE ((x.1.1,x.1.2.1,x.1.2.2.1,x.1.2.2.2.1,()),x.2.2.1,())with
 |none=>none
 |some v1=>
 match np (v1.1,())with
 |none=>none
 |some v2=>
 match(decide (v2.1>(32000:Int)))with
 |true=>
  some (.inr (.inr (false,())))
 |false=>
  some (.inl ((x.1.1,x.1.2.1,x.1.2.2.1,x.1.2.2.2.1,()),x.2.1,(IntKind.i64.wrap (x.2.2.1+(1:Int))),()))
|false=>
 some (.inr (.inl (())))
noncomputable def tY(x:Ty.T r7):Option (Ty.T ao):=
match ac iW ((x.1.1,x.1.2.1,x.1.2.2.1,x.1.2.2.2.1,()),(x.1.2.2.1.length:Int),(0:Int),())with
|none=>none
|some (.inl v3)=>
 some (true,())
|some (.inr v4)=>
 some (v4.1,())
noncomputable def TT:ae:=⟨_,ao,.unit,rfl,tY⟩
noncomputable def F7:FuncId→Option ae:=bC [(258,xP),(259,DK)]
theorem NZ:∀f s,F7 f=some s→FnOK G0 Tryz.prog f s:=aD ⟨HL,NY,trivial⟩
def DL:aO:=⟨[1,6,7],vh,0,[],.unit,[2],ao⟩
noncomputable def F8:List aw:=[DL.spec iW]
theorem LL:bg bi E0 F7 (bc Tryz.f209 F8) Tryz.f209 0 DL iW:=fun x=>by kernel_rfl
theorem RZ:FnOK G0 Tryz.prog 209 TT:=aJ aj NZ Tryz.func209 F8 (by kernel_rfl) (by exact⟨(LL).lok,trivial⟩) fun x=>by kernel_rfl
abbrev uL:Ty:=(.pair (.box an) (.pair (.int .i64) (.pair (.int .i64) (.pair (.int .i64) (.pair (.list ay) (.pair (.int .i64) (.pair (.int .i64) (.pair (.int .i64) (.pair (.int .i64) (.pair (.list al) bB))))))))))
abbrev DM:Ty:=(.pair (.box an) (.pair (.int .i64) (.pair (.int .i64) (.pair (.list ay) av))))
noncomputable def fN(x:(Ty.T uL)):Option ((Ty.T uL) ⊕ ((Ty.T DM) ⊕ (Ty.T .unit))):=
match(decide (x.2.2.2.2.2.2.2.2.2.2.2.1<x.2.2.2.2.2.2.2.2.2.2.1))with
|true=>
 ab (aq x.2.2.2.2.2.2.2.2.2.1 x.2.2.2.2.2.2.2.2.2.2.2.1) fun v2=>
 match(v2.1==x.2.1)with
 |true=>
  match(v2.2.1==x.2.2.1)with
  |true=>
   if v2.2.2.2.1.1<0 then none else
   some (.inl ((x.1.1,x.1.2.1,x.1.2.2.1,x.1.2.2.2.1,()),x.2.1,x.2.2.1,(bits BinOp.or .i64 x.2.2.2.1 (IntKind.i64.wrap ((1:Int)*2^min v2.2.2.2.1.1.toNat IntKind.i64.bits))),x.2.2.2.2.1,x.2.2.2.2.2.1,x.2.2.2.2.2.2.1,x.2.2.2.2.2.2.2.1,x.2.2.2.2.2.2.2.2.1,x.2.2.2.2.2.2.2.2.2.1,x.2.2.2.2.2.2.2.2.2.2.1,(IntKind.i64.wrap (x.2.2.2.2.2.2.2.2.2.2.2.1+(1:Int))),()))
  |false=>
   some (.inl ((x.1.1,x.1.2.1,x.1.2.2.1,x.1.2.2.2.1,()),x.2.1,x.2.2.1,x.2.2.2.1,x.2.2.2.2.1,x.2.2.2.2.2.1,x.2.2.2.2.2.2.1,x.2.2.2.2.2.2.2.1,x.2.2.2.2.2.2.2.2.1,x.2.2.2.2.2.2.2.2.2.1,x.2.2.2.2.2.2.2.2.2.2.1,(IntKind.i64.wrap (x.2.2.2.2.2.2.2.2.2.2.2.1+(1:Int))),()))
 |false=>
  some (.inl ((x.1.1,x.1.2.1,x.1.2.2.1,x.1.2.2.2.1,()),x.2.1,x.2.2.1,x.2.2.2.1,x.2.2.2.2.1,x.2.2.2.2.2.1,x.2.2.2.2.2.2.1,x.2.2.2.2.2.2.2.1,x.2.2.2.2.2.2.2.2.1,x.2.2.2.2.2.2.2.2.2.1,x.2.2.2.2.2.2.2.2.2.2.1,(IntKind.i64.wrap (x.2.2.2.2.2.2.2.2.2.2.2.1+(1:Int))),()))
|false=>
 some (.inr (.inl ((x.1.1,x.1.2.1,x.1.2.2.1,x.1.2.2.2.1,()),x.2.1,x.2.2.2.1,x.2.2.2.2.1,x.2.2.2.2.2.1,x.2.2.2.2.2.2.1,x.2.2.2.2.2.2.2.1,x.2.2.2.2.2.2.2.2.1,())))
abbrev uM:Ty:=(.pair (.box an) (.pair (.int .i64) (.pair (.list ay) av)))
abbrev DN:Ty:=ab0
noncomputable def gE(x:(Ty.T uM)):Option ((Ty.T uM) ⊕ ((Ty.T DN) ⊕ (Ty.T ao))):=
match(decide (x.2.2.2.2.2.2.1<x.2.2.2.2.2.1))with
|true=>
 match ac fN ((x.1.1,x.1.2.1,x.1.2.2.1,x.1.2.2.2.1,()),x.2.1,x.2.2.2.2.2.2.1,(0:Int),x.2.2.1,x.2.2.2.1,x.2.2.2.2.1,x.2.2.2.2.2.1,x.2.2.2.2.2.2.1,x.1.2.2.2.1,(x.1.2.2.2.1.length:Int),(0:Int),())with
 |none=>none
 |some (.inl v2)=>
  match jn (v2.1.2.1,())with
  |none=>none
  |some v4=>
  match((bits BinOp.andNot .i64 v4.1 v2.2.2.1) != (0:Int))with
  |true=>
   some (.inr (.inr (false,())))
  |false=>
   some (.inl ((v2.1.1,v2.1.2.1,v2.1.2.2.1,v2.1.2.2.2.1,()),v2.2.1,v2.2.2.2.1,v2.2.2.2.2.1,v2.2.2.2.2.2.1,v2.2.2.2.2.2.2.1,(IntKind.i64.wrap (v2.2.2.2.2.2.2.2.1+(1:Int))),()))
 |some (.inr v5)=>
  none
|false=>
 some (.inr (.inl ((x.1.1,x.1.2.1,x.1.2.2.1,x.1.2.2.2.1,()),x.2.2.1,x.2.2.2.1,x.2.2.2.2.1,())))
abbrev uN:Ty:=ab0
noncomputable def iX(x:(Ty.T uN)):Option ((Ty.T uN) ⊕ ((Ty.T .unit) ⊕ (Ty.T ao))):=
match(decide (x.2.2.2.1<x.2.2.1))with
|true=>
 ab (aq x.2.1 x.2.2.2.1) fun v1=>
 match ac gE ((x.1.1,x.1.2.1,x.1.2.2.1,x.1.2.2.2.1,()),x.2.2.2.1,x.2.1,x.2.2.1,x.2.2.2.1,v1.1,(0:Int),())with
 |none=>none
 |some (.inl v2)=>
  some (.inl ((v2.1.1,v2.1.2.1,v2.1.2.2.1,v2.1.2.2.2.1,()),v2.2.1,v2.2.2.1,(IntKind.i64.wrap (v2.2.2.2.1+(1:Int))),()))
 |some (.inr v3)=>
  some (.inr (.inr (v3.1,())))
|false=>
 some (.inr (.inl (())))
noncomputable def tZ(x:Ty.T r7):Option (Ty.T ao):=
match ac iX ((x.1.1,x.1.2.1,x.1.2.2.1,x.1.2.2.2.1,()),x.1.2.2.1,(x.1.2.2.1.length:Int),(0:Int),())with
|none=>none
|some (.inl v4)=>
 some (true,())
|some (.inr v5)=>
 some (v5.1,())
noncomputable def TU:ae:=⟨_,ao,.unit,rfl,tZ⟩
noncomputable def rl:FuncId→Option ae:=bC [(141,xy)]
theorem N0:∀f s,rl f=some s→FnOK G0 Tryz.prog f s:=aD ⟨oe,trivial⟩
def DP:aO:=⟨[1,10,11,12],uN,0,[],.unit,[2],ao⟩
def DQ:aO:=⟨[1,3,10,11,12,18,19],uM,2,[1,10,11,12],DN,[2],ao⟩
def DR:aO:=⟨[1,3,5,6,10,11,12,18,19,23,24,25],uL,4,[1,3,6,10,11,12,18,19],DM,[],.unit⟩
noncomputable def rm:List aw:=[DP.spec iX,DQ.spec gE,DR.spec fN]
theorem LM:bg bi E0 rl (bc Tryz.f210 rm) Tryz.f210 0 DP iX:=fun x=>by kernel_rfl
theorem LN:bg bi E0 rl (bc Tryz.f210 rm) Tryz.f210 1 DQ gE:=fun x=>by kernel_rfl
theorem LO:bg bi E0 rl (bc Tryz.f210 rm) Tryz.f210 2 DR fN:=fun x=>by kernel_rfl
theorem R0:FnOK G0 Tryz.prog 210 TU:=aJ aj N0 Tryz.func210 rm (by kernel_rfl) (by exact⟨(LM).lok,(LN).lok,(LO).lok,trivial⟩) fun x=>by kernel_rfl
noncomputable def mQ(x:Ty.T r7):Option (Ty.T aE):=
match ca (x.1.1,(1:Int),(16777215:Int),())with
|none=>none
|some v1=>
match(!v1.1)with
|true=>
 some ((1:Int),())
|false=>
 match o8 (x.1.2.1,())with
 |none=>none
 |some v2=>
 match(!v2.1)with
 |true=>
  some ((2:Int),())
 |false=>
  match o9 (x.1.2.2.1,())with
  |none=>none
  |some v3=>
  match(!v3.1)with
  |true=>
   some ((3:Int),())
  |false=>
   match pb (x.1.2.2.2.1,())with
   |none=>none
   |some v4=>
   match(!v4.1)with
   |true=>
    some ((4:Int),())
   |false=>
    match mO ((x.1.1,x.1.2.1,x.1.2.2.1,x.1.2.2.2.1,()),())with
    |none=>none
    |some v5=>
    match(!v5.1)with
    |true=>
     some ((5:Int),())
    |false=>
     match ct (x.1.2.2.2.1,(fun z=>nm (z.1,(x.1.1,x.1.2.1,x.1.2.2.1,x.1.2.2.2.1,()),())),())with
     |none=>none
     |some v6=>
     match v6.1 with
     |true=>
      some ((6:Int),())
     |false=>
      match rj ((x.1.1,x.1.2.1,x.1.2.2.1,x.1.2.2.2.1,()),())with
      |none=>none
      |some v7=>
      match(!v7.1)with
      |true=>
       some ((7:Int),())
      |false=>
       match tY ((x.1.1,x.1.2.1,x.1.2.2.1,x.1.2.2.2.1,()),())with
       |none=>none
       |some v8=>
       match(!v8.1)with
       |true=>
        some ((8:Int),())
       |false=>
        match tZ ((x.1.1,x.1.2.1,x.1.2.2.1,x.1.2.2.2.1,()),())with
        |none=>none
        |some v9=>
        match(!v9.1)with
        |true=>
         some ((9:Int),())
        |false=>
         match ct (x.1.2.2.2.1,nn,())with
         |none=>none
         |some v10=>
         match v10.1 with
         |true=>
          some ((10:Int),())
         |false=>
          some ((0:Int),())
noncomputable def N1:ae:=⟨_,aE,.unit,rfl,mQ⟩
theorem LP:FnOK G0 Tryz.prog 140 N1:=ak aj (sg dh (sg HI (sg HJ (sg JN (sg JP (sg JS (sg LI (sg qq (sg P5 (sg RZ (sg R0 (aL)))))))))))) Tryz.func140
noncomputable def pw(x:Ty.T r7):Option (Ty.T ao):=
match mQ ((x.1.1,x.1.2.1,x.1.2.2.1,x.1.2.2.2.1,()),())with
|none=>none
|some v1=>
some ((v1.1==(0:Int)),())
noncomputable def V7:ae:=⟨_,ao,.unit,rfl,pw⟩
theorem TV:FnOK G0 Tryz.prog 74 V7:=ak aj (sg LP (aL)) Tryz.func74
noncomputable def Cu(x:Ty.T aE):Option (Ty.T ao):=
match ca (x.1,(0:Int),(4294967295:Int),())with
|none=>none
|some v1=>
some (v1.1,())
noncomputable def R1:ae:=⟨_,ao,.unit,rfl,Cu⟩
theorem P6:FnOK G0 Tryz.prog 76 R1:=ak aj (sg dh (aL)) Tryz.func76
noncomputable def iu(x:Ty.T zG):Option (Ty.T ao):=
match ca (x.1.1,(0:Int),(65535:Int),())with
|none=>none
|some v1=>
match v1.1 with
|true=>
 match ca (x.1.2.1,(0:Int),(15:Int),())with
 |none=>none
 |some v2=>
 match v2.1 with
 |true=>
  match ca (x.1.2.2.1,(0:Int),(15:Int),())with
  |none=>none
  |some v3=>
  match v3.1 with
  |true=>
   match ca (x.1.2.2.2.1,(0:Int),(255:Int),())with
   |none=>none
   |some v4=>
   match v4.1 with
   |true=>
    match Cu (x.1.2.2.2.2.1,())with
    |none=>none
    |some v5=>
    some (v5.1,())
   |false=>
    some (false,())
  |false=>
   some (false,())
 |false=>
  some (false,())
|false=>
 some (false,())
noncomputable def TW:ae:=⟨_,ao,.unit,rfl,iu⟩
theorem xQ:FnOK G0 Tryz.prog 85 TW:=ak aj (sg dh (sg P6 (aL))) Tryz.func85
noncomputable def qe(x:Ty.T Fe):Option (Ty.T ao):=
match iu ((x.2.1.1,x.2.1.2.1,x.2.1.2.2.1,x.2.1.2.2.2.1,x.2.1.2.2.2.2.1,()),())with
|none=>none
|some v1=>
match(!v1.1)with
|true=>
 some (false,())
|false=>
 match(decide (x.2.1.2.1≥(x.1.2.2.1.length:Int)))with
 |true=>
  some (false,())
 |false=>
  ab (aq x.1.2.2.1 x.2.1.2.1) fun v2=>
  match(decide (x.2.1.2.2.1<v2.1))with
  |true=>
   match(decide (x.2.1.2.2.2.1<v2.2.1))with
   |true=>
    match jn (x.1.2.1,())with
    |none=>none
    |some v3=>
    some (((bits BinOp.andNot .i64 x.2.1.2.2.2.2.1 v3.1)==(0:Int)),())
   |false=>
    some (false,())
  |false=>
   some (false,())
noncomputable def TX:ae:=⟨_,ao,.unit,rfl,qe⟩
theorem R2:FnOK G0 Tryz.prog 75 TX:=ak aj (sg xQ (sg oe (aL))) Tryz.func75
noncomputable def nq(x:Ty.T Fe):Option (Ty.T aE):=
match pw ((x.1.1,x.1.2.1,x.1.2.2.1,x.1.2.2.2.1,()),())with
|none=>none
|some v1=>
match(!v1.1)with
|true=>
 some ((1:Int),())
|false=>
 match qe ((x.1.1,x.1.2.1,x.1.2.2.1,x.1.2.2.2.1,()),(x.2.1.1,x.2.1.2.1,x.2.1.2.2.1,x.2.1.2.2.2.1,x.2.1.2.2.2.2.1,()),())with
 |none=>none
 |some v2=>
 match(!v2.1)with
 |true=>
  some ((2:Int),())
 |false=>
  some ((0:Int),())
noncomputable def R3:ae:=⟨_,aE,.unit,rfl,nq⟩
theorem DS:FnOK G0 Tryz.prog 72 R3:=ak aj (sg TV (sg R2 (aL))) Tryz.func72
abbrev rn:Ty:=(.pair (.int .i64) (.pair (.int .i64) (.pair (.list (.int .i64)) bB)))
noncomputable def cZ(x:(Ty.T rn)):Option ((Ty.T rn) ⊕ ((Ty.T .unit) ⊕ (Ty.T ao))):=
match(decide (x.2.2.2.2.1<x.2.2.2.1))with
|true=>
 ab (aq x.2.2.1 x.2.2.2.2.1) fun v1=>
 match(decide (v1<x.1))with
 |true=>
  some (.inr (.inr (false,())))
 |false=>
  match(decide (v1>x.2.1))with
  |true=>
   some (.inr (.inr (false,())))
  |false=>
   some (.inl (x.1,x.2.1,x.2.2.1,x.2.2.2.1,(IntKind.i64.wrap (x.2.2.2.2.1+(1:Int))),()))
|false=>
 some (.inr (.inl (())))
noncomputable def kv(x:Ty.T tD):Option (Ty.T ao):=
match ac cZ (x.2.1,x.2.2.1,x.1,(x.1.length:Int),(0:Int),())with
|none=>none
|some (.inl v2)=>
 some (true,())
|some (.inr v3)=>
 some (v3.1,())
noncomputable def P7:ae:=⟨_,ao,.unit,rfl,kv⟩
noncomputable def A9:FuncId→Option ae:=bC []
theorem JV:∀f s,A9 f=some s→FnOK G0 Tryz.prog f s:=aD trivial
def zf:aO:=⟨[1,2,9,10,11],rn,0,[],.unit,[6],ao⟩
noncomputable def Ba:List aw:=[zf.spec cZ]
theorem HN:bg bi E0 A9 (bc Tryz.f175 Ba) Tryz.f175 0 zf cZ:=fun x=>by kernel_rfl
theorem Bb:FnOK G0 Tryz.prog 175 P7:=aJ aj JV Tryz.func175 Ba (by kernel_rfl) (by exact⟨(HN).lok,trivial⟩) fun x=>by kernel_rfl
noncomputable def mR(x:Ty.T eG):Option (Ty.T ao):=
match(decide ((x.1.length:Int)≤(1024:Int)))with
|true=>
 match kv (x.1,(0:Int),(255:Int),())with
 |none=>none
 |some v1=>
 some (v1.1,())
|false=>
 some (false,())
noncomputable def TY:ae:=⟨_,ao,.unit,rfl,mR⟩
theorem F9:FnOK G0 Tryz.prog 263 TY:=ak aj (sg Bb (aL)) Tryz.func263
noncomputable def fC(x:Ty.T Nn):Option (Ty.T ao):=
match xH (x.1.1,())with
|none=>none
|some v1=>
match(!v1.1)with
|true=>
 some (false,())
|false=>
 match ca (x.1.2.1,(0:Int),(7:Int),())with
 |none=>none
 |some v2=>
 match(!v2.1)with
 |true=>
  some (false,())
 |false=>
  match mM (x.1.1,(x.1.2.2.2.1.length:Int),())with
  |none=>none
  |some v3=>
  match(!v3.1)with
  |true=>
   some (false,())
  |false=>
   match mR (x.1.2.2.2.1,())with
   |none=>none
   |some v4=>
   match(!v4.1)with
   |true=>
    some (false,())
   |false=>
    match(x.1.1==(0:Int))with
    |true=>
     some ((ex ai (x.1.2.2.1.1,x.1.2.2.1.2.1,x.1.2.2.1.2.2.1,x.1.2.2.1.2.2.2.1,x.1.2.2.1.2.2.2.2.1,()) ((0:Int),(0:Int),(0:Int),(0:Int),(0:Int),())),())
    |false=>
     match(x.1.1==(3:Int))with
     |true=>
      match iu ((x.1.2.2.1.1,x.1.2.2.1.2.1,x.1.2.2.1.2.2.1,x.1.2.2.1.2.2.2.1,x.1.2.2.1.2.2.2.2.1,()),())with
      |none=>none
      |some v5=>
      match v5.1 with
      |true=>
       match(x.1.2.2.1.2.1==(0:Int))with
       |true=>
        match(x.1.2.2.1.2.2.2.2.1 != (0:Int))with
        |true=>
         match((bits BinOp.and .i64 x.1.2.2.1.2.2.2.2.1 (IntKind.i64.wrap (x.1.2.2.1.2.2.2.2.1-(1:Int))))==(0:Int))with
         |true=>
          some ((x.1.2.1==(0:Int)),())
         |false=>
          some (false,())
        |false=>
         some (false,())
       |false=>
        some (false,())
      |false=>
       some (false,())
     |false=>
      match iu ((x.1.2.2.1.1,x.1.2.2.1.2.1,x.1.2.2.1.2.2.1,x.1.2.2.1.2.2.2.1,x.1.2.2.1.2.2.2.2.1,()),())with
      |none=>none
      |some v6=>
      some (v6.1,())
noncomputable def TZ:ae:=⟨_,ao,.unit,rfl,fC⟩
theorem Ga:FnOK G0 Tryz.prog 212 TZ:=ak aj (sg dh (sg xQ (sg Ix (sg zd (sg F9 (aL)))))) Tryz.func212
noncomputable def xR(x:Ty.T Y8):Option (Ty.T ao):=
match(x.2.1.1==x.1.2.1)with
|true=>
 match((x.2.1.2.2.2.1.length:Int)==x.1.2.2.1)with
 |true=>
  match(x.2.1.2.1==(0:Int))with
  |true=>
   some (true,())
  |false=>
   some (x.1.2.2.2.2.1,())
 |false=>
  some (false,())
|false=>
 some (false,())
noncomputable def Zm:ae:=⟨_,ao,.unit,rfl,xR⟩
theorem Pg:FnOK G0 Tryz.prog 213 Zm:=ak aj aL Tryz.func213
noncomputable def jz(x:Ty.T Y8):Option (Ty.T ao):=
match gb ((x.1.1,x.1.2.1,x.1.2.2.1,x.1.2.2.2.1,x.1.2.2.2.2.1,()),())with
|none=>none
|some v1=>
match v1.1 with
|true=>
 match fC ((x.2.1.1,x.2.1.2.1,(x.2.1.2.2.1.1,x.2.1.2.2.1.2.1,x.2.1.2.2.1.2.2.1,x.2.1.2.2.1.2.2.2.1,x.2.1.2.2.1.2.2.2.2.1,()),x.2.1.2.2.2.1,()),())with
 |none=>none
 |some v2=>
 match v2.1 with
 |true=>
  match xR ((x.1.1,x.1.2.1,x.1.2.2.1,x.1.2.2.2.1,x.1.2.2.2.2.1,()),(x.2.1.1,x.2.1.2.1,(x.2.1.2.2.1.1,x.2.1.2.2.1.2.1,x.2.1.2.2.1.2.2.1,x.2.1.2.2.1.2.2.2.1,x.2.1.2.2.1.2.2.2.2.1,()),x.2.1.2.2.2.1,()),())with
  |none=>none
  |some v3=>
  some (v3.1,())
 |false=>
  some (false,())
|false=>
 some (false,())
noncomputable def Gb:ae:=⟨_,ao,.unit,rfl,jz⟩
theorem EF:FnOK G0 Tryz.prog 143 Gb:=ak aj (sg vJ (sg Ga (sg Pg (aL)))) Tryz.func143
noncomputable def mS(x:Ty.T Cf):Option (Ty.T ao):=
match eC ((x.1.1,x.1.2.1,x.1.2.2.1,x.1.2.2.2.1,()),(x.2.1.1,x.2.1.2.1,x.2.1.2.2.1,x.2.1.2.2.2.1,x.2.1.2.2.2.2.1,()),())with
|none=>none
|some v1=>
match jz (v1.1,(x.2.2.1.1,x.2.2.1.2.1,(x.2.2.1.2.2.1.1,x.2.2.1.2.2.1.2.1,x.2.2.1.2.2.1.2.2.1,x.2.2.1.2.2.1.2.2.2.1,x.2.2.1.2.2.1.2.2.2.2.1,()),x.2.2.1.2.2.2.1,()),())with
|none=>none
|some v2=>
match v2.1 with
|true=>
 match ic (x.2.2.1.1,())with
 |none=>none
 |some v3=>
 match(!v3.1)with
 |true=>
  some (true,())
 |false=>
  some ((ex ai (x.2.2.1.2.2.1.1,x.2.2.1.2.2.1.2.1,x.2.2.1.2.2.1.2.2.1,x.2.2.1.2.2.1.2.2.2.1,x.2.2.1.2.2.1.2.2.2.2.1,()) (x.2.1.1,x.2.1.2.1,x.2.1.2.2.1,x.2.1.2.2.2.1,x.2.1.2.2.2.2.1,())),())
|false=>
 some (false,())
noncomputable def N2:ae:=⟨_,ao,.unit,rfl,mS⟩
theorem LQ:FnOK G0 Tryz.prog 80 N2:=ak aj (sg mI (sg lH (sg EF (aL)))) Tryz.func80
noncomputable def ro(x:Ty.T Cf):Option (Ty.T aE):=
match nq ((x.1.1,x.1.2.1,x.1.2.2.1,x.1.2.2.2.1,()),(x.2.1.1,x.2.1.2.1,x.2.1.2.2.1,x.2.1.2.2.2.1,x.2.1.2.2.2.2.1,()),())with
|none=>none
|some v1=>
match(v1.1 != (0:Int))with
|true=>
 some (v1.1,())
|false=>
 match mS ((x.1.1,x.1.2.1,x.1.2.2.1,x.1.2.2.2.1,()),(x.2.1.1,x.2.1.2.1,x.2.1.2.2.1,x.2.1.2.2.2.1,x.2.1.2.2.2.2.1,()),(x.2.2.1.1,x.2.2.1.2.1,(x.2.2.1.2.2.1.1,x.2.2.1.2.2.1.2.1,x.2.2.1.2.2.1.2.2.1,x.2.2.1.2.2.1.2.2.2.1,x.2.2.1.2.2.1.2.2.2.2.1,()),x.2.2.1.2.2.2.1,()),())with
 |none=>none
 |some v2=>
 match(!v2.1)with
 |true=>
  some ((5:Int),())
 |false=>
  some ((0:Int),())
noncomputable def R4:ae:=⟨_,aE,.unit,rfl,ro⟩
theorem P8:FnOK G0 Tryz.prog 111 R4:=ak aj (sg DS (sg LQ (aL))) Tryz.func111
noncomputable def kG(x:Ty.T (.pair .nil (.pair (.int .i64) .unit))):Option (Ty.T a8):=
match(decide (x.2.1<(0:Int)))with
|true=>
 none
|false=>
 match(decide ((IntKind.i64.wrap (x.2.1-(IntKind.i64.wrap ((0:Int)-(0:Int)))))>(0:Int)))with
 |true=>
  ab (aH 0 none (some (.dat (.int .i64) (0:Int)))) fun v1=>
  if 0≤(IntKind.i64.wrap (x.2.1-(IntKind.i64.wrap ((0:Int)-(0:Int)))))then
   aI ((IntKind.i64.wrap (x.2.1-(IntKind.i64.wrap ((0:Int)-(0:Int))))).toNat) (
    ab (aH (List.replicate (IntKind.i64.wrap (x.2.1-(IntKind.i64.wrap ((0:Int)-(0:Int))))).toNat (0:Int)).length none (some (.dat (.int .i64) (0:Int)))) fun v2=>
    some ((List.take v2.2 (List.replicate (IntKind.i64.wrap (x.2.1-(IntKind.i64.wrap ((0:Int)-(0:Int))))).toNat (0:Int))),()))
  else none
 |false=>
  some ([],())
noncomputable def rT:ae:=⟨_,a8,.unit,rfl,kG⟩
theorem Cv:FnOK G0 Tryz.prog 169 rT:=ak aj aL Tryz.func169
abbrev jR:Ty:=(.pair (.list (.list (.int .i64))) (.pair (.int .i64) (.pair (.list (.list (.int .i64))) bB)))
abbrev nJ:Ty:=(.pair (.list (.list (.int .i64))) (.pair (.int .i64) .unit))
noncomputable def cJ(x:(Ty.T jR)):Option ((Ty.T jR) ⊕ ((Ty.T nJ) ⊕ (Ty.T .unit))):=
match(decide (x.2.2.2.2.1<x.2.2.2.1))with
|true=>
 ab (aq x.2.2.1 x.2.2.2.2.1) fun v1=>
 match(decide ((IntKind.i64.wrap (x.2.1+(v1.length:Int)))<(0:Int)))with
 |true=>
  none
 |false=>
  some (.inl (x.1,(IntKind.i64.wrap (x.2.1+(v1.length:Int))),x.2.2.1,x.2.2.2.1,(IntKind.i64.wrap (x.2.2.2.2.1+(1:Int))),()))
|false=>
 some (.inr (.inl (x.1,x.2.1,())))
abbrev jA:Ty:=(.pair (.own 2 (.int .i64)) (.pair (.list (.list (.int .i64))) bB))
noncomputable def cC(x:(Ty.T jA)):Option ((Ty.T jA) ⊕ ((Ty.T a8) ⊕ (Ty.T .unit))):=
match(decide (x.2.2.2.1<x.2.2.1))with
|true=>
 ab (aq x.2.1 x.2.2.2.1) fun v5=>
 aI (x.1.length+v5.length) (
  some (.inl ((x.1++v5),x.2.1,x.2.2.1,(IntKind.i64.wrap (x.2.2.2.1+(1:Int))),())))
|false=>
 some (.inr (.inl (x.1,())))
noncomputable def gK(x:Ty.T (.pair (.list (.list (.int .i64))) .unit)):Option (Ty.T a8):=
match ac cJ (x.1,(0:Int),x.1,(x.1.length:Int),(0:Int),())with
|none=>none
|some (.inl v2)=>
 match kG ((),v2.2.1,())with
 |none=>none
 |some v4=>
 match ac cC (v4.1,v2.1,(v2.1.length:Int),(0:Int),())with
 |none=>none
 |some (.inl v6)=>
  some (v6.1,())
 |some (.inr v8)=>
  none
|some (.inr v9)=>
 none
noncomputable def Bc:ae:=⟨_,a8,.unit,rfl,gK⟩
noncomputable def kw:FuncId→Option ae:=bC [(169,rT)]
theorem xS:∀f s,kw f=some s→FnOK G0 Tryz.prog f s:=aD ⟨Cv,trivial⟩
def nK:aO:=⟨[0,3,9,10,11],jR,0,[0,3],nJ,[],.unit⟩
def mU:aO:=⟨[6,25,26,27],jA,2,[6],a8,[],.unit⟩
noncomputable def kx:List aw:=[nK.spec cJ,mU.spec cC]
theorem wl:bg bi E0 kw (bc Tryz.f112 kx) Tryz.f112 0 nK cJ:=fun x=>by kernel_rfl
theorem uO:bg bi E0 kw (bc Tryz.f112 kx) Tryz.f112 1 mU cC:=fun x=>by kernel_rfl
theorem zP:FnOK G0 Tryz.prog 112 Bc:=aJ aj xS Tryz.func112 kx (by kernel_rfl) (by exact⟨(wl).lok,(uO).lok,trivial⟩) fun x=>by kernel_rfl
noncomputable def jM(x:Ty.T qB):Option (Ty.T a8):=ab (Nl x.1 x.2.1) fun s=>some (s,())
noncomputable def Bd:ae:=⟨qB,a8,.unit,rfl,jM⟩
theorem zQ:FnOK G0 Tryz.prog 170 Bd:=Xv (lq Tryz.func170 (by kernel_rfl) (show Tryz.f170.body=some (fE Tryz.f170) by kernel_rfl))
noncomputable def qf(x:Ty.T aE):Option (Ty.T a8):=
match jM ([(1:Int)],x.1,())with
|none=>none
|some v1=>
some (v1.1,())
noncomputable def XB:ae:=⟨_,a8,.unit,rfl,qf⟩
theorem V8:FnOK G0 Tryz.prog 113 XB:=ak aj (sg zQ (aL)) Tryz.func113
noncomputable def gc(x:(Ty.T Jg)):Option ((Ty.T Jg) ⊕ ((Ty.T a8) ⊕ (Ty.T .unit))):=
match(decide (x.2.2.1≥(0:Int)))with
|true=>
 if x.2.2.1<0 then none else
 aI (x.1.length+ [(bits BinOp.and .i64 (Int.fdiv x.2.1 (2^min x.2.2.1.toNat IntKind.i64.bits)) (1:Int))].length) (
  some (.inl ((x.1++ [(bits BinOp.and .i64 (Int.fdiv x.2.1 (2^min x.2.2.1.toNat IntKind.i64.bits)) (1:Int))]),x.2.1,(IntKind.i64.wrap (x.2.2.1-(1:Int))),())))
|false=>
 some (.inr (.inl (x.1,())))
noncomputable def bP(x:Ty.T Jg):Option (Ty.T a8):=
match ac gc (x.1,x.2.1,(IntKind.i64.wrap (x.2.2.1-(1:Int))),())with
|none=>none
|some (.inl v1)=>
 some (v1.1,())
|some (.inr v3)=>
 none
noncomputable def pz:ae:=⟨_,a8,.unit,rfl,bP⟩
noncomputable def vO:FuncId→Option ae:=bC []
theorem EG:∀f s,vO f=some s→FnOK G0 Tryz.prog f s:=aD trivial
def t7:aO:=⟨[0,1,7],Jg,0,[0],a8,[],.unit⟩
noncomputable def vP:List aw:=[t7.spec gc]
theorem Cw:bg bi E0 vO (bc Tryz.f171 vP) Tryz.f171 0 t7 gc:=fun x=>by kernel_rfl
theorem om:FnOK G0 Tryz.prog 171 pz:=aJ aj EG Tryz.func171 vP (by kernel_rfl) (by exact⟨(Cw).lok,trivial⟩) fun x=>by kernel_rfl
abbrev uP:Ty:=Zd
noncomputable def iY(x:(Ty.T uP)):Option ((Ty.T uP) ⊕ ((Ty.T a8) ⊕ (Ty.T .unit))):=
match(decide (x.2.2.2.1<x.2.2.1))with
|true=>
 ab (aq x.2.1 x.2.2.2.1) fun v1=>
 aI (x.1.length+ [(1:Int),(0:Int)].length) (
  match bP ((x.1++ [(1:Int),(0:Int)]),v1,(8:Int),())with
  |none=>none
  |some v2=>
  some (.inl (v2.1,x.2.1,x.2.2.1,(IntKind.i64.wrap (x.2.2.2.1+(1:Int))),())))
|false=>
 some (.inr (.inl (x.1,())))
noncomputable def ua(x:Ty.T qB):Option (Ty.T a8):=
if 0≤x.2.1∧x.2.1≤x.2.1 then
 aI (x.2.1.toNat) (
  aI ((List.replicate x.2.1.toNat (0:Int)).length+ [(1:Int)].length) (
   match ac iY (((List.replicate x.2.1.toNat (0:Int))++ [(1:Int)]),x.1,(x.1.length:Int),(0:Int),())with
   |none=>none
   |some (.inl v3)=>
    aI (v3.1.length+ [(0:Int),(1:Int)].length) (
     some ((v3.1++ [(0:Int),(1:Int)]),()))
   |some (.inr v5)=>
    none))
else none
noncomputable def T0:ae:=⟨_,a8,.unit,rfl,ua⟩
noncomputable def Gc:FuncId→Option ae:=bC [(171,pz)]
theorem N3:∀f s,Gc f=some s→FnOK G0 Tryz.prog f s:=aD ⟨om,trivial⟩
def DT:aO:=⟨[5,12,13,14],uP,0,[5],a8,[],.unit⟩
noncomputable def Gd:List aw:=[DT.spec iY]
theorem LR:bg bi E0 Gc (bc Tryz.f114 Gd) Tryz.f114 0 DT iY:=fun x=>by kernel_rfl
theorem R5:FnOK G0 Tryz.prog 114 T0:=aJ aj N3 Tryz.func114 Gd (by kernel_rfl) (by exact⟨(LR).lok,trivial⟩) fun x=>by kernel_rfl
abbrev sx:Ty:=(.pair (.int .i64) (.pair (.list (.int .i64)) bB))
noncomputable def gT(x:(Ty.T sx)):Option ((Ty.T sx) ⊕ ((Ty.T aE) ⊕ (Ty.T .unit))):=
match(decide (x.2.2.2.1<x.2.2.1))with
|true=>
 ab (aq x.2.1 x.2.2.2.1) fun v1=>
 some (.inl ((IntKind.i64.wrap ((IntKind.i64.wrap ((2:Int)*x.1))+v1)),x.2.1,x.2.2.1,(IntKind.i64.wrap (x.2.2.2.1+(1:Int))),()))
|false=>
 some (.inr (.inl (x.1,())))
noncomputable def c7(x:Ty.T eG):Option (Ty.T aE):=
match ac gT ((0:Int),x.1,(x.1.length:Int),(0:Int),())with
|none=>none
|some (.inl v2)=>
 some (v2.1,())
|some (.inr v4)=>
 none
noncomputable def R6:ae:=⟨_,aE,.unit,rfl,c7⟩
noncomputable def DU:FuncId→Option ae:=bC []
theorem LS:∀f s,DU f=some s→FnOK G0 Tryz.prog f s:=aD trivial
def Be:aO:=⟨[3,6,7,8],sx,0,[3],aE,[],.unit⟩
noncomputable def DV:List aw:=[Be.spec gT]
theorem JW:bg bi E0 DU (bc Tryz.f278 DV) Tryz.f278 0 Be gT:=fun x=>by kernel_rfl
theorem DW:FnOK G0 Tryz.prog 278 R6:=aJ aj LS Tryz.func278 DV (by kernel_rfl) (by exact⟨(JW).lok,trivial⟩) fun x=>by kernel_rfl
noncomputable def Ge(x:Ty.T eG):Option (Ty.T a8):=ab (kq c7 x.1) fun s=>some (s,())
noncomputable def T1:ae:=⟨eG,a8,.unit,rfl,Ge⟩
theorem R7:FnOK G0 Tryz.prog 227 T1:=VK (lq Tryz.func227 (by kernel_rfl) (show Tryz.f227.body=some (fE Tryz.f227) by kernel_rfl)) DW
noncomputable def ky(x:Ty.T zG):Option (Ty.T a8):=
match bP ([],x.1.1,(16:Int),())with
|none=>none
|some v1=>
match bP (v1.1,x.1.2.1,(4:Int),())with
|none=>none
|some v2=>
match bP (v2.1,x.1.2.2.1,(4:Int),())with
|none=>none
|some v3=>
match bP (v3.1,x.1.2.2.2.1,(8:Int),())with
|none=>none
|some v4=>
match bP (v4.1,x.1.2.2.2.2.1,(32:Int),())with
|none=>none
|some v5=>
some (v5.1,())
noncomputable def P9:ae:=⟨_,a8,.unit,rfl,ky⟩
theorem Bf:FnOK G0 Tryz.prog 228 P9:=ak aj (sg om (aL)) Tryz.func228
noncomputable def gq(x:Ty.T Nn):Option (Ty.T a8):=
match ic (x.1.1,())with
|none=>none
|some v1=>
match v1.1 with
|true=>
 match ky ((x.1.2.2.1.1,x.1.2.2.1.2.1,x.1.2.2.1.2.2.1,x.1.2.2.1.2.2.2.1,x.1.2.2.1.2.2.2.2.1,()),())with
 |none=>none
 |some v2=>
 match Ge (v2.1,())with
 |none=>none
 |some v3=>
 aI ([(IntKind.i64.wrap ((IntKind.i64.wrap (x.1.1*(64:Int)))+(IntKind.i64.wrap (x.1.2.1*(8:Int)))))].length+v3.1.length) (
  match kf (x.1.1,())with
  |none=>none
  |some v4=>
  match v4.1 with
  |true=>
   aI (([(IntKind.i64.wrap ((IntKind.i64.wrap (x.1.1*(64:Int)))+(IntKind.i64.wrap (x.1.2.1*(8:Int)))))]++v3.1).length+ [(x.1.2.2.2.1.length:Int)].length) (
    aI ((([(IntKind.i64.wrap ((IntKind.i64.wrap (x.1.1*(64:Int)))+(IntKind.i64.wrap (x.1.2.1*(8:Int)))))]++v3.1)++ [(x.1.2.2.2.1.length:Int)]).length+x.1.2.2.2.1.length) (
     some (((([(IntKind.i64.wrap ((IntKind.i64.wrap (x.1.1*(64:Int)))+(IntKind.i64.wrap (x.1.2.1*(8:Int)))))]++v3.1)++ [(x.1.2.2.2.1.length:Int)])++x.1.2.2.2.1),())))
  |false=>
   some (([(IntKind.i64.wrap ((IntKind.i64.wrap (x.1.1*(64:Int)))+(IntKind.i64.wrap (x.1.2.1*(8:Int)))))]++v3.1),()))
|false=>
 match kf (x.1.1,())with
 |none=>none
 |some v5=>
 match v5.1 with
 |true=>
  aI ([(IntKind.i64.wrap ((IntKind.i64.wrap (x.1.1*(64:Int)))+(IntKind.i64.wrap (x.1.2.1*(8:Int)))))].length+ [(x.1.2.2.2.1.length:Int)].length) (
   aI (([(IntKind.i64.wrap ((IntKind.i64.wrap (x.1.1*(64:Int)))+(IntKind.i64.wrap (x.1.2.1*(8:Int)))))]++ [(x.1.2.2.2.1.length:Int)]).length+x.1.2.2.2.1.length) (
    some ((([(IntKind.i64.wrap ((IntKind.i64.wrap (x.1.1*(64:Int)))+(IntKind.i64.wrap (x.1.2.1*(8:Int)))))]++ [(x.1.2.2.2.1.length:Int)])++x.1.2.2.2.1),())))
 |false=>
  some ([(IntKind.i64.wrap ((IntKind.i64.wrap (x.1.1*(64:Int)))+(IntKind.i64.wrap (x.1.2.1*(8:Int)))))],())
noncomputable def V9:ae:=⟨_,a8,.unit,rfl,gq⟩
theorem Iy:FnOK G0 Tryz.prog 172 V9:=ak aj (sg lH (sg R7 (sg Bf (sg xI (aL))))) Tryz.func172
noncomputable def kW(x:Ty.T aE):Option (Ty.T a8):=
some ([(Int.fdiv x.1 (2^min (16:Int).toNat IntKind.i64.bits)),(bits BinOp.and .i64 (Int.fdiv x.1 (2^min (8:Int).toNat IntKind.i64.bits)) (255:Int)),(bits BinOp.and .i64 x.1 (255:Int))],())
noncomputable def N4:ae:=⟨_,a8,.unit,rfl,kW⟩
theorem zg:FnOK G0 Tryz.prog 173 N4:=ak aj aL Tryz.func173
noncomputable def lJ(x:Ty.T .unit):Option (Ty.T VQ):=
some (((24:Int),(6122955:Int),()),())
noncomputable def LT:ae:=⟨_,VQ,.unit,rfl,lJ⟩
theorem JX:FnOK G0 Tryz.prog 230 LT:=ak aj aL Tryz.func230
abbrev sy:Ty:=(.pair (.int .i64) (.pair (.box bB) (.pair (.list (.int .i64)) bB)))
noncomputable def fc(x:(Ty.T sy)):Option ((Ty.T sy) ⊕ ((Ty.T aE) ⊕ (Ty.T .unit))):=
match(decide (x.2.2.2.2.1<x.2.2.2.1))with
|true=>
 ab (aq x.2.2.1 x.2.2.2.2.1) fun v1=>
 if(IntKind.i64.wrap (x.2.1.1-(1:Int)))<0 then none else
 if x.2.1.1<0 then none else
 match((bits BinOp.xor .i64 v1 (Int.fdiv x.1 (2^min (IntKind.i64.wrap (x.2.1.1-(1:Int))).toNat IntKind.i64.bits)))==(1:Int))with
 |true=>
  some (.inl ((bits BinOp.xor .i64 (bits BinOp.and .i64 (IntKind.i64.wrap (x.1*2^min (1:Int).toNat IntKind.i64.bits)) (IntKind.i64.wrap ((IntKind.i64.wrap ((1:Int)*2^min x.2.1.1.toNat IntKind.i64.bits))-(1:Int)))) x.2.1.2.1),(x.2.1.1,x.2.1.2.1,()),x.2.2.1,x.2.2.2.1,(IntKind.i64.wrap (x.2.2.2.2.1+(1:Int))),()))
 |false=>
  some (.inl ((bits BinOp.and .i64 (IntKind.i64.wrap (x.1*2^min (1:Int).toNat IntKind.i64.bits)) (IntKind.i64.wrap ((IntKind.i64.wrap ((1:Int)*2^min x.2.1.1.toNat IntKind.i64.bits))-(1:Int)))),(x.2.1.1,x.2.1.2.1,()),x.2.2.1,x.2.2.2.1,(IntKind.i64.wrap (x.2.2.2.2.1+(1:Int))),()))
|false=>
 some (.inr (.inl (x.1,())))
noncomputable def nr(x:Ty.T ab5):Option (Ty.T aE):=
match ac fc (x.2.1,(x.1.1,x.1.2.1,()),x.2.2.1,(x.2.2.1.length:Int),(0:Int),())with
|none=>none
|some (.inl v2)=>
 some (v2.1,())
|some (.inr v4)=>
 none
noncomputable def R8:ae:=⟨_,aE,.unit,rfl,nr⟩
noncomputable def DX:FuncId→Option ae:=bC []
theorem LU:∀f s,DX f=some s→FnOK G0 Tryz.prog f s:=aD trivial
def Bg:aO:=⟨[1,3,10,11,12],sy,0,[1],aE,[],.unit⟩
noncomputable def DY:List aw:=[Bg.spec fc]
theorem JY:bg bi E0 DX (bc Tryz.f231 DY) Tryz.f231 0 Bg fc:=fun x=>by kernel_rfl
theorem Qa:FnOK G0 Tryz.prog 231 R8:=aJ aj LU Tryz.func231 DY (by kernel_rfl) (by exact⟨(JY).lok,trivial⟩) fun x=>by kernel_rfl
abbrev xT:Ty:=Zd
noncomputable def jB(x:(Ty.T xT)):Option ((Ty.T xT) ⊕ ((Ty.T a8) ⊕ (Ty.T .unit))):=
match(decide (x.2.2.2.1<x.2.2.1))with
|true=>
 ab (aq x.2.1 x.2.2.2.1) fun v1=>
 match bP (x.1,v1,(8:Int),())with
 |none=>none
 |some v2=>
 some (.inl (v2.1,x.2.1,x.2.2.1,(IntKind.i64.wrap (x.2.2.2.1+(1:Int))),()))
|false=>
 some (.inr (.inl (x.1,())))
noncomputable def pA(x:Ty.T eG):Option (Ty.T a8):=
match ac jB ([],x.1,(x.1.length:Int),(0:Int),())with
|none=>none
|some (.inl v3)=>
 some (v3.1,())
|some (.inr v5)=>
 none
noncomputable def Wa:ae:=⟨_,a8,.unit,rfl,pA⟩
noncomputable def Iz:FuncId→Option ae:=bC [(171,pz)]
theorem Qb:∀f s,Iz f=some s→FnOK G0 Tryz.prog f s:=aD ⟨om,trivial⟩
def Gf:aO:=⟨[3,7,8,9],xT,0,[3],a8,[],.unit⟩
noncomputable def IA:List aw:=[Gf.spec jB]
theorem N5:bg bi E0 Iz (bc Tryz.f232 IA) Tryz.f232 0 Gf jB:=fun x=>by kernel_rfl
theorem IB:FnOK G0 Tryz.prog 232 Wa:=aJ aj Qb Tryz.func232 IA (by kernel_rfl) (by exact⟨(N5).lok,trivial⟩) fun x=>by kernel_rfl
noncomputable def iZ(x:Ty.T acb):Option (Ty.T aE):=
match(x.1==(0:Int))with
|true=>
 match lJ (())with
 |none=>none
 |some v1=>
 match ky ((x.2.2.2.1.1,x.2.2.2.1.2.1,x.2.2.2.1.2.2.1,x.2.2.2.1.2.2.2.1,x.2.2.2.1.2.2.2.2.1,()),())with
 |none=>none
 |some v2=>
 match nr (v1.1,x.2.2.1,v2.1,())with
 |none=>none
 |some v3=>
 match lJ (())with
 |none=>none
 |some v4=>
 match pA (x.2.1,())with
 |none=>none
 |some v5=>
 match nr (v4.1,v3.1,v5.1,())with
 |none=>none
 |some v6=>
 some (v6.1,())
|false=>
 match lJ (())with
 |none=>none
 |some v7=>
 match pA (x.2.1,())with
 |none=>none
 |some v8=>
 match nr (v7.1,x.2.2.1,v8.1,())with
 |none=>none
 |some v9=>
 some (v9.1,())
noncomputable def LV:ae:=⟨_,aE,.unit,rfl,iZ⟩
theorem xU:FnOK G0 Tryz.prog 174 LV:=ak aj (sg Bf (sg JX (sg Qa (sg IB (aL))))) Tryz.func174
noncomputable def Bh(x:Ty.T ab1):Option (Ty.T a8):=
match gq ((x.1.1,x.1.2.1,(x.1.2.2.1.1,x.1.2.2.1.2.1,x.1.2.2.1.2.2.1,x.1.2.2.1.2.2.2.1,x.1.2.2.1.2.2.2.2.1,()),x.1.2.2.2.1,()),())with
|none=>none
|some v1=>
match iZ (x.1.1,v1.1,x.2.1,(x.2.2.1.1,x.2.2.1.2.1,x.2.2.1.2.2.1,x.2.2.1.2.2.2.1,x.2.2.1.2.2.2.2.1,()),())with
|none=>none
|some v2=>
match kW (v2.1,())with
|none=>none
|some v3=>
aI (v1.1.length+v3.1.length) (
 some ((v1.1++v3.1),()))
noncomputable def Zn:ae:=⟨_,a8,.unit,rfl,Bh⟩
theorem XC:FnOK G0 Tryz.prog 115 Zn:=ak aj (sg Iy (sg zg (sg xU (aL)))) Tryz.func115
noncomputable def oG(x:Ty.T Cf):Option (Ty.T ma):=
match ro ((x.1.1,x.1.2.1,x.1.2.2.1,x.1.2.2.2.1,()),(x.2.1.1,x.2.1.2.1,x.2.1.2.2.1,x.2.1.2.2.2.1,x.2.1.2.2.2.2.1,()),(x.2.2.1.1,x.2.2.1.2.1,(x.2.2.1.2.2.1.1,x.2.2.1.2.2.1.2.1,x.2.2.1.2.2.1.2.2.1,x.2.2.1.2.2.1.2.2.2.1,x.2.2.1.2.2.1.2.2.2.2.1,()),x.2.2.1.2.2.2.1,()),())with
|none=>none
|some v1=>
match(v1.1 != (0:Int))with
|true=>
 some ([],v1.1,())
|false=>
 match qf ((8:Int),())with
 |none=>none
 |some v2=>
 match Bh ((x.2.2.1.1,x.2.2.1.2.1,(x.2.2.1.2.2.1.1,x.2.2.1.2.2.1.2.1,x.2.2.1.2.2.1.2.2.1,x.2.2.1.2.2.1.2.2.2.1,x.2.2.1.2.2.1.2.2.2.2.1,()),x.2.2.1.2.2.2.1,()),x.1.1,(x.2.1.1,x.2.1.2.1,x.2.1.2.2.1,x.2.1.2.2.2.1,x.2.1.2.2.2.2.1,()),())with
 |none=>none
 |some v3=>
 match ua (v3.1,(8:Int),())with
 |none=>none
 |some v4=>
 match gK ([v2.1,v4.1],())with
 |none=>none
 |some v5=>
 match eC ((x.1.1,x.1.2.1,x.1.2.2.1,x.1.2.2.2.1,()),(x.2.1.1,x.2.1.2.1,x.2.1.2.2.1,x.2.1.2.2.2.1,x.2.1.2.2.2.2.1,()),())with
 |none=>none
 |some v6=>
 match qf ((IntKind.i64.wrap (v6.1.2.2.2.1-(v5.1.length:Int))),())with
 |none=>none
 |some v7=>
 aI (v5.1.length+v7.1.length) (
  some ((v5.1++v7.1),(0:Int),()))
noncomputable def Qc:ae:=⟨_,ma,.unit,rfl,oG⟩
theorem N6:FnOK G0 Tryz.prog 58 Qc:=ak aj (sg mI (sg P8 (sg zP (sg V8 (sg R5 (sg XC (aL))))))) Tryz.func58
noncomputable def mV(x:Ty.T eG):Option (Ty.T ao):=
match(decide ((x.1.length:Int)≤(8192:Int)))with
|true=>
 match kv (x.1,(0:Int),(1:Int),())with
 |none=>none
 |some v1=>
 some (v1.1,())
|false=>
 some (false,())
noncomputable def LW:ae:=⟨_,ao,.unit,rfl,mV⟩
theorem oH:FnOK G0 Tryz.prog 116 LW:=ak aj (sg Bb (aL)) Tryz.func116
abbrev xV:Ty:=(.pair (.own 2 (.int .i64)) (.pair (.int .i64) bB))
noncomputable def jC(x:(Ty.T xV)):Option ((Ty.T xV) ⊕ ((Ty.T a8) ⊕ (Ty.T .unit))):=
match(decide (x.2.2.2.1<x.2.2.1))with
|true=>
 aI (x.1.length+ [x.2.1].length) (
  some (.inl ((x.1++ [x.2.1]),x.2.1,x.2.2.1,(IntKind.i64.wrap (x.2.2.2.1+(1:Int))),())))
|false=>
 some (.inr (.inl (x.1,())))
noncomputable def sz(x:Ty.T Jg):Option (Ty.T a8):=
match ac jC (x.1,x.2.1,x.2.2.1,(0:Int),())with
|none=>none
|some (.inl v1)=>
 some (v1.1,())
|some (.inr v3)=>
 none
noncomputable def LX:ae:=⟨_,a8,.unit,rfl,sz⟩
noncomputable def IC:FuncId→Option ae:=bC []
theorem Qd:∀f s,IC f=some s→FnOK G0 Tryz.prog f s:=aD trivial
def Gg:aO:=⟨[0,1,7,8],xV,0,[0],a8,[],.unit⟩
noncomputable def IE:List aw:=[Gg.spec jC]
theorem N7:bg bi E0 IC (bc Tryz.f117 IE) Tryz.f117 0 Gg jC:=fun x=>by kernel_rfl
theorem IG:FnOK G0 Tryz.prog 117 LX:=aJ aj Qd Tryz.func117 IE (by kernel_rfl) (by exact⟨(N7).lok,trivial⟩) fun x=>by kernel_rfl
abbrev ly:Ty:=Zd
noncomputable def dU(x:(Ty.T ly)):Option ((Ty.T ly) ⊕ ((Ty.T a8) ⊕ (Ty.T .unit))):=
match(decide (x.2.2.2.1<x.2.2.1))with
|true=>
 ab (aq x.2.1 x.2.2.2.1) fun v2=>
 match sz (x.1,v2,(8:Int),())with
 |none=>none
 |some v3=>
 some (.inl (v3.1,x.2.1,x.2.2.1,(IntKind.i64.wrap (x.2.2.2.1+(1:Int))),()))
|false=>
 some (.inr (.inl (x.1,())))
noncomputable def jD(x:Ty.T eG):Option (Ty.T ma):=
match mV (x.1,())with
|none=>none
|some v1=>
match(!v1.1)with
|true=>
 some ([],(1:Int),())
|false=>
 match(decide ((IntKind.i64.wrap ((x.1.length:Int)*(8:Int)))>(8192:Int)))with
 |true=>
  some ([],(3:Int),())
 |false=>
  match ac dU ([],x.1,(x.1.length:Int),(0:Int),())with
  |none=>none
  |some (.inl v4)=>
   some (v4.1,(0:Int),())
  |some (.inr v6)=>
   none
noncomputable def Gh:ae:=⟨_,ma,.unit,rfl,jD⟩
noncomputable def rU:FuncId→Option ae:=bC [(116,LW),(117,LX)]
theorem Bi:∀f s,rU f=some s→FnOK G0 Tryz.prog f s:=aD ⟨oH,IG,trivial⟩
def rp:aO:=⟨[4,15,16,17],ly,0,[4],a8,[],.unit⟩
noncomputable def rV:List aw:=[rp.spec dU]
theorem zR:bg bi E0 rU (bc Tryz.f59 rV) Tryz.f59 0 rp dU:=fun x=>by kernel_rfl
theorem EH:FnOK G0 Tryz.prog 59 Gh:=aJ aj Bi Tryz.func59 rV (by kernel_rfl) (by exact⟨(zR).lok,trivial⟩) fun x=>by kernel_rfl
noncomputable def i6(x:Ty.T Cf):Option (Ty.T ma):=
match oG ((x.1.1,x.1.2.1,x.1.2.2.1,x.1.2.2.2.1,()),(x.2.1.1,x.2.1.2.1,x.2.1.2.2.1,x.2.1.2.2.2.1,x.2.1.2.2.2.2.1,()),(x.2.2.1.1,x.2.2.1.2.1,(x.2.2.1.2.2.1.1,x.2.2.1.2.2.1.2.1,x.2.2.1.2.2.1.2.2.1,x.2.2.1.2.2.1.2.2.2.1,x.2.2.1.2.2.1.2.2.2.2.1,()),x.2.2.1.2.2.2.1,()),())with
|none=>none
|some v1=>
match(v1.2.1 != (0:Int))with
|true=>
 some ([],v1.2.1,())
|false=>
 match jD (v1.1,())with
 |none=>none
 |some v2=>
 some (v2.1,v2.2.1,())
noncomputable def LY:ae:=⟨_,ma,.unit,rfl,i6⟩
theorem xW:FnOK G0 Tryz.prog 14 LY:=ak aj (sg N6 (sg EH (aL))) Tryz.func14
abbrev i7:Ty:=(.pair (.list av) (.pair (.fn (.pair av .unit) (.pair .bool .unit)) bB))
noncomputable def cI(x:(Ty.T i7)):Option ((Ty.T i7) ⊕ ((Ty.T .unit) ⊕ (Ty.T aE))):=
match(decide (x.2.2.2.1<x.2.2.1))with
|true=>
 ab (aq x.1 x.2.2.2.1) fun v1=>
 match x.2.1 (v1,())with
 |none=>none
 |some v2=>
 match v2.1 with
 |true=>
  some (.inr (.inr (x.2.2.2.1,())))
 |false=>
  some (.inl (x.1,x.2.1,x.2.2.1,(IntKind.i64.wrap (x.2.2.2.1+(1:Int))),()))
|false=>
 some (.inr (.inl (())))
noncomputable def fF(x:Ty.T ab9):Option (Ty.T aE):=
match ac cI (x.1,x.2.1,(x.1.length:Int),(0:Int),())with
|none=>none
|some (.inl v3)=>
 some ((-1:Int),())
|some (.inr v4)=>
 some (v4.1,())
noncomputable def xX:ae:=⟨_,aE,.unit,rfl,fF⟩
noncomputable def mb:FuncId→Option ae:=bC []
theorem ub:∀f s,mb f=some s→FnOK G0 Tryz.prog f s:=aD trivial
def lK:aO:=⟨[0,1,7,8],i7,0,[],.unit,[4],aE⟩
noncomputable def mc:List aw:=[lK.spec cI]
theorem sA:bg bi E0 mb (bc Tryz.f176 mc) Tryz.f176 0 lK cI:=fun x=>by kernel_rfl
theorem wm:FnOK G0 Tryz.prog 176 xX:=aJ aj ub Tryz.func176 mc (by kernel_rfl) (by exact⟨(sA).lok,trivial⟩) fun x=>by kernel_rfl
noncomputable def dm(x:Ty.T ab9):Option (Ty.T ao):=
match fF (x.1,x.2.1,())with
|none=>none
|some v1=>
some ((decide (v1.1≥(0:Int))),())
noncomputable def lj:ae:=⟨_,ao,.unit,rfl,dm⟩
theorem kX:FnOK G0 Tryz.prog 119 lj:=ak aj (sg wm (aL)) Tryz.func119
noncomputable def tg(x:Ty.T aE):Option (Ty.T ao):=
match(x.1 != (1:Int))with
|true=>
 some ((x.1 != (5:Int)),())
|false=>
 some (false,())
noncomputable def Qe:ae:=⟨_,ao,.unit,rfl,tg⟩
theorem N8:FnOK G0 Tryz.prog 197 Qe:=ak aj aL Tryz.func197
noncomputable def rq(x:Ty.T aE):Option (Ty.T ao):=
match(x.1==(4:Int))with
|true=>
 some (true,())
|false=>
 some ((x.1==(6:Int)),())
noncomputable def R9:ae:=⟨_,ao,.unit,rfl,rq⟩
theorem Qf:FnOK G0 Tryz.prog 198 R9:=ak aj aL Tryz.func198
noncomputable def qg(x:Ty.T Jf):Option (Ty.T ao):=
match ca (x.1.1,(1:Int),(6:Int),())with
|none=>none
|some v1=>
match(!v1.1)with
|true=>
 some (false,())
|false=>
 match ca (x.1.2.1,(0:Int),(8192:Int),())with
 |none=>none
 |some v2=>
 match(!v2.1)with
 |true=>
  some (false,())
 |false=>
  match tg (x.1.1,())with
  |none=>none
  |some v3=>
  match v3.1 with
  |true=>
   match ca (x.1.2.2.1,(1:Int),(8192:Int),())with
   |none=>none
   |some v4=>
   match rq (x.1.1,())with
   |none=>none
   |some v5=>
   match v5.1 with
   |true=>
    match ca (x.1.2.2.2.1,(0:Int),(1:Int),())with
    |none=>none
    |some v6=>
    match v4.1 with
    |true=>
     some (v6.1,())
    |false=>
     some (false,())
   |false=>
    match v4.1 with
    |true=>
     some ((x.1.2.2.2.1==(0:Int)),())
    |false=>
     some (false,())
  |false=>
   match rq (x.1.1,())with
   |none=>none
   |some v7=>
   match v7.1 with
   |true=>
    match ca (x.1.2.2.2.1,(0:Int),(1:Int),())with
    |none=>none
    |some v8=>
    match(x.1.2.2.1==(0:Int))with
    |true=>
     some (v8.1,())
    |false=>
     some (false,())
   |false=>
    match(x.1.2.2.1==(0:Int))with
    |true=>
     some ((x.1.2.2.2.1==(0:Int)),())
    |false=>
     some (false,())
noncomputable def T2:ae:=⟨_,ao,.unit,rfl,qg⟩
theorem Sa:FnOK G0 Tryz.prog 138 T2:=ak aj (sg dh (sg N8 (sg Qf (aL)))) Tryz.func138
noncomputable def mW(x:Ty.T Jf):Option (Ty.T ao):=
match qg ((x.1.1,x.1.2.1,x.1.2.2.1,x.1.2.2.2.1,()),())with
|none=>none
|some v1=>
some ((!v1.1),())
noncomputable def N9:ae:=⟨_,ao,.unit,rfl,mW⟩
theorem LZ:FnOK G0 Tryz.prog 137 N9:=ak aj (sg Sa (aL)) Tryz.func137
noncomputable def ns(x:Ty.T Np):Option (Ty.T ao):=
match(decide ((x.1.length:Int)≤(30:Int)))with
|true=>
 match dm (x.1,mW,())with
 |none=>none
 |some v1=>
 some ((!v1.1),())
|false=>
 some (false,())
noncomputable def Sb:ae:=⟨_,ao,.unit,rfl,ns⟩
theorem DZ:FnOK G0 Tryz.prog 69 Sb:=ak aj (sg kX (sg LZ (aL))) Tryz.func69
noncomputable def eN(x:Ty.T eG):Option (Ty.T a8):=
I3 x.1 fun v1=>
match v1 with
|true=>
 some ([],())
|false=>
 aI (([]:List (Ty.T (.int .i64))).length+x.1.length) (
  some ((([]:List (Ty.T (.int .i64)))++x.1),()))
noncomputable def rr:ae:=⟨_,a8,.unit,rfl,eN⟩
theorem kY:FnOK G0 Tryz.prog 163 rr:=ak aj aL Tryz.func163
noncomputable def jp(x:Ty.T aE):Option (Ty.T aE):=
some ((IntKind.i64.wrap ((1:Int)-x.1)),())
noncomputable def JZ:ae:=⟨_,aE,.unit,rfl,jp⟩
theorem HO:FnOK G0 Tryz.prog 178 JZ:=ak aj aL Tryz.func178
abbrev xY:Ty:=(.pair (.own 2 (.int .i64)) (.pair (.int .i64) (.pair (.fn (.pair (.int .i64) .unit) (.pair (.int .i64) .unit)) (.pair (.int .i64) .unit))))
noncomputable def iv(x:(Ty.T xY)):Option ((Ty.T xY) ⊕ ((Ty.T a8) ⊕ (Ty.T .unit))):=
match(decide (x.2.2.2.1<(if(x.1.length:Int)<x.2.1 then(x.1.length:Int)else x.2.1)))with
|true=>
 ab (aq x.1 x.2.2.2.1) fun _=>
 match x.1[x.2.2.2.1.toNat]? with
 |none=>none
 |some v2=>
 match x.2.2.1 (v2,())with
 |none=>none
 |some v3=>
 ab (aq x.1 x.2.2.2.1) fun _=>
 match x.1[x.2.2.2.1.toNat]? with
 |none=>none
 |some v5=>
 some (.inl ((x.1.set x.2.2.2.1.toNat v3.1),x.2.1,x.2.2.1,(IntKind.i64.wrap (x.2.2.2.1+(1:Int))),()))
|false=>
 some (.inr (.inl (x.1,())))
noncomputable def pB(x:Ty.T (.pair (.own 2 (.int .i64)) (.pair (.int .i64) (.pair (.int .i64) (.pair (.fn (.pair (.int .i64) .unit) (.pair (.int .i64) .unit)) .unit))))):Option (Ty.T a8):=
match ac iv (x.1,x.2.2.1,x.2.2.2.1,x.2.1,())with
|none=>none
|some (.inl v6)=>
 some (v6.1,())
|some (.inr v8)=>
 none
noncomputable def Wb:ae:=⟨_,.unit,a8,rfl,pB⟩
noncomputable def IH:FuncId→Option ae:=bC []
theorem Qg:∀f s,IH f=some s→FnOK G0 Tryz.prog f s:=aD trivial
def Gi:aO:=⟨[0,2,3,8],xY,0,[0],a8,[],.unit⟩
noncomputable def II:List aw:=[Gi.spec iv]
theorem Oa:bg bi E0 IH (bc Tryz.f179 II) Tryz.f179 0 Gi iv:=fun x=>by kernel_rfl
theorem T3:FnOK G0 Tryz.prog 179 Wb:=aJ aj Qg Tryz.func179 II (by kernel_rfl) (by exact⟨(Oa).lok,trivial⟩) fun x=>by kernel_rfl
noncomputable def jN(x:Ty.T Jg):Option (Ty.T a8):=ab (Rp x.1 x.2.1 x.2.2.1) fun s=>some (s,())
noncomputable def Bj:ae:=⟨Jg,a8,.unit,rfl,jN⟩
theorem zS:FnOK G0 Tryz.prog 180 Bj:=Xx (lq Tryz.func180 (by kernel_rfl) (show Tryz.f180.body=some (fE Tryz.f180) by kernel_rfl))
noncomputable def jO(x:Ty.T aca):Option (Ty.T a8):=ab (Rq x.1 x.2.1 x.2.2.1) fun s=>some (s,())
noncomputable def Bk:ae:=⟨aca,a8,.unit,rfl,jO⟩
theorem zT:FnOK G0 Tryz.prog 181 Bk:=Xz (lq Tryz.func181 (by kernel_rfl) (show Tryz.f181.body=some (fE Tryz.f181) by kernel_rfl))
noncomputable def nt(x:Ty.T aE):Option (Ty.T aE):=
some ((1:Int),())
noncomputable def J0:ae:=⟨_,aE,.unit,rfl,nt⟩
theorem HP:FnOK G0 Tryz.prog 182 J0:=ak aj aL Tryz.func182
noncomputable def nu(x:Ty.T (.pair (.int .i64) (.pair (.ptr av) .unit))):Option (Ty.T aE):=
some (x.2.1.2.2.2.1,())
noncomputable def J1:ae:=⟨_,aE,.unit,rfl,nu⟩
theorem HQ:FnOK G0 Tryz.prog 183 J1:=ak aj aL Tryz.func183
noncomputable def jE(x:Ty.T VX):Option (Ty.T eG):=
match eN (x.1,())with
|none=>none
|some v1=>
match(x.2.1.1==(1:Int))with
|true=>
 match pB (v1.1,x.2.1.2.1,(IntKind.i64.wrap (x.2.1.2.1+(1:Int))),jp,())with
 |none=>none
 |some v2=>
 some (v2.1,())
|false=>
 match(x.2.1.1==(2:Int))with
 |true=>
  match pB (v1.1,x.2.1.2.1,(IntKind.i64.wrap (x.2.1.2.1+x.2.1.2.2.1)),jp,())with
  |none=>none
  |some v3=>
  some (v3.1,())
 |false=>
  match(x.2.1.1==(3:Int))with
  |true=>
   match jN (v1.1,(if x.2.1.2.1<(x.1.length:Int)then x.2.1.2.1 else(x.1.length:Int)),(if(IntKind.i64.wrap (x.2.1.2.1+x.2.1.2.2.1))<(x.1.length:Int)then(IntKind.i64.wrap (x.2.1.2.1+x.2.1.2.2.1))else(x.1.length:Int)),())with
   |none=>none
   |some v4=>
   some (v4.1,())
  |false=>
   match(x.2.1.1==(4:Int))with
   |true=>
    match(decide (x.2.1.2.1≤(x.1.length:Int)))with
    |true=>
     match sz ([],x.2.1.2.2.2.1,x.2.1.2.2.1,())with
     |none=>none
     |some v5=>
     match jO (v1.1,x.2.1.2.1,v5.1,())with
     |none=>none
     |some v6=>
     ab (aH v6.1.length none (some (.dat (.int .i64) (if(v6.1.length:Int)<(8192:Int)then(v6.1.length:Int)else(8192:Int))))) fun v7=>
     some ((List.drop v7.1 (List.take v7.2 v6.1)),())
    |false=>
     ab (aH v1.1.length none (some (.dat (.int .i64) (if(v1.1.length:Int)<(8192:Int)then(v1.1.length:Int)else(8192:Int))))) fun v8=>
     some ((List.drop v8.1 (List.take v8.2 v1.1)),())
   |false=>
    match(x.2.1.1==(5:Int))with
    |true=>
     match pB (v1.1,x.2.1.2.1,(x.1.length:Int),nt,())with
     |none=>none
     |some v9=>
     some (v9.1,())
    |false=>
     match(x.2.1.1==(6:Int))with
     |true=>
      match pB (v1.1,x.2.1.2.1,(IntKind.i64.wrap (x.2.1.2.1+x.2.1.2.2.1)),(fun z=>nu (z.1,(x.2.1.1,x.2.1.2.1,x.2.1.2.2.1,x.2.1.2.2.2.1,()),())),())with
      |none=>none
      |some v10=>
      some (v10.1,())
     |false=>
      some (v1.1,())
noncomputable def sB:ae:=⟨_,eG,.unit,rfl,jE⟩
theorem zh:FnOK G0 Tryz.prog 122 sB:=ak aj (sg IG (sg kY (sg HO (sg T3 (sg zS (sg zT (sg HP (sg HQ (aL))))))))) Tryz.func122
abbrev oo:Ty:=(.pair (.list (.int .i64)) (.pair (.list av) bB))
noncomputable def fw(x:(Ty.T oo)):Option ((Ty.T oo) ⊕ ((Ty.T eG) ⊕ (Ty.T .unit))):=
match(decide (x.2.2.2.1<x.2.2.1))with
|true=>
 ab (aq x.2.1 x.2.2.2.1) fun v2=>
 match jE (x.1,(v2.1,v2.2.1,v2.2.2.1,v2.2.2.2.1,()),())with
 |none=>none
 |some v3=>
 some (.inl (v3.1,x.2.1,x.2.2.1,(IntKind.i64.wrap (x.2.2.2.1+(1:Int))),()))
|false=>
 some (.inr (.inl (x.1,())))
noncomputable def lL(x:Ty.T Ry):Option (Ty.T eG):=
match eN (x.1,())with
|none=>none
|some v1=>
match ac fw (v1.1,x.2.1,(x.2.1.length:Int),(0:Int),())with
|none=>none
|some (.inl v4)=>
 some (v4.1,())
|some (.inr v6)=>
 none
noncomputable def L0:ae:=⟨_,eG,.unit,rfl,lL⟩
noncomputable def xZ:FuncId→Option ae:=bC [(122,sB),(163,rr)]
theorem Gj:∀f s,xZ f=some s→FnOK G0 Tryz.prog f s:=aD ⟨zh,kY,trivial⟩
def vQ:aO:=⟨[5,10,11,12],oo,0,[5],eG,[],.unit⟩
noncomputable def x5:List aw:=[vQ.spec fw]
theorem EI:bg bi E0 xZ (bc Tryz.f105 x5) Tryz.f105 0 vQ fw:=fun x=>by kernel_rfl
theorem J2:FnOK G0 Tryz.prog 105 L0:=aJ aj Gj Tryz.func105 x5 (by kernel_rfl) (by exact⟨(EI).lok,trivial⟩) fun x=>by kernel_rfl
noncomputable def gU(x:Ty.T ab7):Option (Ty.T qB):=
match i6 ((x.1.1,x.1.2.1,x.1.2.2.1,x.1.2.2.2.1,()),(x.2.1.1,x.2.1.2.1,x.2.1.2.2.1,x.2.1.2.2.2.1,x.2.1.2.2.2.2.1,()),(x.2.2.1.1,x.2.2.1.2.1,(x.2.2.1.2.2.1.1,x.2.2.1.2.2.1.2.1,x.2.2.1.2.2.1.2.2.1,x.2.2.1.2.2.1.2.2.2.1,x.2.2.1.2.2.1.2.2.2.2.1,()),x.2.2.1.2.2.2.1,()),())with
|none=>none
|some v1=>
match(v1.2.1 != (0:Int))with
|true=>
 some ([],v1.2.1,())
|false=>
 match ns (x.2.2.2.1,())with
 |none=>none
 |some v2=>
 match(!v2.1)with
 |true=>
  some ([],(3:Int),())
 |false=>
  match lL (v1.1,x.2.2.2.1,())with
  |none=>none
  |some v3=>
  some (v3.1,(0:Int),())
noncomputable def J3:ae:=⟨_,qB,.unit,rfl,gU⟩
theorem HR:FnOK G0 Tryz.prog 53 J3:=ak aj (sg xW (sg DZ (sg J2 (aL)))) Tryz.func53
noncomputable def uQ(x:Ty.T (.pair an (.pair ai (.pair .bool .unit)))):Option (Ty.T aE):=
match nq ((x.1.1,x.1.2.1,x.1.2.2.1,x.1.2.2.2.1,()),(x.2.1.1,x.2.1.2.1,x.2.1.2.2.1,x.2.1.2.2.2.1,x.2.1.2.2.2.2.1,()),())with
|none=>none
|some v1=>
match(v1.1 != (0:Int))with
|true=>
 some (v1.1,())
|false=>
 match(!x.2.2.1)with
 |true=>
  some ((2:Int),())
 |false=>
  some ((0:Int),())
noncomputable def L1:ae:=⟨_,aE,.unit,rfl,uQ⟩
theorem J4:FnOK G0 Tryz.prog 164 L1:=ak aj (sg DS (aL)) Tryz.func164
noncomputable def Ob(x:Ty.T ao):Option (Ty.T aE):=
match x.1 with
|true=>
 some ((1:Int),())
|false=>
 some ((0:Int),())
noncomputable def Ph:ae:=⟨_,aE,.unit,rfl,Ob⟩
theorem Wc:FnOK G0 Tryz.prog 320 Ph:=ak aj aL Tryz.func320
abbrev mX:Ty:=Zb
noncomputable def cP(x:(Ty.T mX)):Option ((Ty.T mX) ⊕ ((Ty.T aE) ⊕ (Ty.T .unit))):=
match(decide (x.2.2.2.1≤x.2.1))with
|true=>
 match(decide (x.2.2.2.1<(0:Int)))with
 |true=>
  some (.inl (x.1,x.2.1,(IntKind.i64.wrap (x.2.2.1+(1:Int))),(IntKind.i64.wrap (x.2.2.2.1+(1:Int))),()))
 |false=>
  ab (aq x.1 x.2.2.2.1) fun v1=>
  match(v1==(1:Int))with
  |true=>
   some (.inl (x.1,x.2.1,(IntKind.i64.wrap (x.2.2.1+(1:Int))),(IntKind.i64.wrap (x.2.2.2.1+(1:Int))),()))
  |false=>
   some (.inl (x.1,x.2.1,x.2.2.1,(IntKind.i64.wrap (x.2.2.2.1+(1:Int))),()))
|false=>
 some (.inr (.inl (x.2.2.1,())))
noncomputable def nv(x:Ty.T qB):Option (Ty.T aE):=
match ac cP (x.1,x.2.1,(0:Int),(IntKind.i64.wrap ((IntKind.i64.wrap (x.2.1-(5:Int)))+(1:Int))),())with
|none=>none
|some (.inl v2)=>
 some (v2.1,())
|some (.inr v4)=>
 none
noncomputable def x6:ae:=⟨_,aE,.unit,rfl,nv⟩
noncomputable def vR:FuncId→Option ae:=bC []
theorem EJ:∀f s,vR f=some s→FnOK G0 Tryz.prog f s:=aD trivial
def uc:aO:=⟨[0,1,5,6],mX,0,[5],aE,[],.unit⟩
noncomputable def vS:List aw:=[uc.spec cP]
theorem Cy:bg bi E0 vR (bc Tryz.f321 vS) Tryz.f321 0 uc cP:=fun x=>by kernel_rfl
theorem HS:FnOK G0 Tryz.prog 321 x6:=aJ aj EJ Tryz.func321 vS (by kernel_rfl) (by exact⟨(Cy).lok,trivial⟩) fun x=>by kernel_rfl
abbrev Cz:Ty:=ab4
noncomputable def lz(x:(Ty.T Cz)):Option ((Ty.T Cz) ⊕ ((Ty.T a8) ⊕ (Ty.T .unit))):=
match(decide (x.2.2.2.1<x.2.2.1))with
|true=>
 match nv (x.1,x.2.2.2.1,())with
 |none=>none
 |some v1=>
 match Ob ((decide ((IntKind.i64.wrap ((2:Int)*v1.1))>(5:Int))),())with
 |none=>none
 |some v2=>
 aI (x.2.1.length+ [v2.1].length) (
  some (.inl (x.1,(x.2.1++ [v2.1]),x.2.2.1,(IntKind.i64.wrap (x.2.2.2.1+(1:Int))),())))
|false=>
 some (.inr (.inl (x.2.1,())))
noncomputable def L2(x:Ty.T eG):Option (Ty.T a8):=
match ac lz (x.1,[],(x.1.length:Int),(0:Int),())with
|none=>none
|some (.inl v3)=>
 some (v3.1,())
|some (.inr v5)=>
 none
noncomputable def Zo:ae:=⟨_,a8,.unit,rfl,L2⟩
noncomputable def Pi:FuncId→Option ae:=bC [(320,Ph),(321,x6)]
theorem T4:∀f s,Pi f=some s→FnOK G0 Tryz.prog f s:=aD ⟨Wc,HS,trivial⟩
def L3:aO:=⟨[0,3,7,8],Cz,0,[3],a8,[],.unit⟩
noncomputable def Pj:List aw:=[L3.spec lz]
theorem Sc:bg bi E0 Pi (bc Tryz.f301 Pj) Tryz.f301 0 L3 lz:=fun x=>by kernel_rfl
theorem XD:FnOK G0 Tryz.prog 301 Zo:=aJ aj T4 Tryz.func301 Pj (by kernel_rfl) (by exact⟨(Sc).lok,trivial⟩) fun x=>by kernel_rfl
noncomputable def pc(x:Ty.T eG):Option (Ty.T ma):=
match mV (x.1,())with
|none=>none
|some v1=>
match(!v1.1)with
|true=>
 some ([],(1:Int),())
|false=>
 match L2 (x.1,())with
 |none=>none
 |some v2=>
 some (v2.1,(0:Int),())
noncomputable def L4:ae:=⟨_,ma,.unit,rfl,pc⟩
theorem J5:FnOK G0 Tryz.prog 271 L4:=ak aj (sg oH (sg XD (aL))) Tryz.func271
noncomputable def cD(x:(Ty.T VS)):Option ((Ty.T VS) ⊕ ((Ty.T bB) ⊕ (Ty.T aE))):=
match(decide (x.2.1<(x.1.1.length:Int)))with
|true=>
 ab (aq x.1.1 x.2.1) fun v1=>
 match(v1==x.2.2.1)with
 |true=>
  some (.inr (.inr (x.2.1,())))
 |false=>
  some (.inl (x.1,(IntKind.i64.wrap (x.2.1+(1:Int))),x.2.2.1,()))
|false=>
 some (.inr (.inl (x.2.1,x.2.2.1,())))
noncomputable def bI(x:Ty.T VS):Option (Ty.T aE):=
match ac cD (x.1,(IntKind.i64.wrap (x.2.1+(1:Int))),x.2.2.1,())with
|none=>none
|some (.inl v2)=>
 match(v2.2.1==(1:Int))with
 |true=>
  some (v2.1,())
 |false=>
  some ((-1:Int),())
|some (.inr v3)=>
 some (v3.1,())
noncomputable def oI:ae:=⟨_,aE,.unit,rfl,bI⟩
noncomputable def nL:FuncId→Option ae:=bC []
theorem wo:∀f s,nL f=some s→FnOK G0 Tryz.prog f s:=aD trivial
def mY:aO:=⟨[0,1,2],VS,0,[1,2],bB,[6],aE⟩
noncomputable def nM:List aw:=[mY.spec cD]
theorem uR:bg bi E0 nL (bc Tryz.f333 nM) Tryz.f333 0 mY cD:=fun x=>by kernel_rfl
theorem nN:FnOK G0 Tryz.prog 333 oI:=aJ aj wo Tryz.func333 nM (by kernel_rfl) (by exact⟨(uR).lok,trivial⟩) fun x=>by kernel_rfl
noncomputable def x7(x:Ty.T aE):Option (Ty.T aE):=
some ((IntKind.i64.wrap (Int.tdiv (IntKind.i64.wrap (x.1+(4:Int))) (8:Int))),())
noncomputable def Oc:ae:=⟨_,aE,.unit,rfl,x7⟩
theorem L5:FnOK G0 Tryz.prog 334 Oc:=ak aj aL Tryz.func334
noncomputable def x8(x:Ty.T aE):Option (Ty.T ao):=
match ca (x.1,(3:Int),(15:Int),())with
|none=>none
|some v1=>
some (v1.1,())
noncomputable def Od:ae:=⟨_,ao,.unit,rfl,x8⟩
theorem L6:FnOK G0 Tryz.prog 335 Od:=ak aj (sg dh (aL)) Tryz.func335
noncomputable def gL(x:Ty.T Za):Option (Ty.T aE):=
ab x.1 fun v1=>
match(decide (x.2.1≥(v1.1.length:Int)))with
|true=>
 some ((1:Int),())
|false=>
 ab x.1 fun v2=>
 ab (aq v2.1 x.2.1) fun v3=>
 some (v3,())
noncomputable def kZ:ae:=⟨_,aE,.unit,rfl,gL⟩
theorem oJ:FnOK G0 Tryz.prog 304 kZ:=ak aj aL Tryz.func304
abbrev eO:Ty:=acj
noncomputable def br(x:(Ty.T eO)):Option ((Ty.T eO) ⊕ ((Ty.T .unit) ⊕ (Ty.T eO))):=
aI (x.1.2.2.1.length+ [x.2.1].length) (
 match gL ((some (x.1.1,x.1.2.1,(x.1.2.2.1++ [x.2.1]),())),(IntKind.i64.wrap (x.2.1+(76:Int))),())with
 |none=>none
 |some v1=>
 match(v1.1==(0:Int))with
 |true=>
  some (.inr (.inr ((x.1.1,x.1.2.1,(x.1.2.2.1++ [x.2.1]),()),(IntKind.i64.wrap (x.2.1+(72:Int))),())))
 |false=>
  match bI ((x.1.1,x.1.2.1,(x.1.2.2.1++ [x.2.1]),()),(IntKind.i64.wrap (x.2.1+(76:Int))),(0:Int),())with
  |none=>none
  |some v2=>
  match(decide (v2.1<(0:Int)))with
  |true=>
   some (.inr (.inr ((x.1.1,x.1.2.1,(x.1.2.2.1++ [x.2.1]),()),(-1:Int),())))
  |false=>
   match(decide (v2.1>(IntKind.i64.wrap ((IntKind.i64.wrap (x.2.1+(76:Int)))+(8:Int)))))with
   |true=>
    some (.inr (.inr ((x.1.1,x.1.2.1,(x.1.2.2.1++ [x.2.1]),()),(-1:Int),())))
   |false=>
    some (.inl ((x.1.1,x.1.2.1,(x.1.2.2.1++ [x.2.1]),()),v2.1,())))
noncomputable def c8(x:Ty.T acj):Option (Ty.T aah):=
match ac br ((x.1.1,x.1.2.1,x.1.2.2.1,()),x.2.1,())with
|none=>none
|some (.inl v3)=>
 none
|some (.inr v4)=>
 some (v4.2.1,(v4.1.1,v4.1.2.1,v4.1.2.2.1,()),())
noncomputable def zU:ae:=⟨_,aE,Zg,rfl,c8⟩
noncomputable def nP:FuncId→Option ae:=bC [(304,kZ),(333,oI)]
theorem wq:∀f s,nP f=some s→FnOK G0 Tryz.prog f s:=aD ⟨oJ,nN,trivial⟩
def mZ:aO:=⟨[0,1],eO,999999,[],.unit,[0,4],eO⟩
noncomputable def nQ:List aw:=[mZ.spec br]
theorem uS:bg bi E0 nP (bc Tryz.f336 nQ) Tryz.f336 0 mZ br:=fun x=>by kernel_rfl
theorem yu:FnOK G0 Tryz.prog 336 zU:=aJ aj wq Tryz.func336 nQ (by kernel_rfl) (by exact⟨(uS).lok,trivial⟩) fun x=>by kernel_rfl
noncomputable def kH(x:Ty.T Zg):Option (Ty.T aah):=
match bI ((x.1.1,x.1.2.1,x.1.2.2.1,()),(-1:Int),(0:Int),())with
|none=>none
|some v1=>
match(decide (v1.1<(0:Int)))with
|true=>
 some ((4:Int),(x.1.1,x.1.2.1,x.1.2.2.1,()),())
|false=>
 match bI ((x.1.1,x.1.2.1,x.1.2.2.1,()),v1.1,(1:Int),())with
 |none=>none
 |some v2=>
 match x7 ((IntKind.i64.wrap (v2.1-v1.1)),())with
 |none=>none
 |some v3=>
 match x8 (v3.1,())with
 |none=>none
 |some v4=>
 match(!v4.1)with
 |true=>
  some ((6:Int),(x.1.1,v3.1,x.1.2.2.1,()),())
 |false=>
  match bI ((x.1.1,v3.1,x.1.2.2.1,()),v2.1,(0:Int),())with
  |none=>none
  |some v5=>
  match(decide (v5.1<(0:Int)))with
  |true=>
   some ((6:Int),(x.1.1,v3.1,x.1.2.2.1,()),())
  |false=>
   match(decide ((IntKind.i64.wrap (v5.1-v2.1))>(19:Int)))with
   |true=>
    some ((6:Int),(x.1.1,v3.1,x.1.2.2.1,()),())
   |false=>
    match(decide ((IntKind.i64.wrap (v5.1-v2.1))<(5:Int)))with
    |true=>
     some ((6:Int),(x.1.1,v3.1,x.1.2.2.1,()),())
    |false=>
     match((IntKind.i64.wrap (v5.1-v2.1))==(12:Int))with
     |true=>
      some ((6:Int),(x.1.1,v3.1,x.1.2.2.1,()),())
     |false=>
      match(decide ((IntKind.i64.wrap (v5.1-v2.1))≥(13:Int)))with
      |true=>
       match c8 ((x.1.1,v3.1,x.1.2.2.1,()),v5.1,())with
       |none=>none
       |some v6=>
       match(decide (v6.1<(0:Int)))with
       |true=>
        some ((6:Int),(v6.2.1.1,v6.2.1.2.1,v6.2.1.2.2.1,()),())
       |false=>
        match bI ((v6.2.1.1,v6.2.1.2.1,v6.2.1.2.2.1,()),(IntKind.i64.wrap (v6.1+(11:Int))),(0:Int),())with
        |none=>none
        |some v7=>
        match(decide (v7.1≥(0:Int)))with
        |true=>
         some ((6:Int),(v6.2.1.1,v6.2.1.2.1,v6.2.1.2.2.1,()),())
        |false=>
         some ((0:Int),(v6.2.1.1,v6.2.1.2.1,v6.2.1.2.2.1,()),())
      |false=>
       match bI ((x.1.1,v3.1,x.1.2.2.1,()),(IntKind.i64.wrap (v5.1+(11:Int))),(0:Int),())with
       |none=>none
       |some v8=>
       match(decide (v8.1≥(0:Int)))with
       |true=>
        some ((6:Int),(x.1.1,v3.1,x.1.2.2.1,()),())
       |false=>
        some ((0:Int),(x.1.1,v3.1,x.1.2.2.1,()),())
noncomputable def EK:ae:=⟨_,aE,Zg,rfl,kH⟩
theorem CA:FnOK G0 Tryz.prog 322 EK:=ak aj (sg nN (sg L5 (sg L6 (sg yu (aL))))) Tryz.func322
noncomputable def pd(x:Ty.T eG):Option (Ty.T Za):=
match mV (x.1,())with
|none=>none
|some v1=>
match(!v1.1)with
|true=>
 some (none,(1:Int),())
|false=>
 match kH ((x.1,(0:Int),[],()),())with
 |none=>none
 |some v2=>
 match(v2.1 != (0:Int))with
 |true=>
  some (none,v2.1,())
 |false=>
  some ((some (v2.2.1.1,v2.2.1.2.1,v2.2.1.2.2.1,())),(0:Int),())
noncomputable def zi:ae:=⟨_,Za,.unit,rfl,pd⟩
theorem J6:FnOK G0 Tryz.prog 302 zi:=ak aj (sg oH (sg CA (aL))) Tryz.func302
abbrev uT:Ty:=Ze
noncomputable def jX(x:(Ty.T uT)):Option ((Ty.T uT) ⊕ ((Ty.T a8) ⊕ (Ty.T .unit))):=
match(decide (x.2.2.1<(9:Int)))with
|true=>
 aI (x.2.1.length+ [(IntKind.i64.wrap ((IntKind.i64.wrap (x.1+(IntKind.i64.wrap ((8:Int)*x.2.2.1))))+(12:Int)))].length) (
  some (.inl (x.1,(x.2.1++ [(IntKind.i64.wrap ((IntKind.i64.wrap (x.1+(IntKind.i64.wrap ((8:Int)*x.2.2.1))))+(12:Int)))]),(IntKind.i64.wrap (x.2.2.1+(1:Int))),())))
|false=>
 some (.inr (.inl (x.2.1,())))
noncomputable def zj(x:Ty.T aE):Option (Ty.T a8):=
match ac jX (x.1,[],(0:Int),())with
|none=>none
|some (.inl v1)=>
 some (v1.1,())
|some (.inr v3)=>
 none
noncomputable def IJ:ae:=⟨_,a8,.unit,rfl,zj⟩
noncomputable def Gk:FuncId→Option ae:=bC []
theorem Oe:∀f s,Gk f=some s→FnOK G0 Tryz.prog f s:=aD trivial
def D0:aO:=⟨[0,3,6],uT,0,[3],a8,[],.unit⟩
noncomputable def Gm:List aw:=[D0.spec jX]
theorem L7:bg bi E0 Gk (bc Tryz.f303 Gm) Tryz.f303 0 D0 jX:=fun x=>by kernel_rfl
theorem Sd:FnOK G0 Tryz.prog 303 IJ:=aJ aj Oe Tryz.func303 Gm (by kernel_rfl) (by exact⟨(L7).lok,trivial⟩) fun x=>by kernel_rfl
abbrev na:Ty:=(.pair (.nptr pV) (.pair (.own 2 (.int .i64)) (.pair (.int .i64) (.pair (.list (.int .i64)) (.pair (.int .i64) (.pair (.int .i64) (.pair (.own 2 (.int .i64)) bB)))))))
abbrev ud:Ty:=(.pair (.nptr pV) (.pair (.own 2 (.int .i64)) (.pair (.int .i64) (.pair (.list (.int .i64)) bB))))
noncomputable def eP(x:(Ty.T na)):Option ((Ty.T na) ⊕ ((Ty.T ud) ⊕ (Ty.T .unit))):=
match(decide (x.2.2.2.2.2.2.2.2.1<x.2.2.2.2.2.2.2.1))with
|true=>
 ab (aq x.2.2.2.2.2.2.1 x.2.2.2.2.2.2.2.2.1) fun _=>
 match x.2.2.2.2.2.2.1[x.2.2.2.2.2.2.2.2.1.toNat]? with
 |none=>none
 |some v7=>
 match gL (x.1,v7,())with
 |none=>none
 |some v8=>
 some (.inl (x.1,x.2.1,(IntKind.i64.wrap ((IntKind.i64.wrap ((2:Int)*x.2.2.1))+v8.1)),x.2.2.2.1,x.2.2.2.2.1,x.2.2.2.2.2.1,x.2.2.2.2.2.2.1,x.2.2.2.2.2.2.2.1,(IntKind.i64.wrap (x.2.2.2.2.2.2.2.2.1+(1:Int))),()))
|false=>
 some (.inr (.inl (x.1,x.2.1,x.2.2.1,x.2.2.2.1,x.2.2.2.2.1,x.2.2.2.2.2.1,())))
abbrev oq:Ty:=(.pair (.nptr pV) (.pair (.own 2 (.int .i64)) (.pair (.list (.int .i64)) bB)))
noncomputable def fx(x:(Ty.T oq)):Option ((Ty.T oq) ⊕ ((Ty.T a8) ⊕ (Ty.T .unit))):=
match(decide (x.2.2.2.2.1<x.2.2.2.1))with
|true=>
 ab (aq x.2.2.1 x.2.2.2.2.1) fun v3=>
 match zj (v3,())with
 |none=>none
 |some v4=>
 ab (aH v4.1.length none (some (.dat (.int .i64) (8:Int)))) fun v5=>
 match ac eP (x.1,x.2.1,(0:Int),x.2.2.1,x.2.2.2.1,x.2.2.2.2.1,(List.take v5.2 v4.1),((List.take v5.2 v4.1).length:Int),(0:Int),())with
 |none=>none
 |some (.inl v6)=>
  aI (v6.2.1.length+ [v6.2.2.1].length) (
   some (.inl (v6.1,(v6.2.1++ [v6.2.2.1]),v6.2.2.2.1,v6.2.2.2.2.1,(IntKind.i64.wrap (v6.2.2.2.2.2.1+(1:Int))),())))
 |some (.inr v8)=>
  some (.inr (.inr (())))
|false=>
 some (.inr (.inl (x.2.1,())))
noncomputable def pe(x:Ty.T eG):Option (Ty.T ma):=
match pd (x.1,())with
|none=>none
|some v1=>
match(v1.2.1 != (0:Int))with
|true=>
 some ([],v1.2.1,())
|false=>
 ab v1.1 fun v2=>
 match ac fx (v1.1,[],v2.2.2.1,(v2.2.2.1.length:Int),(0:Int),())with
 |none=>none
 |some (.inl v9)=>
  some (v9.1,(0:Int),())
 |some (.inr v11)=>
  none
noncomputable def L8:ae:=⟨_,ma,.unit,rfl,pe⟩
noncomputable def pC:FuncId→Option ae:=bC [(302,zi),(303,IJ),(304,kZ)]
theorem Gn:∀f s,pC f=some s→FnOK G0 Tryz.prog f s:=aD ⟨J6,Sd,oJ,trivial⟩
def vT:aO:=⟨[4,6,24,25,26],oq,0,[6],a8,[],.unit⟩
def ue:aO:=⟨[4,6,9,24,25,26,32,33,34],na,2,[4,6,9,24,25,26],ud,[],.unit⟩
noncomputable def pD:List aw:=[vT.spec fx,ue.spec eP]
theorem EL:bg bi E0 pC (bc Tryz.f272 pD) Tryz.f272 0 vT fx:=fun x=>by kernel_rfl
theorem CB:bg bi E0 pC (bc Tryz.f272 pD) Tryz.f272 1 ue eP:=fun x=>by kernel_rfl
theorem J7:FnOK G0 Tryz.prog 272 L8:=aJ aj Gn Tryz.func272 pD (by kernel_rfl) (by exact⟨(EL).lok,(CB).lok,trivial⟩) fun x=>by kernel_rfl
noncomputable def me(x:Ty.T eG):Option (Ty.T ma):=
match pc (x.1,())with
|none=>none
|some v1=>
match(v1.2.1 != (0:Int))with
|true=>
 some ([],v1.2.1,())
|false=>
 match pe (v1.1,())with
 |none=>none
 |some v2=>
 some (v2.1,v2.2.1,())
noncomputable def HT:ae:=⟨_,ma,.unit,rfl,me⟩
theorem Gp:FnOK G0 Tryz.prog 222 HT:=ak aj (sg J5 (sg J7 (aL))) Tryz.func222
abbrev kz:Ty:=(.pair (.list (.int .i64)) (.pair (.list (.int .i64)) bB))
noncomputable def dj(x:(Ty.T kz)):Option ((Ty.T kz) ⊕ ((Ty.T .unit) ⊕ (Ty.T ao))):=
match(decide (x.2.2.2.1<x.2.2.1))with
|true=>
 ab (aq x.1 x.2.2.2.1) fun v1=>
 ab (aq x.2.1 x.2.2.2.1) fun v2=>
 match(v1 != v2)with
 |true=>
  some (.inr (.inr (false,())))
 |false=>
  some (.inl (x.1,x.2.1,x.2.2.1,(IntKind.i64.wrap (x.2.2.2.1+(1:Int))),()))
|false=>
 some (.inr (.inl (())))
noncomputable def bu(x:Ty.T Rz):Option (Ty.T ao):=
match((x.1.length:Int) != (x.2.1.length:Int))with
|true=>
 some (false,())
|false=>
 match ac dj (x.1,x.2.1,(x.1.length:Int),(0:Int),())with
 |none=>none
 |some (.inl v3)=>
  some (true,())
 |some (.inr v4)=>
  some (v4.1,())
noncomputable def CC:ae:=⟨_,ao,.unit,rfl,bu⟩
noncomputable def qh:FuncId→Option ae:=bC []
theorem yv:∀f s,qh f=some s→FnOK G0 Tryz.prog f s:=aD trivial
def oK:aO:=⟨[0,1,12,13],kz,0,[],.unit,[4],ao⟩
noncomputable def qi:List aw:=[oK.spec dj]
theorem x9:bg bi E0 qh (bc Tryz.f274 qi) Tryz.f274 0 oK dj:=fun x=>by kernel_rfl
theorem la:FnOK G0 Tryz.prog 274 CC:=aJ aj yv Tryz.func274 qi (by kernel_rfl) (by exact⟨(x9).lok,trivial⟩) fun x=>by kernel_rfl
noncomputable def L9(x:Ty.T aE):Option (Ty.T ao):=
match ca (x.1,(0:Int),(16777215:Int),())with
|none=>none
|some v1=>
some (v1.1,())
noncomputable def Zp:ae:=⟨_,ao,.unit,rfl,L9⟩
theorem XE:FnOK G0 Tryz.prog 305 Zp:=ak aj (sg dh (aL)) Tryz.func305
noncomputable def th(x:Ty.T eG):Option (Ty.T zG):=
ab (aH x.1.length none (some (.dat (.int .i64) (16:Int)))) fun v1=>
ab (aH x.1.length (some (.dat (.int .i64) (16:Int))) (some (.dat (.int .i64) (20:Int)))) fun v2=>
ab (aH x.1.length (some (.dat (.int .i64) (20:Int))) (some (.dat (.int .i64) (24:Int)))) fun v3=>
ab (aH x.1.length (some (.dat (.int .i64) (24:Int))) (some (.dat (.int .i64) (32:Int)))) fun v4=>
ab (aH x.1.length (some (.dat (.int .i64) (32:Int))) (some (.dat (.int .i64) (64:Int)))) fun v5=>
match c7 ((List.drop v1.1 (List.take v1.2 x.1)),())with
|none=>none
|some v6=>
match c7 ((List.drop v2.1 (List.take v2.2 x.1)),())with
|none=>none
|some v7=>
match c7 ((List.drop v3.1 (List.take v3.2 x.1)),())with
|none=>none
|some v8=>
match c7 ((List.drop v4.1 (List.take v4.2 x.1)),())with
|none=>none
|some v9=>
match c7 ((List.drop v5.1 (List.take v5.2 x.1)),())with
|none=>none
|some v10=>
some ((v6.1,v7.1,v8.1,v9.1,v10.1,()),())
noncomputable def Qh:ae:=⟨_,zG,.unit,rfl,th⟩
theorem Og:FnOK G0 Tryz.prog 323 Qh:=ak aj (sg DW (aL)) Tryz.func323
noncomputable def ti(x:Ty.T eG):Option (Ty.T VZ):=
match((x.1.length:Int)==(0:Int))with
|true=>
 some (((0:Int),(0:Int),((0:Int),(0:Int),(0:Int),(0:Int),(0:Int),()),[],()),false,())
|false=>
 ab (aq x.1 (0:Int)) fun v1=>
 ab (aq x.1 (0:Int)) fun v2=>
 ab (aH x.1.length (some (.dat (.int .i64) (1:Int))) none) fun v3=>
 match ic ((IntKind.i64.wrap (Int.tdiv v1 (64:Int))),())with
 |none=>none
 |some v4=>
 match v4.1 with
 |true=>
  match(decide (((List.drop v3.1 (List.take v3.2 x.1)).length:Int)<(8:Int)))with
  |true=>
   some (((0:Int),(0:Int),((0:Int),(0:Int),(0:Int),(0:Int),(0:Int),()),[],()),false,())
  |false=>
   ab (aH (List.drop v3.1 (List.take v3.2 x.1)).length none (some (.dat (.int .i64) (8:Int)))) fun v5=>
   match pA ((List.drop v5.1 (List.take v5.2 (List.drop v3.1 (List.take v3.2 x.1)))),())with
   |none=>none
   |some v6=>
   match th (v6.1,())with
   |none=>none
   |some v7=>
   ab (aH (List.drop v3.1 (List.take v3.2 x.1)).length (some (.dat (.int .i64) (8:Int))) none) fun v8=>
   match kf ((IntKind.i64.wrap (Int.tdiv v1 (64:Int))),())with
   |none=>none
   |some v9=>
   match v9.1 with
   |true=>
    match(decide (((List.drop v8.1 (List.take v8.2 (List.drop v3.1 (List.take v3.2 x.1)))).length:Int)>(0:Int)))with
    |true=>
     ab (aH (List.drop v8.1 (List.take v8.2 (List.drop v3.1 (List.take v3.2 x.1)))).length (some (.dat (.int .i64) (1:Int))) none) fun v10=>
     match eN ((List.drop v10.1 (List.take v10.2 (List.drop v8.1 (List.take v8.2 (List.drop v3.1 (List.take v3.2 x.1)))))),())with
     |none=>none
     |some v11=>
     match fC (((IntKind.i64.wrap (Int.tdiv v1 (64:Int))),(Int.tmod (IntKind.i64.wrap (Int.tdiv v2 (8:Int))) (8:Int)),(v7.1.1,v7.1.2.1,v7.1.2.2.1,v7.1.2.2.2.1,v7.1.2.2.2.2.1,()),v11.1,()),())with
     |none=>none
     |some v12=>
     match(!v12.1)with
     |true=>
      some (((0:Int),(0:Int),((0:Int),(0:Int),(0:Int),(0:Int),(0:Int),()),[],()),false,())
     |false=>
      match gq (((IntKind.i64.wrap (Int.tdiv v1 (64:Int))),(Int.tmod (IntKind.i64.wrap (Int.tdiv v2 (8:Int))) (8:Int)),(v7.1.1,v7.1.2.1,v7.1.2.2.1,v7.1.2.2.2.1,v7.1.2.2.2.2.1,()),v11.1,()),())with
      |none=>none
      |some v13=>
      match bu (v13.1,x.1,())with
      |none=>none
      |some v14=>
      match(!v14.1)with
      |true=>
       some (((0:Int),(0:Int),((0:Int),(0:Int),(0:Int),(0:Int),(0:Int),()),[],()),false,())
      |false=>
       some (((IntKind.i64.wrap (Int.tdiv v1 (64:Int))),(Int.tmod (IntKind.i64.wrap (Int.tdiv v2 (8:Int))) (8:Int)),(v7.1.1,v7.1.2.1,v7.1.2.2.1,v7.1.2.2.2.1,v7.1.2.2.2.2.1,()),v11.1,()),true,())
    |false=>
     match fC (((IntKind.i64.wrap (Int.tdiv v1 (64:Int))),(Int.tmod (IntKind.i64.wrap (Int.tdiv v2 (8:Int))) (8:Int)),(v7.1.1,v7.1.2.1,v7.1.2.2.1,v7.1.2.2.2.1,v7.1.2.2.2.2.1,()),[],()),())with
     |none=>none
     |some v15=>
     match(!v15.1)with
     |true=>
      some (((0:Int),(0:Int),((0:Int),(0:Int),(0:Int),(0:Int),(0:Int),()),[],()),false,())
     |false=>
      match gq (((IntKind.i64.wrap (Int.tdiv v1 (64:Int))),(Int.tmod (IntKind.i64.wrap (Int.tdiv v2 (8:Int))) (8:Int)),(v7.1.1,v7.1.2.1,v7.1.2.2.1,v7.1.2.2.2.1,v7.1.2.2.2.2.1,()),[],()),())with
      |none=>none
      |some v16=>
      match bu (v16.1,x.1,())with
      |none=>none
      |some v17=>
      match(!v17.1)with
      |true=>
       some (((0:Int),(0:Int),((0:Int),(0:Int),(0:Int),(0:Int),(0:Int),()),[],()),false,())
      |false=>
       some (((IntKind.i64.wrap (Int.tdiv v1 (64:Int))),(Int.tmod (IntKind.i64.wrap (Int.tdiv v2 (8:Int))) (8:Int)),(v7.1.1,v7.1.2.1,v7.1.2.2.1,v7.1.2.2.2.1,v7.1.2.2.2.2.1,()),[],()),true,())
   |false=>
    match fC (((IntKind.i64.wrap (Int.tdiv v1 (64:Int))),(Int.tmod (IntKind.i64.wrap (Int.tdiv v2 (8:Int))) (8:Int)),(v7.1.1,v7.1.2.1,v7.1.2.2.1,v7.1.2.2.2.1,v7.1.2.2.2.2.1,()),[],()),())with
    |none=>none
    |some v18=>
    match(!v18.1)with
    |true=>
     some (((0:Int),(0:Int),((0:Int),(0:Int),(0:Int),(0:Int),(0:Int),()),[],()),false,())
    |false=>
     match gq (((IntKind.i64.wrap (Int.tdiv v1 (64:Int))),(Int.tmod (IntKind.i64.wrap (Int.tdiv v2 (8:Int))) (8:Int)),(v7.1.1,v7.1.2.1,v7.1.2.2.1,v7.1.2.2.2.1,v7.1.2.2.2.2.1,()),[],()),())with
     |none=>none
     |some v19=>
     match bu (v19.1,x.1,())with
     |none=>none
     |some v20=>
     match(!v20.1)with
     |true=>
      some (((0:Int),(0:Int),((0:Int),(0:Int),(0:Int),(0:Int),(0:Int),()),[],()),false,())
     |false=>
      some (((IntKind.i64.wrap (Int.tdiv v1 (64:Int))),(Int.tmod (IntKind.i64.wrap (Int.tdiv v2 (8:Int))) (8:Int)),(v7.1.1,v7.1.2.1,v7.1.2.2.1,v7.1.2.2.2.1,v7.1.2.2.2.2.1,()),[],()),true,())
 |false=>
  match kf ((IntKind.i64.wrap (Int.tdiv v1 (64:Int))),())with
  |none=>none
  |some v21=>
  match v21.1 with
  |true=>
   match(decide (((List.drop v3.1 (List.take v3.2 x.1)).length:Int)>(0:Int)))with
   |true=>
    ab (aH (List.drop v3.1 (List.take v3.2 x.1)).length (some (.dat (.int .i64) (1:Int))) none) fun v22=>
    match eN ((List.drop v22.1 (List.take v22.2 (List.drop v3.1 (List.take v3.2 x.1)))),())with
    |none=>none
    |some v23=>
    match fC (((IntKind.i64.wrap (Int.tdiv v1 (64:Int))),(Int.tmod (IntKind.i64.wrap (Int.tdiv v2 (8:Int))) (8:Int)),((0:Int),(0:Int),(0:Int),(0:Int),(0:Int),()),v23.1,()),())with
    |none=>none
    |some v24=>
    match(!v24.1)with
    |true=>
     some (((0:Int),(0:Int),((0:Int),(0:Int),(0:Int),(0:Int),(0:Int),()),[],()),false,())
    |false=>
     match gq (((IntKind.i64.wrap (Int.tdiv v1 (64:Int))),(Int.tmod (IntKind.i64.wrap (Int.tdiv v2 (8:Int))) (8:Int)),((0:Int),(0:Int),(0:Int),(0:Int),(0:Int),()),v23.1,()),())with
     |none=>none
     |some v25=>
     match bu (v25.1,x.1,())with
     |none=>none
     |some v26=>
     match(!v26.1)with
     |true=>
      some (((0:Int),(0:Int),((0:Int),(0:Int),(0:Int),(0:Int),(0:Int),()),[],()),false,())
     |false=>
      some (((IntKind.i64.wrap (Int.tdiv v1 (64:Int))),(Int.tmod (IntKind.i64.wrap (Int.tdiv v2 (8:Int))) (8:Int)),((0:Int),(0:Int),(0:Int),(0:Int),(0:Int),()),v23.1,()),true,())
   |false=>
    match fC (((IntKind.i64.wrap (Int.tdiv v1 (64:Int))),(Int.tmod (IntKind.i64.wrap (Int.tdiv v2 (8:Int))) (8:Int)),((0:Int),(0:Int),(0:Int),(0:Int),(0:Int),()),[],()),())with
    |none=>none
    |some v27=>
    match(!v27.1)with
    |true=>
     some (((0:Int),(0:Int),((0:Int),(0:Int),(0:Int),(0:Int),(0:Int),()),[],()),false,())
    |false=>
     match gq (((IntKind.i64.wrap (Int.tdiv v1 (64:Int))),(Int.tmod (IntKind.i64.wrap (Int.tdiv v2 (8:Int))) (8:Int)),((0:Int),(0:Int),(0:Int),(0:Int),(0:Int),()),[],()),())with
     |none=>none
     |some v28=>
     match bu (v28.1,x.1,())with
     |none=>none
     |some v29=>
     match(!v29.1)with
     |true=>
      some (((0:Int),(0:Int),((0:Int),(0:Int),(0:Int),(0:Int),(0:Int),()),[],()),false,())
     |false=>
      some (((IntKind.i64.wrap (Int.tdiv v1 (64:Int))),(Int.tmod (IntKind.i64.wrap (Int.tdiv v2 (8:Int))) (8:Int)),((0:Int),(0:Int),(0:Int),(0:Int),(0:Int),()),[],()),true,())
  |false=>
   match fC (((IntKind.i64.wrap (Int.tdiv v1 (64:Int))),(Int.tmod (IntKind.i64.wrap (Int.tdiv v2 (8:Int))) (8:Int)),((0:Int),(0:Int),(0:Int),(0:Int),(0:Int),()),[],()),())with
   |none=>none
   |some v30=>
   match(!v30.1)with
   |true=>
    some (((0:Int),(0:Int),((0:Int),(0:Int),(0:Int),(0:Int),(0:Int),()),[],()),false,())
   |false=>
    match gq (((IntKind.i64.wrap (Int.tdiv v1 (64:Int))),(Int.tmod (IntKind.i64.wrap (Int.tdiv v2 (8:Int))) (8:Int)),((0:Int),(0:Int),(0:Int),(0:Int),(0:Int),()),[],()),())with
    |none=>none
    |some v31=>
    match bu (v31.1,x.1,())with
    |none=>none
    |some v32=>
    match(!v32.1)with
    |true=>
     some (((0:Int),(0:Int),((0:Int),(0:Int),(0:Int),(0:Int),(0:Int),()),[],()),false,())
    |false=>
     some (((IntKind.i64.wrap (Int.tdiv v1 (64:Int))),(Int.tmod (IntKind.i64.wrap (Int.tdiv v2 (8:Int))) (8:Int)),((0:Int),(0:Int),(0:Int),(0:Int),(0:Int),()),[],()),true,())
noncomputable def Qi:ae:=⟨_,VZ,.unit,rfl,ti⟩
theorem Oh:FnOK G0 Tryz.prog 306 Qi:=ak aj (sg lH (sg kY (sg Iy (sg Ga (sg xI (sg IB (sg la (sg Og (aL))))))))) Tryz.func306
noncomputable def oL(x:Ty.T aad):Option (Ty.T V0):=
match iu ((x.2.2.1.1,x.2.2.1.2.1,x.2.2.1.2.2.1,x.2.2.1.2.2.2.1,x.2.2.1.2.2.2.2.1,()),())with
|none=>none
|some v1=>
match(!v1.1)with
|true=>
 some (((0:Int),(0:Int),((0:Int),(0:Int),(0:Int),(0:Int),(0:Int),()),[],()),(1:Int),())
|false=>
 match L9 (x.2.1,())with
 |none=>none
 |some v2=>
 match(!v2.1)with
 |true=>
  some (((0:Int),(0:Int),((0:Int),(0:Int),(0:Int),(0:Int),(0:Int),()),[],()),(2:Int),())
 |false=>
  match mR (x.1,())with
  |none=>none
  |some v3=>
  match(!v3.1)with
  |true=>
   some (((0:Int),(0:Int),((0:Int),(0:Int),(0:Int),(0:Int),(0:Int),()),[],()),(2:Int),())
  |false=>
   match(decide ((IntKind.i64.wrap ((x.1.length:Int)-(3:Int)))<(1:Int)))with
   |true=>
    some (((0:Int),(0:Int),((0:Int),(0:Int),(0:Int),(0:Int),(0:Int),()),[],()),(6:Int),())
   |false=>
    ab (aq x.1 (0:Int)) fun v4=>
    ab (aH x.1.length none (some (.dat (.int .i64) (IntKind.i64.wrap ((x.1.length:Int)-(3:Int)))))) fun v5=>
    ab (aH x.1.length (some (.dat (.int .i64) (IntKind.i64.wrap ((x.1.length:Int)-(3:Int))))) none) fun v6=>
    match iZ ((IntKind.i64.wrap (Int.tdiv v4 (64:Int))),(List.drop v5.1 (List.take v5.2 x.1)),x.2.1,(x.2.2.1.1,x.2.2.1.2.1,x.2.2.1.2.2.1,x.2.2.1.2.2.2.1,x.2.2.1.2.2.2.2.1,()),())with
    |none=>none
    |some v7=>
    match kW (v7.1,())with
    |none=>none
    |some v8=>
    match bu (v8.1,(List.drop v6.1 (List.take v6.2 x.1)),())with
    |none=>none
    |some v9=>
    match(!v9.1)with
    |true=>
     some (((0:Int),(0:Int),((0:Int),(0:Int),(0:Int),(0:Int),(0:Int),()),[],()),(7:Int),())
    |false=>
     ab (aH x.1.length none (some (.dat (.int .i64) (IntKind.i64.wrap ((x.1.length:Int)-(3:Int)))))) fun v10=>
     match ti ((List.drop v10.1 (List.take v10.2 x.1)),())with
     |none=>none
     |some v11=>
     match(!v11.2.1)with
     |true=>
      some (((0:Int),(0:Int),((0:Int),(0:Int),(0:Int),(0:Int),(0:Int),()),[],()),(6:Int),())
     |false=>
      match ic (v11.1.1,())with
      |none=>none
      |some v12=>
      match v12.1 with
      |true=>
       match(!(ex ai (v11.1.2.2.1.1,v11.1.2.2.1.2.1,v11.1.2.2.1.2.2.1,v11.1.2.2.1.2.2.2.1,v11.1.2.2.1.2.2.2.2.1,()) (x.2.2.1.1,x.2.2.1.2.1,x.2.2.1.2.2.1,x.2.2.1.2.2.2.1,x.2.2.1.2.2.2.2.1,())))with
       |true=>
        some (((0:Int),(0:Int),((0:Int),(0:Int),(0:Int),(0:Int),(0:Int),()),[],()),(5:Int),())
       |false=>
        some ((v11.1.1,v11.1.2.1,(v11.1.2.2.1.1,v11.1.2.2.1.2.1,v11.1.2.2.1.2.2.1,v11.1.2.2.1.2.2.2.1,v11.1.2.2.1.2.2.2.2.1,()),v11.1.2.2.2.1,()),(0:Int),())
      |false=>
       some ((v11.1.1,v11.1.2.1,(v11.1.2.2.1.1,v11.1.2.2.1.2.1,v11.1.2.2.1.2.2.1,v11.1.2.2.1.2.2.2.1,v11.1.2.2.1.2.2.2.2.1,()),v11.1.2.2.2.1,()),(0:Int),())
noncomputable def Qj:ae:=⟨_,V0,.unit,rfl,oL⟩
theorem Oi:FnOK G0 Tryz.prog 273 Qj:=ak aj (sg xQ (sg lH (sg zg (sg xU (sg F9 (sg la (sg XE (sg Oh (aL))))))))) Tryz.func273
noncomputable def Bl(x:Ty.T Jh):Option (Ty.T pW):=
match oL (x.2.2.1,x.1.1,(x.2.1.1,x.2.1.2.1,x.2.1.2.2.1,x.2.1.2.2.2.1,x.2.1.2.2.2.2.1,()),())with
|none=>none
|some v1=>
match(v1.2.1==(0:Int))with
|true=>
 match eC ((x.1.1,x.1.2.1,x.1.2.2.1,x.1.2.2.2.1,()),(x.2.1.1,x.2.1.2.1,x.2.1.2.2.1,x.2.1.2.2.2.1,x.2.1.2.2.2.2.1,()),())with
 |none=>none
 |some v2=>
 match xR (v2.1,(v1.1.1,v1.1.2.1,(v1.1.2.2.1.1,v1.1.2.2.1.2.1,v1.1.2.2.1.2.2.1,v1.1.2.2.1.2.2.2.1,v1.1.2.2.1.2.2.2.2.1,()),v1.1.2.2.2.1,()),())with
 |none=>none
 |some v3=>
 match(!v3.1)with
 |true=>
  match((5:Int) != (0:Int))with
  |true=>
   some (((2:Int),((0:Int),(0:Int),((0:Int),(0:Int),(0:Int),(0:Int),(0:Int),()),[],()),()),(5:Int),())
  |false=>
   some (((3:Int),(v1.1.1,v1.1.2.1,(v1.1.2.2.1.1,v1.1.2.2.1.2.1,v1.1.2.2.1.2.2.1,v1.1.2.2.1.2.2.2.1,v1.1.2.2.1.2.2.2.2.1,()),v1.1.2.2.2.1,()),()),(0:Int),())
 |false=>
  match(v1.2.1 != (0:Int))with
  |true=>
   some (((2:Int),((0:Int),(0:Int),((0:Int),(0:Int),(0:Int),(0:Int),(0:Int),()),[],()),()),v1.2.1,())
  |false=>
   some (((3:Int),(v1.1.1,v1.1.2.1,(v1.1.2.2.1.1,v1.1.2.2.1.2.1,v1.1.2.2.1.2.2.1,v1.1.2.2.1.2.2.2.1,v1.1.2.2.1.2.2.2.2.1,()),v1.1.2.2.2.1,()),()),(0:Int),())
|false=>
 match(v1.2.1 != (0:Int))with
 |true=>
  some (((2:Int),((0:Int),(0:Int),((0:Int),(0:Int),(0:Int),(0:Int),(0:Int),()),[],()),()),v1.2.1,())
 |false=>
  some (((3:Int),(v1.1.1,v1.1.2.1,(v1.1.2.2.1.1,v1.1.2.2.1.2.1,v1.1.2.2.1.2.2.1,v1.1.2.2.1.2.2.2.1,v1.1.2.2.1.2.2.2.2.1,()),v1.1.2.2.2.1,()),()),(0:Int),())
noncomputable def XF:ae:=⟨_,pW,.unit,rfl,Bl⟩
theorem Wd:FnOK G0 Tryz.prog 223 XF:=ak aj (sg mI (sg Pg (sg Oi (aL)))) Tryz.func223
noncomputable def uf(x:Ty.T Jh):Option (Ty.T pW):=
match me (x.2.2.1,())with
|none=>none
|some v1=>
match(v1.2.1==(0:Int))with
|true=>
 match Bl ((x.1.1,x.1.2.1,x.1.2.2.1,x.1.2.2.2.1,()),(x.2.1.1,x.2.1.2.1,x.2.1.2.2.1,x.2.1.2.2.2.1,x.2.1.2.2.2.2.1,()),v1.1,())with
 |none=>none
 |some v2=>
 some ((v2.1.1,(v2.1.2.1.1,v2.1.2.1.2.1,(v2.1.2.1.2.2.1.1,v2.1.2.1.2.2.1.2.1,v2.1.2.1.2.2.1.2.2.1,v2.1.2.1.2.2.1.2.2.2.1,v2.1.2.1.2.2.1.2.2.2.2.1,()),v2.1.2.1.2.2.2.1,()),()),v2.2.1,())
|false=>
 match(v1.2.1==(4:Int))with
 |true=>
  some (((0:Int),((0:Int),(0:Int),((0:Int),(0:Int),(0:Int),(0:Int),(0:Int),()),[],()),()),v1.2.1,())
 |false=>
  some (((1:Int),((0:Int),(0:Int),((0:Int),(0:Int),(0:Int),(0:Int),(0:Int),()),[],()),()),v1.2.1,())
noncomputable def T5:ae:=⟨_,pW,.unit,rfl,uf⟩
theorem Se:FnOK G0 Tryz.prog 165 T5:=ak aj (sg Gp (sg Wd (aL))) Tryz.func165
noncomputable def fU(x:Ty.T Jh):Option (Ty.T pW):=
match mV (x.2.2.1,())with
|none=>none
|some v1=>
match uQ ((x.1.1,x.1.2.1,x.1.2.2.1,x.1.2.2.2.1,()),(x.2.1.1,x.2.1.2.1,x.2.1.2.2.1,x.2.1.2.2.2.1,x.2.1.2.2.2.2.1,()),v1.1,())with
|none=>none
|some v2=>
match(v2.1 != (0:Int))with
|true=>
 some (((0:Int),((0:Int),(0:Int),((0:Int),(0:Int),(0:Int),(0:Int),(0:Int),()),[],()),()),v2.1,())
|false=>
 match uf ((x.1.1,x.1.2.1,x.1.2.2.1,x.1.2.2.2.1,()),(x.2.1.1,x.2.1.2.1,x.2.1.2.2.1,x.2.1.2.2.2.1,x.2.1.2.2.2.2.1,()),x.2.2.1,())with
 |none=>none
 |some v3=>
 some ((v3.1.1,(v3.1.2.1.1,v3.1.2.1.2.1,(v3.1.2.1.2.2.1.1,v3.1.2.1.2.2.1.2.1,v3.1.2.1.2.2.1.2.2.1,v3.1.2.1.2.2.1.2.2.2.1,v3.1.2.1.2.2.1.2.2.2.2.1,()),v3.1.2.1.2.2.2.1,()),()),(0:Int),())
noncomputable def Gq:ae:=⟨_,pW,.unit,rfl,fU⟩
theorem EM:FnOK G0 Tryz.prog 106 Gq:=ak aj (sg oH (sg J4 (sg Se (aL)))) Tryz.func106
noncomputable def oM(x:Ty.T Y6):Option (Ty.T ao):=
match(x.1.1==x.2.1.1)with
|true=>
 match(x.1.2.1==x.2.1.2.1)with
 |true=>
  match(ex ai (x.1.2.2.1.1,x.1.2.2.1.2.1,x.1.2.2.1.2.2.1,x.1.2.2.1.2.2.2.1,x.1.2.2.1.2.2.2.2.1,()) (x.2.1.2.2.1.1,x.2.1.2.2.1.2.1,x.2.1.2.2.1.2.2.1,x.2.1.2.2.1.2.2.2.1,x.2.1.2.2.1.2.2.2.2.1,()))with
  |true=>
   match bu (x.1.2.2.2.1,x.2.1.2.2.2.1,())with
   |none=>none
   |some v1=>
   some (v1.1,())
  |false=>
   some (false,())
 |false=>
  some (false,())
|false=>
 some (false,())
noncomputable def Qk:ae:=⟨_,ao,.unit,rfl,oM⟩
theorem Oj:FnOK G0 Tryz.prog 224 Qk:=ak aj (sg la (aL)) Tryz.func224
noncomputable def lM(x:Ty.T aaa):Option (Ty.T ao):=
match(x.1.1==x.2.1.1)with
|true=>
 match oM ((x.1.2.1.1,x.1.2.1.2.1,(x.1.2.1.2.2.1.1,x.1.2.1.2.2.1.2.1,x.1.2.1.2.2.1.2.2.1,x.1.2.1.2.2.1.2.2.2.1,x.1.2.1.2.2.1.2.2.2.2.1,()),x.1.2.1.2.2.2.1,()),(x.2.1.2.1.1,x.2.1.2.1.2.1,(x.2.1.2.1.2.2.1.1,x.2.1.2.1.2.2.1.2.1,x.2.1.2.1.2.2.1.2.2.1,x.2.1.2.1.2.2.1.2.2.2.1,x.2.1.2.1.2.2.1.2.2.2.2.1,()),x.2.1.2.1.2.2.2.1,()),())with
 |none=>none
 |some v1=>
 some (v1.1,())
|false=>
 some (false,())
noncomputable def Ma:ae:=⟨_,ao,.unit,rfl,lM⟩
theorem J8:FnOK G0 Tryz.prog 166 Ma:=ak aj (sg Oj (aL)) Tryz.func166
noncomputable def G7(x:Ty.T aai):Option (Ty.T V1):=
match(x.1.1==(3:Int))with
|true=>
 match lM ((x.1.1,(x.1.2.1.1,x.1.2.1.2.1,(x.1.2.1.2.2.1.1,x.1.2.1.2.2.1.2.1,x.1.2.1.2.2.1.2.2.1,x.1.2.1.2.2.1.2.2.2.1,x.1.2.1.2.2.1.2.2.2.2.1,()),x.1.2.1.2.2.2.1,()),()),(x.2.1.1,(x.2.1.2.1.1,x.2.1.2.1.2.1,(x.2.1.2.1.2.2.1.1,x.2.1.2.1.2.2.1.2.1,x.2.1.2.1.2.2.1.2.2.1,x.2.1.2.1.2.2.1.2.2.2.1,x.2.1.2.1.2.2.1.2.2.2.2.1,()),x.2.1.2.1.2.2.2.1,()),()),())with
 |none=>none
 |some v1=>
 match v1.1 with
 |true=>
  some ((x.1.1,(x.1.2.1.1,x.1.2.1.2.1,(x.1.2.1.2.2.1.1,x.1.2.1.2.2.1.2.1,x.1.2.1.2.2.1.2.2.1,x.1.2.1.2.2.1.2.2.2.1,x.1.2.1.2.2.1.2.2.2.2.1,()),x.1.2.1.2.2.2.1,()),()),())
 |false=>
  match(x.1.1==(3:Int))with
  |true=>
   match(x.2.1.1==(3:Int))with
   |true=>
    some (((4:Int),((0:Int),(0:Int),((0:Int),(0:Int),(0:Int),(0:Int),(0:Int),()),[],()),()),())
   |false=>
    match(x.1.1==(4:Int))with
    |true=>
     some (((4:Int),((0:Int),(0:Int),((0:Int),(0:Int),(0:Int),(0:Int),(0:Int),()),[],()),()),())
    |false=>
     match(x.2.1.1==(4:Int))with
     |true=>
      some (((4:Int),((0:Int),(0:Int),((0:Int),(0:Int),(0:Int),(0:Int),(0:Int),()),[],()),()),())
     |false=>
      match(decide (x.1.1≥x.2.1.1))with
      |true=>
       some ((x.1.1,(x.1.2.1.1,x.1.2.1.2.1,(x.1.2.1.2.2.1.1,x.1.2.1.2.2.1.2.1,x.1.2.1.2.2.1.2.2.1,x.1.2.1.2.2.1.2.2.2.1,x.1.2.1.2.2.1.2.2.2.2.1,()),x.1.2.1.2.2.2.1,()),()),())
      |false=>
       some ((x.2.1.1,(x.2.1.2.1.1,x.2.1.2.1.2.1,(x.2.1.2.1.2.2.1.1,x.2.1.2.1.2.2.1.2.1,x.2.1.2.1.2.2.1.2.2.1,x.2.1.2.1.2.2.1.2.2.2.1,x.2.1.2.1.2.2.1.2.2.2.2.1,()),x.2.1.2.1.2.2.2.1,()),()),())
  |false=>
   match(x.1.1==(4:Int))with
   |true=>
    some (((4:Int),((0:Int),(0:Int),((0:Int),(0:Int),(0:Int),(0:Int),(0:Int),()),[],()),()),())
   |false=>
    match(x.2.1.1==(4:Int))with
    |true=>
     some (((4:Int),((0:Int),(0:Int),((0:Int),(0:Int),(0:Int),(0:Int),(0:Int),()),[],()),()),())
    |false=>
     match(decide (x.1.1≥x.2.1.1))with
     |true=>
      some ((x.1.1,(x.1.2.1.1,x.1.2.1.2.1,(x.1.2.1.2.2.1.1,x.1.2.1.2.2.1.2.1,x.1.2.1.2.2.1.2.2.1,x.1.2.1.2.2.1.2.2.2.1,x.1.2.1.2.2.1.2.2.2.2.1,()),x.1.2.1.2.2.2.1,()),()),())
     |false=>
      some ((x.2.1.1,(x.2.1.2.1.1,x.2.1.2.1.2.1,(x.2.1.2.1.2.2.1.1,x.2.1.2.1.2.2.1.2.1,x.2.1.2.1.2.2.1.2.2.1,x.2.1.2.1.2.2.1.2.2.2.1,x.2.1.2.1.2.2.1.2.2.2.2.1,()),x.2.1.2.1.2.2.2.1,()),()),())
|false=>
 match(x.1.1==(3:Int))with
 |true=>
  match(x.2.1.1==(3:Int))with
  |true=>
   some (((4:Int),((0:Int),(0:Int),((0:Int),(0:Int),(0:Int),(0:Int),(0:Int),()),[],()),()),())
  |false=>
   match(x.1.1==(4:Int))with
   |true=>
    some (((4:Int),((0:Int),(0:Int),((0:Int),(0:Int),(0:Int),(0:Int),(0:Int),()),[],()),()),())
   |false=>
    match(x.2.1.1==(4:Int))with
    |true=>
     some (((4:Int),((0:Int),(0:Int),((0:Int),(0:Int),(0:Int),(0:Int),(0:Int),()),[],()),()),())
    |false=>
     match(decide (x.1.1≥x.2.1.1))with
     |true=>
      some ((x.1.1,(x.1.2.1.1,x.1.2.1.2.1,(x.1.2.1.2.2.1.1,x.1.2.1.2.2.1.2.1,x.1.2.1.2.2.1.2.2.1,x.1.2.1.2.2.1.2.2.2.1,x.1.2.1.2.2.1.2.2.2.2.1,()),x.1.2.1.2.2.2.1,()),()),())
     |false=>
      some ((x.2.1.1,(x.2.1.2.1.1,x.2.1.2.1.2.1,(x.2.1.2.1.2.2.1.1,x.2.1.2.1.2.2.1.2.1,x.2.1.2.1.2.2.1.2.2.1,x.2.1.2.1.2.2.1.2.2.2.1,x.2.1.2.1.2.2.1.2.2.2.2.1,()),x.2.1.2.1.2.2.2.1,()),()),())
 |false=>
  match(x.1.1==(4:Int))with
  |true=>
   some (((4:Int),((0:Int),(0:Int),((0:Int),(0:Int),(0:Int),(0:Int),(0:Int),()),[],()),()),())
  |false=>
   match(x.2.1.1==(4:Int))with
   |true=>
    some (((4:Int),((0:Int),(0:Int),((0:Int),(0:Int),(0:Int),(0:Int),(0:Int),()),[],()),()),())
   |false=>
    match(decide (x.1.1≥x.2.1.1))with
    |true=>
     some ((x.1.1,(x.1.2.1.1,x.1.2.1.2.1,(x.1.2.1.2.2.1.1,x.1.2.1.2.2.1.2.1,x.1.2.1.2.2.1.2.2.1,x.1.2.1.2.2.1.2.2.2.1,x.1.2.1.2.2.1.2.2.2.2.1,()),x.1.2.1.2.2.2.1,()),()),())
    |false=>
     some ((x.2.1.1,(x.2.1.2.1.1,x.2.1.2.1.2.1,(x.2.1.2.1.2.2.1.1,x.2.1.2.1.2.2.1.2.1,x.2.1.2.1.2.2.1.2.2.1,x.2.1.2.1.2.2.1.2.2.2.1,x.2.1.2.1.2.2.1.2.2.2.2.1,()),x.2.1.2.1.2.2.2.1,()),()),())
noncomputable def XG:ae:=⟨_,V1,.unit,rfl,G7⟩
theorem We:FnOK G0 Tryz.prog 107 XG:=ak aj (sg J8 (aL)) Tryz.func107
noncomputable def lN(x:Ty.T aaf):Option (Ty.T pW):=
match fU ((x.1.1,x.1.2.1,x.1.2.2.1,x.1.2.2.2.1,()),(x.2.1.1,x.2.1.2.1,x.2.1.2.2.1,x.2.1.2.2.2.1,x.2.1.2.2.2.2.1,()),x.2.2.1,())with
|none=>none
|some v1=>
match(v1.2.1 != (0:Int))with
|true=>
 some (((0:Int),((0:Int),(0:Int),((0:Int),(0:Int),(0:Int),(0:Int),(0:Int),()),[],()),()),v1.2.1,())
|false=>
 match fU ((x.1.1,x.1.2.1,x.1.2.2.1,x.1.2.2.2.1,()),(x.2.1.1,x.2.1.2.1,x.2.1.2.2.1,x.2.1.2.2.2.1,x.2.1.2.2.2.2.1,()),x.2.2.2.1,())with
 |none=>none
 |some v2=>
 match(v2.2.1 != (0:Int))with
 |true=>
  some (((0:Int),((0:Int),(0:Int),((0:Int),(0:Int),(0:Int),(0:Int),(0:Int),()),[],()),()),v2.2.1,())
 |false=>
  match G7 ((v1.1.1,(v1.1.2.1.1,v1.1.2.1.2.1,(v1.1.2.1.2.2.1.1,v1.1.2.1.2.2.1.2.1,v1.1.2.1.2.2.1.2.2.1,v1.1.2.1.2.2.1.2.2.2.1,v1.1.2.1.2.2.1.2.2.2.2.1,()),v1.1.2.1.2.2.2.1,()),()),(v2.1.1,(v2.1.2.1.1,v2.1.2.1.2.1,(v2.1.2.1.2.2.1.1,v2.1.2.1.2.2.1.2.1,v2.1.2.1.2.2.1.2.2.1,v2.1.2.1.2.2.1.2.2.2.1,v2.1.2.1.2.2.1.2.2.2.2.1,()),v2.1.2.1.2.2.2.1,()),()),())with
  |none=>none
  |some v3=>
  some ((v3.1.1,(v3.1.2.1.1,v3.1.2.1.2.1,(v3.1.2.1.2.2.1.1,v3.1.2.1.2.2.1.2.1,v3.1.2.1.2.2.1.2.2.1,v3.1.2.1.2.2.1.2.2.2.1,v3.1.2.1.2.2.1.2.2.2.2.1,()),v3.1.2.1.2.2.2.1,()),()),(0:Int),())
noncomputable def Mb:ae:=⟨_,pW,.unit,rfl,lN⟩
theorem J9:FnOK G0 Tryz.prog 54 Mb:=ak aj (sg EM (sg We (aL))) Tryz.func54
noncomputable def jf(x:Ty.T aag):Option (Ty.T pW):=
match gU ((x.1.1,x.1.2.1,x.1.2.2.1,x.1.2.2.2.1,()),(x.2.1.1,x.2.1.2.1,x.2.1.2.2.1,x.2.1.2.2.2.1,x.2.1.2.2.2.2.1,()),(x.2.2.1.1,x.2.2.1.2.1,(x.2.2.1.2.2.1.1,x.2.2.1.2.2.1.2.1,x.2.2.1.2.2.1.2.2.1,x.2.2.1.2.2.1.2.2.2.1,x.2.2.1.2.2.1.2.2.2.2.1,()),x.2.2.1.2.2.2.1,()),x.2.2.2.1,())with
|none=>none
|some v1=>
match(v1.2.1 != (0:Int))with
|true=>
 some (((0:Int),((0:Int),(0:Int),((0:Int),(0:Int),(0:Int),(0:Int),(0:Int),()),[],()),()),v1.2.1,())
|false=>
 match gU ((x.1.1,x.1.2.1,x.1.2.2.1,x.1.2.2.2.1,()),(x.2.1.1,x.2.1.2.1,x.2.1.2.2.1,x.2.1.2.2.2.1,x.2.1.2.2.2.2.1,()),(x.2.2.1.1,x.2.2.1.2.1,(x.2.2.1.2.2.1.1,x.2.2.1.2.2.1.2.1,x.2.2.1.2.2.1.2.2.1,x.2.2.1.2.2.1.2.2.2.1,x.2.2.1.2.2.1.2.2.2.2.1,()),x.2.2.1.2.2.2.1,()),x.2.2.2.2.1,())with
 |none=>none
 |some v2=>
 match(v2.2.1 != (0:Int))with
 |true=>
  some (((0:Int),((0:Int),(0:Int),((0:Int),(0:Int),(0:Int),(0:Int),(0:Int),()),[],()),()),v2.2.1,())
 |false=>
  match lN ((x.1.1,x.1.2.1,x.1.2.2.1,x.1.2.2.2.1,()),(x.2.1.1,x.2.1.2.1,x.2.1.2.2.1,x.2.1.2.2.2.1,x.2.1.2.2.2.2.1,()),v1.1,v2.1,())with
  |none=>none
  |some v3=>
  some ((v3.1.1,(v3.1.2.1.1,v3.1.2.1.2.1,(v3.1.2.1.2.2.1.1,v3.1.2.1.2.2.1.2.1,v3.1.2.1.2.2.1.2.2.1,v3.1.2.1.2.2.1.2.2.2.1,v3.1.2.1.2.2.1.2.2.2.2.1,()),v3.1.2.1.2.2.2.1,()),()),v3.2.1,())
noncomputable def Sf:ae:=⟨_,pW,.unit,rfl,jf⟩
theorem Ql:FnOK G0 Tryz.prog 10 Sf:=ak aj (sg HR (sg J9 (aL))) Tryz.func10
abbrev sC:Ty:=aac
noncomputable def gV(x:(Ty.T sC)):Option ((Ty.T sC) ⊕ ((Ty.T Np) ⊕ (Ty.T ao))):=
match(decide (x.2.1<(x.1.length:Int)))with
|true=>
 ab (aq x.1 x.2.1) fun v1=>
 match mF (v1,())with
 |none=>none
 |some v2=>
 match(!v2.1)with
 |true=>
  some (.inr (.inr (false,())))
 |false=>
  some (.inl (x.1,(IntKind.i64.wrap (x.2.1+(1:Int))),()))
|false=>
 some (.inr (.inl (x.1,())))
noncomputable def ru(x:Ty.T Np):Option (Ty.T ao):=
match ac gV (x.1,(0:Int),())with
|none=>none
|some (.inl v3)=>
 some ((decide ((v3.1.length:Int)≤(30:Int))),())
|some (.inr v4)=>
 some (v4.1,())
noncomputable def Sg:ae:=⟨_,ao,.unit,rfl,ru⟩
noncomputable def D1:FuncId→Option ae:=bC [(101,zL)]
theorem Mc:∀f s,D1 f=some s→FnOK G0 Tryz.prog f s:=aD ⟨FW,trivial⟩
def Bm:aO:=⟨[0,3],sC,0,[0],Np,[2],ao⟩
noncomputable def D2:List aw:=[Bm.spec gV]
theorem Ka:bg bi E0 D1 (bc Tryz.f71 D2) Tryz.f71 0 Bm gV:=fun x=>by kernel_rfl
theorem Qm:FnOK G0 Tryz.prog 71 Sg:=aJ aj Mc Tryz.func71 D2 (by kernel_rfl) (by exact⟨(Ka).lok,trivial⟩) fun x=>by kernel_rfl
abbrev sD:Ty:=(.pair (.list av) (.pair (.list (.int .i64)) (.pair (.int .i64) .unit)))
noncomputable def gW(x:(Ty.T sD)):Option ((Ty.T sD) ⊕ ((Ty.T eG) ⊕ (Ty.T .unit))):=
match(decide (x.2.2.1<(x.1.length:Int)))with
|true=>
 ab (aq x.1 x.2.2.1) fun v2=>
 match gn (x.2.1,v2,())with
 |none=>none
 |some v3=>
 some (.inl (x.1,v3.1,(IntKind.i64.wrap (x.2.2.1+(1:Int))),()))
|false=>
 some (.inr (.inl (x.2.1,())))
noncomputable def jg(x:Ty.T Ry):Option (Ty.T eG):=
match kt (x.1,())with
|none=>none
|some v1=>
match ac gW (x.2.1,v1.1,(0:Int),())with
|none=>none
|some (.inl v4)=>
 some (v4.1,())
|some (.inr v6)=>
 none
noncomputable def Sh:ae:=⟨_,eG,.unit,rfl,jg⟩
noncomputable def D3:FuncId→Option ae:=bC [(104,qU),(162,Co)]
theorem Md:∀f s,D3 f=some s→FnOK G0 Tryz.prog f s:=aD ⟨DE,zM,trivial⟩
def Bo:aO:=⟨[1,5,6],sD,0,[5],eG,[],.unit⟩
noncomputable def D4:List aw:=[Bo.spec gW]
theorem Kb:bg bi E0 D3 (bc Tryz.f108 D4) Tryz.f108 0 Bo gW:=fun x=>by kernel_rfl
theorem Qn:FnOK G0 Tryz.prog 108 Sh:=aJ aj Md Tryz.func108 D4 (by kernel_rfl) (by exact⟨(Kb).lok,trivial⟩) fun x=>by kernel_rfl
noncomputable def gX(x:Ty.T ab7):Option (Ty.T qB):=
match iR ((x.1.1,x.1.2.1,x.1.2.2.1,x.1.2.2.2.1,()),(x.2.1.1,x.2.1.2.1,x.2.1.2.2.1,x.2.1.2.2.2.1,x.2.1.2.2.2.2.1,()),(x.2.2.1.1,x.2.2.1.2.1,(x.2.2.1.2.2.1.1,x.2.2.1.2.2.1.2.1,x.2.2.1.2.2.1.2.2.1,x.2.2.1.2.2.1.2.2.2.1,x.2.2.1.2.2.1.2.2.2.2.1,()),x.2.2.1.2.2.2.1,()),())with
|none=>none
|some v1=>
match(v1.2.1==(0:Int))with
|true=>
 match ru (x.2.2.2.1,())with
 |none=>none
 |some v2=>
 match(!v2.1)with
 |true=>
  match((3:Int) != (0:Int))with
  |true=>
   some ([],(3:Int),())
  |false=>
   match jg (v1.1,x.2.2.2.1,())with
   |none=>none
   |some v3=>
   some (v3.1,(0:Int),())
 |false=>
  match(v1.2.1 != (0:Int))with
  |true=>
   some ([],v1.2.1,())
  |false=>
   match jg (v1.1,x.2.2.2.1,())with
   |none=>none
   |some v4=>
   some (v4.1,(0:Int),())
|false=>
 match(v1.2.1 != (0:Int))with
 |true=>
  some ([],v1.2.1,())
 |false=>
  match jg (v1.1,x.2.2.2.1,())with
  |none=>none
  |some v5=>
  some (v5.1,(0:Int),())
noncomputable def Kc:ae:=⟨_,qB,.unit,rfl,gX⟩
theorem HU:FnOK G0 Tryz.prog 55 Kc:=ak aj (sg xv (sg Qm (sg Qn (aL)))) Tryz.func55
noncomputable def gd(x:(Ty.T tD)):Option ((Ty.T tD) ⊕ ((Ty.T .unit) ⊕ (Ty.T aE))):=
match(decide (x.2.2.1<(x.1.length:Int)))with
|true=>
 ab (aq x.1 x.2.2.1) fun v1=>
 match(v1==x.2.1)with
 |true=>
  some (.inr (.inr (x.2.2.1,())))
 |false=>
  some (.inl (x.1,x.2.1,(IntKind.i64.wrap (x.2.2.1+(1:Int))),()))
|false=>
 some (.inr (.inl (())))
noncomputable def cN(x:Ty.T tD):Option (Ty.T aE):=
match ac gd (x.1,x.2.2.1,(IntKind.i64.wrap (x.2.1+(1:Int))),())with
|none=>none
|some (.inl v2)=>
 some ((-1:Int),())
|some (.inr v3)=>
 some (v3.1,())
noncomputable def Gr:ae:=⟨_,aE,.unit,rfl,cN⟩
noncomputable def D5:FuncId→Option ae:=bC []
theorem Me:∀f s,D5 f=some s→FnOK G0 Tryz.prog f s:=aD trivial
def Bp:aO:=⟨[0,2,7],tD,0,[],.unit,[6],aE⟩
noncomputable def D6:List aw:=[Bp.spec gd]
theorem Kd:bg bi E0 D5 (bc Tryz.f324 D6) Tryz.f324 0 Bp gd:=fun x=>by kernel_rfl
theorem uU:FnOK G0 Tryz.prog 324 Gr:=aJ aj Me Tryz.func324 D6 (by kernel_rfl) (by exact⟨(Kd).lok,trivial⟩) fun x=>by kernel_rfl
noncomputable def rv(x:Ty.T aE):Option (Ty.T aE):=
some ((IntKind.i64.wrap (Int.tdiv (IntKind.i64.wrap (x.1+(4:Int))) (8:Int))),())
noncomputable def Si:ae:=⟨_,aE,.unit,rfl,rv⟩
theorem Qo:FnOK G0 Tryz.prog 325 Si:=ak aj aL Tryz.func325
noncomputable def lO(x:Ty.T aE):Option (Ty.T ao):=
match bE (x.1,(3:Int),(15:Int),())with
|none=>none
|some v1=>
some (v1.1,())
noncomputable def Mf:ae:=⟨_,ao,.unit,rfl,lO⟩
theorem Ke:FnOK G0 Tryz.prog 326 Mf:=ak aj (sg cT (aL)) Tryz.func326
noncomputable def qj(x:Ty.T qB):Option (Ty.T aE):=
match cN (x.1,(IntKind.i64.wrap (x.2.1+(11:Int))),(0:Int),())with
|none=>none
|some v1=>
match(decide (v1.1≥(0:Int)))with
|true=>
 some ((6:Int),())
|false=>
 some ((0:Int),())
noncomputable def IK:ae:=⟨_,aE,.unit,rfl,qj⟩
theorem Gs:FnOK G0 Tryz.prog 327 IK:=ak aj (sg uU (aL)) Tryz.func327
noncomputable def Bq(x:Ty.T qB):Option (Ty.T aE):=
match(decide (x.2.1≥(x.1.length:Int)))with
|true=>
 some ((1:Int),())
|false=>
 ab (aq x.1 x.2.1) fun v1=>
 some (v1,())
noncomputable def Gt:ae:=⟨_,aE,.unit,rfl,Bq⟩
theorem Mg:FnOK G0 Tryz.prog 311 Gt:=ak aj aL Tryz.func311
abbrev sE:Ty:=(.pair (.list (.int .i64)) (.pair (.int .i64) (.pair (.own 2 (.int .i64)) .unit)))
noncomputable def dz(x:(Ty.T sE)):Option ((Ty.T sE) ⊕ ((Ty.T .unit) ⊕ (Ty.T ma))):=
aI (x.2.2.1.length+ [x.2.1].length) (
 match Bq (x.1,(IntKind.i64.wrap (x.2.1+(76:Int))),())with
 |none=>none
 |some v1=>
 match(v1.1==(0:Int))with
 |true=>
  match qj (x.1,(IntKind.i64.wrap (x.2.1+(72:Int))),())with
  |none=>none
  |some v2=>
  some (.inr (.inr ((x.2.2.1++ [x.2.1]),v2.1,())))
 |false=>
  match cN (x.1,(IntKind.i64.wrap (x.2.1+(76:Int))),(0:Int),())with
  |none=>none
  |some v3=>
  match(decide (v3.1<(0:Int)))with
  |true=>
   some (.inr (.inr ([],(6:Int),())))
  |false=>
   match(decide (v3.1>(IntKind.i64.wrap (x.2.1+(84:Int)))))with
   |true=>
    some (.inr (.inr ([],(6:Int),())))
   |false=>
    some (.inl (x.1,v3.1,(x.2.2.1++ [x.2.1]),())))
noncomputable def rz(x:Ty.T qB):Option (Ty.T ma):=
match ac dz (x.1,x.2.1,[],())with
|none=>none
|some (.inl v4)=>
 none
|some (.inr v5)=>
 some (v5.1,v5.2.1,())
noncomputable def Sj:ae:=⟨_,ma,.unit,rfl,rz⟩
noncomputable def D7:FuncId→Option ae:=bC [(311,Gt),(324,Gr),(327,IK)]
theorem Mh:∀f s,D7 f=some s→FnOK G0 Tryz.prog f s:=aD ⟨Mg,uU,Gs,trivial⟩
def Br:aO:=⟨[0,1,6],sE,999999,[],.unit,[4,5],ma⟩
noncomputable def D8:List aw:=[Br.spec dz]
theorem Kf:bg bi E0 D7 (bc Tryz.f328 D8) Tryz.f328 0 Br dz:=fun x=>by kernel_rfl
theorem Qp:FnOK G0 Tryz.prog 328 Sj:=aJ aj Mh Tryz.func328 D8 (by kernel_rfl) (by exact⟨(Kf).lok,trivial⟩) fun x=>by kernel_rfl
noncomputable def CD(x:Ty.T eG):Option (Ty.T (.pair qz .unit)):=
match cN (x.1,(-1:Int),(0:Int),())with
|none=>none
|some v1=>
match(decide (v1.1<(0:Int)))with
|true=>
 some (((0:Int),[],(4:Int),()),())
|false=>
 match cN (x.1,v1.1,(1:Int),())with
 |none=>none
 |some v2=>
 match(decide (v2.1<(0:Int)))with
 |true=>
  match rv ((IntKind.i64.wrap ((x.1.length:Int)-v1.1)),())with
  |none=>none
  |some v3=>
  match cN (x.1,(x.1.length:Int),(0:Int),())with
  |none=>none
  |some v4=>
  match lO (v3.1,())with
  |none=>none
  |some v5=>
  match(!v5.1)with
  |true=>
   some (((0:Int),[],(6:Int),()),())
  |false=>
   match(decide (v4.1<(0:Int)))with
   |true=>
    some (((0:Int),[],(6:Int),()),())
   |false=>
    match(decide ((IntKind.i64.wrap (v4.1-(x.1.length:Int)))>(19:Int)))with
    |true=>
     some (((0:Int),[],(6:Int),()),())
    |false=>
     match(decide ((IntKind.i64.wrap (v4.1-(x.1.length:Int)))<(5:Int)))with
     |true=>
      some (((0:Int),[],(6:Int),()),())
     |false=>
      match((IntKind.i64.wrap (v4.1-(x.1.length:Int)))==(12:Int))with
      |true=>
       some (((0:Int),[],(6:Int),()),())
      |false=>
       match(decide ((IntKind.i64.wrap (v4.1-(x.1.length:Int)))<(12:Int)))with
       |true=>
        match qj (x.1,v4.1,())with
        |none=>none
        |some v6=>
        some ((v3.1,[],v6.1,()),())
       |false=>
        match rz (x.1,v4.1,())with
        |none=>none
        |some v7=>
        some ((v3.1,v7.1,v7.2.1,()),())
 |false=>
  match rv ((IntKind.i64.wrap (v2.1-v1.1)),())with
  |none=>none
  |some v8=>
  match cN (x.1,v2.1,(0:Int),())with
  |none=>none
  |some v9=>
  match lO (v8.1,())with
  |none=>none
  |some v10=>
  match(!v10.1)with
  |true=>
   some (((0:Int),[],(6:Int),()),())
  |false=>
   match(decide (v9.1<(0:Int)))with
   |true=>
    some (((0:Int),[],(6:Int),()),())
   |false=>
    match(decide ((IntKind.i64.wrap (v9.1-v2.1))>(19:Int)))with
    |true=>
     some (((0:Int),[],(6:Int),()),())
    |false=>
     match(decide ((IntKind.i64.wrap (v9.1-v2.1))<(5:Int)))with
     |true=>
      some (((0:Int),[],(6:Int),()),())
     |false=>
      match((IntKind.i64.wrap (v9.1-v2.1))==(12:Int))with
      |true=>
       some (((0:Int),[],(6:Int),()),())
      |false=>
       match(decide ((IntKind.i64.wrap (v9.1-v2.1))<(12:Int)))with
       |true=>
        match qj (x.1,v9.1,())with
        |none=>none
        |some v11=>
        some ((v8.1,[],v11.1,()),())
       |false=>
        match rz (x.1,v9.1,())with
        |none=>none
        |some v12=>
        some ((v8.1,v12.1,v12.2.1,()),())
noncomputable def Wg:ae:=⟨_,(.pair qz .unit),.unit,rfl,CD⟩
theorem T6:FnOK G0 Tryz.prog 310 Wg:=ak aj (sg uU (sg Qo (sg Ke (sg Gs (sg Qp (aL)))))) Tryz.func310
noncomputable def zk(x:Ty.T eG):Option (Ty.T aab):=
match pr (x.1,())with
|none=>none
|some v1=>
match(!v1.1)with
|true=>
 some (((0:Int),[],(0:Int),()),(1:Int),())
|false=>
 match CD (x.1,())with
 |none=>none
 |some v2=>
 some ((v2.1.1,v2.1.2.1,v2.1.2.2.1,()),v2.1.2.2.1,())
noncomputable def T7:ae:=⟨_,aab,.unit,rfl,zk⟩
theorem Sk:FnOK G0 Tryz.prog 287 T7:=ak aj (sg tf (sg T6 (aL))) Tryz.func287
abbrev sF:Ty:=(.pair (.list (.int .i64)) (.pair (.list (.int .i64)) (.pair (.own 2 (.int .i64)) (.pair (.int .i64) bB))))
abbrev Bt:Ty:=acd
noncomputable def gY(x:(Ty.T sF)):Option ((Ty.T sF) ⊕ ((Ty.T Bt) ⊕ (Ty.T .unit))):=
match(decide (x.2.2.2.2.2.1<(8:Int)))with
|true=>
 ab (aq x.2.1 x.2.2.2.1) fun v1=>
 match Bq (x.1,(IntKind.i64.wrap ((IntKind.i64.wrap (v1+(IntKind.i64.wrap ((8:Int)*x.2.2.2.2.2.1))))+(12:Int))),())with
 |none=>none
 |some v2=>
 some (.inl (x.1,x.2.1,x.2.2.1,x.2.2.2.1,(IntKind.i64.wrap ((IntKind.i64.wrap ((2:Int)*x.2.2.2.2.1))+v2.1)),(IntKind.i64.wrap (x.2.2.2.2.2.1+(1:Int))),()))
|false=>
 some (.inr (.inl (x.1,x.2.1,x.2.2.1,x.2.2.2.1,x.2.2.2.2.1,())))
abbrev sG:Ty:=Zh
noncomputable def gZ(x:(Ty.T sG)):Option ((Ty.T sG) ⊕ ((Ty.T a8) ⊕ (Ty.T .unit))):=
match(decide (x.2.2.2.1<(x.2.1.length:Int)))with
|true=>
 match ac gY (x.1,x.2.1,x.2.2.1,x.2.2.2.1,(0:Int),(0:Int),())with
 |none=>none
 |some (.inl v1)=>
  aI (v1.2.2.1.length+ [v1.2.2.2.2.1].length) (
   some (.inl (v1.1,v1.2.1,(v1.2.2.1++ [v1.2.2.2.2.1]),(IntKind.i64.wrap (v1.2.2.2.1+(1:Int))),())))
 |some (.inr v3)=>
  some (.inr (.inr (())))
|false=>
 some (.inr (.inl (x.2.2.1,())))
noncomputable def rA(x:Ty.T Rz):Option (Ty.T a8):=
match ac gZ (x.1,x.2.1,[],(0:Int),())with
|none=>none
|some (.inl v4)=>
 some (v4.1,())
|some (.inr v6)=>
 none
noncomputable def Sl:ae:=⟨_,a8,.unit,rfl,rA⟩
noncomputable def uV:FuncId→Option ae:=bC [(311,Gt)]
theorem Mi:∀f s,uV f=some s→FnOK G0 Tryz.prog f s:=aD ⟨Mg,trivial⟩
def Bu:aO:=⟨[0,1,5,6],sG,0,[5],a8,[],.unit⟩
def Bv:aO:=⟨[0,1,5,6,7,8],sF,2,[0,1,5,6,7],Bt,[],.unit⟩
noncomputable def uW:List aw:=[Bu.spec gZ,Bv.spec gY]
theorem Kg:bg bi E0 uV (bc Tryz.f288 uW) Tryz.f288 0 Bu gZ:=fun x=>by kernel_rfl
theorem Kh:bg bi E0 uV (bc Tryz.f288 uW) Tryz.f288 1 Bv gY:=fun x=>by kernel_rfl
theorem Qq:FnOK G0 Tryz.prog 288 Sl:=aJ aj Mi Tryz.func288 uW (by kernel_rfl) (by exact⟨(Kg).lok,(Kh).lok,trivial⟩) fun x=>by kernel_rfl
noncomputable def pf(x:Ty.T eG):Option (Ty.T ma):=
match zk (x.1,())with
|none=>none
|some v1=>
match(v1.2.1 != (0:Int))with
|true=>
 some ([],v1.2.1,())
|false=>
 match rA (x.1,v1.1.2.1,())with
 |none=>none
 |some v2=>
 some (v2.1,(0:Int),())
noncomputable def Mj:ae:=⟨_,ma,.unit,rfl,pf⟩
theorem Ki:FnOK G0 Tryz.prog 249 Mj:=ak aj (sg Sk (sg Qq (aL))) Tryz.func249
abbrev uX:Ty:=Zb
noncomputable def fO(x:(Ty.T uX)):Option ((Ty.T uX) ⊕ ((Ty.T aE) ⊕ (Ty.T .unit))):=
match(decide (x.2.2.2.1≤x.2.1))with
|true=>
 match(decide (x.2.2.2.1<(0:Int)))with
 |true=>
  some (.inl (x.1,x.2.1,(IntKind.i64.wrap (x.2.2.1+(1:Int))),(IntKind.i64.wrap (x.2.2.2.1+(1:Int))),()))
 |false=>
  ab (aq x.1 x.2.2.2.1) fun v1=>
  some (.inl (x.1,x.2.1,(IntKind.i64.wrap (x.2.2.1+v1)),(IntKind.i64.wrap (x.2.2.2.1+(1:Int))),()))
|false=>
 some (.inr (.inl (x.2.2.1,())))
noncomputable def zl(x:Ty.T qB):Option (Ty.T aE):=
match ac fO (x.1,x.2.1,(0:Int),(IntKind.i64.wrap ((IntKind.i64.wrap (x.2.1-(5:Int)))+(1:Int))),())with
|none=>none
|some (.inl v2)=>
 some (v2.1,())
|some (.inr v4)=>
 none
noncomputable def IL:ae:=⟨_,aE,.unit,rfl,zl⟩
noncomputable def Gu:FuncId→Option ae:=bC []
theorem Ok:∀f s,Gu f=some s→FnOK G0 Tryz.prog f s:=aD trivial
def D9:aO:=⟨[0,1,5,6],uX,0,[5],aE,[],.unit⟩
noncomputable def Gv:List aw:=[D9.spec fO]
theorem Mk:bg bi E0 Gu (bc Tryz.f289 Gv) Tryz.f289 0 D9 fO:=fun x=>by kernel_rfl
theorem Sm:FnOK G0 Tryz.prog 289 IL:=aJ aj Ok Tryz.func289 Gv (by kernel_rfl) (by exact⟨(Mk).lok,trivial⟩) fun x=>by kernel_rfl
abbrev uY:Ty:=RB
noncomputable def i8(x:(Ty.T uY)):Option ((Ty.T uY) ⊕ ((Ty.T a8) ⊕ (Ty.T .unit))):=
match(decide (x.2.2.1<(x.1.length:Int)))with
|true=>
 match zl (x.1,x.2.2.1,())with
 |none=>none
 |some v1=>
 match(decide (v1.1≥(3:Int)))with
 |true=>
  aI (x.2.1.length+ [(1:Int)].length) (
   some (.inl (x.1,(x.2.1++ [(1:Int)]),(IntKind.i64.wrap (x.2.2.1+(1:Int))),())))
 |false=>
  aI (x.2.1.length+ [(0:Int)].length) (
   some (.inl (x.1,(x.2.1++ [(0:Int)]),(IntKind.i64.wrap (x.2.2.1+(1:Int))),())))
|false=>
 some (.inr (.inl (x.2.1,())))
noncomputable def zm(x:Ty.T eG):Option (Ty.T a8):=
match ac i8 (x.1,[],(0:Int),())with
|none=>none
|some (.inl v2)=>
 some (v2.1,())
|some (.inr v4)=>
 none
noncomputable def T8:ae:=⟨_,a8,.unit,rfl,zm⟩
noncomputable def Gw:FuncId→Option ae:=bC [(289,IL)]
theorem Ol:∀f s,Gw f=some s→FnOK G0 Tryz.prog f s:=aD ⟨Sm,trivial⟩
def Ea:aO:=⟨[0,3,4],uY,0,[3],a8,[],.unit⟩
noncomputable def Gx:List aw:=[Ea.spec i8]
theorem Ml:bg bi E0 Gw (bc Tryz.f250 Gx) Tryz.f250 0 Ea i8:=fun x=>by kernel_rfl
theorem Sn:FnOK G0 Tryz.prog 250 T8:=aJ aj Ol Tryz.func250 Gx (by kernel_rfl) (by exact⟨(Ml).lok,trivial⟩) fun x=>by kernel_rfl
noncomputable def mf(x:Ty.T eG):Option (Ty.T ma):=
match pr (x.1,())with
|none=>none
|some v1=>
match(!v1.1)with
|true=>
 some ([],(1:Int),())
|false=>
 match zm (x.1,())with
 |none=>none
 |some v2=>
 match pf (v2.1,())with
 |none=>none
 |some v3=>
 some (v3.1,v3.2.1,())
noncomputable def HV:ae:=⟨_,ma,.unit,rfl,mf⟩
theorem Gy:FnOK G0 Tryz.prog 193 HV:=ak aj (sg tf (sg Ki (sg Sn (aL)))) Tryz.func193
abbrev uZ:Ty:=aae
noncomputable def i9(x:(Ty.T uZ)):Option ((Ty.T uZ) ⊕ ((Ty.T .unit) ⊕ (Ty.T ao))):=
match(decide (x.2.2.1<(x.1.length:Int)))with
|true=>
 ab (aq x.1 x.2.2.1) fun v1=>
 ab (aq x.2.1 x.2.2.1) fun v2=>
 match(v1 != v2)with
 |true=>
  some (.inr (.inr (false,())))
 |false=>
  some (.inl (x.1,x.2.1,(IntKind.i64.wrap (x.2.2.1+(1:Int))),()))
|false=>
 some (.inr (.inl (())))
noncomputable def bQ(x:Ty.T Rz):Option (Ty.T ao):=
match((x.1.length:Int) != (x.2.1.length:Int))with
|true=>
 some (false,())
|false=>
 match ac i9 (x.1,x.2.1,(0:Int),())with
 |none=>none
 |some (.inl v3)=>
  some (true,())
 |some (.inr v4)=>
  some (v4.1,())
noncomputable def T9:ae:=⟨_,ao,.unit,rfl,bQ⟩
noncomputable def Gz:FuncId→Option ae:=bC []
theorem Om:∀f s,Gz f=some s→FnOK G0 Tryz.prog f s:=aD trivial
def Eb:aO:=⟨[0,1,5],uZ,0,[],.unit,[4],ao⟩
noncomputable def GA:List aw:=[Eb.spec i9]
theorem Mm:bg bi E0 Gz (bc Tryz.f225 GA) Tryz.f225 0 Eb i9:=fun x=>by kernel_rfl
theorem GB:FnOK G0 Tryz.prog 225 T9:=aJ aj Om Tryz.func225 GA (by kernel_rfl) (by exact⟨(Mm).lok,trivial⟩) fun x=>by kernel_rfl
noncomputable def ws(x:Ty.T eG):Option (Ty.T zG):=
match de (x.1,(0:Int),(16:Int),())with
|none=>none
|some v1=>
match de (x.1,(16:Int),(4:Int),())with
|none=>none
|some v2=>
match de (x.1,(20:Int),(4:Int),())with
|none=>none
|some v3=>
match de (x.1,(24:Int),(8:Int),())with
|none=>none
|some v4=>
match de (x.1,(32:Int),(32:Int),())with
|none=>none
|some v5=>
some ((v1.1,v2.1,v3.1,v4.1,v5.1,()),())
noncomputable def So:ae:=⟨_,zG,.unit,rfl,ws⟩
theorem Qr:FnOK G0 Tryz.prog 312 So:=ak aj (sg AS (aL)) Tryz.func312
noncomputable def wt(x:Ty.T eG):Option (Ty.T VZ):=
match((x.1.length:Int)==(0:Int))with
|true=>
 some (((0:Int),(0:Int),((0:Int),(0:Int),(0:Int),(0:Int),(0:Int),()),[],()),false,())
|false=>
 ab (aq x.1 (0:Int)) fun v1=>
 ab (aq x.1 (0:Int)) fun v2=>
 ab (aH x.1.length (some (.dat (.int .i64) (1:Int))) none) fun v3=>
 match dP ((IntKind.i64.wrap (Int.tdiv v1 (64:Int))),())with
 |none=>none
 |some v4=>
 match v4.1 with
 |true=>
  match(decide (((List.drop v3.1 (List.take v3.2 x.1)).length:Int)<(8:Int)))with
  |true=>
   some (((0:Int),(0:Int),((0:Int),(0:Int),(0:Int),(0:Int),(0:Int),()),[],()),false,())
  |false=>
   ab (aH (List.drop v3.1 (List.take v3.2 x.1)).length none (some (.dat (.int .i64) (8:Int)))) fun v5=>
   match li ((List.drop v5.1 (List.take v5.2 (List.drop v3.1 (List.take v3.2 x.1)))),())with
   |none=>none
   |some v6=>
   match ws (v6.1,())with
   |none=>none
   |some v7=>
   ab (aH (List.drop v3.1 (List.take v3.2 x.1)).length (some (.dat (.int .i64) (8:Int))) none) fun v8=>
   match fZ ((IntKind.i64.wrap (Int.tdiv v1 (64:Int))),())with
   |none=>none
   |some v9=>
   match v9.1 with
   |true=>
    match(((List.drop v8.1 (List.take v8.2 (List.drop v3.1 (List.take v3.2 x.1)))).length:Int)==(0:Int))with
    |true=>
     some (((0:Int),(0:Int),((0:Int),(0:Int),(0:Int),(0:Int),(0:Int),()),[],()),false,())
    |false=>
     ab (aH (List.drop v8.1 (List.take v8.2 (List.drop v3.1 (List.take v3.2 x.1)))).length (some (.dat (.int .i64) (1:Int))) none) fun v10=>
     match kt ((List.drop v10.1 (List.take v10.2 (List.drop v8.1 (List.take v8.2 (List.drop v3.1 (List.take v3.2 x.1)))))),())with
     |none=>none
     |some v11=>
     aN (
      match cU (((IntKind.i64.wrap (Int.tdiv v1 (64:Int))),(Int.tmod (IntKind.i64.wrap (Int.tdiv v2 (8:Int))) (8:Int)),(v7.1.1,v7.1.2.1,v7.1.2.2.1,v7.1.2.2.2.1,v7.1.2.2.2.2.1,()),v11.1,()),())with
      |none=>none
      |some v12=>
      match v12.1 with
      |true=>
       match bM (((IntKind.i64.wrap (Int.tdiv v1 (64:Int))),(Int.tmod (IntKind.i64.wrap (Int.tdiv v2 (8:Int))) (8:Int)),(v7.1.1,v7.1.2.1,v7.1.2.2.1,v7.1.2.2.2.1,v7.1.2.2.2.2.1,()),v11.1,()),())with
       |none=>none
       |some v13=>
       match bQ (v13.1,x.1,())with
       |none=>none
       |some v14=>
       some (((IntKind.i64.wrap (Int.tdiv v1 (64:Int))),(Int.tmod (IntKind.i64.wrap (Int.tdiv v2 (8:Int))) (8:Int)),(v7.1.1,v7.1.2.1,v7.1.2.2.1,v7.1.2.2.2.1,v7.1.2.2.2.2.1,()),v11.1,()),v14.1,())
      |false=>
       some (((IntKind.i64.wrap (Int.tdiv v1 (64:Int))),(Int.tmod (IntKind.i64.wrap (Int.tdiv v2 (8:Int))) (8:Int)),(v7.1.1,v7.1.2.1,v7.1.2.2.1,v7.1.2.2.2.1,v7.1.2.2.2.2.1,()),v11.1,()),false,())) (
      aN (
       match cU (((IntKind.i64.wrap (Int.tdiv v1 (64:Int))),(Int.tmod (IntKind.i64.wrap (Int.tdiv v2 (8:Int))) (8:Int)),(v7.1.1,v7.1.2.1,v7.1.2.2.1,v7.1.2.2.2.1,v7.1.2.2.2.2.1,()),v11.1,()),())with
       |none=>none
       |some v12=>
       match v12.1 with
       |true=>
        match bM (((IntKind.i64.wrap (Int.tdiv v1 (64:Int))),(Int.tmod (IntKind.i64.wrap (Int.tdiv v2 (8:Int))) (8:Int)),(v7.1.1,v7.1.2.1,v7.1.2.2.1,v7.1.2.2.2.1,v7.1.2.2.2.2.1,()),v11.1,()),())with
        |none=>none
        |some v13=>
        match bQ (v13.1,x.1,())with
        |none=>none
        |some v14=>
        some (((IntKind.i64.wrap (Int.tdiv v1 (64:Int))),(Int.tmod (IntKind.i64.wrap (Int.tdiv v2 (8:Int))) (8:Int)),(v7.1.1,v7.1.2.1,v7.1.2.2.1,v7.1.2.2.2.1,v7.1.2.2.2.2.1,()),v11.1,()),v14.1,())
       |false=>
        some (((IntKind.i64.wrap (Int.tdiv v1 (64:Int))),(Int.tmod (IntKind.i64.wrap (Int.tdiv v2 (8:Int))) (8:Int)),(v7.1.1,v7.1.2.1,v7.1.2.2.1,v7.1.2.2.2.1,v7.1.2.2.2.2.1,()),v11.1,()),false,())) (
       match cU (((IntKind.i64.wrap (Int.tdiv v1 (64:Int))),(Int.tmod (IntKind.i64.wrap (Int.tdiv v2 (8:Int))) (8:Int)),(v7.1.1,v7.1.2.1,v7.1.2.2.1,v7.1.2.2.2.1,v7.1.2.2.2.2.1,()),v11.1,()),())with
       |none=>none
       |some v12=>
       match v12.1 with
       |true=>
        aN (
         match bM (((IntKind.i64.wrap (Int.tdiv v1 (64:Int))),(Int.tmod (IntKind.i64.wrap (Int.tdiv v2 (8:Int))) (8:Int)),(v7.1.1,v7.1.2.1,v7.1.2.2.1,v7.1.2.2.2.1,v7.1.2.2.2.2.1,()),v11.1,()),())with
         |none=>none
         |some v13=>
         match bQ (v13.1,x.1,())with
         |none=>none
         |some v14=>
         some (((IntKind.i64.wrap (Int.tdiv v1 (64:Int))),(Int.tmod (IntKind.i64.wrap (Int.tdiv v2 (8:Int))) (8:Int)),(v7.1.1,v7.1.2.1,v7.1.2.2.1,v7.1.2.2.2.1,v7.1.2.2.2.2.1,()),v11.1,()),v14.1,())) (
         aN (
          match bM (((IntKind.i64.wrap (Int.tdiv v1 (64:Int))),(Int.tmod (IntKind.i64.wrap (Int.tdiv v2 (8:Int))) (8:Int)),(v7.1.1,v7.1.2.1,v7.1.2.2.1,v7.1.2.2.2.1,v7.1.2.2.2.2.1,()),v11.1,()),())with
          |none=>none
          |some v13=>
          match bQ (v13.1,x.1,())with
          |none=>none
          |some v14=>
          some (((IntKind.i64.wrap (Int.tdiv v1 (64:Int))),(Int.tmod (IntKind.i64.wrap (Int.tdiv v2 (8:Int))) (8:Int)),(v7.1.1,v7.1.2.1,v7.1.2.2.1,v7.1.2.2.2.1,v7.1.2.2.2.2.1,()),v11.1,()),v14.1,())) (
          match bM (((IntKind.i64.wrap (Int.tdiv v1 (64:Int))),(Int.tmod (IntKind.i64.wrap (Int.tdiv v2 (8:Int))) (8:Int)),(v7.1.1,v7.1.2.1,v7.1.2.2.1,v7.1.2.2.2.1,v7.1.2.2.2.2.1,()),v11.1,()),())with
          |none=>none
          |some v13=>
          aX (
           match bQ (v13.1,x.1,())with
           |none=>none
           |some v14=>
           some (((IntKind.i64.wrap (Int.tdiv v1 (64:Int))),(Int.tmod (IntKind.i64.wrap (Int.tdiv v2 (8:Int))) (8:Int)),(v7.1.1,v7.1.2.1,v7.1.2.2.1,v7.1.2.2.2.1,v7.1.2.2.2.2.1,()),v11.1,()),v14.1,()))))
       |false=>
        aN (
         some (((IntKind.i64.wrap (Int.tdiv v1 (64:Int))),(Int.tmod (IntKind.i64.wrap (Int.tdiv v2 (8:Int))) (8:Int)),(v7.1.1,v7.1.2.1,v7.1.2.2.1,v7.1.2.2.2.1,v7.1.2.2.2.2.1,()),v11.1,()),false,())) (
         aN (
          some (((IntKind.i64.wrap (Int.tdiv v1 (64:Int))),(Int.tmod (IntKind.i64.wrap (Int.tdiv v2 (8:Int))) (8:Int)),(v7.1.1,v7.1.2.1,v7.1.2.2.1,v7.1.2.2.2.1,v7.1.2.2.2.2.1,()),v11.1,()),false,())) (
          aX (
           some (((IntKind.i64.wrap (Int.tdiv v1 (64:Int))),(Int.tmod (IntKind.i64.wrap (Int.tdiv v2 (8:Int))) (8:Int)),(v7.1.1,v7.1.2.1,v7.1.2.2.1,v7.1.2.2.2.1,v7.1.2.2.2.2.1,()),v11.1,()),false,()))))))
   |false=>
    aN (
     match cU (((IntKind.i64.wrap (Int.tdiv v1 (64:Int))),(Int.tmod (IntKind.i64.wrap (Int.tdiv v2 (8:Int))) (8:Int)),(v7.1.1,v7.1.2.1,v7.1.2.2.1,v7.1.2.2.2.1,v7.1.2.2.2.2.1,()),[],()),())with
     |none=>none
     |some v15=>
     match v15.1 with
     |true=>
      match bM (((IntKind.i64.wrap (Int.tdiv v1 (64:Int))),(Int.tmod (IntKind.i64.wrap (Int.tdiv v2 (8:Int))) (8:Int)),(v7.1.1,v7.1.2.1,v7.1.2.2.1,v7.1.2.2.2.1,v7.1.2.2.2.2.1,()),[],()),())with
      |none=>none
      |some v16=>
      match bQ (v16.1,x.1,())with
      |none=>none
      |some v17=>
      some (((IntKind.i64.wrap (Int.tdiv v1 (64:Int))),(Int.tmod (IntKind.i64.wrap (Int.tdiv v2 (8:Int))) (8:Int)),(v7.1.1,v7.1.2.1,v7.1.2.2.1,v7.1.2.2.2.1,v7.1.2.2.2.2.1,()),[],()),v17.1,())
     |false=>
      some (((IntKind.i64.wrap (Int.tdiv v1 (64:Int))),(Int.tmod (IntKind.i64.wrap (Int.tdiv v2 (8:Int))) (8:Int)),(v7.1.1,v7.1.2.1,v7.1.2.2.1,v7.1.2.2.2.1,v7.1.2.2.2.2.1,()),[],()),false,())) (
     aN (
      match cU (((IntKind.i64.wrap (Int.tdiv v1 (64:Int))),(Int.tmod (IntKind.i64.wrap (Int.tdiv v2 (8:Int))) (8:Int)),(v7.1.1,v7.1.2.1,v7.1.2.2.1,v7.1.2.2.2.1,v7.1.2.2.2.2.1,()),[],()),())with
      |none=>none
      |some v15=>
      match v15.1 with
      |true=>
       match bM (((IntKind.i64.wrap (Int.tdiv v1 (64:Int))),(Int.tmod (IntKind.i64.wrap (Int.tdiv v2 (8:Int))) (8:Int)),(v7.1.1,v7.1.2.1,v7.1.2.2.1,v7.1.2.2.2.1,v7.1.2.2.2.2.1,()),[],()),())with
       |none=>none
       |some v16=>
       match bQ (v16.1,x.1,())with
       |none=>none
       |some v17=>
       some (((IntKind.i64.wrap (Int.tdiv v1 (64:Int))),(Int.tmod (IntKind.i64.wrap (Int.tdiv v2 (8:Int))) (8:Int)),(v7.1.1,v7.1.2.1,v7.1.2.2.1,v7.1.2.2.2.1,v7.1.2.2.2.2.1,()),[],()),v17.1,())
      |false=>
       some (((IntKind.i64.wrap (Int.tdiv v1 (64:Int))),(Int.tmod (IntKind.i64.wrap (Int.tdiv v2 (8:Int))) (8:Int)),(v7.1.1,v7.1.2.1,v7.1.2.2.1,v7.1.2.2.2.1,v7.1.2.2.2.2.1,()),[],()),false,())) (
      match cU (((IntKind.i64.wrap (Int.tdiv v1 (64:Int))),(Int.tmod (IntKind.i64.wrap (Int.tdiv v2 (8:Int))) (8:Int)),(v7.1.1,v7.1.2.1,v7.1.2.2.1,v7.1.2.2.2.1,v7.1.2.2.2.2.1,()),[],()),())with
      |none=>none
      |some v15=>
      match v15.1 with
      |true=>
       aN (
        match bM (((IntKind.i64.wrap (Int.tdiv v1 (64:Int))),(Int.tmod (IntKind.i64.wrap (Int.tdiv v2 (8:Int))) (8:Int)),(v7.1.1,v7.1.2.1,v7.1.2.2.1,v7.1.2.2.2.1,v7.1.2.2.2.2.1,()),[],()),())with
        |none=>none
        |some v16=>
        match bQ (v16.1,x.1,())with
        |none=>none
        |some v17=>
        some (((IntKind.i64.wrap (Int.tdiv v1 (64:Int))),(Int.tmod (IntKind.i64.wrap (Int.tdiv v2 (8:Int))) (8:Int)),(v7.1.1,v7.1.2.1,v7.1.2.2.1,v7.1.2.2.2.1,v7.1.2.2.2.2.1,()),[],()),v17.1,())) (
        aN (
         match bM (((IntKind.i64.wrap (Int.tdiv v1 (64:Int))),(Int.tmod (IntKind.i64.wrap (Int.tdiv v2 (8:Int))) (8:Int)),(v7.1.1,v7.1.2.1,v7.1.2.2.1,v7.1.2.2.2.1,v7.1.2.2.2.2.1,()),[],()),())with
         |none=>none
         |some v16=>
         match bQ (v16.1,x.1,())with
         |none=>none
         |some v17=>
         some (((IntKind.i64.wrap (Int.tdiv v1 (64:Int))),(Int.tmod (IntKind.i64.wrap (Int.tdiv v2 (8:Int))) (8:Int)),(v7.1.1,v7.1.2.1,v7.1.2.2.1,v7.1.2.2.2.1,v7.1.2.2.2.2.1,()),[],()),v17.1,())) (
         match bM (((IntKind.i64.wrap (Int.tdiv v1 (64:Int))),(Int.tmod (IntKind.i64.wrap (Int.tdiv v2 (8:Int))) (8:Int)),(v7.1.1,v7.1.2.1,v7.1.2.2.1,v7.1.2.2.2.1,v7.1.2.2.2.2.1,()),[],()),())with
         |none=>none
         |some v16=>
         aX (
          match bQ (v16.1,x.1,())with
          |none=>none
          |some v17=>
          some (((IntKind.i64.wrap (Int.tdiv v1 (64:Int))),(Int.tmod (IntKind.i64.wrap (Int.tdiv v2 (8:Int))) (8:Int)),(v7.1.1,v7.1.2.1,v7.1.2.2.1,v7.1.2.2.2.1,v7.1.2.2.2.2.1,()),[],()),v17.1,()))))
      |false=>
       aN (
        some (((IntKind.i64.wrap (Int.tdiv v1 (64:Int))),(Int.tmod (IntKind.i64.wrap (Int.tdiv v2 (8:Int))) (8:Int)),(v7.1.1,v7.1.2.1,v7.1.2.2.1,v7.1.2.2.2.1,v7.1.2.2.2.2.1,()),[],()),false,())) (
        aN (
         some (((IntKind.i64.wrap (Int.tdiv v1 (64:Int))),(Int.tmod (IntKind.i64.wrap (Int.tdiv v2 (8:Int))) (8:Int)),(v7.1.1,v7.1.2.1,v7.1.2.2.1,v7.1.2.2.2.1,v7.1.2.2.2.2.1,()),[],()),false,())) (
         aX (
          some (((IntKind.i64.wrap (Int.tdiv v1 (64:Int))),(Int.tmod (IntKind.i64.wrap (Int.tdiv v2 (8:Int))) (8:Int)),(v7.1.1,v7.1.2.1,v7.1.2.2.1,v7.1.2.2.2.1,v7.1.2.2.2.2.1,()),[],()),false,()))))))
 |false=>
  match fZ ((IntKind.i64.wrap (Int.tdiv v1 (64:Int))),())with
  |none=>none
  |some v18=>
  match v18.1 with
  |true=>
   match(((List.drop v3.1 (List.take v3.2 x.1)).length:Int)==(0:Int))with
   |true=>
    some (((0:Int),(0:Int),((0:Int),(0:Int),(0:Int),(0:Int),(0:Int),()),[],()),false,())
   |false=>
    ab (aH (List.drop v3.1 (List.take v3.2 x.1)).length (some (.dat (.int .i64) (1:Int))) none) fun v19=>
    match kt ((List.drop v19.1 (List.take v19.2 (List.drop v3.1 (List.take v3.2 x.1)))),())with
    |none=>none
    |some v20=>
    aN (
     match cU (((IntKind.i64.wrap (Int.tdiv v1 (64:Int))),(Int.tmod (IntKind.i64.wrap (Int.tdiv v2 (8:Int))) (8:Int)),((0:Int),(0:Int),(0:Int),(0:Int),(0:Int),()),v20.1,()),())with
     |none=>none
     |some v21=>
     match v21.1 with
     |true=>
      match bM (((IntKind.i64.wrap (Int.tdiv v1 (64:Int))),(Int.tmod (IntKind.i64.wrap (Int.tdiv v2 (8:Int))) (8:Int)),((0:Int),(0:Int),(0:Int),(0:Int),(0:Int),()),v20.1,()),())with
      |none=>none
      |some v22=>
      match bQ (v22.1,x.1,())with
      |none=>none
      |some v23=>
      some (((IntKind.i64.wrap (Int.tdiv v1 (64:Int))),(Int.tmod (IntKind.i64.wrap (Int.tdiv v2 (8:Int))) (8:Int)),((0:Int),(0:Int),(0:Int),(0:Int),(0:Int),()),v20.1,()),v23.1,())
     |false=>
      some (((IntKind.i64.wrap (Int.tdiv v1 (64:Int))),(Int.tmod (IntKind.i64.wrap (Int.tdiv v2 (8:Int))) (8:Int)),((0:Int),(0:Int),(0:Int),(0:Int),(0:Int),()),v20.1,()),false,())) (
     aN (
      match cU (((IntKind.i64.wrap (Int.tdiv v1 (64:Int))),(Int.tmod (IntKind.i64.wrap (Int.tdiv v2 (8:Int))) (8:Int)),((0:Int),(0:Int),(0:Int),(0:Int),(0:Int),()),v20.1,()),())with
      |none=>none
      |some v21=>
      match v21.1 with
      |true=>
       match bM (((IntKind.i64.wrap (Int.tdiv v1 (64:Int))),(Int.tmod (IntKind.i64.wrap (Int.tdiv v2 (8:Int))) (8:Int)),((0:Int),(0:Int),(0:Int),(0:Int),(0:Int),()),v20.1,()),())with
       |none=>none
       |some v22=>
       match bQ (v22.1,x.1,())with
       |none=>none
       |some v23=>
       some (((IntKind.i64.wrap (Int.tdiv v1 (64:Int))),(Int.tmod (IntKind.i64.wrap (Int.tdiv v2 (8:Int))) (8:Int)),((0:Int),(0:Int),(0:Int),(0:Int),(0:Int),()),v20.1,()),v23.1,())
      |false=>
       some (((IntKind.i64.wrap (Int.tdiv v1 (64:Int))),(Int.tmod (IntKind.i64.wrap (Int.tdiv v2 (8:Int))) (8:Int)),((0:Int),(0:Int),(0:Int),(0:Int),(0:Int),()),v20.1,()),false,())) (
      match cU (((IntKind.i64.wrap (Int.tdiv v1 (64:Int))),(Int.tmod (IntKind.i64.wrap (Int.tdiv v2 (8:Int))) (8:Int)),((0:Int),(0:Int),(0:Int),(0:Int),(0:Int),()),v20.1,()),())with
      |none=>none
      |some v21=>
      match v21.1 with
      |true=>
       aN (
        match bM (((IntKind.i64.wrap (Int.tdiv v1 (64:Int))),(Int.tmod (IntKind.i64.wrap (Int.tdiv v2 (8:Int))) (8:Int)),((0:Int),(0:Int),(0:Int),(0:Int),(0:Int),()),v20.1,()),())with
        |none=>none
        |some v22=>
        match bQ (v22.1,x.1,())with
        |none=>none
        |some v23=>
        some (((IntKind.i64.wrap (Int.tdiv v1 (64:Int))),(Int.tmod (IntKind.i64.wrap (Int.tdiv v2 (8:Int))) (8:Int)),((0:Int),(0:Int),(0:Int),(0:Int),(0:Int),()),v20.1,()),v23.1,())) (
        aN (
         match bM (((IntKind.i64.wrap (Int.tdiv v1 (64:Int))),(Int.tmod (IntKind.i64.wrap (Int.tdiv v2 (8:Int))) (8:Int)),((0:Int),(0:Int),(0:Int),(0:Int),(0:Int),()),v20.1,()),())with
         |none=>none
         |some v22=>
         match bQ (v22.1,x.1,())with
         |none=>none
         |some v23=>
         some (((IntKind.i64.wrap (Int.tdiv v1 (64:Int))),(Int.tmod (IntKind.i64.wrap (Int.tdiv v2 (8:Int))) (8:Int)),((0:Int),(0:Int),(0:Int),(0:Int),(0:Int),()),v20.1,()),v23.1,())) (
         match bM (((IntKind.i64.wrap (Int.tdiv v1 (64:Int))),(Int.tmod (IntKind.i64.wrap (Int.tdiv v2 (8:Int))) (8:Int)),((0:Int),(0:Int),(0:Int),(0:Int),(0:Int),()),v20.1,()),())with
         |none=>none
         |some v22=>
         aX (
          match bQ (v22.1,x.1,())with
          |none=>none
          |some v23=>
          some (((IntKind.i64.wrap (Int.tdiv v1 (64:Int))),(Int.tmod (IntKind.i64.wrap (Int.tdiv v2 (8:Int))) (8:Int)),((0:Int),(0:Int),(0:Int),(0:Int),(0:Int),()),v20.1,()),v23.1,()))))
      |false=>
       aN (
        some (((IntKind.i64.wrap (Int.tdiv v1 (64:Int))),(Int.tmod (IntKind.i64.wrap (Int.tdiv v2 (8:Int))) (8:Int)),((0:Int),(0:Int),(0:Int),(0:Int),(0:Int),()),v20.1,()),false,())) (
        aN (
         some (((IntKind.i64.wrap (Int.tdiv v1 (64:Int))),(Int.tmod (IntKind.i64.wrap (Int.tdiv v2 (8:Int))) (8:Int)),((0:Int),(0:Int),(0:Int),(0:Int),(0:Int),()),v20.1,()),false,())) (
         aX (
          some (((IntKind.i64.wrap (Int.tdiv v1 (64:Int))),(Int.tmod (IntKind.i64.wrap (Int.tdiv v2 (8:Int))) (8:Int)),((0:Int),(0:Int),(0:Int),(0:Int),(0:Int),()),v20.1,()),false,()))))))
  |false=>
   aN (
    match cU (((IntKind.i64.wrap (Int.tdiv v1 (64:Int))),(Int.tmod (IntKind.i64.wrap (Int.tdiv v2 (8:Int))) (8:Int)),((0:Int),(0:Int),(0:Int),(0:Int),(0:Int),()),[],()),())with
    |none=>none
    |some v24=>
    match v24.1 with
    |true=>
     match bM (((IntKind.i64.wrap (Int.tdiv v1 (64:Int))),(Int.tmod (IntKind.i64.wrap (Int.tdiv v2 (8:Int))) (8:Int)),((0:Int),(0:Int),(0:Int),(0:Int),(0:Int),()),[],()),())with
     |none=>none
     |some v25=>
     match bQ (v25.1,x.1,())with
     |none=>none
     |some v26=>
     some (((IntKind.i64.wrap (Int.tdiv v1 (64:Int))),(Int.tmod (IntKind.i64.wrap (Int.tdiv v2 (8:Int))) (8:Int)),((0:Int),(0:Int),(0:Int),(0:Int),(0:Int),()),[],()),v26.1,())
    |false=>
     some (((IntKind.i64.wrap (Int.tdiv v1 (64:Int))),(Int.tmod (IntKind.i64.wrap (Int.tdiv v2 (8:Int))) (8:Int)),((0:Int),(0:Int),(0:Int),(0:Int),(0:Int),()),[],()),false,())) (
    aN (
     match cU (((IntKind.i64.wrap (Int.tdiv v1 (64:Int))),(Int.tmod (IntKind.i64.wrap (Int.tdiv v2 (8:Int))) (8:Int)),((0:Int),(0:Int),(0:Int),(0:Int),(0:Int),()),[],()),())with
     |none=>none
     |some v24=>
     match v24.1 with
     |true=>
      match bM (((IntKind.i64.wrap (Int.tdiv v1 (64:Int))),(Int.tmod (IntKind.i64.wrap (Int.tdiv v2 (8:Int))) (8:Int)),((0:Int),(0:Int),(0:Int),(0:Int),(0:Int),()),[],()),())with
      |none=>none
      |some v25=>
      match bQ (v25.1,x.1,())with
      |none=>none
      |some v26=>
      some (((IntKind.i64.wrap (Int.tdiv v1 (64:Int))),(Int.tmod (IntKind.i64.wrap (Int.tdiv v2 (8:Int))) (8:Int)),((0:Int),(0:Int),(0:Int),(0:Int),(0:Int),()),[],()),v26.1,())
     |false=>
      some (((IntKind.i64.wrap (Int.tdiv v1 (64:Int))),(Int.tmod (IntKind.i64.wrap (Int.tdiv v2 (8:Int))) (8:Int)),((0:Int),(0:Int),(0:Int),(0:Int),(0:Int),()),[],()),false,())) (
     match cU (((IntKind.i64.wrap (Int.tdiv v1 (64:Int))),(Int.tmod (IntKind.i64.wrap (Int.tdiv v2 (8:Int))) (8:Int)),((0:Int),(0:Int),(0:Int),(0:Int),(0:Int),()),[],()),())with
     |none=>none
     |some v24=>
     match v24.1 with
     |true=>
      aN (
       match bM (((IntKind.i64.wrap (Int.tdiv v1 (64:Int))),(Int.tmod (IntKind.i64.wrap (Int.tdiv v2 (8:Int))) (8:Int)),((0:Int),(0:Int),(0:Int),(0:Int),(0:Int),()),[],()),())with
       |none=>none
       |some v25=>
       match bQ (v25.1,x.1,())with
       |none=>none
       |some v26=>
       some (((IntKind.i64.wrap (Int.tdiv v1 (64:Int))),(Int.tmod (IntKind.i64.wrap (Int.tdiv v2 (8:Int))) (8:Int)),((0:Int),(0:Int),(0:Int),(0:Int),(0:Int),()),[],()),v26.1,())) (
       aN (
        match bM (((IntKind.i64.wrap (Int.tdiv v1 (64:Int))),(Int.tmod (IntKind.i64.wrap (Int.tdiv v2 (8:Int))) (8:Int)),((0:Int),(0:Int),(0:Int),(0:Int),(0:Int),()),[],()),())with
        |none=>none
        |some v25=>
        match bQ (v25.1,x.1,())with
        |none=>none
        |some v26=>
        some (((IntKind.i64.wrap (Int.tdiv v1 (64:Int))),(Int.tmod (IntKind.i64.wrap (Int.tdiv v2 (8:Int))) (8:Int)),((0:Int),(0:Int),(0:Int),(0:Int),(0:Int),()),[],()),v26.1,())) (
        match bM (((IntKind.i64.wrap (Int.tdiv v1 (64:Int))),(Int.tmod (IntKind.i64.wrap (Int.tdiv v2 (8:Int))) (8:Int)),((0:Int),(0:Int),(0:Int),(0:Int),(0:Int),()),[],()),())with
        |none=>none
        |some v25=>
        aX (
         match bQ (v25.1,x.1,())with
         |none=>none
         |some v26=>
         some (((IntKind.i64.wrap (Int.tdiv v1 (64:Int))),(Int.tmod (IntKind.i64.wrap (Int.tdiv v2 (8:Int))) (8:Int)),((0:Int),(0:Int),(0:Int),(0:Int),(0:Int),()),[],()),v26.1,()))))
     |false=>
      aN (
       some (((IntKind.i64.wrap (Int.tdiv v1 (64:Int))),(Int.tmod (IntKind.i64.wrap (Int.tdiv v2 (8:Int))) (8:Int)),((0:Int),(0:Int),(0:Int),(0:Int),(0:Int),()),[],()),false,())) (
       aN (
        some (((IntKind.i64.wrap (Int.tdiv v1 (64:Int))),(Int.tmod (IntKind.i64.wrap (Int.tdiv v2 (8:Int))) (8:Int)),((0:Int),(0:Int),(0:Int),(0:Int),(0:Int),()),[],()),false,())) (
        aX (
         some (((IntKind.i64.wrap (Int.tdiv v1 (64:Int))),(Int.tmod (IntKind.i64.wrap (Int.tdiv v2 (8:Int))) (8:Int)),((0:Int),(0:Int),(0:Int),(0:Int),(0:Int),()),[],()),false,()))))))
noncomputable def Sq:ae:=⟨_,VZ,.unit,rfl,wt⟩
theorem Qs:FnOK G0 Tryz.prog 290 Sq:=ak aj (sg iK (sg zM (sg mp (sg xu (sg FT (sg GB (sg FO (sg Qr (aL))))))))) Tryz.func290
noncomputable def qk(x:Ty.T aad):Option (Ty.T V0):=
match(decide ((IntKind.i64.wrap ((x.1.length:Int)-(3:Int)))<(1:Int)))with
|true=>
 some (((0:Int),(0:Int),((0:Int),(0:Int),(0:Int),(0:Int),(0:Int),()),[],()),(6:Int),())
|false=>
 ab (aq x.1 (IntKind.i64.wrap ((x.1.length:Int)-(3:Int)))) fun v1=>
 ab (aq x.1 (IntKind.i64.wrap ((IntKind.i64.wrap ((x.1.length:Int)-(3:Int)))+(1:Int)))) fun v2=>
 ab (aq x.1 (IntKind.i64.wrap ((IntKind.i64.wrap ((x.1.length:Int)-(3:Int)))+(2:Int)))) fun v3=>
 ab (aq x.1 (0:Int)) fun v4=>
 ab (aH x.1.length none (some (.dat (.int .i64) (IntKind.i64.wrap ((x.1.length:Int)-(3:Int)))))) fun v5=>
 match ks ((IntKind.i64.wrap (Int.tdiv v4 (64:Int))),(List.drop v5.1 (List.take v5.2 x.1)),x.2.1,(x.2.2.1.1,x.2.2.1.2.1,x.2.2.1.2.2.1,x.2.2.1.2.2.2.1,x.2.2.1.2.2.2.2.1,()),())with
 |none=>none
 |some v6=>
 match(v6.1 != (IntKind.i64.wrap ((IntKind.i64.wrap ((IntKind.i64.wrap (v1*(65536:Int)))+(IntKind.i64.wrap (v2*(256:Int)))))+v3)))with
 |true=>
  some (((0:Int),(0:Int),((0:Int),(0:Int),(0:Int),(0:Int),(0:Int),()),[],()),(7:Int),())
 |false=>
  ab (aH x.1.length none (some (.dat (.int .i64) (IntKind.i64.wrap ((x.1.length:Int)-(3:Int)))))) fun v7=>
  match wt ((List.drop v7.1 (List.take v7.2 x.1)),())with
  |none=>none
  |some v8=>
  match(!v8.2.1)with
  |true=>
   some (((0:Int),(0:Int),((0:Int),(0:Int),(0:Int),(0:Int),(0:Int),()),[],()),(6:Int),())
  |false=>
   match dP (v8.1.1,())with
   |none=>none
   |some v9=>
   match v9.1 with
   |true=>
    match(!(ex ai (v8.1.2.2.1.1,v8.1.2.2.1.2.1,v8.1.2.2.1.2.2.1,v8.1.2.2.1.2.2.2.1,v8.1.2.2.1.2.2.2.2.1,()) (x.2.2.1.1,x.2.2.1.2.1,x.2.2.1.2.2.1,x.2.2.1.2.2.2.1,x.2.2.1.2.2.2.2.1,())))with
    |true=>
     some (((0:Int),(0:Int),((0:Int),(0:Int),(0:Int),(0:Int),(0:Int),()),[],()),(5:Int),())
    |false=>
     some ((v8.1.1,v8.1.2.1,(v8.1.2.2.1.1,v8.1.2.2.1.2.1,v8.1.2.2.1.2.2.1,v8.1.2.2.1.2.2.2.1,v8.1.2.2.1.2.2.2.2.1,()),v8.1.2.2.2.1,()),(0:Int),())
   |false=>
    some ((v8.1.1,v8.1.2.1,(v8.1.2.2.1.1,v8.1.2.2.1.2.1,v8.1.2.2.1.2.2.1,v8.1.2.2.1.2.2.2.1,v8.1.2.2.1.2.2.2.2.1,()),v8.1.2.2.2.1,()),(0:Int),())
noncomputable def Ua:ae:=⟨_,V0,.unit,rfl,qk⟩
theorem Sr:FnOK G0 Tryz.prog 251 Ua:=ak aj (sg iK (sg AY (sg Qs (aL)))) Tryz.func251
noncomputable def rB(x:Ty.T Jh):Option (Ty.T pW):=
match qk (x.2.2.1,x.1.1,(x.2.1.1,x.2.1.2.1,x.2.1.2.2.1,x.2.1.2.2.2.1,x.2.1.2.2.2.2.1,()),())with
|none=>none
|some v1=>
match(v1.2.1==(0:Int))with
|true=>
 match iq ((x.1.1,x.1.2.1,x.1.2.2.1,x.1.2.2.2.1,()),(x.2.1.1,x.2.1.2.1,x.2.1.2.2.1,x.2.1.2.2.2.1,x.2.1.2.2.2.2.1,()),())with
 |none=>none
 |some v2=>
 match dR (v2.1,(v1.1.1,v1.1.2.1,(v1.1.2.2.1.1,v1.1.2.2.1.2.1,v1.1.2.2.1.2.2.1,v1.1.2.2.1.2.2.2.1,v1.1.2.2.1.2.2.2.2.1,()),v1.1.2.2.2.1,()),())with
 |none=>none
 |some v3=>
 match(!v3.1)with
 |true=>
  match((5:Int) != (0:Int))with
  |true=>
   some (((2:Int),((0:Int),(0:Int),((0:Int),(0:Int),(0:Int),(0:Int),(0:Int),()),[],()),()),(5:Int),())
  |false=>
   some (((3:Int),(v1.1.1,v1.1.2.1,(v1.1.2.2.1.1,v1.1.2.2.1.2.1,v1.1.2.2.1.2.2.1,v1.1.2.2.1.2.2.2.1,v1.1.2.2.1.2.2.2.2.1,()),v1.1.2.2.2.1,()),()),(0:Int),())
 |false=>
  match(v1.2.1 != (0:Int))with
  |true=>
   some (((2:Int),((0:Int),(0:Int),((0:Int),(0:Int),(0:Int),(0:Int),(0:Int),()),[],()),()),v1.2.1,())
  |false=>
   some (((3:Int),(v1.1.1,v1.1.2.1,(v1.1.2.2.1.1,v1.1.2.2.1.2.1,v1.1.2.2.1.2.2.1,v1.1.2.2.1.2.2.2.1,v1.1.2.2.1.2.2.2.2.1,()),v1.1.2.2.2.1,()),()),(0:Int),())
|false=>
 match(v1.2.1 != (0:Int))with
 |true=>
  some (((2:Int),((0:Int),(0:Int),((0:Int),(0:Int),(0:Int),(0:Int),(0:Int),()),[],()),()),v1.2.1,())
 |false=>
  some (((3:Int),(v1.1.1,v1.1.2.1,(v1.1.2.2.1.1,v1.1.2.2.1.2.1,v1.1.2.2.1.2.2.1,v1.1.2.2.1.2.2.2.1,v1.1.2.2.1.2.2.2.2.1,()),v1.1.2.2.2.1,()),()),(0:Int),())
noncomputable def Ss:ae:=⟨_,pW,.unit,rfl,rB⟩
theorem Qt:FnOK G0 Tryz.prog 194 Ss:=ak aj (sg mB (sg rS (sg Sr (aL)))) Tryz.func194
noncomputable def nb(x:Ty.T Jh):Option (Ty.T pW):=
match mf (x.2.2.1,())with
|none=>none
|some v1=>
match(v1.2.1==(0:Int))with
|true=>
 match rB ((x.1.1,x.1.2.1,x.1.2.2.1,x.1.2.2.2.1,()),(x.2.1.1,x.2.1.2.1,x.2.1.2.2.1,x.2.1.2.2.2.1,x.2.1.2.2.2.2.1,()),v1.1,())with
 |none=>none
 |some v2=>
 some ((v2.1.1,(v2.1.2.1.1,v2.1.2.1.2.1,(v2.1.2.1.2.2.1.1,v2.1.2.1.2.2.1.2.1,v2.1.2.1.2.2.1.2.2.1,v2.1.2.1.2.2.1.2.2.2.1,v2.1.2.1.2.2.1.2.2.2.2.1,()),v2.1.2.1.2.2.2.1,()),()),v2.2.1,())
|false=>
 match(v1.2.1==(4:Int))with
 |true=>
  some (((0:Int),((0:Int),(0:Int),((0:Int),(0:Int),(0:Int),(0:Int),(0:Int),()),[],()),()),v1.2.1,())
 |false=>
  some (((1:Int),((0:Int),(0:Int),((0:Int),(0:Int),(0:Int),(0:Int),(0:Int),()),[],()),()),v1.2.1,())
noncomputable def On:ae:=⟨_,pW,.unit,rfl,nb⟩
theorem Mn:FnOK G0 Tryz.prog 134 On:=ak aj (sg Gy (sg Qt (aL))) Tryz.func134
noncomputable def GC(x:Ty.T Jh):Option (Ty.T aE):=
match pY ((x.1.1,x.1.2.1,x.1.2.2.1,x.1.2.2.2.1,()),(x.2.1.1,x.2.1.2.1,x.2.1.2.2.1,x.2.1.2.2.2.1,x.2.1.2.2.2.2.1,()),())with
|none=>none
|some v1=>
match(v1.1==(0:Int))with
|true=>
 match pr (x.2.2.1,())with
 |none=>none
 |some v2=>
 match(!v2.1)with
 |true=>
  some ((2:Int),())
 |false=>
  some (v1.1,())
|false=>
 some (v1.1,())
noncomputable def Ub:ae:=⟨_,aE,.unit,rfl,GC⟩
theorem Su:FnOK G0 Tryz.prog 167 Ub:=ak aj (sg tf (sg FM (aL))) Tryz.func167
noncomputable def fV(x:Ty.T Jh):Option (Ty.T pW):=
match GC ((x.1.1,x.1.2.1,x.1.2.2.1,x.1.2.2.2.1,()),(x.2.1.1,x.2.1.2.1,x.2.1.2.2.1,x.2.1.2.2.2.1,x.2.1.2.2.2.2.1,()),x.2.2.1,())with
|none=>none
|some v1=>
match(v1.1 != (0:Int))with
|true=>
 some (((0:Int),((0:Int),(0:Int),((0:Int),(0:Int),(0:Int),(0:Int),(0:Int),()),[],()),()),v1.1,())
|false=>
 match nb ((x.1.1,x.1.2.1,x.1.2.2.1,x.1.2.2.2.1,()),(x.2.1.1,x.2.1.2.1,x.2.1.2.2.1,x.2.1.2.2.2.1,x.2.1.2.2.2.2.1,()),x.2.2.1,())with
 |none=>none
 |some v2=>
 some ((v2.1.1,(v2.1.2.1.1,v2.1.2.1.2.1,(v2.1.2.1.2.2.1.1,v2.1.2.1.2.2.1.2.1,v2.1.2.1.2.2.1.2.2.1,v2.1.2.1.2.2.1.2.2.2.1,v2.1.2.1.2.2.1.2.2.2.2.1,()),v2.1.2.1.2.2.2.1,()),()),(0:Int),())
noncomputable def GD:ae:=⟨_,pW,.unit,rfl,fV⟩
theorem EN:FnOK G0 Tryz.prog 109 GD:=ak aj (sg Mn (sg Su (aL))) Tryz.func109
noncomputable def ug(x:Ty.T Y6):Option (Ty.T ao):=
match(x.1.1==x.2.1.1)with
|true=>
 match(x.1.2.1==x.2.1.2.1)with
 |true=>
  match(ex ai (x.1.2.2.1.1,x.1.2.2.1.2.1,x.1.2.2.1.2.2.1,x.1.2.2.1.2.2.2.1,x.1.2.2.1.2.2.2.2.1,()) (x.2.1.2.2.1.1,x.2.1.2.2.1.2.1,x.2.1.2.2.1.2.2.1,x.2.1.2.2.1.2.2.2.1,x.2.1.2.2.1.2.2.2.2.1,()))with
  |true=>
   match bQ (x.1.2.2.2.1,x.2.1.2.2.2.1,())with
   |none=>none
   |some v1=>
   some (v1.1,())
  |false=>
   some (false,())
 |false=>
  some (false,())
|false=>
 some (false,())
noncomputable def Uc:ae:=⟨_,ao,.unit,rfl,ug⟩
theorem Sv:FnOK G0 Tryz.prog 168 Uc:=ak aj (sg GB (aL)) Tryz.func168
noncomputable def wu(x:Ty.T aai):Option (Ty.T V1):=
match(x.1.1==(3:Int))with
|true=>
 match(x.2.1.1==(3:Int))with
 |true=>
  match ug ((x.1.2.1.1,x.1.2.1.2.1,(x.1.2.1.2.2.1.1,x.1.2.1.2.2.1.2.1,x.1.2.1.2.2.1.2.2.1,x.1.2.1.2.2.1.2.2.2.1,x.1.2.1.2.2.1.2.2.2.2.1,()),x.1.2.1.2.2.2.1,()),(x.2.1.2.1.1,x.2.1.2.1.2.1,(x.2.1.2.1.2.2.1.1,x.2.1.2.1.2.2.1.2.1,x.2.1.2.1.2.2.1.2.2.1,x.2.1.2.1.2.2.1.2.2.2.1,x.2.1.2.1.2.2.1.2.2.2.2.1,()),x.2.1.2.1.2.2.2.1,()),())with
  |none=>none
  |some v1=>
  match v1.1 with
  |true=>
   some ((x.1.1,(x.1.2.1.1,x.1.2.1.2.1,(x.1.2.1.2.2.1.1,x.1.2.1.2.2.1.2.1,x.1.2.1.2.2.1.2.2.1,x.1.2.1.2.2.1.2.2.2.1,x.1.2.1.2.2.1.2.2.2.2.1,()),x.1.2.1.2.2.2.1,()),()),())
  |false=>
   match(x.1.1==(3:Int))with
   |true=>
    match(x.2.1.1==(3:Int))with
    |true=>
     some (((4:Int),((0:Int),(0:Int),((0:Int),(0:Int),(0:Int),(0:Int),(0:Int),()),[],()),()),())
    |false=>
     match(x.1.1==(4:Int))with
     |true=>
      some (((4:Int),((0:Int),(0:Int),((0:Int),(0:Int),(0:Int),(0:Int),(0:Int),()),[],()),()),())
     |false=>
      match(x.2.1.1==(4:Int))with
      |true=>
       some (((4:Int),((0:Int),(0:Int),((0:Int),(0:Int),(0:Int),(0:Int),(0:Int),()),[],()),()),())
      |false=>
       match(x.1.1==(3:Int))with
       |true=>
        some ((x.1.1,(x.1.2.1.1,x.1.2.1.2.1,(x.1.2.1.2.2.1.1,x.1.2.1.2.2.1.2.1,x.1.2.1.2.2.1.2.2.1,x.1.2.1.2.2.1.2.2.2.1,x.1.2.1.2.2.1.2.2.2.2.1,()),x.1.2.1.2.2.2.1,()),()),())
       |false=>
        match(x.2.1.1==(3:Int))with
        |true=>
         some ((x.2.1.1,(x.2.1.2.1.1,x.2.1.2.1.2.1,(x.2.1.2.1.2.2.1.1,x.2.1.2.1.2.2.1.2.1,x.2.1.2.1.2.2.1.2.2.1,x.2.1.2.1.2.2.1.2.2.2.1,x.2.1.2.1.2.2.1.2.2.2.2.1,()),x.2.1.2.1.2.2.2.1,()),()),())
        |false=>
         some (((if x.2.1.1>x.1.1 then x.2.1.1 else x.1.1),((0:Int),(0:Int),((0:Int),(0:Int),(0:Int),(0:Int),(0:Int),()),[],()),()),())
   |false=>
    match(x.1.1==(4:Int))with
    |true=>
     some (((4:Int),((0:Int),(0:Int),((0:Int),(0:Int),(0:Int),(0:Int),(0:Int),()),[],()),()),())
    |false=>
     match(x.2.1.1==(4:Int))with
     |true=>
      some (((4:Int),((0:Int),(0:Int),((0:Int),(0:Int),(0:Int),(0:Int),(0:Int),()),[],()),()),())
     |false=>
      match(x.1.1==(3:Int))with
      |true=>
       some ((x.1.1,(x.1.2.1.1,x.1.2.1.2.1,(x.1.2.1.2.2.1.1,x.1.2.1.2.2.1.2.1,x.1.2.1.2.2.1.2.2.1,x.1.2.1.2.2.1.2.2.2.1,x.1.2.1.2.2.1.2.2.2.2.1,()),x.1.2.1.2.2.2.1,()),()),())
      |false=>
       match(x.2.1.1==(3:Int))with
       |true=>
        some ((x.2.1.1,(x.2.1.2.1.1,x.2.1.2.1.2.1,(x.2.1.2.1.2.2.1.1,x.2.1.2.1.2.2.1.2.1,x.2.1.2.1.2.2.1.2.2.1,x.2.1.2.1.2.2.1.2.2.2.1,x.2.1.2.1.2.2.1.2.2.2.2.1,()),x.2.1.2.1.2.2.2.1,()),()),())
       |false=>
        some (((if x.2.1.1>x.1.1 then x.2.1.1 else x.1.1),((0:Int),(0:Int),((0:Int),(0:Int),(0:Int),(0:Int),(0:Int),()),[],()),()),())
 |false=>
  match(x.1.1==(3:Int))with
  |true=>
   match(x.2.1.1==(3:Int))with
   |true=>
    some (((4:Int),((0:Int),(0:Int),((0:Int),(0:Int),(0:Int),(0:Int),(0:Int),()),[],()),()),())
   |false=>
    match(x.1.1==(4:Int))with
    |true=>
     some (((4:Int),((0:Int),(0:Int),((0:Int),(0:Int),(0:Int),(0:Int),(0:Int),()),[],()),()),())
    |false=>
     match(x.2.1.1==(4:Int))with
     |true=>
      some (((4:Int),((0:Int),(0:Int),((0:Int),(0:Int),(0:Int),(0:Int),(0:Int),()),[],()),()),())
     |false=>
      match(x.1.1==(3:Int))with
      |true=>
       some ((x.1.1,(x.1.2.1.1,x.1.2.1.2.1,(x.1.2.1.2.2.1.1,x.1.2.1.2.2.1.2.1,x.1.2.1.2.2.1.2.2.1,x.1.2.1.2.2.1.2.2.2.1,x.1.2.1.2.2.1.2.2.2.2.1,()),x.1.2.1.2.2.2.1,()),()),())
      |false=>
       match(x.2.1.1==(3:Int))with
       |true=>
        some ((x.2.1.1,(x.2.1.2.1.1,x.2.1.2.1.2.1,(x.2.1.2.1.2.2.1.1,x.2.1.2.1.2.2.1.2.1,x.2.1.2.1.2.2.1.2.2.1,x.2.1.2.1.2.2.1.2.2.2.1,x.2.1.2.1.2.2.1.2.2.2.2.1,()),x.2.1.2.1.2.2.2.1,()),()),())
       |false=>
        some (((if x.2.1.1>x.1.1 then x.2.1.1 else x.1.1),((0:Int),(0:Int),((0:Int),(0:Int),(0:Int),(0:Int),(0:Int),()),[],()),()),())
  |false=>
   match(x.1.1==(4:Int))with
   |true=>
    some (((4:Int),((0:Int),(0:Int),((0:Int),(0:Int),(0:Int),(0:Int),(0:Int),()),[],()),()),())
   |false=>
    match(x.2.1.1==(4:Int))with
    |true=>
     some (((4:Int),((0:Int),(0:Int),((0:Int),(0:Int),(0:Int),(0:Int),(0:Int),()),[],()),()),())
    |false=>
     match(x.1.1==(3:Int))with
     |true=>
      some ((x.1.1,(x.1.2.1.1,x.1.2.1.2.1,(x.1.2.1.2.2.1.1,x.1.2.1.2.2.1.2.1,x.1.2.1.2.2.1.2.2.1,x.1.2.1.2.2.1.2.2.2.1,x.1.2.1.2.2.1.2.2.2.2.1,()),x.1.2.1.2.2.2.1,()),()),())
     |false=>
      match(x.2.1.1==(3:Int))with
      |true=>
       some ((x.2.1.1,(x.2.1.2.1.1,x.2.1.2.1.2.1,(x.2.1.2.1.2.2.1.1,x.2.1.2.1.2.2.1.2.1,x.2.1.2.1.2.2.1.2.2.1,x.2.1.2.1.2.2.1.2.2.2.1,x.2.1.2.1.2.2.1.2.2.2.2.1,()),x.2.1.2.1.2.2.2.1,()),()),())
      |false=>
       some (((if x.2.1.1>x.1.1 then x.2.1.1 else x.1.1),((0:Int),(0:Int),((0:Int),(0:Int),(0:Int),(0:Int),(0:Int),()),[],()),()),())
|false=>
 match(x.1.1==(3:Int))with
 |true=>
  match(x.2.1.1==(3:Int))with
  |true=>
   some (((4:Int),((0:Int),(0:Int),((0:Int),(0:Int),(0:Int),(0:Int),(0:Int),()),[],()),()),())
  |false=>
   match(x.1.1==(4:Int))with
   |true=>
    some (((4:Int),((0:Int),(0:Int),((0:Int),(0:Int),(0:Int),(0:Int),(0:Int),()),[],()),()),())
   |false=>
    match(x.2.1.1==(4:Int))with
    |true=>
     some (((4:Int),((0:Int),(0:Int),((0:Int),(0:Int),(0:Int),(0:Int),(0:Int),()),[],()),()),())
    |false=>
     match(x.1.1==(3:Int))with
     |true=>
      some ((x.1.1,(x.1.2.1.1,x.1.2.1.2.1,(x.1.2.1.2.2.1.1,x.1.2.1.2.2.1.2.1,x.1.2.1.2.2.1.2.2.1,x.1.2.1.2.2.1.2.2.2.1,x.1.2.1.2.2.1.2.2.2.2.1,()),x.1.2.1.2.2.2.1,()),()),())
     |false=>
      match(x.2.1.1==(3:Int))with
      |true=>
       some ((x.2.1.1,(x.2.1.2.1.1,x.2.1.2.1.2.1,(x.2.1.2.1.2.2.1.1,x.2.1.2.1.2.2.1.2.1,x.2.1.2.1.2.2.1.2.2.1,x.2.1.2.1.2.2.1.2.2.2.1,x.2.1.2.1.2.2.1.2.2.2.2.1,()),x.2.1.2.1.2.2.2.1,()),()),())
      |false=>
       some (((if x.2.1.1>x.1.1 then x.2.1.1 else x.1.1),((0:Int),(0:Int),((0:Int),(0:Int),(0:Int),(0:Int),(0:Int),()),[],()),()),())
 |false=>
  match(x.1.1==(4:Int))with
  |true=>
   some (((4:Int),((0:Int),(0:Int),((0:Int),(0:Int),(0:Int),(0:Int),(0:Int),()),[],()),()),())
  |false=>
   match(x.2.1.1==(4:Int))with
   |true=>
    some (((4:Int),((0:Int),(0:Int),((0:Int),(0:Int),(0:Int),(0:Int),(0:Int),()),[],()),()),())
   |false=>
    match(x.1.1==(3:Int))with
    |true=>
     some ((x.1.1,(x.1.2.1.1,x.1.2.1.2.1,(x.1.2.1.2.2.1.1,x.1.2.1.2.2.1.2.1,x.1.2.1.2.2.1.2.2.1,x.1.2.1.2.2.1.2.2.2.1,x.1.2.1.2.2.1.2.2.2.2.1,()),x.1.2.1.2.2.2.1,()),()),())
    |false=>
     match(x.2.1.1==(3:Int))with
     |true=>
      some ((x.2.1.1,(x.2.1.2.1.1,x.2.1.2.1.2.1,(x.2.1.2.1.2.2.1.1,x.2.1.2.1.2.2.1.2.1,x.2.1.2.1.2.2.1.2.2.1,x.2.1.2.1.2.2.1.2.2.2.1,x.2.1.2.1.2.2.1.2.2.2.2.1,()),x.2.1.2.1.2.2.2.1,()),()),())
     |false=>
      some (((if x.2.1.1>x.1.1 then x.2.1.1 else x.1.1),((0:Int),(0:Int),((0:Int),(0:Int),(0:Int),(0:Int),(0:Int),()),[],()),()),())
noncomputable def Sw:ae:=⟨_,V1,.unit,rfl,wu⟩
theorem Qu:FnOK G0 Tryz.prog 110 Sw:=ak aj (sg Sv (aL)) Tryz.func110
noncomputable def lP(x:Ty.T aaf):Option (Ty.T pW):=
match fV ((x.1.1,x.1.2.1,x.1.2.2.1,x.1.2.2.2.1,()),(x.2.1.1,x.2.1.2.1,x.2.1.2.2.1,x.2.1.2.2.2.1,x.2.1.2.2.2.2.1,()),x.2.2.1,())with
|none=>none
|some v1=>
match(v1.2.1 != (0:Int))with
|true=>
 some (((0:Int),((0:Int),(0:Int),((0:Int),(0:Int),(0:Int),(0:Int),(0:Int),()),[],()),()),v1.2.1,())
|false=>
 match fV ((x.1.1,x.1.2.1,x.1.2.2.1,x.1.2.2.2.1,()),(x.2.1.1,x.2.1.2.1,x.2.1.2.2.1,x.2.1.2.2.2.1,x.2.1.2.2.2.2.1,()),x.2.2.2.1,())with
 |none=>none
 |some v2=>
 match(v2.2.1 != (0:Int))with
 |true=>
  some (((0:Int),((0:Int),(0:Int),((0:Int),(0:Int),(0:Int),(0:Int),(0:Int),()),[],()),()),v2.2.1,())
 |false=>
  match wu ((v1.1.1,(v1.1.2.1.1,v1.1.2.1.2.1,(v1.1.2.1.2.2.1.1,v1.1.2.1.2.2.1.2.1,v1.1.2.1.2.2.1.2.2.1,v1.1.2.1.2.2.1.2.2.2.1,v1.1.2.1.2.2.1.2.2.2.2.1,()),v1.1.2.1.2.2.2.1,()),()),(v2.1.1,(v2.1.2.1.1,v2.1.2.1.2.1,(v2.1.2.1.2.2.1.1,v2.1.2.1.2.2.1.2.1,v2.1.2.1.2.2.1.2.2.1,v2.1.2.1.2.2.1.2.2.2.1,v2.1.2.1.2.2.1.2.2.2.2.1,()),v2.1.2.1.2.2.2.1,()),()),())with
  |none=>none
  |some v3=>
  some ((v3.1.1,(v3.1.2.1.1,v3.1.2.1.2.1,(v3.1.2.1.2.2.1.1,v3.1.2.1.2.2.1.2.1,v3.1.2.1.2.2.1.2.2.1,v3.1.2.1.2.2.1.2.2.2.1,v3.1.2.1.2.2.1.2.2.2.2.1,()),v3.1.2.1.2.2.2.1,()),()),(0:Int),())
noncomputable def Mo:ae:=⟨_,pW,.unit,rfl,lP⟩
theorem Kj:FnOK G0 Tryz.prog 56 Mo:=ak aj (sg EN (sg Qu (aL))) Tryz.func56
noncomputable def rC(x:Ty.T aag):Option (Ty.T pW):=
match gX ((x.1.1,x.1.2.1,x.1.2.2.1,x.1.2.2.2.1,()),(x.2.1.1,x.2.1.2.1,x.2.1.2.2.1,x.2.1.2.2.2.1,x.2.1.2.2.2.2.1,()),(x.2.2.1.1,x.2.2.1.2.1,(x.2.2.1.2.2.1.1,x.2.2.1.2.2.1.2.1,x.2.2.1.2.2.1.2.2.1,x.2.2.1.2.2.1.2.2.2.1,x.2.2.1.2.2.1.2.2.2.2.1,()),x.2.2.1.2.2.2.1,()),x.2.2.2.1,())with
|none=>none
|some v1=>
match(v1.2.1 != (0:Int))with
|true=>
 some (((0:Int),((0:Int),(0:Int),((0:Int),(0:Int),(0:Int),(0:Int),(0:Int),()),[],()),()),v1.2.1,())
|false=>
 match gX ((x.1.1,x.1.2.1,x.1.2.2.1,x.1.2.2.2.1,()),(x.2.1.1,x.2.1.2.1,x.2.1.2.2.1,x.2.1.2.2.2.1,x.2.1.2.2.2.2.1,()),(x.2.2.1.1,x.2.2.1.2.1,(x.2.2.1.2.2.1.1,x.2.2.1.2.2.1.2.1,x.2.2.1.2.2.1.2.2.1,x.2.2.1.2.2.1.2.2.2.1,x.2.2.1.2.2.1.2.2.2.2.1,()),x.2.2.1.2.2.2.1,()),x.2.2.2.2.1,())with
 |none=>none
 |some v2=>
 match(v2.2.1 != (0:Int))with
 |true=>
  some (((0:Int),((0:Int),(0:Int),((0:Int),(0:Int),(0:Int),(0:Int),(0:Int),()),[],()),()),v2.2.1,())
 |false=>
  match lP ((x.1.1,x.1.2.1,x.1.2.2.1,x.1.2.2.2.1,()),(x.2.1.1,x.2.1.2.1,x.2.1.2.2.1,x.2.1.2.2.2.1,x.2.1.2.2.2.2.1,()),v1.1,v2.1,())with
  |none=>none
  |some v3=>
  some ((v3.1.1,(v3.1.2.1.1,v3.1.2.1.2.1,(v3.1.2.1.2.2.1.1,v3.1.2.1.2.2.1.2.1,v3.1.2.1.2.2.1.2.2.1,v3.1.2.1.2.2.1.2.2.2.1,v3.1.2.1.2.2.1.2.2.2.2.1,()),v3.1.2.1.2.2.2.1,()),()),v3.2.1,())
noncomputable def Sx:ae:=⟨_,pW,.unit,rfl,rC⟩
theorem Qv:FnOK G0 Tryz.prog 11 Sx:=ak aj (sg HU (sg Kj (aL))) Tryz.func11
abbrev sH:Ty:=aae
noncomputable def g0(x:(Ty.T sH)):Option ((Ty.T sH) ⊕ ((Ty.T .unit) ⊕ (Ty.T ao))):=
match(decide (x.2.2.1<(x.1.length:Int)))with
|true=>
 ab (aq x.1 x.2.2.1) fun v1=>
 ab (aq x.2.1 x.2.2.1) fun v2=>
 match(v1 != v2)with
 |true=>
  some (.inr (.inr (false,())))
 |false=>
  some (.inl (x.1,x.2.1,(IntKind.i64.wrap (x.2.2.1+(1:Int))),()))
|false=>
 some (.inr (.inl (())))
noncomputable def wv(x:Ty.T Rz):Option (Ty.T ao):=
match((x.1.length:Int) != (x.2.1.length:Int))with
|true=>
 some (false,())
|false=>
 match ac g0 (x.1,x.2.1,(0:Int),())with
 |none=>none
 |some (.inl v3)=>
  some (true,())
 |some (.inr v4)=>
  some (v4.1,())
noncomputable def Sy:ae:=⟨_,ao,.unit,rfl,wv⟩
noncomputable def Ec:FuncId→Option ae:=bC []
theorem Mp:∀f s,Ec f=some s→FnOK G0 Tryz.prog f s:=aD trivial
def Bw:aO:=⟨[0,1,5],sH,0,[],.unit,[4],ao⟩
noncomputable def Ed:List aw:=[Bw.spec g0]
theorem Kk:bg bi E0 Ec (bc Tryz.f57 Ed) Tryz.f57 0 Bw g0:=fun x=>by kernel_rfl
theorem Qw:FnOK G0 Tryz.prog 57 Sy:=aJ aj Mp Tryz.func57 Ed (by kernel_rfl) (by exact⟨(Kk).lok,trivial⟩) fun x=>by kernel_rfl
noncomputable def jF(x:Ty.T Y6):Option (Ty.T ao):=
match(x.1.1==x.2.1.1)with
|true=>
 match(x.1.2.1==x.2.1.2.1)with
 |true=>
  match(ex ai x.1.2.2.1 x.2.1.2.2.1)with
  |true=>
   match wv (x.1.2.2.2.1,x.2.1.2.2.2.1,())with
   |none=>none
   |some v1=>
   some (v1.1,())
  |false=>
   some (false,())
 |false=>
  some (false,())
|false=>
 some (false,())
noncomputable def Oo:ae:=⟨_,ao,.unit,rfl,jF⟩
theorem zn:FnOK G0 Tryz.prog 13 Oo:=ak aj (sg Qw (aL)) Tryz.func13
noncomputable def jq(x:Ty.T aaa):Option (Ty.T ao):=
match(x.1.1==x.2.1.1)with
|true=>
 match jF (x.1.2.1,x.2.1.2.1,())with
 |none=>none
 |some v1=>
 some (v1.1,())
|false=>
 some (false,())
noncomputable def Kl:ae:=⟨_,ao,.unit,rfl,jq⟩
theorem HW:FnOK G0 Tryz.prog 12 Kl:=ak aj (sg zn (aL)) Tryz.func12
noncomputable def rD(x:Ty.T Ry):Option (Ty.T aE):=
match mV (x.1,())with
|none=>none
|some v1=>
match(!v1.1)with
|true=>
 some ((1:Int),())
|false=>
 match ns (x.2.1,())with
 |none=>none
 |some v2=>
 match(!v2.1)with
 |true=>
  some ((2:Int),())
 |false=>
  some ((0:Int),())
noncomputable def Oq:ae:=⟨_,aE,.unit,rfl,rD⟩
theorem Mq:FnOK G0 Tryz.prog 60 Oq:=ak aj (sg DZ (sg oH (aL))) Tryz.func60
noncomputable def fe(x:(Ty.T Y3)):Option ((Ty.T Y3) ⊕ ((Ty.T .unit) ⊕ (Ty.T ao))):=
match(decide (x.2.2.1<(x.1.length:Int)))with
|true=>
 ab (aq x.1 x.2.2.1) fun v1=>
 ab (aq x.1 (IntKind.i64.wrap (x.2.2.1-(1:Int)))) fun v2=>
 match(decide ((IntKind.i64.wrap (v1.2.1-v2.2.1))<x.2.1))with
 |true=>
  some (.inr (.inr (false,())))
 |false=>
  some (.inl (x.1,x.2.1,(IntKind.i64.wrap (x.2.2.1+(1:Int))),()))
|false=>
 some (.inr (.inl (())))
noncomputable def kg(x:Ty.T aac):Option (Ty.T ao):=
match ac fe (x.1,x.2.1,(1:Int),())with
|none=>none
|some (.inl v3)=>
 some (true,())
|some (.inr v4)=>
 some (v4.1,())
noncomputable def GE:ae:=⟨_,ao,.unit,rfl,kg⟩
noncomputable def Ee:FuncId→Option ae:=bC []
theorem Mr:∀f s,Ee f=some s→FnOK G0 Tryz.prog f s:=aD trivial
def Bx:aO:=⟨[0,1,5],Y3,0,[],.unit,[4],ao⟩
noncomputable def Ef:List aw:=[Bx.spec fe]
theorem Km:bg bi E0 Ee (bc Tryz.f118 Ef) Tryz.f118 0 Bx fe:=fun x=>by kernel_rfl
theorem Qx:FnOK G0 Tryz.prog 118 GE:=aJ aj Mr Tryz.func118 Ef (by kernel_rfl) (by exact⟨(Km).lok,trivial⟩) fun x=>by kernel_rfl
noncomputable def zV(x:Ty.T Jf):Option (Ty.T ao):=
some ((x.1.1 != (1:Int)),())
noncomputable def Eg:ae:=⟨_,ao,.unit,rfl,zV⟩
theorem Ot:FnOK G0 Tryz.prog 120 Eg:=ak aj aL Tryz.func120
noncomputable def ya(x:Ty.T Jf):Option (Ty.T ao):=
match(x.1.1==(3:Int))with
|true=>
 some ((x.1.2.2.1==(1:Int)),())
|false=>
 match(x.1.1==(4:Int))with
 |true=>
  some ((x.1.2.2.1==(1:Int)),())
 |false=>
  some (false,())
noncomputable def Ms:ae:=⟨_,ao,.unit,rfl,ya⟩
theorem Ud:FnOK G0 Tryz.prog 177 Ms:=ak aj aL Tryz.func177
abbrev rE:Ty:=(.pair (.list (.int .i64)) (.pair (.box av) (.pair (.list (.int .i64)) bB)))
noncomputable def dG(x:(Ty.T rE)):Option ((Ty.T rE) ⊕ ((Ty.T .unit) ⊕ (Ty.T ao))):=
match(decide (x.2.2.2.2.1<x.2.2.2.1))with
|true=>
 ab (aq x.2.2.1 x.2.2.2.2.1) fun v4=>
 ab (aq x.1 x.2.1.2.1) fun v5=>
 match(v4 != v5)with
 |true=>
  some (.inr (.inr (false,())))
 |false=>
  match(x.2.1.1==(4:Int))with
  |true=>
   match(v4 != x.2.1.2.2.2.1)with
   |true=>
    some (.inr (.inr (false,())))
   |false=>
    some (.inl (x.1,(x.2.1.1,x.2.1.2.1,x.2.1.2.2.1,x.2.1.2.2.2.1,()),x.2.2.1,x.2.2.2.1,(IntKind.i64.wrap (x.2.2.2.2.1+(1:Int))),()))
  |false=>
   some (.inl (x.1,(x.2.1.1,x.2.1.2.1,x.2.1.2.2.1,x.2.1.2.2.2.1,()),x.2.2.1,x.2.2.2.1,(IntKind.i64.wrap (x.2.2.2.2.1+(1:Int))),()))
|false=>
 some (.inr (.inl (())))
noncomputable def oN(x:Ty.T VX):Option (Ty.T ao):=
match ya ((x.2.1.1,x.2.1.2.1,x.2.1.2.2.1,x.2.1.2.2.2.1,()),())with
|none=>none
|some v1=>
match(!v1.1)with
|true=>
 some (false,())
|false=>
 match ca (x.2.1.2.1,(2:Int),(IntKind.i64.wrap ((x.1.length:Int)-(3:Int))),())with
 |none=>none
 |some v2=>
 match(!v2.1)with
 |true=>
  some (false,())
 |false=>
  ab (aH x.1.length (some (.dat (.int .i64) (IntKind.i64.wrap (x.2.1.2.1-(2:Int))))) (some (.dat (.int .i64) (IntKind.i64.wrap (x.2.1.2.1+(3:Int)))))) fun v3=>
  match ac dG (x.1,(x.2.1.1,x.2.1.2.1,x.2.1.2.2.1,x.2.1.2.2.2.1,()),(List.drop v3.1 (List.take v3.2 x.1)),((List.drop v3.1 (List.take v3.2 x.1)).length:Int),(0:Int),())with
  |none=>none
  |some (.inl v6)=>
   some (true,())
  |some (.inr v7)=>
   some (v7.1,())
noncomputable def Eh:ae:=⟨_,ao,.unit,rfl,oN⟩
noncomputable def Bz:FuncId→Option ae:=bC [(68,Cq),(177,Ms)]
theorem Kn:∀f s,Bz f=some s→FnOK G0 Tryz.prog f s:=aD ⟨dh,Ud,trivial⟩
def zo:aO:=⟨[0,3,26,27,28],rE,0,[],.unit,[4],ao⟩
noncomputable def BA:List aw:=[zo.spec dG]
theorem HX:bg bi E0 Bz (bc Tryz.f121 BA) Tryz.f121 0 zo dG:=fun x=>by kernel_rfl
theorem Ou:FnOK G0 Tryz.prog 121 Eh:=aJ aj Kn Tryz.func121 BA (by kernel_rfl) (by exact⟨(HX).lok,trivial⟩) fun x=>by kernel_rfl
abbrev u7:Ty:=(.pair (.list (.int .i64)) (.pair (.list av) (.pair (.list av) bB)))
noncomputable def eU(x:(Ty.T u7)):Option ((Ty.T u7) ⊕ ((Ty.T Np) ⊕ (Ty.T aE))):=
match(decide (x.2.2.2.2.1<x.2.2.2.1))with
|true=>
 ab (aq x.2.2.1 x.2.2.2.2.1) fun v3=>
 match oN (x.1,(v3.1,v3.2.1,v3.2.2.1,v3.2.2.2.1,()),())with
 |none=>none
 |some v4=>
 match(!v4.1)with
 |true=>
  some (.inr (.inr ((0:Int),())))
 |false=>
  match jE (x.1,(v3.1,v3.2.1,v3.2.2.1,v3.2.2.2.1,()),())with
  |none=>none
  |some v5=>
  some (.inl (v5.1,x.2.1,x.2.2.1,x.2.2.2.1,(IntKind.i64.wrap (x.2.2.2.2.1+(1:Int))),()))
|false=>
 some (.inr (.inl (x.2.1,())))
noncomputable def zp(x:Ty.T Ry):Option (Ty.T aE):=
match kg (x.2.1,(6:Int),())with
|none=>none
|some v1=>
match v1.1 with
|true=>
 match dm (x.2.1,zV,())with
 |none=>none
 |some v2=>
 match(!v2.1)with
 |true=>
  some ((1:Int),())
 |false=>
  match ac eU (x.1,x.2.1,x.2.1,(x.2.1.length:Int),(0:Int),())with
  |none=>none
  |some (.inl v6)=>
   match kg (v6.1,(160:Int),())with
   |none=>none
   |some v8=>
   match(!v8.1)with
   |true=>
    some ((0:Int),())
   |false=>
    some ((2:Int),())
  |some (.inr v7)=>
   some (v7.1,())
|false=>
 match ac eU (x.1,x.2.1,x.2.1,(x.2.1.length:Int),(0:Int),())with
 |none=>none
 |some (.inl v9)=>
  match kg (v9.1,(160:Int),())with
  |none=>none
  |some v11=>
  match(!v11.1)with
  |true=>
   some ((0:Int),())
  |false=>
   some ((2:Int),())
 |some (.inr v10)=>
  some (v10.1,())
noncomputable def Ue:ae:=⟨_,aE,.unit,rfl,zp⟩
noncomputable def GF:FuncId→Option ae:=bC [(118,GE),(119,lj),(120,Eg),(121,Eh),(122,sB)]
theorem Ov:∀f s,GF f=some s→FnOK G0 Tryz.prog f s:=aD ⟨Qx,kX,Ot,Ou,zh,trivial⟩
def Ei:aO:=⟨[0,1,14,15,16],u7,0,[1],Np,[4],aE⟩
noncomputable def GG:List aw:=[Ei.spec eU]
theorem Mu:bg bi E0 GF (bc Tryz.f61 GG) Tryz.f61 0 Ei eU:=fun x=>by kernel_rfl
theorem Sz:FnOK G0 Tryz.prog 61 Ue:=aJ aj Ov Tryz.func61 GG (by kernel_rfl) (by exact⟨(Mu).lok,trivial⟩) fun x=>by kernel_rfl
noncomputable def oO(x:Ty.T Ry):Option (Ty.T ao):=
match rD (x.1,x.2.1,())with
|none=>none
|some v1=>
match(v1.1==(0:Int))with
|true=>
 match zp (x.1,x.2.1,())with
 |none=>none
 |some v2=>
 some ((decide (v2.1>(0:Int))),())
|false=>
 some (false,())
noncomputable def Qy:ae:=⟨_,ao,.unit,rfl,oO⟩
theorem Ow:FnOK G0 Tryz.prog 15 Qy:=ak aj (sg Mq (sg Sz (aL))) Tryz.func15
noncomputable def wN(x:Ty.T VU):Option (Ty.T ao):=
match KZ (x.1,())with
|none=>none
|some v1=>
match v1.1 with
|true=>
 some (true,())
|false=>
 match kQ (x.1,())with
 |none=>none
 |some v2=>
 match jf v2 with
 |none=>none
 |some v3=>
 match rC v2 with
 |none=>none
 |some v4=>
 match(v3.2.1 != v4.2.1)with
 |true=>
  some (false,())
 |false=>
  match jq (v3.1,v4.1,())with
  |none=>none
  |some v5=>
  match(!v5.1)with
  |true=>
   some (false,())
  |false=>
   match(v3.2.1 != (0:Int))with
   |true=>
    some (true,())
   |false=>
    match jf (v2.1,v2.2.1,v2.2.2.1,v2.2.2.2.2.1,v2.2.2.2.1,())with
    |none=>none
    |some v6=>
    match jf (v2.1,v2.2.1,v2.2.2.1,[],[((5:Int),(0:Int),(0:Int),(0:Int),())],())with
    |none=>none
    |some v7=>
    match(v6.2.1 != (0:Int))with
    |true=>
     some (false,())
    |false=>
     match(v7.2.1 != (0:Int))with
     |true=>
      some (false,())
     |false=>
      match jq (v6.1,v3.1,())with
      |none=>none
      |some v8=>
      match(!v8.1)with
      |true=>
       some (false,())
      |false=>
       match(v7.1.1 != (3:Int))with
       |true=>
        some (false,())
       |false=>
        match jF (v7.1.2.1,v2.2.2.1,())with
        |none=>none
        |some v9=>
        match(!v9.1)with
        |true=>
         some (false,())
        |false=>
         match i6 (v2.1,v2.2.1,v2.2.2.1,())with
         |none=>none
         |some v10=>
         match(v10.2.1 != (0:Int))with
         |true=>
          some ((v10.2.1==(0:Int)),())
         |false=>
          match oO (v10.1,v2.2.2.2.1,())with
          |none=>none
          |some v11=>
          match(!v11.1)with
          |true=>
           some ((v10.2.1==(0:Int)),())
          |false=>
           match(v3.1.1==(3:Int))with
           |true=>
            match jF (v3.1.2.1,v2.2.2.1,())with
            |none=>none
            |some v12=>
            match v12.1 with
            |true=>
             some (true,())
            |false=>
             some ((v3.1.1==(4:Int)),())
           |false=>
            some ((v3.1.1==(4:Int)),())
noncomputable def XH:ae:=⟨_,ao,.unit,rfl,wN⟩
theorem Wh:FnOK G0 Tryz.prog 3 XH:=ak aj (sg Zk (sg HG (sg Ql (sg Qv (sg HW (sg zn (sg xW (sg Ow (aL))))))))) Tryz.func3
end Go.Proofs.YtkgcbbkodalfmaaGreatDoor
