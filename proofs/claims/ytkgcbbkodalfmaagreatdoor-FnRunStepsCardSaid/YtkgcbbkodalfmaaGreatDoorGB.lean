import Derived.Test.YtkgcbbkodalfmaaGreatDoorGA
namespace Go.Proofs.YtkgcbbkodalfmaaGreatDoor
open Go.RowKit
set_option linter.unusedVariables false
abbrev abr:Ty:=(.pair (.int .i64) (.pair (.own 167 aj) (.pair (.list aj) an)))
noncomputable def fU(x:(Ty.T abr)):Option ((Ty.T abr) ⊕ ((Ty.T aeQ) ⊕ (Ty.T .unit))):=
match(decide (x.2.2.2.2.1<x.2.2.2.1))with
|true=>
 aa (aq x.2.2.1 x.2.2.2.2.1) fun v1=>
 match(v1.1==x.1)with
 |true=>
  aA (x.2.1.length+ [(v1.1,v1.2.1,v1.2.2.1,(v1.2.2.2.1.1,v1.2.2.2.1.2.1,v1.2.2.2.1.2.2.1,v1.2.2.2.1.2.2.2.1,v1.2.2.2.1.2.2.2.2.1,()),())].length) (
   some (.inl (x.1,(x.2.1++ [(v1.1,v1.2.1,v1.2.2.1,(v1.2.2.2.1.1,v1.2.2.2.1.2.1,v1.2.2.2.1.2.2.1,v1.2.2.2.1.2.2.2.1,v1.2.2.2.1.2.2.2.2.1,()),())]),x.2.2.1,x.2.2.2.1,(IntKind.i64.wrap (x.2.2.2.2.1+(1:Int))),())))
 |false=>
  some (.inl (x.1,x.2.1,x.2.2.1,x.2.2.2.1,(IntKind.i64.wrap (x.2.2.2.2.1+(1:Int))),()))
|false=>
 some (.inr (.inl (x.2.1,())))
noncomputable def nF(x:Ty.T agi):Option (Ty.T aeQ):=
match ag fU (x.2.1,[],x.1.2.2.2.1,(x.1.2.2.2.1.length:Int),(0:Int),())with
|none=>none
|some (.inl v2)=>
 some (v2.1,())
|some (.inr v4)=>
 none
noncomputable def Bq:Spec:=⟨_,aeQ,.unit,rfl,nF⟩
noncomputable def yE:FuncId→Option Spec:=bh []
theorem HX:∀f s,yE f=some s→FnOK G0 Tryz.prog f s:=aF trivial
def wL:aO:=⟨[1,5,10,11,12],abr,0,[5],aeQ,[],.unit⟩
noncomputable def yF:List ay:=[wL.spec fU]
theorem FI:bc bd E0 yE (ba Tryz.f259 yF) Tryz.f259 0 wL fU:=fun x=>by kernel_rfl
theorem L4:FnOK G0 Tryz.prog 259 Bq:=aH ao HX Tryz.func259 yF (by kernel_rfl) (by exact⟨(FI).lok,trivial⟩) fun x=>by kernel_rfl
noncomputable def ij(x:(Ty.T y_8)):Option ((Ty.T y_8) ⊕ ((Ty.T .unit) ⊕ (Ty.T ae))):=
match(decide (x.2.2.1<x.2.1))with
|true=>
 match nF ((x.1.1,x.1.2.1,x.1.2.2.1,x.1.2.2.2.1,()),x.2.2.1,())with
 |none=>none
 |some v1=>
 match mR (v1.1,())with
 |none=>none
 |some v2=>
 match(decide (v2.1>(32000:Int)))with
 |true=>
  some (.inr (.inr (false,())))
 |false=>
  some (.inl ((x.1.1,x.1.2.1,x.1.2.2.1,x.1.2.2.2.1,()),x.2.1,(IntKind.i64.wrap (x.2.2.1+(1:Int))),()))
|false=>
 some (.inr (.inl (())))
noncomputable def rM(x:Ty.T abA):Option (Ty.T ae):=
match ag ij ((x.1.1,x.1.2.1,x.1.2.2.1,x.1.2.2.2.1,()),(x.1.2.2.1.length:Int),(0:Int),())with
|none=>none
|some (.inl v3)=>
 some (true,())
|some (.inr v4)=>
 some (v4.1,())
noncomputable def Sq:Spec:=⟨_,ae,.unit,rfl,rM⟩
noncomputable def DI:FuncId→Option Spec:=bh [(258,vd),(259,Bq)]
theorem L5:∀f s,DI f=some s→FnOK G0 Tryz.prog f s:=aF ⟨FH,L4,trivial⟩
def Br:aO:=⟨[1,6,7],y_8,0,[],.unit,[2],ae⟩
noncomputable def DJ:List ay:=[Br.spec ij]
theorem JT:bc bd E0 DI (ba Tryz.f209 DJ) Tryz.f209 0 Br ij:=fun x=>by kernel_rfl
theorem Qf:FnOK G0 Tryz.prog 209 Sq:=aH ao L5 Tryz.func209 DJ (by kernel_rfl) (by exact⟨(JT).lok,trivial⟩) fun x=>by kernel_rfl
abbrev ab9:Ty:=(.pair (.box ac) (.pair (.int .i64) (.pair (.int .i64) (.pair (.int .i64) (.pair (.list al) (.pair (.int .i64) (.pair (.int .i64) (.pair (.int .i64) (.pair (.int .i64) (.pair (.list aj) an))))))))))
abbrev adl:Ty:=(.pair (.box ac) (.pair (.int .i64) (.pair (.int .i64) (.pair (.list al) ax))))
noncomputable def fj(x:(Ty.T ab9)):Option ((Ty.T ab9) ⊕ ((Ty.T adl) ⊕ (Ty.T .unit))):=
match(decide (x.2.2.2.2.2.2.2.2.2.2.2.1<x.2.2.2.2.2.2.2.2.2.2.1))with
|true=>
 aa (aq x.2.2.2.2.2.2.2.2.2.1 x.2.2.2.2.2.2.2.2.2.2.2.1) fun v2=>
 match(v2.1==x.2.1)with
 |true=>
  match(v2.2.1==x.2.2.1)with
  |true=>
   if v2.2.2.2.1.1<0 then none else
   some (.inl ((x.1.1,x.1.2.1,x.1.2.2.1,x.1.2.2.2.1,()),x.2.1,x.2.2.1,(bits BinOp.or .i64 x.2.2.2.1 (IntKind.i64.wrap ((1:Int)*2^min v2.2.2.2.1.1.toNat IntKind.i64.bits))),x.2.2.2.2.1,x.2.2.2.2.2.1,x.2.2.2.2.2.2.1,x.2.2.2.2.2.2.2.1,x.2.2.2.2.2.2.2.2.1,x.2.2.2.2.2.2.2.2.2.1,x.2.2.2.2.2.2.2.2.2.2.1,(IntKind.i64.wrap (x.2.2.2.2.2.2.2.2.2.2.2.1+(1:Int))),()))
  |false=>
   some (.inl ((x.1.1,x.1.2.1,x.1.2.2.1,x.1.2.2.2.1,()),x.2.1,x.2.2.1,x.2.2.2.1,x.2.2.2.2.1,x.2.2.2.2.2.1,x.2.2.2.2.2.2.1,x.2.2.2.2.2.2.2.1,x.2.2.2.2.2.2.2.2.1,x.2.2.2.2.2.2.2.2.2.1,x.2.2.2.2.2.2.2.2.2.2.1,(IntKind.i64.wrap (x.2.2.2.2.2.2.2.2.2.2.2.1+(1:Int))),()))
 |false=>
  some (.inl ((x.1.1,x.1.2.1,x.1.2.2.1,x.1.2.2.2.1,()),x.2.1,x.2.2.1,x.2.2.2.1,x.2.2.2.2.1,x.2.2.2.2.2.1,x.2.2.2.2.2.2.1,x.2.2.2.2.2.2.2.1,x.2.2.2.2.2.2.2.2.1,x.2.2.2.2.2.2.2.2.2.1,x.2.2.2.2.2.2.2.2.2.2.1,(IntKind.i64.wrap (x.2.2.2.2.2.2.2.2.2.2.2.1+(1:Int))),()))
|false=>
 some (.inr (.inl ((x.1.1,x.1.2.1,x.1.2.2.1,x.1.2.2.2.1,()),x.2.1,x.2.2.2.1,x.2.2.2.2.1,x.2.2.2.2.2.1,x.2.2.2.2.2.2.1,x.2.2.2.2.2.2.2.1,x.2.2.2.2.2.2.2.2.1,())))
abbrev aca:Ty:=(.pair (.box ac) (.pair (.int .i64) (.pair (.list al) ax)))
abbrev adm:Ty:=agr
noncomputable def gh(x:(Ty.T aca)):Option ((Ty.T aca) ⊕ ((Ty.T adm) ⊕ (Ty.T ae))):=
match(decide (x.2.2.2.2.2.2.1<x.2.2.2.2.2.1))with
|true=>
 match ag fj ((x.1.1,x.1.2.1,x.1.2.2.1,x.1.2.2.2.1,()),x.2.1,x.2.2.2.2.2.2.1,(0:Int),x.2.2.1,x.2.2.2.1,x.2.2.2.2.1,x.2.2.2.2.2.1,x.2.2.2.2.2.2.1,x.1.2.2.2.1,(x.1.2.2.2.1.length:Int),(0:Int),())with
 |none=>none
 |some (.inl v2)=>
  match iJ (v2.1.2.1,())with
  |none=>none
  |some v4=>
  match((bits BinOp.andNot .i64 v4.1 v2.2.2.1) != (0:Int))with
  |true=>
   some (.inr (.inr (false,())))
  |false=>
   some (.inl ((v2.1.1,v2.1.2.1,v2.1.2.2.1,v2.1.2.2.2.1,()),v2.2.1,v2.2.2.2.1,v2.2.2.2.2.1,v2.2.2.2.2.2.1,v2.2.2.2.2.2.2.1,(IntKind.i64.wrap (v2.2.2.2.2.2.2.2.1+(1:Int))),()))
 |some (.inr v5)=>
  none
|false=>
 some (.inr (.inl ((x.1.1,x.1.2.1,x.1.2.2.1,x.1.2.2.2.1,()),x.2.2.1,x.2.2.2.1,x.2.2.2.2.1,())))
abbrev acb:Ty:=agr
noncomputable def ik(x:(Ty.T acb)):Option ((Ty.T acb) ⊕ ((Ty.T .unit) ⊕ (Ty.T ae))):=
match(decide (x.2.2.2.1<x.2.2.1))with
|true=>
 aa (aq x.2.1 x.2.2.2.1) fun v1=>
 match ag gh ((x.1.1,x.1.2.1,x.1.2.2.1,x.1.2.2.2.1,()),x.2.2.2.1,x.2.1,x.2.2.1,x.2.2.2.1,v1.1,(0:Int),())with
 |none=>none
 |some (.inl v2)=>
  some (.inl ((v2.1.1,v2.1.2.1,v2.1.2.2.1,v2.1.2.2.2.1,()),v2.2.1,v2.2.2.1,(IntKind.i64.wrap (v2.2.2.2.1+(1:Int))),()))
 |some (.inr v3)=>
  some (.inr (.inr (v3.1,())))
|false=>
 some (.inr (.inl (())))
noncomputable def rN(x:Ty.T abA):Option (Ty.T ae):=
match ag ik ((x.1.1,x.1.2.1,x.1.2.2.1,x.1.2.2.2.1,()),x.1.2.2.1,(x.1.2.2.1.length:Int),(0:Int),())with
|none=>none
|some (.inl v4)=>
 some (true,())
|some (.inr v5)=>
 some (v5.1,())
noncomputable def Sr:Spec:=⟨_,ae,.unit,rfl,rN⟩
noncomputable def pQ:FuncId→Option Spec:=bh [(141,uQ)]
theorem L6:∀f s,pQ f=some s→FnOK G0 Tryz.prog f s:=aF ⟨np,trivial⟩
def Bt:aO:=⟨[1,10,11,12],acb,0,[],.unit,[2],ae⟩
def Bu:aO:=⟨[1,3,10,11,12,18,19],aca,2,[1,10,11,12],adm,[2],ae⟩
def Bv:aO:=⟨[1,3,5,6,10,11,12,18,19,23,24,25],ab9,4,[1,3,6,10,11,12,18,19],adl,[],.unit⟩
noncomputable def pR:List ay:=[Bt.spec ik,Bu.spec gh,Bv.spec fj]
theorem JU:bc bd E0 pQ (ba Tryz.f210 pR) Tryz.f210 0 Bt ik:=fun x=>by kernel_rfl
theorem JV:bc bd E0 pQ (ba Tryz.f210 pR) Tryz.f210 1 Bu gh:=fun x=>by kernel_rfl
theorem JW:bc bd E0 pQ (ba Tryz.f210 pR) Tryz.f210 2 Bv fj:=fun x=>by kernel_rfl
theorem Qg:FnOK G0 Tryz.prog 210 Sr:=aH ao L6 Tryz.func210 pR (by kernel_rfl) (by exact⟨(JU).lok,(JV).lok,(JW).lok,trivial⟩) fun x=>by kernel_rfl
noncomputable def me(x:Ty.T abA):Option (Ty.T et):=
match bj (x.1.1,(1:Int),(16777215:Int),())with
|none=>none
|some v1=>
match(!v1.1)with
|true=>
 some ((1:Int),())
|false=>
 match nZ (x.1.2.1,())with
 |none=>none
 |some v2=>
 match(!v2.1)with
 |true=>
  some ((2:Int),())
 |false=>
  match ld (x.1.2.2.1,())with
  |none=>none
  |some v3=>
  match(!v3.1)with
  |true=>
   some ((3:Int),())
  |false=>
   match n6 (x.1.2.2.2.1,())with
   |none=>none
   |some v4=>
   match(!v4.1)with
   |true=>
    some ((4:Int),())
   |false=>
    match mc ((x.1.1,x.1.2.1,x.1.2.2.1,x.1.2.2.2.1,()),())with
    |none=>none
    |some v5=>
    match(!v5.1)with
    |true=>
     some ((5:Int),())
    |false=>
     match cd (x.1.2.2.2.1,(fun z=>mO (z.1,(x.1.1,x.1.2.1,x.1.2.2.1,x.1.2.2.2.1,()),())),())with
     |none=>none
     |some v6=>
     match v6.1 with
     |true=>
      some ((6:Int),())
     |false=>
      match pP ((x.1.1,x.1.2.1,x.1.2.2.1,x.1.2.2.2.1,()),())with
      |none=>none
      |some v7=>
      match(!v7.1)with
      |true=>
       some ((7:Int),())
      |false=>
       match rM ((x.1.1,x.1.2.1,x.1.2.2.1,x.1.2.2.2.1,()),())with
       |none=>none
       |some v8=>
       match(!v8.1)with
       |true=>
        some ((8:Int),())
       |false=>
        match rN ((x.1.1,x.1.2.1,x.1.2.2.1,x.1.2.2.2.1,()),())with
        |none=>none
        |some v9=>
        match(!v9.1)with
        |true=>
         some ((9:Int),())
        |false=>
         match cd (x.1.2.2.2.1,mP,())with
         |none=>none
         |some v10=>
         match v10.1 with
         |true=>
          some ((10:Int),())
         |false=>
          some ((0:Int),())
noncomputable def L7:Spec:=⟨_,et,.unit,rfl,me⟩
theorem JX:FnOK G0 Tryz.prog 140 L7:=ap ao (sg ci (sg FE (sg FF (sg HR (sg uX (sg HV (sg JQ (sg pk (sg Od (sg Qf (sg Qg (aJ)))))))))))) Tryz.func140
noncomputable def kO(x:Ty.T abA):Option (Ty.T ae):=
match me ((x.1.1,x.1.2.1,x.1.2.2.1,x.1.2.2.2.1,()),())with
|none=>none
|some v1=>
some ((v1.1==(0:Int)),())
noncomputable def UD:Spec:=⟨_,ae,.unit,rfl,kO⟩
theorem Ss:FnOK G0 Tryz.prog 74 UD:=ap ao (sg JX (aJ)) Tryz.func74
noncomputable def pS(x:Ty.T et):Option (Ty.T ae):=
match bj (x.1,(0:Int),(4294967295:Int),())with
|none=>none
|some v1=>
some (v1.1,())
noncomputable def Qh:Spec:=⟨_,ae,.unit,rfl,pS⟩
theorem Bw:FnOK G0 Tryz.prog 76 Qh:=ap ao (sg ci (aJ)) Tryz.func76
noncomputable def dl(x:Ty.T y_7):Option (Ty.T ae):=
match bj (x.1.1,(0:Int),(65535:Int),())with
|none=>none
|some v1=>
match v1.1 with
|true=>
 match bj (x.1.2.1,(0:Int),(15:Int),())with
 |none=>none
 |some v2=>
 match v2.1 with
 |true=>
  match bj (x.1.2.2.1,(0:Int),(15:Int),())with
  |none=>none
  |some v3=>
  match v3.1 with
  |true=>
   match bj (x.1.2.2.2.1,(0:Int),(255:Int),())with
   |none=>none
   |some v4=>
   match v4.1 with
   |true=>
    match pS (x.1.2.2.2.2.1,())with
    |none=>none
    |some v5=>
    some (v5.1,())
   |false=>
    some (false,())
  |false=>
   some (false,())
 |false=>
  some (false,())
|false=>
 some (false,())
noncomputable def Su:Spec:=⟨_,ae,.unit,rfl,dl⟩
theorem ko:FnOK G0 Tryz.prog 85 Su:=ap ao (sg ci (sg Bw (aJ))) Tryz.func85
noncomputable def mf(x:Ty.T acQ):Option (Ty.T ae):=
match dl ((x.2.1.1,x.2.1.2.1,x.2.1.2.2.1,x.2.1.2.2.2.1,x.2.1.2.2.2.2.1,()),())with
|none=>none
|some v1=>
match(!v1.1)with
|true=>
 some (false,())
|false=>
 match(decide (x.2.1.2.1≥(x.1.2.2.1.length:Int)))with
 |true=>
  some (false,())
 |false=>
  aa (aq x.1.2.2.1 x.2.1.2.1) fun v2=>
  match(decide (x.2.1.2.2.1<v2.1))with
  |true=>
   match(decide (x.2.1.2.2.2.1<v2.2.1))with
   |true=>
    match iJ (x.1.2.1,())with
    |none=>none
    |some v3=>
    some (((bits BinOp.andNot .i64 x.2.1.2.2.2.2.1 v3.1)==(0:Int)),())
   |false=>
    some (false,())
  |false=>
   some (false,())
noncomputable def Sv:Spec:=⟨_,ae,.unit,rfl,mf⟩
theorem Qi:FnOK G0 Tryz.prog 75 Sv:=ap ao (sg ko (sg np (aJ))) Tryz.func75
noncomputable def dr(x:Ty.T acQ):Option (Ty.T et):=
match kO ((x.1.1,x.1.2.1,x.1.2.2.1,x.1.2.2.2.1,()),())with
|none=>none
|some v1=>
match(!v1.1)with
|true=>
 some ((1:Int),())
|false=>
 match mf ((x.1.1,x.1.2.1,x.1.2.2.1,x.1.2.2.2.1,()),(x.2.1.1,x.2.1.2.1,x.2.1.2.2.1,x.2.1.2.2.2.1,x.2.1.2.2.2.2.1,()),())with
 |none=>none
 |some v2=>
 match(!v2.1)with
 |true=>
  some ((2:Int),())
 |false=>
  some ((0:Int),())
noncomputable def DK:Spec:=⟨_,et,.unit,rfl,dr⟩
theorem ju:FnOK G0 Tryz.prog 72 DK:=ap ao (sg Ss (sg Qi (aJ))) Tryz.func72
abbrev Rd:Ty:=(.pair (.list au) (.pair (.fn (.pair au .unit) (.pair .bool .unit)) an))
noncomputable def cE(x:(Ty.T Rd)):Option ((Ty.T Rd) ⊕ ((Ty.T .unit) ⊕ (Ty.T et))):=
match(decide (x.2.2.2.1<x.2.2.1))with
|true=>
 aa (aq x.1 x.2.2.2.1) fun v1=>
 match x.2.1 (v1,())with
 |none=>none
 |some v2=>
 match v2.1 with
 |true=>
  some (.inr (.inr (x.2.2.2.1,())))
 |false=>
  some (.inl (x.1,x.2.1,x.2.2.1,(IntKind.i64.wrap (x.2.2.2.1+(1:Int))),()))
|false=>
 some (.inr (.inl (())))
noncomputable def fG(x:Ty.T agy):Option (Ty.T et):=
match ag cE (x.1,x.2.1,(x.1.length:Int),(0:Int),())with
|none=>none
|some (.inl v3)=>
 some ((-1:Int),())
|some (.inr v4)=>
 some (v4.1,())
noncomputable def wa:Spec:=⟨_,et,.unit,rfl,fG⟩
noncomputable def mg:FuncId→Option Spec:=bh []
theorem sB:∀f s,mg f=some s→FnOK G0 Tryz.prog f s:=aF trivial
def lC:aO:=⟨[0,1,7,8],Rd,0,[],.unit,[4],et⟩
noncomputable def mh:List ay:=[lC.spec cE]
theorem rO:bc bd E0 mg (ba Tryz.f189 mh) Tryz.f189 0 lC cE:=fun x=>by kernel_rfl
theorem ve:FnOK G0 Tryz.prog 189 wa:=aH ao sB Tryz.func189 mh (by kernel_rfl) (by exact⟨(rO).lok,trivial⟩) fun x=>by kernel_rfl
noncomputable def fV(x:Ty.T agy):Option (Ty.T ae):=
match fG (x.1,x.2.1,())with
|none=>none
|some v1=>
some ((decide (v1.1≥(0:Int))),())
noncomputable def sC:Spec:=⟨_,ae,.unit,rfl,fV⟩
theorem rP:FnOK G0 Tryz.prog 127 sC:=ap ao (sg ve (aJ)) Tryz.func127
abbrev Q4:Ty:=(.pair (.list ax) (.pair (.fn (.pair ax .unit) (.pair .bool .unit)) an))
noncomputable def cq(x:(Ty.T Q4)):Option ((Ty.T Q4) ⊕ ((Ty.T .unit) ⊕ (Ty.T et))):=
match(decide (x.2.2.2.1<x.2.2.1))with
|true=>
 aa (aq x.1 x.2.2.2.1) fun v1=>
 match x.2.1 (v1,())with
 |none=>none
 |some v2=>
 match v2.1 with
 |true=>
  some (.inr (.inr (x.2.2.2.1,())))
 |false=>
  some (.inl (x.1,x.2.1,x.2.2.1,(IntKind.i64.wrap (x.2.2.2.1+(1:Int))),()))
|false=>
 some (.inr (.inl (())))
noncomputable def fg(x:Ty.T agz):Option (Ty.T et):=
match ag cq (x.1,x.2.1,(x.1.length:Int),(0:Int),())with
|none=>none
|some (.inl v3)=>
 some ((-1:Int),())
|some (.inr v4)=>
 some (v4.1,())
noncomputable def vf:Spec:=⟨_,et,.unit,rfl,fg⟩
noncomputable def lD:FuncId→Option Spec:=bh []
theorem rQ:∀f s,lD f=some s→FnOK G0 Tryz.prog f s:=aF trivial
def lg:aO:=⟨[0,1,7,8],Q4,0,[],.unit,[4],et⟩
noncomputable def lE:List ay:=[lg.spec cq]
theorem qH:bc bd E0 lD (ba Tryz.f176 lE) Tryz.f176 0 lg cq:=fun x=>by kernel_rfl
theorem tT:FnOK G0 Tryz.prog 176 vf:=aH ao rQ Tryz.func176 lE (by kernel_rfl) (by exact⟨(qH).lok,trivial⟩) fun x=>by kernel_rfl
noncomputable def dP(x:Ty.T agz):Option (Ty.T ae):=
match fg (x.1,x.2.1,())with
|none=>none
|some v1=>
some ((decide (v1.1≥(0:Int))),())
noncomputable def rR:Spec:=⟨_,ae,.unit,rfl,dP⟩
theorem qI:FnOK G0 Tryz.prog 119 rR:=ap ao (sg tT (aJ)) Tryz.func119
noncomputable def q8(x:Ty.T et):Option (Ty.T ae):=
match(x.1 != (1:Int))with
|true=>
 some ((x.1 != (5:Int)),())
|false=>
 some (false,())
noncomputable def Oe:Spec:=⟨_,ae,.unit,rfl,q8⟩
theorem L8:FnOK G0 Tryz.prog 197 Oe:=ap ao aJ Tryz.func197
noncomputable def pT(x:Ty.T et):Option (Ty.T ae):=
match(x.1==(4:Int))with
|true=>
 some (true,())
|false=>
 some ((x.1==(6:Int)),())
noncomputable def Qj:Spec:=⟨_,ae,.unit,rfl,pT⟩
theorem Og:FnOK G0 Tryz.prog 198 Qj:=ap ao aJ Tryz.func198
noncomputable def oZ(x:Ty.T aed):Option (Ty.T ae):=
match bj (x.1.1,(1:Int),(6:Int),())with
|none=>none
|some v1=>
match(!v1.1)with
|true=>
 some (false,())
|false=>
 match bj (x.1.2.1,(0:Int),(8192:Int),())with
 |none=>none
 |some v2=>
 match(!v2.1)with
 |true=>
  some (false,())
 |false=>
  match q8 (x.1.1,())with
  |none=>none
  |some v3=>
  match v3.1 with
  |true=>
   match bj (x.1.2.2.1,(1:Int),(8192:Int),())with
   |none=>none
   |some v4=>
   match pT (x.1.1,())with
   |none=>none
   |some v5=>
   match v5.1 with
   |true=>
    match bj (x.1.2.2.2.1,(0:Int),(1:Int),())with
    |none=>none
    |some v6=>
    match v4.1 with
    |true=>
     some (v6.1,())
    |false=>
     some (false,())
   |false=>
    match v4.1 with
    |true=>
     some ((x.1.2.2.2.1==(0:Int)),())
    |false=>
     some (false,())
  |false=>
   match pT (x.1.1,())with
   |none=>none
   |some v7=>
   match v7.1 with
   |true=>
    match bj (x.1.2.2.2.1,(0:Int),(1:Int),())with
    |none=>none
    |some v8=>
    match(x.1.2.2.1==(0:Int))with
    |true=>
     some (v8.1,())
    |false=>
     some (false,())
   |false=>
    match(x.1.2.2.1==(0:Int))with
    |true=>
     some ((x.1.2.2.2.1==(0:Int)),())
    |false=>
     some (false,())
noncomputable def Sw:Spec:=⟨_,ae,.unit,rfl,oZ⟩
theorem Qk:FnOK G0 Tryz.prog 138 Sw:=ap ao (sg ci (sg L8 (sg Og (aJ)))) Tryz.func138
noncomputable def mi(x:Ty.T aed):Option (Ty.T ae):=
match oZ ((x.1.1,x.1.2.1,x.1.2.2.1,x.1.2.2.2.1,()),())with
|none=>none
|some v1=>
some ((!v1.1),())
noncomputable def L9:Spec:=⟨_,ae,.unit,rfl,mi⟩
theorem JY:FnOK G0 Tryz.prog 137 L9:=ap ao (sg Qk (aJ)) Tryz.func137
noncomputable def pU(x:Ty.T aeM):Option (Ty.T ae):=
match(decide ((x.1.length:Int)≤(30:Int)))with
|true=>
 match dP (x.1,mi,())with
 |none=>none
 |some v1=>
 some ((!v1.1),())
|false=>
 some (false,())
noncomputable def Ql:Spec:=⟨_,ae,.unit,rfl,pU⟩
theorem Oh:FnOK G0 Tryz.prog 69 Ql:=ap ao (sg qI (sg JY (aJ))) Tryz.func69
noncomputable def vg(x:Ty.T aeK):Option (Ty.T ae):=
match bj (x.1.1,(0:Int),(255:Int),())with
|none=>none
|some v1=>
match v1.1 with
|true=>
 match bj (x.1.2.1,(0:Int),(7:Int),())with
 |none=>none
 |some v2=>
 match v2.1 with
 |true=>
  match pU (x.1.2.2.1,())with
  |none=>none
  |some v3=>
  match v3.1 with
  |true=>
   match pU (x.1.2.2.2.1,())with
   |none=>none
   |some v4=>
   some (v4.1,())
  |false=>
   some (false,())
 |false=>
  some (false,())
|false=>
 some (false,())
noncomputable def UE:Spec:=⟨_,ae,.unit,rfl,vg⟩
theorem Sx:FnOK G0 Tryz.prog 19 UE:=ap ao (sg ci (sg Oh (aJ))) Tryz.func19
noncomputable def n7(x:Ty.T aeK):Option (Ty.T ae):=
match vg ((x.1.1,x.1.2.1,x.1.2.2.1,x.1.2.2.2.1,()),())with
|none=>none
|some v1=>
some ((!v1.1),())
noncomputable def JZ:Spec:=⟨_,ae,.unit,rfl,n7⟩
theorem HY:FnOK G0 Tryz.prog 128 JZ:=ap ao (sg Sx (aJ)) Tryz.func128
noncomputable def lv(x:Ty.T ad0):Option (Ty.T et):=
match dr (x.1,x.2.1,())with
|none=>none
|some v1=>
match(v1.1 != (0:Int))with
|true=>
 some (v1.1,())
|false=>
 match(decide ((x.2.2.1.length:Int)>(40:Int)))with
 |true=>
  some ((3:Int),())
 |false=>
  match fV (x.2.2.1,n7,())with
  |none=>none
  |some v2=>
  match v2.1 with
  |true=>
   some ((5:Int),())
  |false=>
   some ((0:Int),())
noncomputable def Bx:Spec:=⟨_,et,.unit,rfl,lv⟩
theorem yG:FnOK G0 Tryz.prog 64 Bx:=ap ao (sg ju (sg rP (sg HY (aJ)))) Tryz.func64
abbrev abt:Ty:=(.pair (.int .i64) (.pair (.int .i64) (.pair (.list (.int .i64)) an)))
noncomputable def cO(x:(Ty.T abt)):Option ((Ty.T abt) ⊕ ((Ty.T .unit) ⊕ (Ty.T ae))):=
match(decide (x.2.2.2.2.1<x.2.2.2.1))with
|true=>
 aa (aq x.2.2.1 x.2.2.2.2.1) fun v1=>
 match(decide (v1<x.1))with
 |true=>
  some (.inr (.inr (false,())))
 |false=>
  match(decide (v1>x.2.1))with
  |true=>
   some (.inr (.inr (false,())))
  |false=>
   some (.inl (x.1,x.2.1,x.2.2.1,x.2.2.2.1,(IntKind.i64.wrap (x.2.2.2.2.1+(1:Int))),()))
|false=>
 some (.inr (.inl (())))
noncomputable def iG(x:Ty.T y_6):Option (Ty.T ae):=
match ag cO (x.2.1,x.2.2.1,x.1,(x.1.length:Int),(0:Int),())with
|none=>none
|some (.inl v2)=>
 some (true,())
|some (.inr v3)=>
 some (v3.1,())
noncomputable def Oi:Spec:=⟨_,ae,.unit,rfl,iG⟩
noncomputable def yH:FuncId→Option Spec:=bh []
theorem HZ:∀f s,yH f=some s→FnOK G0 Tryz.prog f s:=aF trivial
def wM:aO:=⟨[1,2,9,10,11],abt,0,[],.unit,[6],ae⟩
noncomputable def yI:List ay:=[wM.spec cO]
theorem FJ:bc bd E0 yH (ba Tryz.f175 yI) Tryz.f175 0 wM cO:=fun x=>by kernel_rfl
theorem qJ:FnOK G0 Tryz.prog 175 Oi:=aH ao HZ Tryz.func175 yI (by kernel_rfl) (by exact⟨(FJ).lok,trivial⟩) fun x=>by kernel_rfl
noncomputable def ow(x:Ty.T Fn):Option (Ty.T ae):=
match(decide ((x.1.length:Int)≤(8192:Int)))with
|true=>
 match iG (x.1,(0:Int),(1:Int),())with
 |none=>none
 |some v1=>
 some (v1.1,())
|false=>
 some (false,())
noncomputable def J0:Spec:=⟨_,ae,.unit,rfl,ow⟩
theorem q9:FnOK G0 Tryz.prog 116 J0:=ap ao (sg qJ (aJ)) Tryz.func116
noncomputable def sD(x:Ty.T (.pair ac (.pair ab (.pair .bool .unit)))):Option (Ty.T et):=
match dr ((x.1.1,x.1.2.1,x.1.2.2.1,x.1.2.2.2.1,()),(x.2.1.1,x.2.1.2.1,x.2.1.2.2.1,x.2.1.2.2.2.1,x.2.1.2.2.2.2.1,()),())with
|none=>none
|some v1=>
match(v1.1 != (0:Int))with
|true=>
 some (v1.1,())
|false=>
 match(!x.2.2.1)with
 |true=>
  some ((2:Int),())
 |false=>
  some ((0:Int),())
noncomputable def J1:Spec:=⟨_,et,.unit,rfl,sD⟩
theorem H0:FnOK G0 Tryz.prog 164 J1:=ap ao (sg ju (aJ)) Tryz.func164
noncomputable def Ma(x:Ty.T ae):Option (Ty.T et):=
match x.1 with
|true=>
 some ((1:Int),())
|false=>
 some ((0:Int),())
noncomputable def Nw:Spec:=⟨_,et,.unit,rfl,Ma⟩
theorem UF:FnOK G0 Tryz.prog 320 Nw:=ap ao aJ Tryz.func320
abbrev aaX:Ty:=afp
noncomputable def cI(x:(Ty.T aaX)):Option ((Ty.T aaX) ⊕ ((Ty.T et) ⊕ (Ty.T .unit))):=
match(decide (x.2.2.2.1≤x.2.1))with
|true=>
 match(decide (x.2.2.2.1<(0:Int)))with
 |true=>
  some (.inl (x.1,x.2.1,(IntKind.i64.wrap (x.2.2.1+(1:Int))),(IntKind.i64.wrap (x.2.2.2.1+(1:Int))),()))
 |false=>
  aa (aq x.1 x.2.2.2.1) fun v1=>
  match(v1==(1:Int))with
  |true=>
   some (.inl (x.1,x.2.1,(IntKind.i64.wrap (x.2.2.1+(1:Int))),(IntKind.i64.wrap (x.2.2.2.1+(1:Int))),()))
  |false=>
   some (.inl (x.1,x.2.1,x.2.2.1,(IntKind.i64.wrap (x.2.2.2.1+(1:Int))),()))
|false=>
 some (.inr (.inl (x.2.2.1,())))
noncomputable def mS(x:Ty.T y_9):Option (Ty.T et):=
match ag cI (x.1,x.2.1,(0:Int),(IntKind.i64.wrap ((IntKind.i64.wrap (x.2.1-(5:Int)))+(1:Int))),())with
|none=>none
|some (.inl v2)=>
 some (v2.1,())
|some (.inr v4)=>
 none
noncomputable def vh:Spec:=⟨_,et,.unit,rfl,mS⟩
noncomputable def tu:FuncId→Option Spec:=bh []
theorem CA:∀f s,tu f=some s→FnOK G0 Tryz.prog f s:=aF trivial
def rS:aO:=⟨[0,1,5,6],aaX,0,[5],et,[],.unit⟩
noncomputable def tv:List ay:=[rS.spec cI]
theorem Aj:bc bd E0 tu (ba Tryz.f321 tv) Tryz.f321 0 rS cI:=fun x=>by kernel_rfl
theorem FK:FnOK G0 Tryz.prog 321 vh:=aH ao CA Tryz.func321 tv (by kernel_rfl) (by exact⟨(Aj).lok,trivial⟩) fun x=>by kernel_rfl
abbrev ac4:Ty:=agu
noncomputable def kP(x:(Ty.T ac4)):Option ((Ty.T ac4) ⊕ ((Ty.T la) ⊕ (Ty.T .unit))):=
match(decide (x.2.2.2.1<x.2.2.1))with
|true=>
 match mS (x.1,x.2.2.2.1,())with
 |none=>none
 |some v1=>
 match Ma ((decide ((IntKind.i64.wrap ((2:Int)*v1.1))>(5:Int))),())with
 |none=>none
 |some v2=>
 aA (x.2.1.length+ [v2.1].length) (
  some (.inl (x.1,(x.2.1++ [v2.1]),x.2.2.1,(IntKind.i64.wrap (x.2.2.2.1+(1:Int))),())))
|false=>
 some (.inr (.inl (x.2.1,())))
noncomputable def J2(x:Ty.T Fn):Option (Ty.T la):=
match ag kP (x.1,[],(x.1.length:Int),(0:Int),())with
|none=>none
|some (.inl v3)=>
 some (v3.1,())
|some (.inr v5)=>
 none
noncomputable def Xs:Spec:=⟨_,la,.unit,rfl,J2⟩
noncomputable def Nx:FuncId→Option Spec:=bh [(320,Nw),(321,vh)]
theorem Sy:∀f s,Nx f=some s→FnOK G0 Tryz.prog f s:=aF ⟨UF,FK,trivial⟩
def J3:aO:=⟨[0,3,7,8],ac4,0,[3],la,[],.unit⟩
noncomputable def Ny:List ay:=[J3.spec kP]
theorem Qm:bc bd E0 Nx (ba Tryz.f301 Ny) Tryz.f301 0 J3 kP:=fun x=>by kernel_rfl
theorem V1:FnOK G0 Tryz.prog 301 Xs:=aH ao Sy Tryz.func301 Ny (by kernel_rfl) (by exact⟨(Qm).lok,trivial⟩) fun x=>by kernel_rfl
noncomputable def n8(x:Ty.T Fn):Option (Ty.T y_5):=
match ow (x.1,())with
|none=>none
|some v1=>
match(!v1.1)with
|true=>
 some ([],(1:Int),())
|false=>
 match J2 (x.1,())with
 |none=>none
 |some v2=>
 some (v2.1,(0:Int),())
noncomputable def J4:Spec:=⟨_,y_5,.unit,rfl,n8⟩
theorem H1:FnOK G0 Tryz.prog 271 J4:=ap ao (sg q9 (sg V1 (aJ))) Tryz.func271
noncomputable def cl(x:(Ty.T aeN)):Option ((Ty.T aeN) ⊕ ((Ty.T an) ⊕ (Ty.T et))):=
match(decide (x.2.1<(x.1.1.length:Int)))with
|true=>
 aa (aq x.1.1 x.2.1) fun v1=>
 match(v1==x.2.2.1)with
 |true=>
  some (.inr (.inr (x.2.1,())))
 |false=>
  some (.inl (x.1,(IntKind.i64.wrap (x.2.1+(1:Int))),x.2.2.1,()))
|false=>
 some (.inr (.inl (x.2.1,x.2.2.1,())))
noncomputable def bC(x:Ty.T aeN):Option (Ty.T et):=
match ag cl (x.1,(IntKind.i64.wrap (x.2.1+(1:Int))),x.2.2.1,())with
|none=>none
|some (.inl v2)=>
 match(v2.2.1==(1:Int))with
 |true=>
  some (v2.1,())
 |false=>
  some ((-1:Int),())
|some (.inr v3)=>
 some (v3.1,())
noncomputable def nG:Spec:=⟨_,et,.unit,rfl,bC⟩
noncomputable def nd:FuncId→Option Spec:=bh []
theorem tU:∀f s,nd f=some s→FnOK G0 Tryz.prog f s:=aF trivial
def mj:aO:=⟨[0,1,2],aeN,0,[1,2],an,[6],et⟩
noncomputable def nf:List ay:=[mj.spec cl]
theorem sE:bc bd E0 nd (ba Tryz.f333 nf) Tryz.f333 0 mj cl:=fun x=>by kernel_rfl
theorem ng:FnOK G0 Tryz.prog 333 nG:=aH ao tU Tryz.func333 nf (by kernel_rfl) (by exact⟨(sE).lok,trivial⟩) fun x=>by kernel_rfl
noncomputable def vi(x:Ty.T et):Option (Ty.T et):=
some ((IntKind.i64.wrap (Int.tdiv (IntKind.i64.wrap (x.1+(4:Int))) (8:Int))),())
noncomputable def Mb:Spec:=⟨_,et,.unit,rfl,vi⟩
theorem J5:FnOK G0 Tryz.prog 334 Mb:=ap ao aJ Tryz.func334
noncomputable def vj(x:Ty.T et):Option (Ty.T ae):=
match bj (x.1,(3:Int),(15:Int),())with
|none=>none
|some v1=>
some (v1.1,())
noncomputable def Mc:Spec:=⟨_,ae,.unit,rfl,vj⟩
theorem J6:FnOK G0 Tryz.prog 335 Mc:=ap ao (sg ci (aJ)) Tryz.func335
noncomputable def gm(x:Ty.T afo):Option (Ty.T et):=
aa x.1 fun v1=>
match(decide (x.2.1≥(v1.1.length:Int)))with
|true=>
 some ((1:Int),())
|false=>
 aa x.1 fun v2=>
 aa (aq v2.1 x.2.1) fun v3=>
 some (v3,())
noncomputable def kp:Spec:=⟨_,et,.unit,rfl,gm⟩
theorem nH:FnOK G0 Tryz.prog 304 kp:=ap ao aJ Tryz.func304
abbrev GA:Ty:=agD
noncomputable def bl(x:(Ty.T GA)):Option ((Ty.T GA) ⊕ ((Ty.T .unit) ⊕ (Ty.T GA))):=
aA (x.1.2.2.1.length+ [x.2.1].length) (
 match gm ((some (x.1.1,x.1.2.1,(x.1.2.2.1++ [x.2.1]),())),(IntKind.i64.wrap (x.2.1+(76:Int))),())with
 |none=>none
 |some v1=>
 match(v1.1==(0:Int))with
 |true=>
  some (.inr (.inr ((x.1.1,x.1.2.1,(x.1.2.2.1++ [x.2.1]),()),(IntKind.i64.wrap (x.2.1+(72:Int))),())))
 |false=>
  match bC ((x.1.1,x.1.2.1,(x.1.2.2.1++ [x.2.1]),()),(IntKind.i64.wrap (x.2.1+(76:Int))),(0:Int),())with
  |none=>none
  |some v2=>
  match(decide (v2.1<(0:Int)))with
  |true=>
   some (.inr (.inr ((x.1.1,x.1.2.1,(x.1.2.2.1++ [x.2.1]),()),(-1:Int),())))
  |false=>
   match(decide (v2.1>(IntKind.i64.wrap ((IntKind.i64.wrap (x.2.1+(76:Int)))+(8:Int)))))with
   |true=>
    some (.inr (.inr ((x.1.1,x.1.2.1,(x.1.2.2.1++ [x.2.1]),()),(-1:Int),())))
   |false=>
    some (.inl ((x.1.1,x.1.2.1,(x.1.2.2.1++ [x.2.1]),()),v2.1,())))
noncomputable def cP(x:Ty.T agD):Option (Ty.T af0):=
match ag bl ((x.1.1,x.1.2.1,x.1.2.2.1,()),x.2.1,())with
|none=>none
|some (.inl v3)=>
 none
|some (.inr v4)=>
 some (v4.2.1,(v4.1.1,v4.1.2.1,v4.1.2.2.1,()),())
noncomputable def xI:Spec:=⟨_,et,afw,rfl,cP⟩
noncomputable def nh:FuncId→Option Spec:=bh [(304,kp),(333,nG)]
theorem tV:∀f s,nh f=some s→FnOK G0 Tryz.prog f s:=aF ⟨nH,ng,trivial⟩
def mk:aO:=⟨[0,1],GA,999999,[],.unit,[0,4],GA⟩
noncomputable def ni:List ay:=[mk.spec bl]
theorem sF:bc bd E0 nh (ba Tryz.f336 ni) Tryz.f336 0 mk bl:=fun x=>by kernel_rfl
theorem wb:FnOK G0 Tryz.prog 336 xI:=aH ao tV Tryz.func336 ni (by kernel_rfl) (by exact⟨(sF).lok,trivial⟩) fun x=>by kernel_rfl
noncomputable def jX(x:Ty.T afw):Option (Ty.T af0):=
match bC ((x.1.1,x.1.2.1,x.1.2.2.1,()),(-1:Int),(0:Int),())with
|none=>none
|some v1=>
match(decide (v1.1<(0:Int)))with
|true=>
 some ((4:Int),(x.1.1,x.1.2.1,x.1.2.2.1,()),())
|false=>
 match bC ((x.1.1,x.1.2.1,x.1.2.2.1,()),v1.1,(1:Int),())with
 |none=>none
 |some v2=>
 match vi ((IntKind.i64.wrap (v2.1-v1.1)),())with
 |none=>none
 |some v3=>
 match vj (v3.1,())with
 |none=>none
 |some v4=>
 match(!v4.1)with
 |true=>
  some ((6:Int),(x.1.1,v3.1,x.1.2.2.1,()),())
 |false=>
  match bC ((x.1.1,v3.1,x.1.2.2.1,()),v2.1,(0:Int),())with
  |none=>none
  |some v5=>
  match(decide (v5.1<(0:Int)))with
  |true=>
   some ((6:Int),(x.1.1,v3.1,x.1.2.2.1,()),())
  |false=>
   match(decide ((IntKind.i64.wrap (v5.1-v2.1))>(19:Int)))with
   |true=>
    some ((6:Int),(x.1.1,v3.1,x.1.2.2.1,()),())
   |false=>
    match(decide ((IntKind.i64.wrap (v5.1-v2.1))<(5:Int)))with
    |true=>
     some ((6:Int),(x.1.1,v3.1,x.1.2.2.1,()),())
    |false=>
     match((IntKind.i64.wrap (v5.1-v2.1))==(12:Int))with
     |true=>
      some ((6:Int),(x.1.1,v3.1,x.1.2.2.1,()),())
     |false=>
      match(decide ((IntKind.i64.wrap (v5.1-v2.1))≥(13:Int)))with
      |true=>
       match cP ((x.1.1,v3.1,x.1.2.2.1,()),v5.1,())with
       |none=>none
       |some v6=>
       match(decide (v6.1<(0:Int)))with
       |true=>
        some ((6:Int),(v6.2.1.1,v6.2.1.2.1,v6.2.1.2.2.1,()),())
       |false=>
        match bC ((v6.2.1.1,v6.2.1.2.1,v6.2.1.2.2.1,()),(IntKind.i64.wrap (v6.1+(11:Int))),(0:Int),())with
        |none=>none
        |some v7=>
        match(decide (v7.1≥(0:Int)))with
        |true=>
         some ((6:Int),(v6.2.1.1,v6.2.1.2.1,v6.2.1.2.2.1,()),())
        |false=>
         some ((0:Int),(v6.2.1.1,v6.2.1.2.1,v6.2.1.2.2.1,()),())
      |false=>
       match bC ((x.1.1,v3.1,x.1.2.2.1,()),(IntKind.i64.wrap (v5.1+(11:Int))),(0:Int),())with
       |none=>none
       |some v8=>
       match(decide (v8.1≥(0:Int)))with
       |true=>
        some ((6:Int),(x.1.1,v3.1,x.1.2.2.1,()),())
       |false=>
        some ((0:Int),(x.1.1,v3.1,x.1.2.2.1,()),())
noncomputable def CB:Spec:=⟨_,et,afw,rfl,jX⟩
theorem Ak:FnOK G0 Tryz.prog 322 CB:=ap ao (sg ng (sg J5 (sg J6 (sg wb (aJ))))) Tryz.func322
noncomputable def n9(x:Ty.T Fn):Option (Ty.T afo):=
match ow (x.1,())with
|none=>none
|some v1=>
match(!v1.1)with
|true=>
 some (none,(1:Int),())
|false=>
 match jX ((x.1,(0:Int),[],()),())with
 |none=>none
 |some v2=>
 match(v2.1 != (0:Int))with
 |true=>
  some (none,v2.1,())
 |false=>
  some ((some (v2.2.1.1,v2.2.1.2.1,v2.2.1.2.2.1,())),(0:Int),())
noncomputable def wN:Spec:=⟨_,afo,.unit,rfl,n9⟩
theorem H2:FnOK G0 Tryz.prog 302 wN:=ap ao (sg q9 (sg Ak (aJ))) Tryz.func302
abbrev acd:Ty:=afu
noncomputable def jv(x:(Ty.T acd)):Option ((Ty.T acd) ⊕ ((Ty.T la) ⊕ (Ty.T .unit))):=
match(decide (x.2.2.1<(9:Int)))with
|true=>
 aA (x.2.1.length+ [(IntKind.i64.wrap ((IntKind.i64.wrap (x.1+(IntKind.i64.wrap ((8:Int)*x.2.2.1))))+(12:Int)))].length) (
  some (.inl (x.1,(x.2.1++ [(IntKind.i64.wrap ((IntKind.i64.wrap (x.1+(IntKind.i64.wrap ((8:Int)*x.2.2.1))))+(12:Int)))]),(IntKind.i64.wrap (x.2.2.1+(1:Int))),())))
|false=>
 some (.inr (.inl (x.2.1,())))
noncomputable def wO(x:Ty.T et):Option (Ty.T la):=
match ag jv (x.1,[],(0:Int),())with
|none=>none
|some (.inl v1)=>
 some (v1.1,())
|some (.inr v3)=>
 none
noncomputable def Gv:Spec:=⟨_,la,.unit,rfl,wO⟩
noncomputable def DL:FuncId→Option Spec:=bh []
theorem Md:∀f s,DL f=some s→FnOK G0 Tryz.prog f s:=aF trivial
def Bz:aO:=⟨[0,3,6],acd,0,[3],la,[],.unit⟩
noncomputable def DM:List ay:=[Bz.spec jv]
theorem J7:bc bd E0 DL (ba Tryz.f303 DM) Tryz.f303 0 Bz jv:=fun x=>by kernel_rfl
theorem Qn:FnOK G0 Tryz.prog 303 Gv:=aH ao Md Tryz.func303 DM (by kernel_rfl) (by exact⟨(J7).lok,trivial⟩) fun x=>by kernel_rfl
abbrev aaY:Ty:=(.pair (.nptr dG) (.pair (.own 2 (.int .i64)) (.pair (.int .i64) (.pair (.list (.int .i64)) (.pair (.int .i64) (.pair (.int .i64) (.pair (.own 2 (.int .i64)) an)))))))
abbrev ab0:Ty:=(.pair (.nptr dG) (.pair (.own 2 (.int .i64)) (.pair (.int .i64) (.pair (.list (.int .i64)) an))))
noncomputable def d5(x:(Ty.T aaY)):Option ((Ty.T aaY) ⊕ ((Ty.T ab0) ⊕ (Ty.T .unit))):=
match(decide (x.2.2.2.2.2.2.2.2.1<x.2.2.2.2.2.2.2.1))with
|true=>
 aa (aq x.2.2.2.2.2.2.1 x.2.2.2.2.2.2.2.2.1) fun _=>
 match x.2.2.2.2.2.2.1[x.2.2.2.2.2.2.2.2.1.toNat]? with
 |none=>none
 |some v7=>
 match gm (x.1,v7,())with
 |none=>none
 |some v8=>
 some (.inl (x.1,x.2.1,(IntKind.i64.wrap ((IntKind.i64.wrap ((2:Int)*x.2.2.1))+v8.1)),x.2.2.2.1,x.2.2.2.2.1,x.2.2.2.2.2.1,x.2.2.2.2.2.2.1,x.2.2.2.2.2.2.2.1,(IntKind.i64.wrap (x.2.2.2.2.2.2.2.2.1+(1:Int))),()))
|false=>
 some (.inr (.inl (x.1,x.2.1,x.2.2.1,x.2.2.2.1,x.2.2.2.2.1,x.2.2.2.2.2.1,())))
abbrev abd:Ty:=(.pair (.nptr dG) (.pair (.own 2 (.int .i64)) (.pair (.list (.int .i64)) an)))
noncomputable def eS(x:(Ty.T abd)):Option ((Ty.T abd) ⊕ ((Ty.T la) ⊕ (Ty.T .unit))):=
match(decide (x.2.2.2.2.1<x.2.2.2.1))with
|true=>
 aa (aq x.2.2.1 x.2.2.2.2.1) fun v3=>
 match wO (v3,())with
 |none=>none
 |some v4=>
 aa (aL v4.1.length none (some (.dat (.int .i64) (8:Int)))) fun v5=>
 match ag d5 (x.1,x.2.1,(0:Int),x.2.2.1,x.2.2.2.1,x.2.2.2.2.1,(List.take v5.2 v4.1),((List.take v5.2 v4.1).length:Int),(0:Int),())with
 |none=>none
 |some (.inl v6)=>
  aA (v6.2.1.length+ [v6.2.2.1].length) (
   some (.inl (v6.1,(v6.2.1++ [v6.2.2.1]),v6.2.2.2.1,v6.2.2.2.2.1,(IntKind.i64.wrap (v6.2.2.2.2.2.1+(1:Int))),())))
 |some (.inr v8)=>
  some (.inr (.inr (())))
|false=>
 some (.inr (.inl (x.2.1,())))
noncomputable def oa(x:Ty.T Fn):Option (Ty.T y_5):=
match n9 (x.1,())with
|none=>none
|some v1=>
match(v1.2.1 != (0:Int))with
|true=>
 some ([],v1.2.1,())
|false=>
 aa v1.1 fun v2=>
 match ag eS (v1.1,[],v2.2.2.1,(v2.2.2.1.length:Int),(0:Int),())with
 |none=>none
 |some (.inl v9)=>
  some (v9.1,(0:Int),())
 |some (.inr v11)=>
  none
noncomputable def J8:Spec:=⟨_,y_5,.unit,rfl,oa⟩
noncomputable def oz:FuncId→Option Spec:=bh [(302,wN),(303,Gv),(304,kp)]
theorem DN:∀f s,oz f=some s→FnOK G0 Tryz.prog f s:=aF ⟨H2,Qn,nH,trivial⟩
def tw:aO:=⟨[4,6,24,25,26],abd,0,[6],la,[],.unit⟩
def rT:aO:=⟨[4,6,9,24,25,26,32,33,34],aaY,2,[4,6,9,24,25,26],ab0,[],.unit⟩
noncomputable def oA:List ay:=[tw.spec eS,rT.spec d5]
theorem CC:bc bd E0 oz (ba Tryz.f272 oA) Tryz.f272 0 tw eS:=fun x=>by kernel_rfl
theorem Al:bc bd E0 oz (ba Tryz.f272 oA) Tryz.f272 1 rT d5:=fun x=>by kernel_rfl
theorem H3:FnOK G0 Tryz.prog 272 J8:=aH ao DN Tryz.func272 oA (by kernel_rfl) (by exact⟨(CC).lok,(Al).lok,trivial⟩) fun x=>by kernel_rfl
noncomputable def lF(x:Ty.T Fn):Option (Ty.T y_5):=
match n8 (x.1,())with
|none=>none
|some v1=>
match(v1.2.1 != (0:Int))with
|true=>
 some ([],v1.2.1,())
|false=>
 match oa (v1.1,())with
 |none=>none
 |some v2=>
 some (v2.1,v2.2.1,())
noncomputable def FL:Spec:=⟨_,y_5,.unit,rfl,lF⟩
theorem DP:FnOK G0 Tryz.prog 222 FL:=ap ao (sg H1 (sg H3 (aJ))) Tryz.func222
noncomputable def az(x:Ty.T acQ):Option (Ty.T ads):=
match mQ (x.1.2.2.2.1,x.2.1.2.1,x.2.1.2.2.1,x.2.1.2.2.2.1,())with
|none=>none
|some v1=>
aa (aq x.1.2.2.2.1 v1.1) fun v2=>
some ((v2.2.2.2.1.1,v2.2.2.2.1.2.1,v2.2.2.2.1.2.2.1,v2.2.2.2.1.2.2.2.1,v2.2.2.2.1.2.2.2.2.1,()),())
noncomputable def nq:Spec:=⟨_,ads,.unit,rfl,az⟩
theorem cQ:FnOK G0 Tryz.prog 73 nq:=ap ao (sg Bm (aJ)) Tryz.func73
noncomputable def vk(x:Ty.T afm):Option (Ty.T ae):=
match(x.2.1.1==x.1.2.1)with
|true=>
 match((x.2.1.2.2.2.1.length:Int)==x.1.2.2.1)with
 |true=>
  match(x.2.1.2.1==(0:Int))with
  |true=>
   some (true,())
  |false=>
   some (x.1.2.2.2.2.1,())
 |false=>
  some (false,())
|false=>
 some (false,())
noncomputable def Xt:Spec:=⟨_,ae,.unit,rfl,vk⟩
theorem Nz:FnOK G0 Tryz.prog 213 Xt:=ap ao aJ Tryz.func213
noncomputable def kq(x:Ty.T et):Option (Ty.T la):=
some ([(Int.fdiv x.1 (2^min (16:Int).toNat IntKind.i64.bits)),(bits BinOp.and .i64 (Int.fdiv x.1 (2^min (8:Int).toNat IntKind.i64.bits)) (255:Int)),(bits BinOp.and .i64 x.1 (255:Int))],())
noncomputable def Me:Spec:=⟨_,la,.unit,rfl,kq⟩
theorem wP:FnOK G0 Tryz.prog 173 Me:=ap ao aJ Tryz.func173
noncomputable def fH(x:(Ty.T adE)):Option ((Ty.T adE) ⊕ ((Ty.T la) ⊕ (Ty.T .unit))):=
match(decide (x.2.2.1≥(0:Int)))with
|true=>
 if x.2.2.1<0 then none else
 aA (x.1.length+ [(bits BinOp.and .i64 (Int.fdiv x.2.1 (2^min x.2.2.1.toNat IntKind.i64.bits)) (1:Int))].length) (
  some (.inl ((x.1++ [(bits BinOp.and .i64 (Int.fdiv x.2.1 (2^min x.2.2.1.toNat IntKind.i64.bits)) (1:Int))]),x.2.1,(IntKind.i64.wrap (x.2.2.1-(1:Int))),())))
|false=>
 some (.inr (.inl (x.1,())))
noncomputable def bH(x:Ty.T adE):Option (Ty.T la):=
match ag fH (x.1,x.2.1,(IntKind.i64.wrap (x.2.2.1-(1:Int))),())with
|none=>none
|some (.inl v1)=>
 some (v1.1,())
|some (.inr v3)=>
 none
noncomputable def oB:Spec:=⟨_,la,.unit,rfl,bH⟩
noncomputable def tx:FuncId→Option Spec:=bh []
theorem CD:∀f s,tx f=some s→FnOK G0 Tryz.prog f s:=aF trivial
def rU:aO:=⟨[0,1,7],adE,0,[0],la,[],.unit⟩
noncomputable def tz:List ay:=[rU.spec fH]
theorem Am:bc bd E0 tx (ba Tryz.f171 tz) Tryz.f171 0 rU fH:=fun x=>by kernel_rfl
theorem nr:FnOK G0 Tryz.prog 171 oB:=aH ao CD Tryz.func171 tz (by kernel_rfl) (by exact⟨(Am).lok,trivial⟩) fun x=>by kernel_rfl
noncomputable def jL(x:Ty.T y_7):Option (Ty.T la):=
match bH ([],x.1.1,(16:Int),())with
|none=>none
|some v1=>
match bH (v1.1,x.1.2.1,(4:Int),())with
|none=>none
|some v2=>
match bH (v2.1,x.1.2.2.1,(4:Int),())with
|none=>none
|some v3=>
match bH (v3.1,x.1.2.2.2.1,(8:Int),())with
|none=>none
|some v4=>
match bH (v4.1,x.1.2.2.2.2.1,(32:Int),())with
|none=>none
|some v5=>
some (v5.1,())
noncomputable def Oj:Spec:=⟨_,la,.unit,rfl,jL⟩
theorem yJ:FnOK G0 Tryz.prog 228 Oj:=ap ao (sg nr (aJ)) Tryz.func228
noncomputable def lh(x:Ty.T .unit):Option (Ty.T aeJ):=
some (((24:Int),(6122955:Int),()),())
noncomputable def J9:Spec:=⟨_,aeJ,.unit,rfl,lh⟩
theorem H4:FnOK G0 Tryz.prog 230 J9:=ap ao aJ Tryz.func230
abbrev abJ:Ty:=(.pair (.int .i64) (.pair (.box an) (.pair (.list (.int .i64)) an)))
noncomputable def eA(x:(Ty.T abJ)):Option ((Ty.T abJ) ⊕ ((Ty.T et) ⊕ (Ty.T .unit))):=
match(decide (x.2.2.2.2.1<x.2.2.2.1))with
|true=>
 aa (aq x.2.2.1 x.2.2.2.2.1) fun v1=>
 if(IntKind.i64.wrap (x.2.1.1-(1:Int)))<0 then none else
 if x.2.1.1<0 then none else
 match((bits BinOp.xor .i64 v1 (Int.fdiv x.1 (2^min (IntKind.i64.wrap (x.2.1.1-(1:Int))).toNat IntKind.i64.bits)))==(1:Int))with
 |true=>
  some (.inl ((bits BinOp.xor .i64 (bits BinOp.and .i64 (IntKind.i64.wrap (x.1*2^min (1:Int).toNat IntKind.i64.bits)) (IntKind.i64.wrap ((IntKind.i64.wrap ((1:Int)*2^min x.2.1.1.toNat IntKind.i64.bits))-(1:Int)))) x.2.1.2.1),(x.2.1.1,x.2.1.2.1,()),x.2.2.1,x.2.2.2.1,(IntKind.i64.wrap (x.2.2.2.2.1+(1:Int))),()))
 |false=>
  some (.inl ((bits BinOp.and .i64 (IntKind.i64.wrap (x.1*2^min (1:Int).toNat IntKind.i64.bits)) (IntKind.i64.wrap ((IntKind.i64.wrap ((1:Int)*2^min x.2.1.1.toNat IntKind.i64.bits))-(1:Int)))),(x.2.1.1,x.2.1.2.1,()),x.2.2.1,x.2.2.2.1,(IntKind.i64.wrap (x.2.2.2.2.1+(1:Int))),()))
|false=>
 some (.inr (.inl (x.1,())))
noncomputable def mU(x:Ty.T afU):Option (Ty.T et):=
match ag eA (x.2.1,(x.1.1,x.1.2.1,()),x.2.2.1,(x.2.2.1.length:Int),(0:Int),())with
|none=>none
|some (.inl v2)=>
 some (v2.1,())
|some (.inr v4)=>
 none
noncomputable def Qo:Spec:=⟨_,et,.unit,rfl,mU⟩
noncomputable def BA:FuncId→Option Spec:=bh []
theorem Ka:∀f s,BA f=some s→FnOK G0 Tryz.prog f s:=aF trivial
def yK:aO:=⟨[1,3,10,11,12],abJ,0,[1],et,[],.unit⟩
noncomputable def BC:List ay:=[yK.spec eA]
theorem H5:bc bd E0 BA (ba Tryz.f231 BC) Tryz.f231 0 yK eA:=fun x=>by kernel_rfl
theorem Ok:FnOK G0 Tryz.prog 231 Qo:=aH ao Ka Tryz.func231 BC (by kernel_rfl) (by exact⟨(H5).lok,trivial⟩) fun x=>by kernel_rfl
abbrev acG:Ty:=aft
noncomputable def iY(x:(Ty.T acG)):Option ((Ty.T acG) ⊕ ((Ty.T la) ⊕ (Ty.T .unit))):=
match(decide (x.2.2.2.1<x.2.2.1))with
|true=>
 aa (aq x.2.1 x.2.2.2.1) fun v1=>
 match bH (x.1,v1,(8:Int),())with
 |none=>none
 |some v2=>
 some (.inl (v2.1,x.2.1,x.2.2.1,(IntKind.i64.wrap (x.2.2.2.1+(1:Int))),()))
|false=>
 some (.inr (.inl (x.1,())))
noncomputable def oC(x:Ty.T Fn):Option (Ty.T la):=
match ag iY ([],x.1,(x.1.length:Int),(0:Int),())with
|none=>none
|some (.inl v3)=>
 some (v3.1,())
|some (.inr v5)=>
 none
noncomputable def UG:Spec:=⟨_,la,.unit,rfl,oC⟩
noncomputable def Gw:FuncId→Option Spec:=bh [(171,oB)]
theorem Ol:∀f s,Gw f=some s→FnOK G0 Tryz.prog f s:=aF ⟨nr,trivial⟩
def DQ:aO:=⟨[3,7,8,9],acG,0,[3],la,[],.unit⟩
noncomputable def Gx:List ay:=[DQ.spec iY]
theorem Mf:bc bd E0 Gw (ba Tryz.f232 Gx) Tryz.f232 0 DQ iY:=fun x=>by kernel_rfl
theorem Gy:FnOK G0 Tryz.prog 232 UG:=aH ao Ol Tryz.func232 Gx (by kernel_rfl) (by exact⟨(Mf).lok,trivial⟩) fun x=>by kernel_rfl
noncomputable def il(x:Ty.T afY):Option (Ty.T et):=
match(x.1==(0:Int))with
|true=>
 match lh (())with
 |none=>none
 |some v1=>
 match jL ((x.2.2.2.1.1,x.2.2.2.1.2.1,x.2.2.2.1.2.2.1,x.2.2.2.1.2.2.2.1,x.2.2.2.1.2.2.2.2.1,()),())with
 |none=>none
 |some v2=>
 match mU (v1.1,x.2.2.1,v2.1,())with
 |none=>none
 |some v3=>
 match lh (())with
 |none=>none
 |some v4=>
 match oC (x.2.1,())with
 |none=>none
 |some v5=>
 match mU (v4.1,v3.1,v5.1,())with
 |none=>none
 |some v6=>
 some (v6.1,())
|false=>
 match lh (())with
 |none=>none
 |some v7=>
 match oC (x.2.1,())with
 |none=>none
 |some v8=>
 match mU (v7.1,x.2.2.1,v8.1,())with
 |none=>none
 |some v9=>
 some (v9.1,())
noncomputable def Kb:Spec:=⟨_,et,.unit,rfl,il⟩
theorem vl:FnOK G0 Tryz.prog 174 Kb:=ap ao (sg yJ (sg H4 (sg Ok (sg Gy (aJ))))) Tryz.func174
noncomputable def ml(x:Ty.T Fn):Option (Ty.T ae):=
match(decide ((x.1.length:Int)≤(1024:Int)))with
|true=>
 match iG (x.1,(0:Int),(255:Int),())with
 |none=>none
 |some v1=>
 some (v1.1,())
|false=>
 some (false,())
noncomputable def Sz:Spec:=⟨_,ae,.unit,rfl,ml⟩
theorem DR:FnOK G0 Tryz.prog 263 Sz:=ap ao (sg qJ (aJ)) Tryz.func263
abbrev aaN:Ty:=(.pair (.list (.int .i64)) (.pair (.list (.int .i64)) an))
noncomputable def cT(x:(Ty.T aaN)):Option ((Ty.T aaN) ⊕ ((Ty.T .unit) ⊕ (Ty.T ae))):=
match(decide (x.2.2.2.1<x.2.2.1))with
|true=>
 aa (aq x.1 x.2.2.2.1) fun v1=>
 aa (aq x.2.1 x.2.2.2.1) fun v2=>
 match(v1 != v2)with
 |true=>
  some (.inr (.inr (false,())))
 |false=>
  some (.inl (x.1,x.2.1,x.2.2.1,(IntKind.i64.wrap (x.2.2.2.1+(1:Int))),()))
|false=>
 some (.inr (.inl (())))
noncomputable def bm(x:Ty.T aeh):Option (Ty.T ae):=
match((x.1.length:Int) != (x.2.1.length:Int))with
|true=>
 some (false,())
|false=>
 match ag cT (x.1,x.2.1,(x.1.length:Int),(0:Int),())with
 |none=>none
 |some (.inl v3)=>
  some (true,())
 |some (.inr v4)=>
  some (v4.1,())
noncomputable def An:Spec:=⟨_,ae,.unit,rfl,bm⟩
noncomputable def o5:FuncId→Option Spec:=bh []
theorem wc:∀f s,o5 f=some s→FnOK G0 Tryz.prog f s:=aF trivial
def nI:aO:=⟨[0,1,12,13],aaN,0,[],.unit,[4],ae⟩
noncomputable def o6:List ay:=[nI.spec cT]
theorem vm:bc bd E0 o5 (ba Tryz.f274 o6) Tryz.f274 0 nI cT:=fun x=>by kernel_rfl
theorem kr:FnOK G0 Tryz.prog 274 An:=aH ao wc Tryz.func274 o6 (by kernel_rfl) (by exact⟨(vm).lok,trivial⟩) fun x=>by kernel_rfl
noncomputable def Kc(x:Ty.T et):Option (Ty.T ae):=
match bj (x.1,(0:Int),(16777215:Int),())with
|none=>none
|some v1=>
some (v1.1,())
noncomputable def Xu:Spec:=⟨_,ae,.unit,rfl,Kc⟩
theorem V2:FnOK G0 Tryz.prog 305 Xu:=ap ao (sg ci (aJ)) Tryz.func305
noncomputable def d6(x:Ty.T Fn):Option (Ty.T la):=
Hl x.1 fun v1=>
match v1 with
|true=>
 some ([],())
|false=>
 aA (([]:List (Ty.T (.int .i64))).length+x.1.length) (
  some ((([]:List (Ty.T (.int .i64)))++x.1),()))
noncomputable def pV:Spec:=⟨_,la,.unit,rfl,d6⟩
theorem ks:FnOK G0 Tryz.prog 163 pV:=ap ao aJ Tryz.func163
abbrev abK:Ty:=(.pair (.int .i64) (.pair (.list (.int .i64)) an))
noncomputable def gx(x:(Ty.T abK)):Option ((Ty.T abK) ⊕ ((Ty.T et) ⊕ (Ty.T .unit))):=
match(decide (x.2.2.2.1<x.2.2.1))with
|true=>
 aa (aq x.2.1 x.2.2.2.1) fun v1=>
 some (.inl ((IntKind.i64.wrap ((IntKind.i64.wrap ((2:Int)*x.1))+v1)),x.2.1,x.2.2.1,(IntKind.i64.wrap (x.2.2.2.1+(1:Int))),()))
|false=>
 some (.inr (.inl (x.1,())))
noncomputable def cR(x:Ty.T Fn):Option (Ty.T et):=
match ag gx ((0:Int),x.1,(x.1.length:Int),(0:Int),())with
|none=>none
|some (.inl v2)=>
 some (v2.1,())
|some (.inr v4)=>
 none
noncomputable def Qp:Spec:=⟨_,et,.unit,rfl,cR⟩
noncomputable def BD:FuncId→Option Spec:=bh []
theorem Kd:∀f s,BD f=some s→FnOK G0 Tryz.prog f s:=aF trivial
def yL:aO:=⟨[3,6,7,8],abK,0,[3],et,[],.unit⟩
noncomputable def BE:List ay:=[yL.spec gx]
theorem H6:bc bd E0 BD (ba Tryz.f278 BE) Tryz.f278 0 yL gx:=fun x=>by kernel_rfl
theorem BF:FnOK G0 Tryz.prog 278 Qp:=aH ao Kd Tryz.func278 BE (by kernel_rfl) (by exact⟨(H6).lok,trivial⟩) fun x=>by kernel_rfl
noncomputable def DS(x:Ty.T Fn):Option (Ty.T la):=aa (jJ cR x.1) fun s=>some (s,())
noncomputable def SA:Spec:=⟨Fn,la,.unit,rfl,DS⟩
theorem Qq:FnOK G0 Tryz.prog 227 SA:=Ut (kJ Tryz.func227 (by kernel_rfl) (show Tryz.f227.body=some (ff Tryz.f227) by kernel_rfl)) BF
noncomputable def fW(x:Ty.T aeL):Option (Ty.T la):=
match ez (x.1.1,())with
|none=>none
|some v1=>
match v1.1 with
|true=>
 match jL ((x.1.2.2.1.1,x.1.2.2.1.2.1,x.1.2.2.1.2.2.1,x.1.2.2.1.2.2.2.1,x.1.2.2.1.2.2.2.2.1,()),())with
 |none=>none
 |some v2=>
 match DS (v2.1,())with
 |none=>none
 |some v3=>
 aA ([(IntKind.i64.wrap ((IntKind.i64.wrap (x.1.1*(64:Int)))+(IntKind.i64.wrap (x.1.2.1*(8:Int)))))].length+v3.1.length) (
  match jD (x.1.1,())with
  |none=>none
  |some v4=>
  match v4.1 with
  |true=>
   aA (([(IntKind.i64.wrap ((IntKind.i64.wrap (x.1.1*(64:Int)))+(IntKind.i64.wrap (x.1.2.1*(8:Int)))))]++v3.1).length+ [(x.1.2.2.2.1.length:Int)].length) (
    aA ((([(IntKind.i64.wrap ((IntKind.i64.wrap (x.1.1*(64:Int)))+(IntKind.i64.wrap (x.1.2.1*(8:Int)))))]++v3.1)++ [(x.1.2.2.2.1.length:Int)]).length+x.1.2.2.2.1.length) (
     some (((([(IntKind.i64.wrap ((IntKind.i64.wrap (x.1.1*(64:Int)))+(IntKind.i64.wrap (x.1.2.1*(8:Int)))))]++v3.1)++ [(x.1.2.2.2.1.length:Int)])++x.1.2.2.2.1),())))
  |false=>
   some (([(IntKind.i64.wrap ((IntKind.i64.wrap (x.1.1*(64:Int)))+(IntKind.i64.wrap (x.1.2.1*(8:Int)))))]++v3.1),()))
|false=>
 match jD (x.1.1,())with
 |none=>none
 |some v5=>
 match v5.1 with
 |true=>
  aA ([(IntKind.i64.wrap ((IntKind.i64.wrap (x.1.1*(64:Int)))+(IntKind.i64.wrap (x.1.2.1*(8:Int)))))].length+ [(x.1.2.2.2.1.length:Int)].length) (
   aA (([(IntKind.i64.wrap ((IntKind.i64.wrap (x.1.1*(64:Int)))+(IntKind.i64.wrap (x.1.2.1*(8:Int)))))]++ [(x.1.2.2.2.1.length:Int)]).length+x.1.2.2.2.1.length) (
    some ((([(IntKind.i64.wrap ((IntKind.i64.wrap (x.1.1*(64:Int)))+(IntKind.i64.wrap (x.1.2.1*(8:Int)))))]++ [(x.1.2.2.2.1.length:Int)])++x.1.2.2.2.1),())))
 |false=>
  some ([(IntKind.i64.wrap ((IntKind.i64.wrap (x.1.1*(64:Int)))+(IntKind.i64.wrap (x.1.2.1*(8:Int)))))],())
noncomputable def UH:Spec:=⟨_,la,.unit,rfl,fW⟩
theorem Gz:FnOK G0 Tryz.prog 172 UH:=ap ao (sg jt (sg Qq (sg yJ (sg uZ (aJ))))) Tryz.func172
noncomputable def fa(x:Ty.T aeL):Option (Ty.T ae):=
match uY (x.1.1,())with
|none=>none
|some v1=>
match(!v1.1)with
|true=>
 some (false,())
|false=>
 match bj (x.1.2.1,(0:Int),(7:Int),())with
 |none=>none
 |some v2=>
 match(!v2.1)with
 |true=>
  some (false,())
 |false=>
  match ma (x.1.1,(x.1.2.2.2.1.length:Int),())with
  |none=>none
  |some v3=>
  match(!v3.1)with
  |true=>
   some (false,())
  |false=>
   match ml (x.1.2.2.2.1,())with
   |none=>none
   |some v4=>
   match(!v4.1)with
   |true=>
    some (false,())
   |false=>
    match(x.1.1==(0:Int))with
    |true=>
     some ((dy ab (x.1.2.2.1.1,x.1.2.2.1.2.1,x.1.2.2.1.2.2.1,x.1.2.2.1.2.2.2.1,x.1.2.2.1.2.2.2.2.1,()) ((0:Int),(0:Int),(0:Int),(0:Int),(0:Int),())),())
    |false=>
     match(x.1.1==(3:Int))with
     |true=>
      match dl ((x.1.2.2.1.1,x.1.2.2.1.2.1,x.1.2.2.1.2.2.1,x.1.2.2.1.2.2.2.1,x.1.2.2.1.2.2.2.2.1,()),())with
      |none=>none
      |some v5=>
      match v5.1 with
      |true=>
       match(x.1.2.2.1.2.1==(0:Int))with
       |true=>
        match(x.1.2.2.1.2.2.2.2.1 != (0:Int))with
        |true=>
         match((bits BinOp.and .i64 x.1.2.2.1.2.2.2.2.1 (IntKind.i64.wrap (x.1.2.2.1.2.2.2.2.1-(1:Int))))==(0:Int))with
         |true=>
          some ((x.1.2.1==(0:Int)),())
         |false=>
          some (false,())
        |false=>
         some (false,())
       |false=>
        some (false,())
      |false=>
       some (false,())
     |false=>
      match dl ((x.1.2.2.1.1,x.1.2.2.1.2.1,x.1.2.2.1.2.2.1,x.1.2.2.1.2.2.2.1,x.1.2.2.1.2.2.2.2.1,()),())with
      |none=>none
      |some v6=>
      some (v6.1,())
noncomputable def SB:Spec:=⟨_,ae,.unit,rfl,fa⟩
theorem DT:FnOK G0 Tryz.prog 212 SB:=ap ao (sg ci (sg ko (sg Gu (sg wK (sg DR (aJ)))))) Tryz.func212
noncomputable def ra(x:Ty.T Fn):Option (Ty.T y_7):=
aa (aL x.1.length none (some (.dat (.int .i64) (16:Int)))) fun v1=>
aa (aL x.1.length (some (.dat (.int .i64) (16:Int))) (some (.dat (.int .i64) (20:Int)))) fun v2=>
aa (aL x.1.length (some (.dat (.int .i64) (20:Int))) (some (.dat (.int .i64) (24:Int)))) fun v3=>
aa (aL x.1.length (some (.dat (.int .i64) (24:Int))) (some (.dat (.int .i64) (32:Int)))) fun v4=>
aa (aL x.1.length (some (.dat (.int .i64) (32:Int))) (some (.dat (.int .i64) (64:Int)))) fun v5=>
match cR ((List.drop v1.1 (List.take v1.2 x.1)),())with
|none=>none
|some v6=>
match cR ((List.drop v2.1 (List.take v2.2 x.1)),())with
|none=>none
|some v7=>
match cR ((List.drop v3.1 (List.take v3.2 x.1)),())with
|none=>none
|some v8=>
match cR ((List.drop v4.1 (List.take v4.2 x.1)),())with
|none=>none
|some v9=>
match cR ((List.drop v5.1 (List.take v5.2 x.1)),())with
|none=>none
|some v10=>
some ((v6.1,v7.1,v8.1,v9.1,v10.1,()),())
noncomputable def Om:Spec:=⟨_,y_7,.unit,rfl,ra⟩
theorem Mg:FnOK G0 Tryz.prog 323 Om:=ap ao (sg BF (aJ)) Tryz.func323
noncomputable def rb(x:Ty.T Fn):Option (Ty.T aeW):=
match((x.1.length:Int)==(0:Int))with
|true=>
 some (((0:Int),(0:Int),((0:Int),(0:Int),(0:Int),(0:Int),(0:Int),()),[],()),false,())
|false=>
 aa (aq x.1 (0:Int)) fun v1=>
 aa (aq x.1 (0:Int)) fun v2=>
 aa (aL x.1.length (some (.dat (.int .i64) (1:Int))) none) fun v3=>
 aI (
  match ez ((IntKind.i64.wrap (Int.tdiv v1 (64:Int))),())with
  |none=>none
  |some v4=>
  match v4.1 with
  |true=>
   match(decide (((List.drop v3.1 (List.take v3.2 x.1)).length:Int)<(8:Int)))with
   |true=>
    some (((0:Int),(0:Int),((0:Int),(0:Int),(0:Int),(0:Int),(0:Int),()),[],()),false,())
   |false=>
    aa (aL (List.drop v3.1 (List.take v3.2 x.1)).length none (some (.dat (.int .i64) (8:Int)))) fun v5=>
    match oC ((List.drop v5.1 (List.take v5.2 (List.drop v3.1 (List.take v3.2 x.1)))),())with
    |none=>none
    |some v6=>
    match ra (v6.1,())with
    |none=>none
    |some v7=>
    aa (aL (List.drop v3.1 (List.take v3.2 x.1)).length (some (.dat (.int .i64) (8:Int))) none) fun v8=>
    match jD ((IntKind.i64.wrap (Int.tdiv v1 (64:Int))),())with
    |none=>none
    |some v9=>
    match v9.1 with
    |true=>
     match(decide (((List.drop v8.1 (List.take v8.2 (List.drop v3.1 (List.take v3.2 x.1)))).length:Int)>(0:Int)))with
     |true=>
      aa (aL (List.drop v8.1 (List.take v8.2 (List.drop v3.1 (List.take v3.2 x.1)))).length (some (.dat (.int .i64) (1:Int))) none) fun v10=>
      match d6 ((List.drop v10.1 (List.take v10.2 (List.drop v8.1 (List.take v8.2 (List.drop v3.1 (List.take v3.2 x.1)))))),())with
      |none=>none
      |some v11=>
      match fa (((IntKind.i64.wrap (Int.tdiv v1 (64:Int))),(Int.tmod (IntKind.i64.wrap (Int.tdiv v2 (8:Int))) (8:Int)),(v7.1.1,v7.1.2.1,v7.1.2.2.1,v7.1.2.2.2.1,v7.1.2.2.2.2.1,()),v11.1,()),())with
      |none=>none
      |some v12=>
      match(!v12.1)with
      |true=>
       some (((0:Int),(0:Int),((0:Int),(0:Int),(0:Int),(0:Int),(0:Int),()),[],()),false,())
      |false=>
       match fW (((IntKind.i64.wrap (Int.tdiv v1 (64:Int))),(Int.tmod (IntKind.i64.wrap (Int.tdiv v2 (8:Int))) (8:Int)),(v7.1.1,v7.1.2.1,v7.1.2.2.1,v7.1.2.2.2.1,v7.1.2.2.2.2.1,()),v11.1,()),())with
       |none=>none
       |some v13=>
       match bm (v13.1,x.1,())with
       |none=>none
       |some v14=>
       match(!v14.1)with
       |true=>
        some (((0:Int),(0:Int),((0:Int),(0:Int),(0:Int),(0:Int),(0:Int),()),[],()),false,())
       |false=>
        some (((IntKind.i64.wrap (Int.tdiv v1 (64:Int))),(Int.tmod (IntKind.i64.wrap (Int.tdiv v2 (8:Int))) (8:Int)),(v7.1.1,v7.1.2.1,v7.1.2.2.1,v7.1.2.2.2.1,v7.1.2.2.2.2.1,()),v11.1,()),true,())
     |false=>
      match fa (((IntKind.i64.wrap (Int.tdiv v1 (64:Int))),(Int.tmod (IntKind.i64.wrap (Int.tdiv v2 (8:Int))) (8:Int)),(v7.1.1,v7.1.2.1,v7.1.2.2.1,v7.1.2.2.2.1,v7.1.2.2.2.2.1,()),[],()),())with
      |none=>none
      |some v15=>
      match(!v15.1)with
      |true=>
       some (((0:Int),(0:Int),((0:Int),(0:Int),(0:Int),(0:Int),(0:Int),()),[],()),false,())
      |false=>
       match fW (((IntKind.i64.wrap (Int.tdiv v1 (64:Int))),(Int.tmod (IntKind.i64.wrap (Int.tdiv v2 (8:Int))) (8:Int)),(v7.1.1,v7.1.2.1,v7.1.2.2.1,v7.1.2.2.2.1,v7.1.2.2.2.2.1,()),[],()),())with
       |none=>none
       |some v16=>
       match bm (v16.1,x.1,())with
       |none=>none
       |some v17=>
       match(!v17.1)with
       |true=>
        some (((0:Int),(0:Int),((0:Int),(0:Int),(0:Int),(0:Int),(0:Int),()),[],()),false,())
       |false=>
        some (((IntKind.i64.wrap (Int.tdiv v1 (64:Int))),(Int.tmod (IntKind.i64.wrap (Int.tdiv v2 (8:Int))) (8:Int)),(v7.1.1,v7.1.2.1,v7.1.2.2.1,v7.1.2.2.2.1,v7.1.2.2.2.2.1,()),[],()),true,())
    |false=>
     match fa (((IntKind.i64.wrap (Int.tdiv v1 (64:Int))),(Int.tmod (IntKind.i64.wrap (Int.tdiv v2 (8:Int))) (8:Int)),(v7.1.1,v7.1.2.1,v7.1.2.2.1,v7.1.2.2.2.1,v7.1.2.2.2.2.1,()),[],()),())with
     |none=>none
     |some v18=>
     match(!v18.1)with
     |true=>
      some (((0:Int),(0:Int),((0:Int),(0:Int),(0:Int),(0:Int),(0:Int),()),[],()),false,())
     |false=>
      match fW (((IntKind.i64.wrap (Int.tdiv v1 (64:Int))),(Int.tmod (IntKind.i64.wrap (Int.tdiv v2 (8:Int))) (8:Int)),(v7.1.1,v7.1.2.1,v7.1.2.2.1,v7.1.2.2.2.1,v7.1.2.2.2.2.1,()),[],()),())with
      |none=>none
      |some v19=>
      match bm (v19.1,x.1,())with
      |none=>none
      |some v20=>
      match(!v20.1)with
      |true=>
       some (((0:Int),(0:Int),((0:Int),(0:Int),(0:Int),(0:Int),(0:Int),()),[],()),false,())
      |false=>
       some (((IntKind.i64.wrap (Int.tdiv v1 (64:Int))),(Int.tmod (IntKind.i64.wrap (Int.tdiv v2 (8:Int))) (8:Int)),(v7.1.1,v7.1.2.1,v7.1.2.2.1,v7.1.2.2.2.1,v7.1.2.2.2.2.1,()),[],()),true,())
  |false=>
   match jD ((IntKind.i64.wrap (Int.tdiv v1 (64:Int))),())with
   |none=>none
   |some v21=>
   match v21.1 with
   |true=>
    match(decide (((List.drop v3.1 (List.take v3.2 x.1)).length:Int)>(0:Int)))with
    |true=>
     aa (aL (List.drop v3.1 (List.take v3.2 x.1)).length (some (.dat (.int .i64) (1:Int))) none) fun v22=>
     match d6 ((List.drop v22.1 (List.take v22.2 (List.drop v3.1 (List.take v3.2 x.1)))),())with
     |none=>none
     |some v23=>
     match fa (((IntKind.i64.wrap (Int.tdiv v1 (64:Int))),(Int.tmod (IntKind.i64.wrap (Int.tdiv v2 (8:Int))) (8:Int)),((0:Int),(0:Int),(0:Int),(0:Int),(0:Int),()),v23.1,()),())with
     |none=>none
     |some v24=>
     match(!v24.1)with
     |true=>
      some (((0:Int),(0:Int),((0:Int),(0:Int),(0:Int),(0:Int),(0:Int),()),[],()),false,())
     |false=>
      match fW (((IntKind.i64.wrap (Int.tdiv v1 (64:Int))),(Int.tmod (IntKind.i64.wrap (Int.tdiv v2 (8:Int))) (8:Int)),((0:Int),(0:Int),(0:Int),(0:Int),(0:Int),()),v23.1,()),())with
      |none=>none
      |some v25=>
      match bm (v25.1,x.1,())with
      |none=>none
      |some v26=>
      match(!v26.1)with
      |true=>
       some (((0:Int),(0:Int),((0:Int),(0:Int),(0:Int),(0:Int),(0:Int),()),[],()),false,())
      |false=>
       some (((IntKind.i64.wrap (Int.tdiv v1 (64:Int))),(Int.tmod (IntKind.i64.wrap (Int.tdiv v2 (8:Int))) (8:Int)),((0:Int),(0:Int),(0:Int),(0:Int),(0:Int),()),v23.1,()),true,())
    |false=>
     match fa (((IntKind.i64.wrap (Int.tdiv v1 (64:Int))),(Int.tmod (IntKind.i64.wrap (Int.tdiv v2 (8:Int))) (8:Int)),((0:Int),(0:Int),(0:Int),(0:Int),(0:Int),()),[],()),())with
     |none=>none
     |some v27=>
     match(!v27.1)with
     |true=>
      some (((0:Int),(0:Int),((0:Int),(0:Int),(0:Int),(0:Int),(0:Int),()),[],()),false,())
     |false=>
      match fW (((IntKind.i64.wrap (Int.tdiv v1 (64:Int))),(Int.tmod (IntKind.i64.wrap (Int.tdiv v2 (8:Int))) (8:Int)),((0:Int),(0:Int),(0:Int),(0:Int),(0:Int),()),[],()),())with
      |none=>none
      |some v28=>
      match bm (v28.1,x.1,())with
      |none=>none
      |some v29=>
      match(!v29.1)with
      |true=>
       some (((0:Int),(0:Int),((0:Int),(0:Int),(0:Int),(0:Int),(0:Int),()),[],()),false,())
      |false=>
       some (((IntKind.i64.wrap (Int.tdiv v1 (64:Int))),(Int.tmod (IntKind.i64.wrap (Int.tdiv v2 (8:Int))) (8:Int)),((0:Int),(0:Int),(0:Int),(0:Int),(0:Int),()),[],()),true,())
   |false=>
    match fa (((IntKind.i64.wrap (Int.tdiv v1 (64:Int))),(Int.tmod (IntKind.i64.wrap (Int.tdiv v2 (8:Int))) (8:Int)),((0:Int),(0:Int),(0:Int),(0:Int),(0:Int),()),[],()),())with
    |none=>none
    |some v30=>
    match(!v30.1)with
    |true=>
     some (((0:Int),(0:Int),((0:Int),(0:Int),(0:Int),(0:Int),(0:Int),()),[],()),false,())
    |false=>
     match fW (((IntKind.i64.wrap (Int.tdiv v1 (64:Int))),(Int.tmod (IntKind.i64.wrap (Int.tdiv v2 (8:Int))) (8:Int)),((0:Int),(0:Int),(0:Int),(0:Int),(0:Int),()),[],()),())with
     |none=>none
     |some v31=>
     match bm (v31.1,x.1,())with
     |none=>none
     |some v32=>
     match(!v32.1)with
     |true=>
      some (((0:Int),(0:Int),((0:Int),(0:Int),(0:Int),(0:Int),(0:Int),()),[],()),false,())
     |false=>
      some (((IntKind.i64.wrap (Int.tdiv v1 (64:Int))),(Int.tmod (IntKind.i64.wrap (Int.tdiv v2 (8:Int))) (8:Int)),((0:Int),(0:Int),(0:Int),(0:Int),(0:Int),()),[],()),true,()))
noncomputable def On:Spec:=⟨_,aeW,.unit,rfl,rb⟩
theorem Mh:FnOK G0 Tryz.prog 306 On:=ap ao (sg jt (sg ks (sg Gz (sg DT (sg uZ (sg Gy (sg kr (sg Mg (aJ))))))))) Tryz.func306
noncomputable def nJ(x:Ty.T afV):Option (Ty.T aeX):=
match dl ((x.2.2.1.1,x.2.2.1.2.1,x.2.2.1.2.2.1,x.2.2.1.2.2.2.1,x.2.2.1.2.2.2.2.1,()),())with
|none=>none
|some v1=>
match(!v1.1)with
|true=>
 some (((0:Int),(0:Int),((0:Int),(0:Int),(0:Int),(0:Int),(0:Int),()),[],()),(1:Int),())
|false=>
 match Kc (x.2.1,())with
 |none=>none
 |some v2=>
 match(!v2.1)with
 |true=>
  some (((0:Int),(0:Int),((0:Int),(0:Int),(0:Int),(0:Int),(0:Int),()),[],()),(2:Int),())
 |false=>
  match ml (x.1,())with
  |none=>none
  |some v3=>
  match(!v3.1)with
  |true=>
   some (((0:Int),(0:Int),((0:Int),(0:Int),(0:Int),(0:Int),(0:Int),()),[],()),(2:Int),())
  |false=>
   match(decide ((IntKind.i64.wrap ((x.1.length:Int)-(3:Int)))<(1:Int)))with
   |true=>
    some (((0:Int),(0:Int),((0:Int),(0:Int),(0:Int),(0:Int),(0:Int),()),[],()),(6:Int),())
   |false=>
    aa (aq x.1 (0:Int)) fun v4=>
    aa (aL x.1.length none (some (.dat (.int .i64) (IntKind.i64.wrap ((x.1.length:Int)-(3:Int)))))) fun v5=>
    aa (aL x.1.length (some (.dat (.int .i64) (IntKind.i64.wrap ((x.1.length:Int)-(3:Int))))) none) fun v6=>
    match il ((IntKind.i64.wrap (Int.tdiv v4 (64:Int))),(List.drop v5.1 (List.take v5.2 x.1)),x.2.1,(x.2.2.1.1,x.2.2.1.2.1,x.2.2.1.2.2.1,x.2.2.1.2.2.2.1,x.2.2.1.2.2.2.2.1,()),())with
    |none=>none
    |some v7=>
    match kq (v7.1,())with
    |none=>none
    |some v8=>
    match bm (v8.1,(List.drop v6.1 (List.take v6.2 x.1)),())with
    |none=>none
    |some v9=>
    match(!v9.1)with
    |true=>
     some (((0:Int),(0:Int),((0:Int),(0:Int),(0:Int),(0:Int),(0:Int),()),[],()),(7:Int),())
    |false=>
     aa (aL x.1.length none (some (.dat (.int .i64) (IntKind.i64.wrap ((x.1.length:Int)-(3:Int)))))) fun v10=>
     match rb ((List.drop v10.1 (List.take v10.2 x.1)),())with
     |none=>none
     |some v11=>
     match(!v11.2.1)with
     |true=>
      some (((0:Int),(0:Int),((0:Int),(0:Int),(0:Int),(0:Int),(0:Int),()),[],()),(6:Int),())
     |false=>
      match ez (v11.1.1,())with
      |none=>none
      |some v12=>
      match v12.1 with
      |true=>
       match(!(dy ab (v11.1.2.2.1.1,v11.1.2.2.1.2.1,v11.1.2.2.1.2.2.1,v11.1.2.2.1.2.2.2.1,v11.1.2.2.1.2.2.2.2.1,()) (x.2.2.1.1,x.2.2.1.2.1,x.2.2.1.2.2.1,x.2.2.1.2.2.2.1,x.2.2.1.2.2.2.2.1,())))with
       |true=>
        some (((0:Int),(0:Int),((0:Int),(0:Int),(0:Int),(0:Int),(0:Int),()),[],()),(5:Int),())
       |false=>
        some ((v11.1.1,v11.1.2.1,(v11.1.2.2.1.1,v11.1.2.2.1.2.1,v11.1.2.2.1.2.2.1,v11.1.2.2.1.2.2.2.1,v11.1.2.2.1.2.2.2.2.1,()),v11.1.2.2.2.1,()),(0:Int),())
      |false=>
       some ((v11.1.1,v11.1.2.1,(v11.1.2.2.1.1,v11.1.2.2.1.2.1,v11.1.2.2.1.2.2.1,v11.1.2.2.1.2.2.2.1,v11.1.2.2.1.2.2.2.2.1,()),v11.1.2.2.2.1,()),(0:Int),())
noncomputable def Oo:Spec:=⟨_,aeX,.unit,rfl,nJ⟩
theorem Mi:FnOK G0 Tryz.prog 273 Oo:=ap ao (sg ko (sg jt (sg wP (sg vl (sg DR (sg kr (sg V2 (sg Mh (aJ))))))))) Tryz.func273
noncomputable def yM(x:Ty.T aei):Option (Ty.T ab1):=
match nJ (x.2.2.1,x.1.1,(x.2.1.1,x.2.1.2.1,x.2.1.2.2.1,x.2.1.2.2.2.1,x.2.1.2.2.2.2.1,()),())with
|none=>none
|some v1=>
match(v1.2.1==(0:Int))with
|true=>
 match az ((x.1.1,x.1.2.1,x.1.2.2.1,x.1.2.2.2.1,()),(x.2.1.1,x.2.1.2.1,x.2.1.2.2.1,x.2.1.2.2.2.1,x.2.1.2.2.2.2.1,()),())with
 |none=>none
 |some v2=>
 match vk (v2.1,(v1.1.1,v1.1.2.1,(v1.1.2.2.1.1,v1.1.2.2.1.2.1,v1.1.2.2.1.2.2.1,v1.1.2.2.1.2.2.2.1,v1.1.2.2.1.2.2.2.2.1,()),v1.1.2.2.2.1,()),())with
 |none=>none
 |some v3=>
 match(!v3.1)with
 |true=>
  match((5:Int) != (0:Int))with
  |true=>
   some (((2:Int),((0:Int),(0:Int),((0:Int),(0:Int),(0:Int),(0:Int),(0:Int),()),[],()),()),(5:Int),())
  |false=>
   some (((3:Int),(v1.1.1,v1.1.2.1,(v1.1.2.2.1.1,v1.1.2.2.1.2.1,v1.1.2.2.1.2.2.1,v1.1.2.2.1.2.2.2.1,v1.1.2.2.1.2.2.2.2.1,()),v1.1.2.2.2.1,()),()),(0:Int),())
 |false=>
  match(v1.2.1 != (0:Int))with
  |true=>
   some (((2:Int),((0:Int),(0:Int),((0:Int),(0:Int),(0:Int),(0:Int),(0:Int),()),[],()),()),v1.2.1,())
  |false=>
   some (((3:Int),(v1.1.1,v1.1.2.1,(v1.1.2.2.1.1,v1.1.2.2.1.2.1,v1.1.2.2.1.2.2.1,v1.1.2.2.1.2.2.2.1,v1.1.2.2.1.2.2.2.2.1,()),v1.1.2.2.2.1,()),()),(0:Int),())
|false=>
 match(v1.2.1 != (0:Int))with
 |true=>
  some (((2:Int),((0:Int),(0:Int),((0:Int),(0:Int),(0:Int),(0:Int),(0:Int),()),[],()),()),v1.2.1,())
 |false=>
  some (((3:Int),(v1.1.1,v1.1.2.1,(v1.1.2.2.1.1,v1.1.2.2.1.2.1,v1.1.2.2.1.2.2.1,v1.1.2.2.1.2.2.2.1,v1.1.2.2.1.2.2.2.2.1,()),v1.1.2.2.2.1,()),()),(0:Int),())
noncomputable def V3:Spec:=⟨_,ab1,.unit,rfl,yM⟩
theorem UI:FnOK G0 Tryz.prog 223 V3:=ap ao (sg cQ (sg Nz (sg Mi (aJ)))) Tryz.func223
noncomputable def rV(x:Ty.T aei):Option (Ty.T ab1):=
match lF (x.2.2.1,())with
|none=>none
|some v1=>
match(v1.2.1==(0:Int))with
|true=>
 match yM ((x.1.1,x.1.2.1,x.1.2.2.1,x.1.2.2.2.1,()),(x.2.1.1,x.2.1.2.1,x.2.1.2.2.1,x.2.1.2.2.2.1,x.2.1.2.2.2.2.1,()),v1.1,())with
 |none=>none
 |some v2=>
 some ((v2.1.1,(v2.1.2.1.1,v2.1.2.1.2.1,(v2.1.2.1.2.2.1.1,v2.1.2.1.2.2.1.2.1,v2.1.2.1.2.2.1.2.2.1,v2.1.2.1.2.2.1.2.2.2.1,v2.1.2.1.2.2.1.2.2.2.2.1,()),v2.1.2.1.2.2.2.1,()),()),v2.2.1,())
|false=>
 match(v1.2.1==(4:Int))with
 |true=>
  some (((0:Int),((0:Int),(0:Int),((0:Int),(0:Int),(0:Int),(0:Int),(0:Int),()),[],()),()),v1.2.1,())
 |false=>
  some (((1:Int),((0:Int),(0:Int),((0:Int),(0:Int),(0:Int),(0:Int),(0:Int),()),[],()),()),v1.2.1,())
noncomputable def SC:Spec:=⟨_,ab1,.unit,rfl,rV⟩
theorem Qr:FnOK G0 Tryz.prog 165 SC:=ap ao (sg DP (sg UI (aJ))) Tryz.func165
noncomputable def fv(x:Ty.T aei):Option (Ty.T ab1):=
match ow (x.2.2.1,())with
|none=>none
|some v1=>
match sD ((x.1.1,x.1.2.1,x.1.2.2.1,x.1.2.2.2.1,()),(x.2.1.1,x.2.1.2.1,x.2.1.2.2.1,x.2.1.2.2.2.1,x.2.1.2.2.2.2.1,()),v1.1,())with
|none=>none
|some v2=>
match(v2.1 != (0:Int))with
|true=>
 some (((0:Int),((0:Int),(0:Int),((0:Int),(0:Int),(0:Int),(0:Int),(0:Int),()),[],()),()),v2.1,())
|false=>
 match rV ((x.1.1,x.1.2.1,x.1.2.2.1,x.1.2.2.2.1,()),(x.2.1.1,x.2.1.2.1,x.2.1.2.2.1,x.2.1.2.2.2.1,x.2.1.2.2.2.2.1,()),x.2.2.1,())with
 |none=>none
 |some v3=>
 some ((v3.1.1,(v3.1.2.1.1,v3.1.2.1.2.1,(v3.1.2.1.2.2.1.1,v3.1.2.1.2.2.1.2.1,v3.1.2.1.2.2.1.2.2.1,v3.1.2.1.2.2.1.2.2.2.1,v3.1.2.1.2.2.1.2.2.2.2.1,()),v3.1.2.1.2.2.2.1,()),()),(0:Int),())
noncomputable def DU:Spec:=⟨_,ab1,.unit,rfl,fv⟩
theorem CE:FnOK G0 Tryz.prog 106 DU:=ap ao (sg q9 (sg H0 (sg Qr (aJ)))) Tryz.func106
noncomputable def nK(x:Ty.T afk):Option (Ty.T ae):=
match(x.1.1==x.2.1.1)with
|true=>
 match(x.1.2.1==x.2.1.2.1)with
 |true=>
  match(dy ab (x.1.2.2.1.1,x.1.2.2.1.2.1,x.1.2.2.1.2.2.1,x.1.2.2.1.2.2.2.1,x.1.2.2.1.2.2.2.2.1,()) (x.2.1.2.2.1.1,x.2.1.2.2.1.2.1,x.2.1.2.2.1.2.2.1,x.2.1.2.2.1.2.2.2.1,x.2.1.2.2.1.2.2.2.2.1,()))with
  |true=>
   match bm (x.1.2.2.2.1,x.2.1.2.2.2.1,())with
   |none=>none
   |some v1=>
   some (v1.1,())
  |false=>
   some (false,())
 |false=>
  some (false,())
|false=>
 some (false,())
noncomputable def Oq:Spec:=⟨_,ae,.unit,rfl,nK⟩
theorem Mj:FnOK G0 Tryz.prog 224 Oq:=ap ao (sg kr (aJ)) Tryz.func224
noncomputable def li(x:Ty.T agh):Option (Ty.T ae):=
match(x.1.1==x.2.1.1)with
|true=>
 match nK ((x.1.2.1.1,x.1.2.1.2.1,(x.1.2.1.2.2.1.1,x.1.2.1.2.2.1.2.1,x.1.2.1.2.2.1.2.2.1,x.1.2.1.2.2.1.2.2.2.1,x.1.2.1.2.2.1.2.2.2.2.1,()),x.1.2.1.2.2.2.1,()),(x.2.1.2.1.1,x.2.1.2.1.2.1,(x.2.1.2.1.2.2.1.1,x.2.1.2.1.2.2.1.2.1,x.2.1.2.1.2.2.1.2.2.1,x.2.1.2.1.2.2.1.2.2.2.1,x.2.1.2.1.2.2.1.2.2.2.2.1,()),x.2.1.2.1.2.2.2.1,()),())with
 |none=>none
 |some v1=>
 some (v1.1,())
|false=>
 some (false,())
noncomputable def Ke:Spec:=⟨_,ae,.unit,rfl,li⟩
theorem H7:FnOK G0 Tryz.prog 166 Ke:=ap ao (sg Mj (aJ)) Tryz.func166
noncomputable def Fb(x:Ty.T af3):Option (Ty.T aeY):=
match(x.1.1==(3:Int))with
|true=>
 match li ((x.1.1,(x.1.2.1.1,x.1.2.1.2.1,(x.1.2.1.2.2.1.1,x.1.2.1.2.2.1.2.1,x.1.2.1.2.2.1.2.2.1,x.1.2.1.2.2.1.2.2.2.1,x.1.2.1.2.2.1.2.2.2.2.1,()),x.1.2.1.2.2.2.1,()),()),(x.2.1.1,(x.2.1.2.1.1,x.2.1.2.1.2.1,(x.2.1.2.1.2.2.1.1,x.2.1.2.1.2.2.1.2.1,x.2.1.2.1.2.2.1.2.2.1,x.2.1.2.1.2.2.1.2.2.2.1,x.2.1.2.1.2.2.1.2.2.2.2.1,()),x.2.1.2.1.2.2.2.1,()),()),())with
 |none=>none
 |some v1=>
 match v1.1 with
 |true=>
  some ((x.1.1,(x.1.2.1.1,x.1.2.1.2.1,(x.1.2.1.2.2.1.1,x.1.2.1.2.2.1.2.1,x.1.2.1.2.2.1.2.2.1,x.1.2.1.2.2.1.2.2.2.1,x.1.2.1.2.2.1.2.2.2.2.1,()),x.1.2.1.2.2.2.1,()),()),())
 |false=>
  match(x.1.1==(3:Int))with
  |true=>
   match(x.2.1.1==(3:Int))with
   |true=>
    some (((4:Int),((0:Int),(0:Int),((0:Int),(0:Int),(0:Int),(0:Int),(0:Int),()),[],()),()),())
   |false=>
    match(x.1.1==(4:Int))with
    |true=>
     some (((4:Int),((0:Int),(0:Int),((0:Int),(0:Int),(0:Int),(0:Int),(0:Int),()),[],()),()),())
    |false=>
     match(x.2.1.1==(4:Int))with
     |true=>
      some (((4:Int),((0:Int),(0:Int),((0:Int),(0:Int),(0:Int),(0:Int),(0:Int),()),[],()),()),())
     |false=>
      match(decide (x.1.1≥x.2.1.1))with
      |true=>
       some ((x.1.1,(x.1.2.1.1,x.1.2.1.2.1,(x.1.2.1.2.2.1.1,x.1.2.1.2.2.1.2.1,x.1.2.1.2.2.1.2.2.1,x.1.2.1.2.2.1.2.2.2.1,x.1.2.1.2.2.1.2.2.2.2.1,()),x.1.2.1.2.2.2.1,()),()),())
      |false=>
       some ((x.2.1.1,(x.2.1.2.1.1,x.2.1.2.1.2.1,(x.2.1.2.1.2.2.1.1,x.2.1.2.1.2.2.1.2.1,x.2.1.2.1.2.2.1.2.2.1,x.2.1.2.1.2.2.1.2.2.2.1,x.2.1.2.1.2.2.1.2.2.2.2.1,()),x.2.1.2.1.2.2.2.1,()),()),())
  |false=>
   match(x.1.1==(4:Int))with
   |true=>
    some (((4:Int),((0:Int),(0:Int),((0:Int),(0:Int),(0:Int),(0:Int),(0:Int),()),[],()),()),())
   |false=>
    match(x.2.1.1==(4:Int))with
    |true=>
     some (((4:Int),((0:Int),(0:Int),((0:Int),(0:Int),(0:Int),(0:Int),(0:Int),()),[],()),()),())
    |false=>
     match(decide (x.1.1≥x.2.1.1))with
     |true=>
      some ((x.1.1,(x.1.2.1.1,x.1.2.1.2.1,(x.1.2.1.2.2.1.1,x.1.2.1.2.2.1.2.1,x.1.2.1.2.2.1.2.2.1,x.1.2.1.2.2.1.2.2.2.1,x.1.2.1.2.2.1.2.2.2.2.1,()),x.1.2.1.2.2.2.1,()),()),())
     |false=>
      some ((x.2.1.1,(x.2.1.2.1.1,x.2.1.2.1.2.1,(x.2.1.2.1.2.2.1.1,x.2.1.2.1.2.2.1.2.1,x.2.1.2.1.2.2.1.2.2.1,x.2.1.2.1.2.2.1.2.2.2.1,x.2.1.2.1.2.2.1.2.2.2.2.1,()),x.2.1.2.1.2.2.2.1,()),()),())
|false=>
 match(x.1.1==(3:Int))with
 |true=>
  match(x.2.1.1==(3:Int))with
  |true=>
   some (((4:Int),((0:Int),(0:Int),((0:Int),(0:Int),(0:Int),(0:Int),(0:Int),()),[],()),()),())
  |false=>
   match(x.1.1==(4:Int))with
   |true=>
    some (((4:Int),((0:Int),(0:Int),((0:Int),(0:Int),(0:Int),(0:Int),(0:Int),()),[],()),()),())
   |false=>
    match(x.2.1.1==(4:Int))with
    |true=>
     some (((4:Int),((0:Int),(0:Int),((0:Int),(0:Int),(0:Int),(0:Int),(0:Int),()),[],()),()),())
    |false=>
     match(decide (x.1.1≥x.2.1.1))with
     |true=>
      some ((x.1.1,(x.1.2.1.1,x.1.2.1.2.1,(x.1.2.1.2.2.1.1,x.1.2.1.2.2.1.2.1,x.1.2.1.2.2.1.2.2.1,x.1.2.1.2.2.1.2.2.2.1,x.1.2.1.2.2.1.2.2.2.2.1,()),x.1.2.1.2.2.2.1,()),()),())
     |false=>
      some ((x.2.1.1,(x.2.1.2.1.1,x.2.1.2.1.2.1,(x.2.1.2.1.2.2.1.1,x.2.1.2.1.2.2.1.2.1,x.2.1.2.1.2.2.1.2.2.1,x.2.1.2.1.2.2.1.2.2.2.1,x.2.1.2.1.2.2.1.2.2.2.2.1,()),x.2.1.2.1.2.2.2.1,()),()),())
 |false=>
  match(x.1.1==(4:Int))with
  |true=>
   some (((4:Int),((0:Int),(0:Int),((0:Int),(0:Int),(0:Int),(0:Int),(0:Int),()),[],()),()),())
  |false=>
   match(x.2.1.1==(4:Int))with
   |true=>
    some (((4:Int),((0:Int),(0:Int),((0:Int),(0:Int),(0:Int),(0:Int),(0:Int),()),[],()),()),())
   |false=>
    match(decide (x.1.1≥x.2.1.1))with
    |true=>
     some ((x.1.1,(x.1.2.1.1,x.1.2.1.2.1,(x.1.2.1.2.2.1.1,x.1.2.1.2.2.1.2.1,x.1.2.1.2.2.1.2.2.1,x.1.2.1.2.2.1.2.2.2.1,x.1.2.1.2.2.1.2.2.2.2.1,()),x.1.2.1.2.2.2.1,()),()),())
    |false=>
     some ((x.2.1.1,(x.2.1.2.1.1,x.2.1.2.1.2.1,(x.2.1.2.1.2.2.1.1,x.2.1.2.1.2.2.1.2.1,x.2.1.2.1.2.2.1.2.2.1,x.2.1.2.1.2.2.1.2.2.2.1,x.2.1.2.1.2.2.1.2.2.2.2.1,()),x.2.1.2.1.2.2.2.1,()),()),())
noncomputable def V4:Spec:=⟨_,aeY,.unit,rfl,Fb⟩
theorem UJ:FnOK G0 Tryz.prog 107 V4:=ap ao (sg H7 (aJ)) Tryz.func107
noncomputable def jw(x:Ty.T (.pair ac (.pair ab (.pair (.list (.int .i64)) (.pair (.list (.int .i64)) .unit))))):Option (Ty.T ab1):=
match fv ((x.1.1,x.1.2.1,x.1.2.2.1,x.1.2.2.2.1,()),(x.2.1.1,x.2.1.2.1,x.2.1.2.2.1,x.2.1.2.2.2.1,x.2.1.2.2.2.2.1,()),x.2.2.1,())with
|none=>none
|some v1=>
match(v1.2.1 != (0:Int))with
|true=>
 some (((0:Int),((0:Int),(0:Int),((0:Int),(0:Int),(0:Int),(0:Int),(0:Int),()),[],()),()),v1.2.1,())
|false=>
 match fv ((x.1.1,x.1.2.1,x.1.2.2.1,x.1.2.2.2.1,()),(x.2.1.1,x.2.1.2.1,x.2.1.2.2.1,x.2.1.2.2.2.1,x.2.1.2.2.2.2.1,()),x.2.2.2.1,())with
 |none=>none
 |some v2=>
 match(v2.2.1 != (0:Int))with
 |true=>
  some (((0:Int),((0:Int),(0:Int),((0:Int),(0:Int),(0:Int),(0:Int),(0:Int),()),[],()),()),v2.2.1,())
 |false=>
  match Fb ((v1.1.1,(v1.1.2.1.1,v1.1.2.1.2.1,(v1.1.2.1.2.2.1.1,v1.1.2.1.2.2.1.2.1,v1.1.2.1.2.2.1.2.2.1,v1.1.2.1.2.2.1.2.2.2.1,v1.1.2.1.2.2.1.2.2.2.2.1,()),v1.1.2.1.2.2.2.1,()),()),(v2.1.1,(v2.1.2.1.1,v2.1.2.1.2.1,(v2.1.2.1.2.2.1.1,v2.1.2.1.2.2.1.2.1,v2.1.2.1.2.2.1.2.2.1,v2.1.2.1.2.2.1.2.2.2.1,v2.1.2.1.2.2.1.2.2.2.2.1,()),v2.1.2.1.2.2.2.1,()),()),())with
  |none=>none
  |some v3=>
  some ((v3.1.1,(v3.1.2.1.1,v3.1.2.1.2.1,(v3.1.2.1.2.2.1.1,v3.1.2.1.2.2.1.2.1,v3.1.2.1.2.2.1.2.2.1,v3.1.2.1.2.2.1.2.2.2.1,v3.1.2.1.2.2.1.2.2.2.2.1,()),v3.1.2.1.2.2.2.1,()),()),(0:Int),())
noncomputable def Kf:Spec:=⟨_,ab1,.unit,rfl,jw⟩
theorem H8:FnOK G0 Tryz.prog 54 Kf:=ap ao (sg CE (sg UJ (aJ))) Tryz.func54
abbrev acH:Ty:=(.pair (.own 2 (.int .i64)) (.pair (.int .i64) an))
noncomputable def iZ(x:(Ty.T acH)):Option ((Ty.T acH) ⊕ ((Ty.T la) ⊕ (Ty.T .unit))):=
match(decide (x.2.2.2.1<x.2.2.1))with
|true=>
 aA (x.1.length+ [x.2.1].length) (
  some (.inl ((x.1++ [x.2.1]),x.2.1,x.2.2.1,(IntKind.i64.wrap (x.2.2.2.1+(1:Int))),())))
|false=>
 some (.inr (.inl (x.1,())))
noncomputable def qK(x:Ty.T adE):Option (Ty.T la):=
match ag iZ (x.1,x.2.1,x.2.2.1,(0:Int),())with
|none=>none
|some (.inl v1)=>
 some (v1.1,())
|some (.inr v3)=>
 none
noncomputable def Kg:Spec:=⟨_,la,.unit,rfl,qK⟩
noncomputable def GD:FuncId→Option Spec:=bh []
theorem Ot:∀f s,GD f=some s→FnOK G0 Tryz.prog f s:=aF trivial
def DV:aO:=⟨[0,1,7,8],acH,0,[0],la,[],.unit⟩
noncomputable def GE:List ay:=[DV.spec iZ]
theorem Mk:bc bd E0 GD (ba Tryz.f117 GE) Tryz.f117 0 DV iZ:=fun x=>by kernel_rfl
theorem GF:FnOK G0 Tryz.prog 117 Kg:=aH ao Ot Tryz.func117 GE (by kernel_rfl) (by exact⟨(Mk).lok,trivial⟩) fun x=>by kernel_rfl
noncomputable def iL(x:Ty.T et):Option (Ty.T et):=
some ((IntKind.i64.wrap ((1:Int)-x.1)),())
noncomputable def H9:Spec:=⟨_,et,.unit,rfl,iL⟩
theorem FM:FnOK G0 Tryz.prog 178 H9:=ap ao aJ Tryz.func178
abbrev acI:Ty:=(.pair (.own 2 (.int .i64)) (.pair (.int .i64) (.pair (.fn (.pair (.int .i64) .unit) (.pair (.int .i64) .unit)) (.pair (.int .i64) .unit))))
noncomputable def gR(x:(Ty.T acI)):Option ((Ty.T acI) ⊕ ((Ty.T la) ⊕ (Ty.T .unit))):=
match(decide (x.2.2.2.1<(if(x.1.length:Int)<x.2.1 then(x.1.length:Int)else x.2.1)))with
|true=>
 aa (aq x.1 x.2.2.2.1) fun _=>
 match x.1[x.2.2.2.1.toNat]? with
 |none=>none
 |some v2=>
 match x.2.2.1 (v2,())with
 |none=>none
 |some v3=>
 aa (aq x.1 x.2.2.2.1) fun _=>
 match x.1[x.2.2.2.1.toNat]? with
 |none=>none
 |some v5=>
 some (.inl ((x.1.set x.2.2.2.1.toNat v3.1),x.2.1,x.2.2.1,(IntKind.i64.wrap (x.2.2.2.1+(1:Int))),()))
|false=>
 some (.inr (.inl (x.1,())))
noncomputable def oD(x:Ty.T (.pair (.own 2 (.int .i64)) (.pair (.int .i64) (.pair (.int .i64) (.pair (.fn (.pair (.int .i64) .unit) (.pair (.int .i64) .unit)) .unit))))):Option (Ty.T la):=
match ag gR (x.1,x.2.2.1,x.2.2.2.1,x.2.1,())with
|none=>none
|some (.inl v6)=>
 some (v6.1,())
|some (.inr v8)=>
 none
noncomputable def UK:Spec:=⟨_,.unit,la,rfl,oD⟩
noncomputable def GG:FuncId→Option Spec:=bh []
theorem Ou:∀f s,GG f=some s→FnOK G0 Tryz.prog f s:=aF trivial
def DW:aO:=⟨[0,2,3,8],acI,0,[0],la,[],.unit⟩
noncomputable def GH:List ay:=[DW.spec gR]
theorem Ml:bc bd E0 GG (ba Tryz.f179 GH) Tryz.f179 0 DW gR:=fun x=>by kernel_rfl
theorem SD:FnOK G0 Tryz.prog 179 UK:=aH ao Ou Tryz.func179 GH (by kernel_rfl) (by exact⟨(Ml).lok,trivial⟩) fun x=>by kernel_rfl
noncomputable def jf(x:Ty.T adE):Option (Ty.T la):=aa (PX x.1 x.2.1 x.2.2.1) fun s=>some (s,())
noncomputable def yN:Spec:=⟨adE,la,.unit,rfl,jf⟩
theorem xJ:FnOK G0 Tryz.prog 180 yN:=VX (kJ Tryz.func180 (by kernel_rfl) (show Tryz.f180.body=some (ff Tryz.f180) by kernel_rfl))
noncomputable def jg(x:Ty.T afX):Option (Ty.T la):=aa (PY x.1 x.2.1 x.2.2.1) fun s=>some (s,())
noncomputable def yO:Spec:=⟨afX,la,.unit,rfl,jg⟩
theorem xK:FnOK G0 Tryz.prog 181 yO:=VZ (kJ Tryz.func181 (by kernel_rfl) (show Tryz.f181.body=some (ff Tryz.f181) by kernel_rfl))
noncomputable def mV(x:Ty.T et):Option (Ty.T et):=
some ((1:Int),())
noncomputable def Ia:Spec:=⟨_,et,.unit,rfl,mV⟩
theorem FN:FnOK G0 Tryz.prog 182 Ia:=ap ao aJ Tryz.func182
noncomputable def mW(x:Ty.T (.pair (.int .i64) (.pair (.ptr ax) .unit))):Option (Ty.T et):=
some (x.2.1.2.2.2.1,())
noncomputable def Ib:Spec:=⟨_,et,.unit,rfl,mW⟩
theorem FO:FnOK G0 Tryz.prog 183 Ib:=ap ao aJ Tryz.func183
noncomputable def mm(x:Ty.T afQ):Option (Ty.T Fn):=
match d6 (x.1,())with
|none=>none
|some v1=>
match(x.2.1.1==(1:Int))with
|true=>
 match oD (v1.1,x.2.1.2.1,(IntKind.i64.wrap (x.2.1.2.1+(1:Int))),iL,())with
 |none=>none
 |some v2=>
 some (v2.1,())
|false=>
 match(x.2.1.1==(2:Int))with
 |true=>
  match oD (v1.1,x.2.1.2.1,(IntKind.i64.wrap (x.2.1.2.1+x.2.1.2.2.1)),iL,())with
  |none=>none
  |some v3=>
  some (v3.1,())
 |false=>
  match(x.2.1.1==(3:Int))with
  |true=>
   match jf (v1.1,(if x.2.1.2.1<(x.1.length:Int)then x.2.1.2.1 else(x.1.length:Int)),(if(IntKind.i64.wrap (x.2.1.2.1+x.2.1.2.2.1))<(x.1.length:Int)then(IntKind.i64.wrap (x.2.1.2.1+x.2.1.2.2.1))else(x.1.length:Int)),())with
   |none=>none
   |some v4=>
   some (v4.1,())
  |false=>
   match(x.2.1.1==(4:Int))with
   |true=>
    match(decide (x.2.1.2.1≤(x.1.length:Int)))with
    |true=>
     match qK ([],x.2.1.2.2.2.1,x.2.1.2.2.1,())with
     |none=>none
     |some v5=>
     match jg (v1.1,x.2.1.2.1,v5.1,())with
     |none=>none
     |some v6=>
     aa (aL v6.1.length none (some (.dat (.int .i64) (if(v6.1.length:Int)<(8192:Int)then(v6.1.length:Int)else(8192:Int))))) fun v7=>
     some ((List.drop v7.1 (List.take v7.2 v6.1)),())
    |false=>
     aa (aL v1.1.length none (some (.dat (.int .i64) (if(v1.1.length:Int)<(8192:Int)then(v1.1.length:Int)else(8192:Int))))) fun v8=>
     some ((List.drop v8.1 (List.take v8.2 v1.1)),())
   |false=>
    match(x.2.1.1==(5:Int))with
    |true=>
     match oD (v1.1,x.2.1.2.1,(x.1.length:Int),mV,())with
     |none=>none
     |some v9=>
     some (v9.1,())
    |false=>
     match(x.2.1.1==(6:Int))with
     |true=>
      match oD (v1.1,x.2.1.2.1,(IntKind.i64.wrap (x.2.1.2.1+x.2.1.2.2.1)),(fun z=>mW (z.1,(x.2.1.1,x.2.1.2.1,x.2.1.2.2.1,x.2.1.2.2.2.1,()),())),())with
      |none=>none
      |some v10=>
      some (v10.1,())
     |false=>
      some (v1.1,())
noncomputable def yP:Spec:=⟨_,Fn,.unit,rfl,mm⟩
theorem Kh:FnOK G0 Tryz.prog 122 yP:=ap ao (sg GF (sg ks (sg FM (sg SD (sg xJ (sg xK (sg FN (sg FO (aJ))))))))) Tryz.func122
abbrev abe:Ty:=(.pair (.list (.int .i64)) (.pair (.list ax) an))
noncomputable def eU(x:(Ty.T abe)):Option ((Ty.T abe) ⊕ ((Ty.T Fn) ⊕ (Ty.T .unit))):=
match(decide (x.2.2.2.1<x.2.2.1))with
|true=>
 aa (aq x.2.1 x.2.2.2.1) fun v2=>
 match mm (x.1,(v2.1,v2.2.1,v2.2.2.1,v2.2.2.2.1,()),())with
 |none=>none
 |some v3=>
 some (.inl (v3.1,x.2.1,x.2.2.1,(IntKind.i64.wrap (x.2.2.2.1+(1:Int))),()))
|false=>
 some (.inr (.inl (x.1,())))
noncomputable def gi(x:Ty.T afT):Option (Ty.T Fn):=
match d6 (x.1,())with
|none=>none
|some v1=>
match ag eU (v1.1,x.2.1,(x.2.1.length:Int),(0:Int),())with
|none=>none
|some (.inl v4)=>
 some (v4.1,())
|some (.inr v6)=>
 none
noncomputable def Ki:Spec:=⟨_,Fn,.unit,rfl,gi⟩
noncomputable def vn:FuncId→Option Spec:=bh [(122,yP),(163,pV)]
theorem DX:∀f s,vn f=some s→FnOK G0 Tryz.prog f s:=aF ⟨Kh,ks,trivial⟩
def tA:aO:=⟨[5,10,11,12],abe,0,[5],Fn,[],.unit⟩
noncomputable def vo:List ay:=[tA.spec eU]
theorem CF:bc bd E0 vn (ba Tryz.f105 vo) Tryz.f105 0 tA eU:=fun x=>by kernel_rfl
theorem Ic:FnOK G0 Tryz.prog 105 Ki:=aH ao DX Tryz.func105 vo (by kernel_rfl) (by exact⟨(CF).lok,trivial⟩) fun x=>by kernel_rfl
noncomputable def i6(x:Ty.T afm):Option (Ty.T ae):=
match fF ((x.1.1,x.1.2.1,x.1.2.2.1,x.1.2.2.2.1,x.1.2.2.2.2.1,()),())with
|none=>none
|some v1=>
match v1.1 with
|true=>
 match fa ((x.2.1.1,x.2.1.2.1,(x.2.1.2.2.1.1,x.2.1.2.2.1.2.1,x.2.1.2.2.1.2.2.1,x.2.1.2.2.1.2.2.2.1,x.2.1.2.2.1.2.2.2.2.1,()),x.2.1.2.2.2.1,()),())with
 |none=>none
 |some v2=>
 match v2.1 with
 |true=>
  match vk ((x.1.1,x.1.2.1,x.1.2.2.1,x.1.2.2.2.1,x.1.2.2.2.2.1,()),(x.2.1.1,x.2.1.2.1,(x.2.1.2.2.1.1,x.2.1.2.2.1.2.1,x.2.1.2.2.1.2.2.1,x.2.1.2.2.1.2.2.2.1,x.2.1.2.2.1.2.2.2.2.1,()),x.2.1.2.2.2.1,()),())with
  |none=>none
  |some v3=>
  some (v3.1,())
 |false=>
  some (false,())
|false=>
 some (false,())
noncomputable def DY:Spec:=⟨_,ae,.unit,rfl,i6⟩
theorem CG:FnOK G0 Tryz.prog 143 DY:=ap ao (sg tk (sg DT (sg Nz (aJ)))) Tryz.func143
noncomputable def gS(x:Ty.T adZ):Option (Ty.T ae):=
match az ((x.1.1,x.1.2.1,x.1.2.2.1,x.1.2.2.2.1,()),(x.2.1.1,x.2.1.2.1,x.2.1.2.2.1,x.2.1.2.2.2.1,x.2.1.2.2.2.2.1,()),())with
|none=>none
|some v1=>
match i6 (v1.1,(x.2.2.1.1,x.2.2.1.2.1,(x.2.2.1.2.2.1.1,x.2.2.1.2.2.1.2.1,x.2.2.1.2.2.1.2.2.1,x.2.2.1.2.2.1.2.2.2.1,x.2.2.1.2.2.1.2.2.2.2.1,()),x.2.2.1.2.2.2.1,()),())with
|none=>none
|some v2=>
match v2.1 with
|true=>
 match ez (x.2.2.1.1,())with
 |none=>none
 |some v3=>
 match(!v3.1)with
 |true=>
  some (true,())
 |false=>
  some ((dy ab (x.2.2.1.2.2.1.1,x.2.2.1.2.2.1.2.1,x.2.2.1.2.2.1.2.2.1,x.2.2.1.2.2.1.2.2.2.1,x.2.2.1.2.2.1.2.2.2.2.1,()) (x.2.1.1,x.2.1.2.1,x.2.1.2.2.1,x.2.1.2.2.2.1,x.2.1.2.2.2.2.1,())),())
|false=>
 some (false,())
noncomputable def yQ:Spec:=⟨_,ae,.unit,rfl,gS⟩
theorem wQ:FnOK G0 Tryz.prog 80 yQ:=ap ao (sg cQ (sg jt (sg CG (aJ)))) Tryz.func80
noncomputable def pW(x:Ty.T adZ):Option (Ty.T et):=
match dr ((x.1.1,x.1.2.1,x.1.2.2.1,x.1.2.2.2.1,()),(x.2.1.1,x.2.1.2.1,x.2.1.2.2.1,x.2.1.2.2.2.1,x.2.1.2.2.2.2.1,()),())with
|none=>none
|some v1=>
match(v1.1 != (0:Int))with
|true=>
 some (v1.1,())
|false=>
 match gS ((x.1.1,x.1.2.1,x.1.2.2.1,x.1.2.2.2.1,()),(x.2.1.1,x.2.1.2.1,x.2.1.2.2.1,x.2.1.2.2.2.1,x.2.1.2.2.2.2.1,()),(x.2.2.1.1,x.2.2.1.2.1,(x.2.2.1.2.2.1.1,x.2.2.1.2.2.1.2.1,x.2.2.1.2.2.1.2.2.1,x.2.2.1.2.2.1.2.2.2.1,x.2.2.1.2.2.1.2.2.2.2.1,()),x.2.2.1.2.2.2.1,()),())with
 |none=>none
 |some v2=>
 match(!v2.1)with
 |true=>
  some ((5:Int),())
 |false=>
  some ((0:Int),())
noncomputable def Qs:Spec:=⟨_,et,.unit,rfl,pW⟩
theorem Ov:FnOK G0 Tryz.prog 111 Qs:=ap ao (sg ju (sg wQ (aJ))) Tryz.func111
noncomputable def jY(x:Ty.T (.pair .nil (.pair (.int .i64) .unit))):Option (Ty.T la):=
match(decide (x.2.1<(0:Int)))with
|true=>
 none
|false=>
 match(decide ((IntKind.i64.wrap (x.2.1-(IntKind.i64.wrap ((0:Int)-(0:Int)))))>(0:Int)))with
 |true=>
  aa (aL 0 none (some (.dat (.int .i64) (0:Int)))) fun v1=>
  if 0≤(IntKind.i64.wrap (x.2.1-(IntKind.i64.wrap ((0:Int)-(0:Int)))))then
   aA ((IntKind.i64.wrap (x.2.1-(IntKind.i64.wrap ((0:Int)-(0:Int))))).toNat) (
    aa (aL (List.replicate (IntKind.i64.wrap (x.2.1-(IntKind.i64.wrap ((0:Int)-(0:Int))))).toNat (0:Int)).length none (some (.dat (.int .i64) (0:Int)))) fun v2=>
    some ((List.take v2.2 (List.replicate (IntKind.i64.wrap (x.2.1-(IntKind.i64.wrap ((0:Int)-(0:Int))))).toNat (0:Int))),()))
  else none
 |false=>
  some ([],())
noncomputable def qv:Spec:=⟨_,la,.unit,rfl,jY⟩
theorem Ao:FnOK G0 Tryz.prog 169 qv:=ap ao aJ Tryz.func169
abbrev aaL:Ty:=(.pair (.list (.list (.int .i64))) (.pair (.int .i64) (.pair (.list (.list (.int .i64))) an)))
abbrev aa1:Ty:=(.pair (.list (.list (.int .i64))) (.pair (.int .i64) .unit))
noncomputable def cu(x:(Ty.T aaL)):Option ((Ty.T aaL) ⊕ ((Ty.T aa1) ⊕ (Ty.T .unit))):=
match(decide (x.2.2.2.2.1<x.2.2.2.1))with
|true=>
 aa (aq x.2.2.1 x.2.2.2.2.1) fun v1=>
 match(decide ((IntKind.i64.wrap (x.2.1+(v1.length:Int)))<(0:Int)))with
 |true=>
  none
 |false=>
  some (.inl (x.1,(IntKind.i64.wrap (x.2.1+(v1.length:Int))),x.2.2.1,x.2.2.2.1,(IntKind.i64.wrap (x.2.2.2.2.1+(1:Int))),()))
|false=>
 some (.inr (.inl (x.1,x.2.1,())))
abbrev Sh:Ty:=(.pair (.own 2 (.int .i64)) (.pair (.list (.list (.int .i64))) an))
noncomputable def cn(x:(Ty.T Sh)):Option ((Ty.T Sh) ⊕ ((Ty.T la) ⊕ (Ty.T .unit))):=
match(decide (x.2.2.2.1<x.2.2.1))with
|true=>
 aa (aq x.2.1 x.2.2.2.1) fun v5=>
 aA (x.1.length+v5.length) (
  some (.inl ((x.1++v5),x.2.1,x.2.2.1,(IntKind.i64.wrap (x.2.2.2.1+(1:Int))),())))
|false=>
 some (.inr (.inl (x.1,())))
noncomputable def gn(x:Ty.T (.pair (.list (.list (.int .i64))) .unit)):Option (Ty.T la):=
match ag cu (x.1,(0:Int),x.1,(x.1.length:Int),(0:Int),())with
|none=>none
|some (.inl v2)=>
 match jY ((),v2.2.1,())with
 |none=>none
 |some v4=>
 match ag cn (v4.1,v2.1,(v2.1.length:Int),(0:Int),())with
 |none=>none
 |some (.inl v6)=>
  some (v6.1,())
 |some (.inr v8)=>
  none
|some (.inr v9)=>
 none
noncomputable def yR:Spec:=⟨_,la,.unit,rfl,gn⟩
noncomputable def jM:FuncId→Option Spec:=bh [(169,qv)]
theorem vp:∀f s,jM f=some s→FnOK G0 Tryz.prog f s:=aF ⟨Ao,trivial⟩
def nj:aO:=⟨[0,3,9,10,11],aaL,0,[0,3],aa1,[],.unit⟩
def mn:aO:=⟨[6,25,26,27],Sh,2,[6],la,[],.unit⟩
noncomputable def jN:List ay:=[nj.spec cu,mn.spec cn]
theorem tW:bc bd E0 jM (ba Tryz.f112 jN) Tryz.f112 0 nj cu:=fun x=>by kernel_rfl
theorem sG:bc bd E0 jM (ba Tryz.f112 jN) Tryz.f112 1 mn cn:=fun x=>by kernel_rfl
theorem xL:FnOK G0 Tryz.prog 112 yR:=aH ao vp Tryz.func112 jN (by kernel_rfl) (by exact⟨(tW).lok,(sG).lok,trivial⟩) fun x=>by kernel_rfl
noncomputable def jh(x:Ty.T y_9):Option (Ty.T la):=aa (LH x.1 x.2.1) fun s=>some (s,())
noncomputable def yS:Spec:=⟨y_9,la,.unit,rfl,jh⟩
theorem xM:FnOK G0 Tryz.prog 170 yS:=VV (kJ Tryz.func170 (by kernel_rfl) (show Tryz.f170.body=some (ff Tryz.f170) by kernel_rfl))
noncomputable def mX(x:Ty.T et):Option (Ty.T la):=
match jh ([(1:Int)],x.1,())with
|none=>none
|some v1=>
some (v1.1,())
noncomputable def V5:Spec:=⟨_,la,.unit,rfl,mX⟩
theorem Kj:FnOK G0 Tryz.prog 113 V5:=ap ao (sg xM (aJ)) Tryz.func113
abbrev ace:Ty:=aft
noncomputable def im(x:(Ty.T ace)):Option ((Ty.T ace) ⊕ ((Ty.T la) ⊕ (Ty.T .unit))):=
match(decide (x.2.2.2.1<x.2.2.1))with
|true=>
 aa (aq x.2.1 x.2.2.2.1) fun v1=>
 aA (x.1.length+ [(1:Int),(0:Int)].length) (
  match bH ((x.1++ [(1:Int),(0:Int)]),v1,(8:Int),())with
  |none=>none
  |some v2=>
  some (.inl (v2.1,x.2.1,x.2.2.1,(IntKind.i64.wrap (x.2.2.2.1+(1:Int))),())))
|false=>
 some (.inr (.inl (x.1,())))
noncomputable def rX(x:Ty.T y_9):Option (Ty.T la):=
if 0≤x.2.1∧x.2.1≤x.2.1 then
 aA (x.2.1.toNat) (
  aA ((List.replicate x.2.1.toNat (0:Int)).length+ [(1:Int)].length) (
   match ag im (((List.replicate x.2.1.toNat (0:Int))++ [(1:Int)]),x.1,(x.1.length:Int),(0:Int),())with
   |none=>none
   |some (.inl v3)=>
    aA (v3.1.length+ [(0:Int),(1:Int)].length) (
     some ((v3.1++ [(0:Int),(1:Int)]),()))
   |some (.inr v5)=>
    none))
else none
noncomputable def SE:Spec:=⟨_,la,.unit,rfl,rX⟩
noncomputable def DZ:FuncId→Option Spec:=bh [(171,oB)]
theorem Mm:∀f s,DZ f=some s→FnOK G0 Tryz.prog f s:=aF ⟨nr,trivial⟩
def BG:aO:=⟨[5,12,13,14],ace,0,[5],la,[],.unit⟩
noncomputable def D0:List ay:=[BG.spec im]
theorem Kk:bc bd E0 DZ (ba Tryz.f114 D0) Tryz.f114 0 BG im:=fun x=>by kernel_rfl
theorem Qt:FnOK G0 Tryz.prog 114 SE:=aH ao Mm Tryz.func114 D0 (by kernel_rfl) (by exact⟨(Kk).lok,trivial⟩) fun x=>by kernel_rfl
noncomputable def yT(x:Ty.T afS):Option (Ty.T la):=
match fW ((x.1.1,x.1.2.1,(x.1.2.2.1.1,x.1.2.2.1.2.1,x.1.2.2.1.2.2.1,x.1.2.2.1.2.2.2.1,x.1.2.2.1.2.2.2.2.1,()),x.1.2.2.2.1,()),())with
|none=>none
|some v1=>
match il (x.1.1,v1.1,x.2.1,(x.2.2.1.1,x.2.2.1.2.1,x.2.2.1.2.2.1,x.2.2.1.2.2.2.1,x.2.2.1.2.2.2.2.1,()),())with
|none=>none
|some v2=>
match kq (v2.1,())with
|none=>none
|some v3=>
aA (v1.1.length+v3.1.length) (
 some ((v1.1++v3.1),()))
noncomputable def Xv:Spec:=⟨_,la,.unit,rfl,yT⟩
theorem V6:FnOK G0 Tryz.prog 115 Xv:=ap ao (sg Gz (sg wP (sg vl (aJ)))) Tryz.func115
noncomputable def nL(x:Ty.T adZ):Option (Ty.T y_5):=
match pW ((x.1.1,x.1.2.1,x.1.2.2.1,x.1.2.2.2.1,()),(x.2.1.1,x.2.1.2.1,x.2.1.2.2.1,x.2.1.2.2.2.1,x.2.1.2.2.2.2.1,()),(x.2.2.1.1,x.2.2.1.2.1,(x.2.2.1.2.2.1.1,x.2.2.1.2.2.1.2.1,x.2.2.1.2.2.1.2.2.1,x.2.2.1.2.2.1.2.2.2.1,x.2.2.1.2.2.1.2.2.2.2.1,()),x.2.2.1.2.2.2.1,()),())with
|none=>none
|some v1=>
match(v1.1 != (0:Int))with
|true=>
 some ([],v1.1,())
|false=>
 match mX ((8:Int),())with
 |none=>none
 |some v2=>
 match yT ((x.2.2.1.1,x.2.2.1.2.1,(x.2.2.1.2.2.1.1,x.2.2.1.2.2.1.2.1,x.2.2.1.2.2.1.2.2.1,x.2.2.1.2.2.1.2.2.2.1,x.2.2.1.2.2.1.2.2.2.2.1,()),x.2.2.1.2.2.2.1,()),x.1.1,(x.2.1.1,x.2.1.2.1,x.2.1.2.2.1,x.2.1.2.2.2.1,x.2.1.2.2.2.2.1,()),())with
 |none=>none
 |some v3=>
 match rX (v3.1,(8:Int),())with
 |none=>none
 |some v4=>
 match gn ([v2.1,v4.1],())with
 |none=>none
 |some v5=>
 match az ((x.1.1,x.1.2.1,x.1.2.2.1,x.1.2.2.2.1,()),(x.2.1.1,x.2.1.2.1,x.2.1.2.2.1,x.2.1.2.2.2.1,x.2.1.2.2.2.2.1,()),())with
 |none=>none
 |some v6=>
 match mX ((IntKind.i64.wrap (v6.1.2.2.2.1-(v5.1.length:Int))),())with
 |none=>none
 |some v7=>
 aA (v5.1.length+v7.1.length) (
  some ((v5.1++v7.1),(0:Int),()))
noncomputable def Ow:Spec:=⟨_,y_5,.unit,rfl,nL⟩
theorem Mn:FnOK G0 Tryz.prog 58 Ow:=ap ao (sg cQ (sg Ov (sg xL (sg Kj (sg Qt (sg V6 (aJ))))))) Tryz.func58
abbrev aaR:Ty:=aft
noncomputable def dt(x:(Ty.T aaR)):Option ((Ty.T aaR) ⊕ ((Ty.T la) ⊕ (Ty.T .unit))):=
match(decide (x.2.2.2.1<x.2.2.1))with
|true=>
 aa (aq x.2.1 x.2.2.2.1) fun v2=>
 match qK (x.1,v2,(8:Int),())with
 |none=>none
 |some v3=>
 some (.inl (v3.1,x.2.1,x.2.2.1,(IntKind.i64.wrap (x.2.2.2.1+(1:Int))),()))
|false=>
 some (.inr (.inl (x.1,())))
noncomputable def i7(x:Ty.T Fn):Option (Ty.T y_5):=
match ow (x.1,())with
|none=>none
|some v1=>
match(!v1.1)with
|true=>
 some ([],(1:Int),())
|false=>
 match(decide ((IntKind.i64.wrap ((x.1.length:Int)*(8:Int)))>(8192:Int)))with
 |true=>
  some ([],(3:Int),())
 |false=>
  match ag dt ([],x.1,(x.1.length:Int),(0:Int),())with
  |none=>none
  |some (.inl v4)=>
   some (v4.1,(0:Int),())
  |some (.inr v6)=>
   none
noncomputable def D1:Spec:=⟨_,y_5,.unit,rfl,i7⟩
noncomputable def qw:FuncId→Option Spec:=bh [(116,J0),(117,Kg)]
theorem yU:∀f s,qw f=some s→FnOK G0 Tryz.prog f s:=aF ⟨q9,GF,trivial⟩
def pX:aO:=⟨[4,15,16,17],aaR,0,[4],la,[],.unit⟩
noncomputable def qx:List ay:=[pX.spec dt]
theorem xN:bc bd E0 qw (ba Tryz.f59 qx) Tryz.f59 0 pX dt:=fun x=>by kernel_rfl
theorem CH:FnOK G0 Tryz.prog 59 D1:=aH ao yU Tryz.func59 qx (by kernel_rfl) (by exact⟨(xN).lok,trivial⟩) fun x=>by kernel_rfl
noncomputable def lj(x:Ty.T adZ):Option (Ty.T y_5):=
match nL ((x.1.1,x.1.2.1,x.1.2.2.1,x.1.2.2.2.1,()),(x.2.1.1,x.2.1.2.1,x.2.1.2.2.1,x.2.1.2.2.2.1,x.2.1.2.2.2.2.1,()),(x.2.2.1.1,x.2.2.1.2.1,(x.2.2.1.2.2.1.1,x.2.2.1.2.2.1.2.1,x.2.2.1.2.2.1.2.2.1,x.2.2.1.2.2.1.2.2.2.1,x.2.2.1.2.2.1.2.2.2.2.1,()),x.2.2.1.2.2.2.1,()),())with
|none=>none
|some v1=>
match(v1.2.1 != (0:Int))with
|true=>
 some ([],v1.2.1,())
|false=>
 match i7 (v1.1,())with
 |none=>none
 |some v2=>
 some (v2.1,v2.2.1,())
noncomputable def wR:Spec:=⟨_,y_5,.unit,rfl,lj⟩
theorem Ie:FnOK G0 Tryz.prog 14 wR:=ap ao (sg Mn (sg CH (aJ))) Tryz.func14
noncomputable def kt(x:Ty.T (.pair bf (.pair ab .unit))):Option (Ty.T aeV):=
aQ (
 if 0≤x.1.2.2.1∧x.1.2.2.1≤x.1.2.2.1 then
  aA (x.1.2.2.1.toNat) (
   aI (
    match ez (x.1.2.1,())with
    |none=>none
    |some v1=>
    match v1.1 with
    |true=>
     some ((x.1.2.1,(0:Int),(x.2.1.1,x.2.1.2.1,x.2.1.2.2.1,x.2.1.2.2.2.1,x.2.1.2.2.2.2.1,()),(List.replicate x.1.2.2.1.toNat (0:Int)),()),())
    |false=>
     some ((x.1.2.1,(0:Int),((0:Int),(0:Int),(0:Int),(0:Int),(0:Int),()),(List.replicate x.1.2.2.1.toNat (0:Int)),()),())))
 else none) (
 if 0≤x.1.2.2.1∧x.1.2.2.1≤x.1.2.2.1 then
  aA (x.1.2.2.1.toNat) (
   match ez (x.1.2.1,())with
   |none=>none
   |some v1=>
   match v1.1 with
   |true=>
    some ((x.1.2.1,(0:Int),(x.2.1.1,x.2.1.2.1,x.2.1.2.2.1,x.2.1.2.2.2.1,x.2.1.2.2.2.2.1,()),(List.replicate x.1.2.2.1.toNat (0:Int)),()),())
   |false=>
    some ((x.1.2.1,(0:Int),((0:Int),(0:Int),(0:Int),(0:Int),(0:Int),()),(List.replicate x.1.2.2.1.toNat (0:Int)),()),()))
 else none)
noncomputable def yV:Spec:=⟨_,aeV,.unit,rfl,kt⟩
theorem Kl:FnOK G0 Tryz.prog 79 yV:=ap ao (sg jt (aJ)) Tryz.func79
abbrev abL:Ty:=(.pair (.int .i64) (.pair (.box ac) (.pair (.box ab) (.pair (.box aU) (.pair (.box (.pair (.int .i64) (.pair (.int .i64) (.pair ab (.pair (.own 2 (.int .i64)) .unit))))) an)))))
abbrev acZ:Ty:=(.pair (.box ac) (.pair (.box ab) (.pair (.box aU) (.pair (.box (.pair (.int .i64) (.pair (.int .i64) (.pair ab (.pair (.own 2 (.int .i64)) .unit))))) .unit))))
noncomputable def eB(x:(Ty.T abL)):Option ((Ty.T abL) ⊕ ((Ty.T acZ) ⊕ (Ty.T .unit))):=
match(decide (x.2.2.2.2.2.2.1<x.2.2.2.2.2.1))with
|true=>
 aa (aq x.2.2.2.2.1.2.2.2.1 x.2.2.2.2.2.2.1) fun _=>
 match x.2.2.2.2.1.2.2.2.1[x.2.2.2.2.2.2.1.toNat]? with
 |none=>none
 |some v7=>
 some (.inl (x.1,x.2.1,x.2.2.1,x.2.2.2.1,(x.2.2.2.2.1.1,x.2.2.2.2.1.2.1,x.2.2.2.2.1.2.2.1,(x.2.2.2.2.1.2.2.2.1.set x.2.2.2.2.2.2.1.toNat x.1),()),x.2.2.2.2.2.1,(IntKind.i64.wrap (x.2.2.2.2.2.2.1+(1:Int))),()))
|false=>
 some (.inr (.inl (x.2.1,x.2.2.1,x.2.2.2.1,x.2.2.2.2.1,())))
noncomputable def tX(x:Ty.T (.pair ac aY)):Option (Ty.T afM):=
match dr (x.1,x.2.1,())with
|none=>none
|some v1=>
match(v1.1 != (0:Int))with
|true=>
 some (((0:Int),(0:Int),((0:Int),(0:Int),(0:Int),(0:Int),(0:Int),()),[],()),v1.1,())
|false=>
 match bj (x.2.2.1,(0:Int),(255:Int),())with
 |none=>none
 |some v2=>
 match(!v2.1)with
 |true=>
  some (((0:Int),(0:Int),((0:Int),(0:Int),(0:Int),(0:Int),(0:Int),()),[],()),(2:Int),())
 |false=>
  match bj (x.2.2.2.1,(0:Int),(7:Int),())with
  |none=>none
  |some v3=>
  match(!v3.1)with
  |true=>
   some (((0:Int),(0:Int),((0:Int),(0:Int),(0:Int),(0:Int),(0:Int),()),[],()),(2:Int),())
  |false=>
   aQ (
    match az (x.1,x.2.1,())with
    |none=>none
    |some v4=>
    aQ (
     match kt (v4.1,x.2.1,())with
     |none=>none
     |some v5=>
     match ag eB (x.2.2.1,x.1,x.2.1,((0:Int),(0:Int),((0:Int),(0:Int),(0:Int),(0:Int),(0:Int),()),[],()),(v5.1.1,x.2.2.2.1,v5.1.2.2.1,v5.1.2.2.2.1,()),(v5.1.2.2.2.1.length:Int),(0:Int),())with
     |none=>none
     |some (.inl v8)=>
      match gS (v8.1,v8.2.1,v8.2.2.2.1,())with
      |none=>none
      |some v10=>
      match(!v10.1)with
      |true=>
       some (((0:Int),(0:Int),((0:Int),(0:Int),(0:Int),(0:Int),(0:Int),()),[],()),(5:Int),())
      |false=>
       some (v8.2.2.2.1,(0:Int),())
     |some (.inr v11)=>
      none) (
     match kt (v4.1,x.2.1,())with
     |none=>none
     |some v5=>
     match ag eB (x.2.2.1,x.1,x.2.1,((0:Int),(0:Int),((0:Int),(0:Int),(0:Int),(0:Int),(0:Int),()),[],()),(v5.1.1,x.2.2.2.1,v5.1.2.2.1,v5.1.2.2.2.1,()),(v5.1.2.2.2.1.length:Int),(0:Int),())with
     |none=>none
     |some (.inl v6)=>
      match gS (v6.1,v6.2.1,v6.2.2.2.1,())with
      |none=>none
      |some v8=>
      match(!v8.1)with
      |true=>
       some (((0:Int),(0:Int),((0:Int),(0:Int),(0:Int),(0:Int),(0:Int),()),[],()),(5:Int),())
      |false=>
       some (v6.2.2.2.1,(0:Int),())
     |some (.inr v9)=>
      none)) (
    match az (x.1,x.2.1,())with
    |none=>none
    |some v4=>
    match kt (v4.1,x.2.1,())with
    |none=>none
    |some v5=>
    match ag eB (x.2.2.1,x.1,x.2.1,((0:Int),(0:Int),((0:Int),(0:Int),(0:Int),(0:Int),(0:Int),()),[],()),(v5.1.1,x.2.2.2.1,v5.1.2.2.1,v5.1.2.2.2.1,()),(v5.1.2.2.2.1.length:Int),(0:Int),())with
    |none=>none
    |some (.inl v6)=>
     match gS (v6.1,v6.2.1,v6.2.2.2.1,())with
     |none=>none
     |some v8=>
     match(!v8.1)with
     |true=>
      some (((0:Int),(0:Int),((0:Int),(0:Int),(0:Int),(0:Int),(0:Int),()),[],()),(5:Int),())
     |false=>
      some (v6.2.2.2.1,(0:Int),())
    |some (.inr v9)=>
     none)
noncomputable def D2:Spec:=⟨_,afM,.unit,rfl,tX⟩
noncomputable def BH:FuncId→Option Spec:=bh [(68,Af),(72,DK),(73,nq),(79,yV),(80,yQ)]
theorem Km:∀f s,BH f=some s→FnOK G0 Tryz.prog f s:=aF ⟨ci,ju,cQ,Kl,wQ,trivial⟩
def yW:aO:=⟨[2,4,5,8,11,38,39],abL,0,[4,5,8,11],acZ,[],.unit⟩
noncomputable def BI:List ay:=[yW.spec eB]
theorem Ig:bc bd E0 BH (ba Tryz.f24 BI) Tryz.f24 0 yW eB:=fun x=>by kernel_rfl
theorem Ox:FnOK G0 Tryz.prog 24 D2:=aH ao Km Tryz.func24 BI (by kernel_rfl) (by exact⟨(Ig).lok,trivial⟩) fun x=>by kernel_rfl
noncomputable def pY(x:Ty.T acQ):Option (Ty.T y_5):=
match dr x with
|none=>none
|some v1=>
match(v1.1 != (0:Int))with
|true=>
 some ([],v1.1,())
|false=>
 match az x with
 |none=>none
 |some v2=>
 match mX ((IntKind.i64.wrap ((8:Int)*v2.1.2.2.2.1)),())with
 |none=>none
 |some v3=>
 some (v3.1,(0:Int),())
noncomputable def yX:Spec:=⟨_,y_5,.unit,rfl,pY⟩
theorem Kn:FnOK G0 Tryz.prog 190 yX:=ap ao (sg ju (sg cQ (sg Kj (aJ)))) Tryz.func190
abbrev ac5:Ty:=(.pair (.box ac) (.pair (.box ab) (.pair (.box au) (.pair (.own 2 (.int .i64)) an))))
abbrev adO:Ty:=afR
noncomputable def gI(x:(Ty.T ac5)):Option ((Ty.T ac5) ⊕ ((Ty.T adO) ⊕ (Ty.T la))):=
match(decide (x.2.2.2.2.2.1<x.2.2.2.2.1))with
|true=>
 aa (aq x.2.2.2.1 x.2.2.2.2.2.1) fun _=>
 match x.2.2.2.1[x.2.2.2.2.2.1.toNat]? with
 |none=>none
 |some v2=>
 match tX (x.1,x.2.1,x.2.2.1.1,v2,())with
 |none=>none
 |some v3=>
 match(v3.2.1==(0:Int))with
 |true=>
  match lj (x.1,x.2.1,v3.1,())with
  |none=>none
  |some v4=>
  some (.inr (.inr (v4.1,())))
 |false=>
  some (.inl (x.1,x.2.1,x.2.2.1,x.2.2.2.1,x.2.2.2.2.1,(IntKind.i64.wrap (x.2.2.2.2.2.1+(1:Int))),()))
|false=>
 some (.inr (.inl (x.1,x.2.1,())))
noncomputable def Ko(x:Ty.T aeS):Option (Ty.T la):=
match ag gI (x.1,x.2.1,x.2.2.1,[x.2.2.1.2.1,(0:Int)],([x.2.2.1.2.1,(0:Int)].length:Int),(0:Int),())with
|none=>none
|some (.inl v5)=>
 match pY v5 with
 |none=>none
 |some v7=>
 some (v7.1,())
|some (.inr v6)=>
 some (v6.1,())
noncomputable def Xw:Spec:=⟨_,la,.unit,rfl,Ko⟩
noncomputable def NA:FuncId→Option Spec:=bh [(14,wR),(24,D2),(190,yX)]
theorem SF:∀f s,NA f=some s→FnOK G0 Tryz.prog f s:=aF ⟨Ie,Ox,Kn,trivial⟩
def Kq:aO:=⟨[3,4,5,17,18,19],ac5,0,[3,4],adO,[6],la⟩
noncomputable def NB:List ay:=[Kq.spec gI]
theorem Qu:bc bd E0 NA (ba Tryz.f129 NB) Tryz.f129 0 Kq gI:=fun x=>by kernel_rfl
theorem V7:FnOK G0 Tryz.prog 129 Xw:=aH ao SF Tryz.func129 NB (by kernel_rfl) (by exact⟨(Qu).lok,trivial⟩) fun x=>by kernel_rfl
noncomputable def D3(x:Ty.T an):Option (Ty.T et):=
if x.2.1<0 then none else
some ((bits BinOp.andNot .i64 x.1 (IntKind.i64.wrap ((1:Int)*2^min x.2.1.toNat IntKind.i64.bits))),())
noncomputable def SG:Spec:=⟨_,et,.unit,rfl,D3⟩
theorem Qv:FnOK G0 Tryz.prog 191 SG:=ap ao aJ Tryz.func191
noncomputable def bu(x:Ty.T ags):Option (Ty.T an):=
match pS (x.1,())with
|none=>none
|some v1=>
match(!v1.1)with
|true=>
 some ((0:Int),(2:Int),())
|false=>
 match kN (x.2.1,())with
 |none=>none
 |some v2=>
 match(!v2.1)with
 |true=>
  some ((0:Int),(2:Int),())
 |false=>
  match x.2.2.1 with
  |true=>
   if x.2.1<0 then none else
   some ((bits BinOp.or .i64 x.1 (IntKind.i64.wrap ((1:Int)*2^min x.2.1.toNat IntKind.i64.bits))),(0:Int),())
  |false=>
   match D3 (x.1,x.2.1,())with
   |none=>none
   |some v3=>
   some (v3.1,(0:Int),())
noncomputable def Oy:Spec:=⟨_,an,.unit,rfl,bu⟩
theorem Mo:FnOK G0 Tryz.prog 130 Oy:=ap ao (sg Bw (sg q6 (sg Qv (aJ)))) Tryz.func130
noncomputable def gy(x:Ty.T afL):Option (Ty.T afN):=
match dl ((x.1.1,x.1.2.1,x.1.2.2.1,x.1.2.2.2.1,x.1.2.2.2.2.1,()),())with
|none=>none
|some v1=>
match(!v1.1)with
|true=>
 some (((0:Int),(0:Int),(0:Int),(0:Int),(0:Int),()),(1:Int),())
|false=>
 match bj (x.2.1,(0:Int),(65535:Int),())with
 |none=>none
 |some v2=>
 match(!v2.1)with
 |true=>
  some (((0:Int),(0:Int),(0:Int),(0:Int),(0:Int),()),(2:Int),())
 |false=>
  match bj (x.2.2.1,(1:Int),(256:Int),())with
  |none=>none
  |some v3=>
  match(!v3.1)with
  |true=>
   some (((0:Int),(0:Int),(0:Int),(0:Int),(0:Int),()),(2:Int),())
  |false=>
   match bj (x.2.2.2.1,(1:Int),(16:Int),())with
   |none=>none
   |some v4=>
   match(!v4.1)with
   |true=>
    some (((0:Int),(0:Int),(0:Int),(0:Int),(0:Int),()),(2:Int),())
   |false=>
    match(decide (x.1.2.2.2.1≥x.2.2.1))with
    |true=>
     some (((0:Int),(0:Int),(0:Int),(0:Int),(0:Int),()),(2:Int),())
    |false=>
     match(decide (x.1.2.2.1≥x.2.2.2.1))with
     |true=>
      some (((0:Int),(0:Int),(0:Int),(0:Int),(0:Int),()),(2:Int),())
     |false=>
      match((IntKind.i64.wrap (x.1.2.2.2.1+(1:Int)))==x.2.2.1)with
      |true=>
       if x.2.2.2.1=0 then none else
       some (((Int.tmod (IntKind.i64.wrap (x.1.1+x.2.1)) (65536:Int)),x.1.2.1,(Int.tmod (IntKind.i64.wrap (x.1.2.2.1+(1:Int))) x.2.2.2.1),(0:Int),x.1.2.2.2.2.1,()),(0:Int),())
      |false=>
       some (((Int.tmod (IntKind.i64.wrap (x.1.1+x.2.1)) (65536:Int)),x.1.2.1,x.1.2.2.1,(IntKind.i64.wrap (x.1.2.2.2.1+(1:Int))),x.1.2.2.2.2.1,()),(0:Int),())
noncomputable def Ih:Spec:=⟨_,afN,.unit,rfl,gy⟩
theorem FP:FnOK G0 Tryz.prog 192 Ih:=ap ao (sg ci (sg ko (aJ))) Tryz.func192
noncomputable def bo(x:Ty.T acQ):Option (Ty.T y_7):=
aa (aq x.1.2.2.1 x.2.1.2.1) fun v1=>
aQ (
 match az ((x.1.1,x.1.2.1,x.1.2.2.1,x.1.2.2.2.1,()),(x.2.1.1,x.2.1.2.1,x.2.1.2.2.1,x.2.1.2.2.2.1,x.2.1.2.2.2.2.1,()),())with
 |none=>none
 |some v2=>
 aI (
  match gy ((x.2.1.1,x.2.1.2.1,x.2.1.2.2.1,x.2.1.2.2.2.1,x.2.1.2.2.2.2.1,()),v2.1.2.2.2.1,v1.2.1,v1.1,())with
  |none=>none
  |some v3=>
  some ((v3.1.1,v3.1.2.1,v3.1.2.2.1,v3.1.2.2.2.1,v3.1.2.2.2.2.1,()),()))) (
 match az ((x.1.1,x.1.2.1,x.1.2.2.1,x.1.2.2.2.1,()),(x.2.1.1,x.2.1.2.1,x.2.1.2.2.1,x.2.1.2.2.2.1,x.2.1.2.2.2.2.1,()),())with
 |none=>none
 |some v2=>
 match gy ((x.2.1.1,x.2.1.2.1,x.2.1.2.2.1,x.2.1.2.2.2.1,x.2.1.2.2.2.2.1,()),v2.1.2.2.2.1,v1.2.1,v1.1,())with
 |none=>none
 |some v3=>
 some ((v3.1.1,v3.1.2.1,v3.1.2.2.1,v3.1.2.2.2.1,v3.1.2.2.2.2.1,()),()))
noncomputable def Oz:Spec:=⟨_,y_7,.unit,rfl,bo⟩
theorem Mp:FnOK G0 Tryz.prog 131 Oz:=ap ao (sg cQ (sg FP (aJ))) Tryz.func131
noncomputable def tY(x:Ty.T aeS):Option (Ty.T aeZ):=
match Ko x with
|none=>none
|some v1=>
aQ (
 match gi (v1.1,x.2.2.1.2.2.1,())with
 |none=>none
 |some v2=>
 aQ (
  match gi (v1.1,x.2.2.1.2.2.2.1,())with
  |none=>none
  |some v3=>
  aI (
   match jw (x.1,x.2.1,v2.1,v3.1,())with
   |none=>none
   |some v4=>
   aQ (
    aQ (
     aI (
      match az (x.1,x.2.1,())with
      |none=>none
      |some v5=>
      match bu (x.2.1.2.2.2.2.1,v5.1.1,(v4.1.1==(3:Int)),())with
      |none=>none
      |some v6=>
      aI (
       match bo (x.1,(x.2.1.1,x.2.1.2.1,x.2.1.2.2.1,x.2.1.2.2.2.1,v6.1,()),())with
       |none=>none
       |some v7=>
       some (v4.1,v7.1,())))) (
     match az (x.1,x.2.1,())with
     |none=>none
     |some v5=>
     match bu (x.2.1.2.2.2.2.1,v5.1.1,(v4.1.1==(3:Int)),())with
     |none=>none
     |some v6=>
     aI (
      match bo (x.1,(x.2.1.1,x.2.1.2.1,x.2.1.2.2.1,x.2.1.2.2.2.1,v6.1,()),())with
      |none=>none
      |some v7=>
      some (v4.1,v7.1,())))) (
    aQ (
     aQ (
      aI (
       match az (x.1,x.2.1,())with
       |none=>none
       |some v5=>
       match bu (x.2.1.2.2.2.2.1,v5.1.1,(v4.1.1==(3:Int)),())with
       |none=>none
       |some v6=>
       aI (
        match bo (x.1,(x.2.1.1,x.2.1.2.1,x.2.1.2.2.1,x.2.1.2.2.2.1,v6.1,()),())with
        |none=>none
        |some v7=>
        some (v4.1,v7.1,())))) (
      aQ (
       match az (x.1,x.2.1,())with
       |none=>none
       |some v5=>
       aI (
        match bu (x.2.1.2.2.2.2.1,v5.1.1,(v4.1.1==(3:Int)),())with
        |none=>none
        |some v6=>
        aI (
         match bo (x.1,(x.2.1.1,x.2.1.2.1,x.2.1.2.2.1,x.2.1.2.2.2.1,v6.1,()),())with
         |none=>none
         |some v7=>
         some (v4.1,v7.1,())))) (
       aI (
        match az (x.1,x.2.1,())with
        |none=>none
        |some v5=>
        match bu (x.2.1.2.2.2.2.1,v5.1.1,(v4.1.1==(3:Int)),())with
        |none=>none
        |some v6=>
        aI (
         match bo (x.1,(x.2.1.1,x.2.1.2.1,x.2.1.2.2.1,x.2.1.2.2.2.1,v6.1,()),())with
         |none=>none
         |some v7=>
         some (v4.1,v7.1,())))))) (
     aQ (
      match az (x.1,x.2.1,())with
      |none=>none
      |some v5=>
      match bu (x.2.1.2.2.2.2.1,v5.1.1,(v4.1.1==(3:Int)),())with
      |none=>none
      |some v6=>
      aI (
       match bo (x.1,(x.2.1.1,x.2.1.2.1,x.2.1.2.2.1,x.2.1.2.2.2.1,v6.1,()),())with
       |none=>none
       |some v7=>
       some (v4.1,v7.1,()))) (
      aI (
       match az (x.1,x.2.1,())with
       |none=>none
       |some v5=>
       match bu (x.2.1.2.2.2.2.1,v5.1.1,(v4.1.1==(3:Int)),())with
       |none=>none
       |some v6=>
       aI (
        match bo (x.1,(x.2.1.1,x.2.1.2.1,x.2.1.2.2.1,x.2.1.2.2.2.1,v6.1,()),())with
        |none=>none
        |some v7=>
        some (v4.1,v7.1,())))))))) (
  match gi (v1.1,x.2.2.1.2.2.2.1,())with
  |none=>none
  |some v3=>
  match jw (x.1,x.2.1,v2.1,v3.1,())with
  |none=>none
  |some v4=>
  aQ (
   aQ (
    aI (
     match az (x.1,x.2.1,())with
     |none=>none
     |some v5=>
     match bu (x.2.1.2.2.2.2.1,v5.1.1,(v4.1.1==(3:Int)),())with
     |none=>none
     |some v6=>
     aI (
      match bo (x.1,(x.2.1.1,x.2.1.2.1,x.2.1.2.2.1,x.2.1.2.2.2.1,v6.1,()),())with
      |none=>none
      |some v7=>
      some (v4.1,v7.1,())))) (
    match az (x.1,x.2.1,())with
    |none=>none
    |some v5=>
    match bu (x.2.1.2.2.2.2.1,v5.1.1,(v4.1.1==(3:Int)),())with
    |none=>none
    |some v6=>
    aI (
     match bo (x.1,(x.2.1.1,x.2.1.2.1,x.2.1.2.2.1,x.2.1.2.2.2.1,v6.1,()),())with
     |none=>none
     |some v7=>
     some (v4.1,v7.1,())))) (
   aQ (
    aQ (
     aI (
      match az (x.1,x.2.1,())with
      |none=>none
      |some v5=>
      match bu (x.2.1.2.2.2.2.1,v5.1.1,(v4.1.1==(3:Int)),())with
      |none=>none
      |some v6=>
      aI (
       match bo (x.1,(x.2.1.1,x.2.1.2.1,x.2.1.2.2.1,x.2.1.2.2.2.1,v6.1,()),())with
       |none=>none
       |some v7=>
       some (v4.1,v7.1,())))) (
     aQ (
      match az (x.1,x.2.1,())with
      |none=>none
      |some v5=>
      aI (
       match bu (x.2.1.2.2.2.2.1,v5.1.1,(v4.1.1==(3:Int)),())with
       |none=>none
       |some v6=>
       aI (
        match bo (x.1,(x.2.1.1,x.2.1.2.1,x.2.1.2.2.1,x.2.1.2.2.2.1,v6.1,()),())with
        |none=>none
        |some v7=>
        some (v4.1,v7.1,())))) (
      aI (
       match az (x.1,x.2.1,())with
       |none=>none
       |some v5=>
       match bu (x.2.1.2.2.2.2.1,v5.1.1,(v4.1.1==(3:Int)),())with
       |none=>none
       |some v6=>
       aI (
        match bo (x.1,(x.2.1.1,x.2.1.2.1,x.2.1.2.2.1,x.2.1.2.2.2.1,v6.1,()),())with
        |none=>none
        |some v7=>
        some (v4.1,v7.1,())))))) (
    aQ (
     match az (x.1,x.2.1,())with
     |none=>none
     |some v5=>
     match bu (x.2.1.2.2.2.2.1,v5.1.1,(v4.1.1==(3:Int)),())with
     |none=>none
     |some v6=>
     aI (
      match bo (x.1,(x.2.1.1,x.2.1.2.1,x.2.1.2.2.1,x.2.1.2.2.2.1,v6.1,()),())with
      |none=>none
      |some v7=>
      some (v4.1,v7.1,()))) (
     aI (
      match az (x.1,x.2.1,())with
      |none=>none
      |some v5=>
      match bu (x.2.1.2.2.2.2.1,v5.1.1,(v4.1.1==(3:Int)),())with
      |none=>none
      |some v6=>
      aI (
       match bo (x.1,(x.2.1.1,x.2.1.2.1,x.2.1.2.2.1,x.2.1.2.2.2.1,v6.1,()),())with
       |none=>none
       |some v7=>
       some (v4.1,v7.1,())))))))) (
 match gi (v1.1,x.2.2.1.2.2.1,())with
 |none=>none
 |some v2=>
 match gi (v1.1,x.2.2.1.2.2.2.1,())with
 |none=>none
 |some v3=>
 match jw (x.1,x.2.1,v2.1,v3.1,())with
 |none=>none
 |some v4=>
 aQ (
  aQ (
   aI (
    match az (x.1,x.2.1,())with
    |none=>none
    |some v5=>
    match bu (x.2.1.2.2.2.2.1,v5.1.1,(v4.1.1==(3:Int)),())with
    |none=>none
    |some v6=>
    aI (
     match bo (x.1,(x.2.1.1,x.2.1.2.1,x.2.1.2.2.1,x.2.1.2.2.2.1,v6.1,()),())with
     |none=>none
     |some v7=>
     some (v4.1,v7.1,())))) (
   match az (x.1,x.2.1,())with
   |none=>none
   |some v5=>
   match bu (x.2.1.2.2.2.2.1,v5.1.1,(v4.1.1==(3:Int)),())with
   |none=>none
   |some v6=>
   aI (
    match bo (x.1,(x.2.1.1,x.2.1.2.1,x.2.1.2.2.1,x.2.1.2.2.2.1,v6.1,()),())with
    |none=>none
    |some v7=>
    some (v4.1,v7.1,())))) (
  aQ (
   aQ (
    aI (
     match az (x.1,x.2.1,())with
     |none=>none
     |some v5=>
     match bu (x.2.1.2.2.2.2.1,v5.1.1,(v4.1.1==(3:Int)),())with
     |none=>none
     |some v6=>
     aI (
      match bo (x.1,(x.2.1.1,x.2.1.2.1,x.2.1.2.2.1,x.2.1.2.2.2.1,v6.1,()),())with
      |none=>none
      |some v7=>
      some (v4.1,v7.1,())))) (
    aQ (
     match az (x.1,x.2.1,())with
     |none=>none
     |some v5=>
     aI (
      match bu (x.2.1.2.2.2.2.1,v5.1.1,(v4.1.1==(3:Int)),())with
      |none=>none
      |some v6=>
      aI (
       match bo (x.1,(x.2.1.1,x.2.1.2.1,x.2.1.2.2.1,x.2.1.2.2.2.1,v6.1,()),())with
       |none=>none
       |some v7=>
       some (v4.1,v7.1,())))) (
     aI (
      match az (x.1,x.2.1,())with
      |none=>none
      |some v5=>
      match bu (x.2.1.2.2.2.2.1,v5.1.1,(v4.1.1==(3:Int)),())with
      |none=>none
      |some v6=>
      aI (
       match bo (x.1,(x.2.1.1,x.2.1.2.1,x.2.1.2.2.1,x.2.1.2.2.2.1,v6.1,()),())with
       |none=>none
       |some v7=>
       some (v4.1,v7.1,())))))) (
   aQ (
    match az (x.1,x.2.1,())with
    |none=>none
    |some v5=>
    match bu (x.2.1.2.2.2.2.1,v5.1.1,(v4.1.1==(3:Int)),())with
    |none=>none
    |some v6=>
    aI (
     match bo (x.1,(x.2.1.1,x.2.1.2.1,x.2.1.2.2.1,x.2.1.2.2.2.1,v6.1,()),())with
     |none=>none
     |some v7=>
     some (v4.1,v7.1,()))) (
    aI (
     match az (x.1,x.2.1,())with
     |none=>none
     |some v5=>
     match bu (x.2.1.2.2.2.2.1,v5.1.1,(v4.1.1==(3:Int)),())with
     |none=>none
     |some v6=>
     aI (
      match bo (x.1,(x.2.1.1,x.2.1.2.1,x.2.1.2.2.1,x.2.1.2.2.2.1,v6.1,()),())with
      |none=>none
      |some v7=>
      some (v4.1,v7.1,())))))))
noncomputable def D4:Spec:=⟨_,aeZ,.unit,rfl,tY⟩
theorem OB:FnOK G0 Tryz.prog 65 D4:=ap ao (sg H8 (sg cQ (sg Ic (sg V7 (sg Mo (sg Mp (aJ))))))) Tryz.func65
noncomputable def xO(x:Ty.T (.pair (.list al) (.pair (.list (.int .i64)) .unit))):Option (Ty.T et):=
match ld (x.1,())with
|none=>none
|some v1=>
match(!v1.1)with
|true=>
 some ((1:Int),())
|false=>
 match iG (x.2.1,(0:Int),(IntKind.i64.wrap ((x.1.length:Int)-(1:Int))),())with
 |none=>none
 |some v2=>
 match(!v2.1)with
 |true=>
  some ((2:Int),())
 |false=>
  some ((0:Int),())
noncomputable def OC:Spec:=⟨_,et,.unit,rfl,xO⟩
theorem Mq:FnOK G0 Tryz.prog 214 OC:=ap ao (sg qJ (sg uX (aJ))) Tryz.func214
noncomputable def jO(x:Ty.T (.pair (.list al) an)):Option (Ty.T ae):=
match xO (x.1,[x.2.1],())with
|none=>none
|some v1=>
match(v1.1==(0:Int))with
|true=>
 aa (aq x.1 x.2.1) fun v2=>
 match fE (v2.2.2.1,x.2.2.1,())with
 |none=>none
 |some v3=>
 some (v3.1,())
|false=>
 some (false,())
noncomputable def BJ:Spec:=⟨_,ae,.unit,rfl,jO⟩
theorem Mr:FnOK G0 Tryz.prog 144 BJ:=ap ao (sg Mq (sg l9 (aJ))) Tryz.func144
abbrev abM:Ty:=(.pair (.box ac) (.pair (.box ab) (.pair (.box ab) (.pair (.own 38 aB) (.pair (.own 30 ab) (.pair (.int .i64) (.pair (.list au) an)))))))
abbrev ac0:Ty:=(.pair (.box ab) (.pair (.box ab) (.pair (.own 38 aB) (.pair (.own 30 ab) .unit))))
noncomputable def fI(x:(Ty.T abM)):Option ((Ty.T abM) ⊕ ((Ty.T ac0) ⊕ (Ty.T .unit))):=
match(decide (x.2.2.2.2.2.2.2.2.1<x.2.2.2.2.2.2.2.1))with
|true=>
 aa (aq x.2.2.2.2.2.2.1 x.2.2.2.2.2.2.2.2.1) fun v1=>
 match tY (x.1,x.2.1,v1,())with
 |none=>none
 |some v2=>
 aQ (
  aQ (
   aA (x.2.2.2.1.length+ [v2.1].length) (
    aA (x.2.2.2.2.1.length+ [x.2.1].length) (
     match(decide ((IntKind.i64.wrap (v2.1.2.1.2.1-(1:Int)))≥(0:Int)))with
     |true=>
      match jO (x.1.2.2.1,x.2.1.2.1,(IntKind.i64.wrap (v2.1.2.1.2.1-(1:Int))),())with
      |none=>none
      |some v3=>
      match v3.1 with
      |true=>
       match(v2.2.1.2.2.1==(0:Int))with
       |true=>
        match(v2.2.1.2.2.2.1==(0:Int))with
        |true=>
         match(decide ((IntKind.i64.wrap (v2.1.2.1.2.1-(1:Int)))≥(0:Int)))with
         |true=>
          some (.inl (x.1,(v2.2.1.1,(IntKind.i64.wrap (v2.1.2.1.2.1-(1:Int))),v2.2.1.2.2.1,v2.2.1.2.2.2.1,v2.2.1.2.2.2.2.1,()),x.2.2.1,(x.2.2.2.1++ [v2.1]),(x.2.2.2.2.1++ [x.2.1]),(-1:Int),x.2.2.2.2.2.2.1,x.2.2.2.2.2.2.2.1,(IntKind.i64.wrap (x.2.2.2.2.2.2.2.2.1+(1:Int))),()))
         |false=>
          some (.inl (x.1,v2.2.1,x.2.2.1,(x.2.2.2.1++ [v2.1]),(x.2.2.2.2.1++ [x.2.1]),(IntKind.i64.wrap (v2.1.2.1.2.1-(1:Int))),x.2.2.2.2.2.2.1,x.2.2.2.2.2.2.2.1,(IntKind.i64.wrap (x.2.2.2.2.2.2.2.2.1+(1:Int))),()))
        |false=>
         some (.inl (x.1,v2.2.1,x.2.2.1,(x.2.2.2.1++ [v2.1]),(x.2.2.2.2.1++ [x.2.1]),(IntKind.i64.wrap (v2.1.2.1.2.1-(1:Int))),x.2.2.2.2.2.2.1,x.2.2.2.2.2.2.2.1,(IntKind.i64.wrap (x.2.2.2.2.2.2.2.2.1+(1:Int))),()))
       |false=>
        some (.inl (x.1,v2.2.1,x.2.2.1,(x.2.2.2.1++ [v2.1]),(x.2.2.2.2.1++ [x.2.1]),(IntKind.i64.wrap (v2.1.2.1.2.1-(1:Int))),x.2.2.2.2.2.2.1,x.2.2.2.2.2.2.2.1,(IntKind.i64.wrap (x.2.2.2.2.2.2.2.2.1+(1:Int))),()))
      |false=>
       match(v2.2.1.2.2.1==(0:Int))with
       |true=>
        match(v2.2.1.2.2.2.1==(0:Int))with
        |true=>
         match(decide (x.2.2.2.2.2.1≥(0:Int)))with
         |true=>
          some (.inl (x.1,(v2.2.1.1,x.2.2.2.2.2.1,v2.2.1.2.2.1,v2.2.1.2.2.2.1,v2.2.1.2.2.2.2.1,()),x.2.2.1,(x.2.2.2.1++ [v2.1]),(x.2.2.2.2.1++ [x.2.1]),(-1:Int),x.2.2.2.2.2.2.1,x.2.2.2.2.2.2.2.1,(IntKind.i64.wrap (x.2.2.2.2.2.2.2.2.1+(1:Int))),()))
         |false=>
          some (.inl (x.1,v2.2.1,x.2.2.1,(x.2.2.2.1++ [v2.1]),(x.2.2.2.2.1++ [x.2.1]),x.2.2.2.2.2.1,x.2.2.2.2.2.2.1,x.2.2.2.2.2.2.2.1,(IntKind.i64.wrap (x.2.2.2.2.2.2.2.2.1+(1:Int))),()))
        |false=>
         some (.inl (x.1,v2.2.1,x.2.2.1,(x.2.2.2.1++ [v2.1]),(x.2.2.2.2.1++ [x.2.1]),x.2.2.2.2.2.1,x.2.2.2.2.2.2.1,x.2.2.2.2.2.2.2.1,(IntKind.i64.wrap (x.2.2.2.2.2.2.2.2.1+(1:Int))),()))
       |false=>
        some (.inl (x.1,v2.2.1,x.2.2.1,(x.2.2.2.1++ [v2.1]),(x.2.2.2.2.1++ [x.2.1]),x.2.2.2.2.2.1,x.2.2.2.2.2.2.1,x.2.2.2.2.2.2.2.1,(IntKind.i64.wrap (x.2.2.2.2.2.2.2.2.1+(1:Int))),()))
     |false=>
      match(v2.2.1.2.2.1==(0:Int))with
      |true=>
       match(v2.2.1.2.2.2.1==(0:Int))with
       |true=>
        match(decide (x.2.2.2.2.2.1≥(0:Int)))with
        |true=>
         some (.inl (x.1,(v2.2.1.1,x.2.2.2.2.2.1,v2.2.1.2.2.1,v2.2.1.2.2.2.1,v2.2.1.2.2.2.2.1,()),x.2.2.1,(x.2.2.2.1++ [v2.1]),(x.2.2.2.2.1++ [x.2.1]),(-1:Int),x.2.2.2.2.2.2.1,x.2.2.2.2.2.2.2.1,(IntKind.i64.wrap (x.2.2.2.2.2.2.2.2.1+(1:Int))),()))
        |false=>
         some (.inl (x.1,v2.2.1,x.2.2.1,(x.2.2.2.1++ [v2.1]),(x.2.2.2.2.1++ [x.2.1]),x.2.2.2.2.2.1,x.2.2.2.2.2.2.1,x.2.2.2.2.2.2.2.1,(IntKind.i64.wrap (x.2.2.2.2.2.2.2.2.1+(1:Int))),()))
       |false=>
        some (.inl (x.1,v2.2.1,x.2.2.1,(x.2.2.2.1++ [v2.1]),(x.2.2.2.2.1++ [x.2.1]),x.2.2.2.2.2.1,x.2.2.2.2.2.2.1,x.2.2.2.2.2.2.2.1,(IntKind.i64.wrap (x.2.2.2.2.2.2.2.2.1+(1:Int))),()))
      |false=>
       some (.inl (x.1,v2.2.1,x.2.2.1,(x.2.2.2.1++ [v2.1]),(x.2.2.2.2.1++ [x.2.1]),x.2.2.2.2.2.1,x.2.2.2.2.2.2.1,x.2.2.2.2.2.2.2.1,(IntKind.i64.wrap (x.2.2.2.2.2.2.2.2.1+(1:Int))),()))))) (
   aI (
    aA (x.2.2.2.1.length+ [v2.1].length) (
     aA (x.2.2.2.2.1.length+ [x.2.1].length) (
      match(decide ((IntKind.i64.wrap (v2.1.2.1.2.1-(1:Int)))≥(0:Int)))with
      |true=>
       match jO (x.1.2.2.1,x.2.1.2.1,(IntKind.i64.wrap (v2.1.2.1.2.1-(1:Int))),())with
       |none=>none
       |some v3=>
       match v3.1 with
       |true=>
        match(v2.2.1.2.2.1==(0:Int))with
        |true=>
         match(v2.2.1.2.2.2.1==(0:Int))with
         |true=>
          match(decide ((IntKind.i64.wrap (v2.1.2.1.2.1-(1:Int)))≥(0:Int)))with
          |true=>
           some (.inl (x.1,(v2.2.1.1,(IntKind.i64.wrap (v2.1.2.1.2.1-(1:Int))),v2.2.1.2.2.1,v2.2.1.2.2.2.1,v2.2.1.2.2.2.2.1,()),x.2.2.1,(x.2.2.2.1++ [v2.1]),(x.2.2.2.2.1++ [x.2.1]),(-1:Int),x.2.2.2.2.2.2.1,x.2.2.2.2.2.2.2.1,(IntKind.i64.wrap (x.2.2.2.2.2.2.2.2.1+(1:Int))),()))
          |false=>
           some (.inl (x.1,v2.2.1,x.2.2.1,(x.2.2.2.1++ [v2.1]),(x.2.2.2.2.1++ [x.2.1]),(IntKind.i64.wrap (v2.1.2.1.2.1-(1:Int))),x.2.2.2.2.2.2.1,x.2.2.2.2.2.2.2.1,(IntKind.i64.wrap (x.2.2.2.2.2.2.2.2.1+(1:Int))),()))
         |false=>
          some (.inl (x.1,v2.2.1,x.2.2.1,(x.2.2.2.1++ [v2.1]),(x.2.2.2.2.1++ [x.2.1]),(IntKind.i64.wrap (v2.1.2.1.2.1-(1:Int))),x.2.2.2.2.2.2.1,x.2.2.2.2.2.2.2.1,(IntKind.i64.wrap (x.2.2.2.2.2.2.2.2.1+(1:Int))),()))
        |false=>
         some (.inl (x.1,v2.2.1,x.2.2.1,(x.2.2.2.1++ [v2.1]),(x.2.2.2.2.1++ [x.2.1]),(IntKind.i64.wrap (v2.1.2.1.2.1-(1:Int))),x.2.2.2.2.2.2.1,x.2.2.2.2.2.2.2.1,(IntKind.i64.wrap (x.2.2.2.2.2.2.2.2.1+(1:Int))),()))
       |false=>
        match(v2.2.1.2.2.1==(0:Int))with
        |true=>
         match(v2.2.1.2.2.2.1==(0:Int))with
         |true=>
          match(decide (x.2.2.2.2.2.1≥(0:Int)))with
          |true=>
           some (.inl (x.1,(v2.2.1.1,x.2.2.2.2.2.1,v2.2.1.2.2.1,v2.2.1.2.2.2.1,v2.2.1.2.2.2.2.1,()),x.2.2.1,(x.2.2.2.1++ [v2.1]),(x.2.2.2.2.1++ [x.2.1]),(-1:Int),x.2.2.2.2.2.2.1,x.2.2.2.2.2.2.2.1,(IntKind.i64.wrap (x.2.2.2.2.2.2.2.2.1+(1:Int))),()))
          |false=>
           some (.inl (x.1,v2.2.1,x.2.2.1,(x.2.2.2.1++ [v2.1]),(x.2.2.2.2.1++ [x.2.1]),x.2.2.2.2.2.1,x.2.2.2.2.2.2.1,x.2.2.2.2.2.2.2.1,(IntKind.i64.wrap (x.2.2.2.2.2.2.2.2.1+(1:Int))),()))
         |false=>
          some (.inl (x.1,v2.2.1,x.2.2.1,(x.2.2.2.1++ [v2.1]),(x.2.2.2.2.1++ [x.2.1]),x.2.2.2.2.2.1,x.2.2.2.2.2.2.1,x.2.2.2.2.2.2.2.1,(IntKind.i64.wrap (x.2.2.2.2.2.2.2.2.1+(1:Int))),()))
        |false=>
         some (.inl (x.1,v2.2.1,x.2.2.1,(x.2.2.2.1++ [v2.1]),(x.2.2.2.2.1++ [x.2.1]),x.2.2.2.2.2.1,x.2.2.2.2.2.2.1,x.2.2.2.2.2.2.2.1,(IntKind.i64.wrap (x.2.2.2.2.2.2.2.2.1+(1:Int))),()))
      |false=>
       match(v2.2.1.2.2.1==(0:Int))with
       |true=>
        match(v2.2.1.2.2.2.1==(0:Int))with
        |true=>
         match(decide (x.2.2.2.2.2.1≥(0:Int)))with
         |true=>
          some (.inl (x.1,(v2.2.1.1,x.2.2.2.2.2.1,v2.2.1.2.2.1,v2.2.1.2.2.2.1,v2.2.1.2.2.2.2.1,()),x.2.2.1,(x.2.2.2.1++ [v2.1]),(x.2.2.2.2.1++ [x.2.1]),(-1:Int),x.2.2.2.2.2.2.1,x.2.2.2.2.2.2.2.1,(IntKind.i64.wrap (x.2.2.2.2.2.2.2.2.1+(1:Int))),()))
         |false=>
          some (.inl (x.1,v2.2.1,x.2.2.1,(x.2.2.2.1++ [v2.1]),(x.2.2.2.2.1++ [x.2.1]),x.2.2.2.2.2.1,x.2.2.2.2.2.2.1,x.2.2.2.2.2.2.2.1,(IntKind.i64.wrap (x.2.2.2.2.2.2.2.2.1+(1:Int))),()))
        |false=>
         some (.inl (x.1,v2.2.1,x.2.2.1,(x.2.2.2.1++ [v2.1]),(x.2.2.2.2.1++ [x.2.1]),x.2.2.2.2.2.1,x.2.2.2.2.2.2.1,x.2.2.2.2.2.2.2.1,(IntKind.i64.wrap (x.2.2.2.2.2.2.2.2.1+(1:Int))),()))
       |false=>
        some (.inl (x.1,v2.2.1,x.2.2.1,(x.2.2.2.1++ [v2.1]),(x.2.2.2.2.1++ [x.2.1]),x.2.2.2.2.2.1,x.2.2.2.2.2.2.1,x.2.2.2.2.2.2.2.1,(IntKind.i64.wrap (x.2.2.2.2.2.2.2.2.1+(1:Int))),()))))))) (
  aQ (
   aI (
    aA (x.2.2.2.1.length+ [v2.1].length) (
     aA (x.2.2.2.2.1.length+ [x.2.1].length) (
      match(decide ((IntKind.i64.wrap (v2.1.2.1.2.1-(1:Int)))≥(0:Int)))with
      |true=>
       match jO (x.1.2.2.1,x.2.1.2.1,(IntKind.i64.wrap (v2.1.2.1.2.1-(1:Int))),())with
       |none=>none
       |some v3=>
       match v3.1 with
       |true=>
        match(v2.2.1.2.2.1==(0:Int))with
        |true=>
         match(v2.2.1.2.2.2.1==(0:Int))with
         |true=>
          match(decide ((IntKind.i64.wrap (v2.1.2.1.2.1-(1:Int)))≥(0:Int)))with
          |true=>
           some (.inl (x.1,(v2.2.1.1,(IntKind.i64.wrap (v2.1.2.1.2.1-(1:Int))),v2.2.1.2.2.1,v2.2.1.2.2.2.1,v2.2.1.2.2.2.2.1,()),x.2.2.1,(x.2.2.2.1++ [v2.1]),(x.2.2.2.2.1++ [x.2.1]),(-1:Int),x.2.2.2.2.2.2.1,x.2.2.2.2.2.2.2.1,(IntKind.i64.wrap (x.2.2.2.2.2.2.2.2.1+(1:Int))),()))
          |false=>
           some (.inl (x.1,v2.2.1,x.2.2.1,(x.2.2.2.1++ [v2.1]),(x.2.2.2.2.1++ [x.2.1]),(IntKind.i64.wrap (v2.1.2.1.2.1-(1:Int))),x.2.2.2.2.2.2.1,x.2.2.2.2.2.2.2.1,(IntKind.i64.wrap (x.2.2.2.2.2.2.2.2.1+(1:Int))),()))
         |false=>
          some (.inl (x.1,v2.2.1,x.2.2.1,(x.2.2.2.1++ [v2.1]),(x.2.2.2.2.1++ [x.2.1]),(IntKind.i64.wrap (v2.1.2.1.2.1-(1:Int))),x.2.2.2.2.2.2.1,x.2.2.2.2.2.2.2.1,(IntKind.i64.wrap (x.2.2.2.2.2.2.2.2.1+(1:Int))),()))
        |false=>
         some (.inl (x.1,v2.2.1,x.2.2.1,(x.2.2.2.1++ [v2.1]),(x.2.2.2.2.1++ [x.2.1]),(IntKind.i64.wrap (v2.1.2.1.2.1-(1:Int))),x.2.2.2.2.2.2.1,x.2.2.2.2.2.2.2.1,(IntKind.i64.wrap (x.2.2.2.2.2.2.2.2.1+(1:Int))),()))
       |false=>
        match(v2.2.1.2.2.1==(0:Int))with
        |true=>
         match(v2.2.1.2.2.2.1==(0:Int))with
         |true=>
          match(decide (x.2.2.2.2.2.1≥(0:Int)))with
          |true=>
           some (.inl (x.1,(v2.2.1.1,x.2.2.2.2.2.1,v2.2.1.2.2.1,v2.2.1.2.2.2.1,v2.2.1.2.2.2.2.1,()),x.2.2.1,(x.2.2.2.1++ [v2.1]),(x.2.2.2.2.1++ [x.2.1]),(-1:Int),x.2.2.2.2.2.2.1,x.2.2.2.2.2.2.2.1,(IntKind.i64.wrap (x.2.2.2.2.2.2.2.2.1+(1:Int))),()))
          |false=>
           some (.inl (x.1,v2.2.1,x.2.2.1,(x.2.2.2.1++ [v2.1]),(x.2.2.2.2.1++ [x.2.1]),x.2.2.2.2.2.1,x.2.2.2.2.2.2.1,x.2.2.2.2.2.2.2.1,(IntKind.i64.wrap (x.2.2.2.2.2.2.2.2.1+(1:Int))),()))
         |false=>
          some (.inl (x.1,v2.2.1,x.2.2.1,(x.2.2.2.1++ [v2.1]),(x.2.2.2.2.1++ [x.2.1]),x.2.2.2.2.2.1,x.2.2.2.2.2.2.1,x.2.2.2.2.2.2.2.1,(IntKind.i64.wrap (x.2.2.2.2.2.2.2.2.1+(1:Int))),()))
        |false=>
         some (.inl (x.1,v2.2.1,x.2.2.1,(x.2.2.2.1++ [v2.1]),(x.2.2.2.2.1++ [x.2.1]),x.2.2.2.2.2.1,x.2.2.2.2.2.2.1,x.2.2.2.2.2.2.2.1,(IntKind.i64.wrap (x.2.2.2.2.2.2.2.2.1+(1:Int))),()))
      |false=>
       match(v2.2.1.2.2.1==(0:Int))with
       |true=>
        match(v2.2.1.2.2.2.1==(0:Int))with
        |true=>
         match(decide (x.2.2.2.2.2.1≥(0:Int)))with
         |true=>
          some (.inl (x.1,(v2.2.1.1,x.2.2.2.2.2.1,v2.2.1.2.2.1,v2.2.1.2.2.2.1,v2.2.1.2.2.2.2.1,()),x.2.2.1,(x.2.2.2.1++ [v2.1]),(x.2.2.2.2.1++ [x.2.1]),(-1:Int),x.2.2.2.2.2.2.1,x.2.2.2.2.2.2.2.1,(IntKind.i64.wrap (x.2.2.2.2.2.2.2.2.1+(1:Int))),()))
         |false=>
          some (.inl (x.1,v2.2.1,x.2.2.1,(x.2.2.2.1++ [v2.1]),(x.2.2.2.2.1++ [x.2.1]),x.2.2.2.2.2.1,x.2.2.2.2.2.2.1,x.2.2.2.2.2.2.2.1,(IntKind.i64.wrap (x.2.2.2.2.2.2.2.2.1+(1:Int))),()))
        |false=>
         some (.inl (x.1,v2.2.1,x.2.2.1,(x.2.2.2.1++ [v2.1]),(x.2.2.2.2.1++ [x.2.1]),x.2.2.2.2.2.1,x.2.2.2.2.2.2.1,x.2.2.2.2.2.2.2.1,(IntKind.i64.wrap (x.2.2.2.2.2.2.2.2.1+(1:Int))),()))
       |false=>
        some (.inl (x.1,v2.2.1,x.2.2.1,(x.2.2.2.1++ [v2.1]),(x.2.2.2.2.1++ [x.2.1]),x.2.2.2.2.2.1,x.2.2.2.2.2.2.1,x.2.2.2.2.2.2.2.1,(IntKind.i64.wrap (x.2.2.2.2.2.2.2.2.1+(1:Int))),())))))) (
   aA (x.2.2.2.1.length+ [v2.1].length) (
    aA (x.2.2.2.2.1.length+ [x.2.1].length) (
     match(decide ((IntKind.i64.wrap (v2.1.2.1.2.1-(1:Int)))≥(0:Int)))with
     |true=>
      match jO (x.1.2.2.1,x.2.1.2.1,(IntKind.i64.wrap (v2.1.2.1.2.1-(1:Int))),())with
      |none=>none
      |some v3=>
      match v3.1 with
      |true=>
       match(v2.2.1.2.2.1==(0:Int))with
       |true=>
        match(v2.2.1.2.2.2.1==(0:Int))with
        |true=>
         match(decide ((IntKind.i64.wrap (v2.1.2.1.2.1-(1:Int)))≥(0:Int)))with
         |true=>
          some (.inl (x.1,(v2.2.1.1,(IntKind.i64.wrap (v2.1.2.1.2.1-(1:Int))),v2.2.1.2.2.1,v2.2.1.2.2.2.1,v2.2.1.2.2.2.2.1,()),x.2.2.1,(x.2.2.2.1++ [v2.1]),(x.2.2.2.2.1++ [x.2.1]),(-1:Int),x.2.2.2.2.2.2.1,x.2.2.2.2.2.2.2.1,(IntKind.i64.wrap (x.2.2.2.2.2.2.2.2.1+(1:Int))),()))
         |false=>
          some (.inl (x.1,v2.2.1,x.2.2.1,(x.2.2.2.1++ [v2.1]),(x.2.2.2.2.1++ [x.2.1]),(IntKind.i64.wrap (v2.1.2.1.2.1-(1:Int))),x.2.2.2.2.2.2.1,x.2.2.2.2.2.2.2.1,(IntKind.i64.wrap (x.2.2.2.2.2.2.2.2.1+(1:Int))),()))
        |false=>
         some (.inl (x.1,v2.2.1,x.2.2.1,(x.2.2.2.1++ [v2.1]),(x.2.2.2.2.1++ [x.2.1]),(IntKind.i64.wrap (v2.1.2.1.2.1-(1:Int))),x.2.2.2.2.2.2.1,x.2.2.2.2.2.2.2.1,(IntKind.i64.wrap (x.2.2.2.2.2.2.2.2.1+(1:Int))),()))
       |false=>
        some (.inl (x.1,v2.2.1,x.2.2.1,(x.2.2.2.1++ [v2.1]),(x.2.2.2.2.1++ [x.2.1]),(IntKind.i64.wrap (v2.1.2.1.2.1-(1:Int))),x.2.2.2.2.2.2.1,x.2.2.2.2.2.2.2.1,(IntKind.i64.wrap (x.2.2.2.2.2.2.2.2.1+(1:Int))),()))
      |false=>
       match(v2.2.1.2.2.1==(0:Int))with
       |true=>
        match(v2.2.1.2.2.2.1==(0:Int))with
        |true=>
         match(decide (x.2.2.2.2.2.1≥(0:Int)))with
         |true=>
          some (.inl (x.1,(v2.2.1.1,x.2.2.2.2.2.1,v2.2.1.2.2.1,v2.2.1.2.2.2.1,v2.2.1.2.2.2.2.1,()),x.2.2.1,(x.2.2.2.1++ [v2.1]),(x.2.2.2.2.1++ [x.2.1]),(-1:Int),x.2.2.2.2.2.2.1,x.2.2.2.2.2.2.2.1,(IntKind.i64.wrap (x.2.2.2.2.2.2.2.2.1+(1:Int))),()))
         |false=>
          some (.inl (x.1,v2.2.1,x.2.2.1,(x.2.2.2.1++ [v2.1]),(x.2.2.2.2.1++ [x.2.1]),x.2.2.2.2.2.1,x.2.2.2.2.2.2.1,x.2.2.2.2.2.2.2.1,(IntKind.i64.wrap (x.2.2.2.2.2.2.2.2.1+(1:Int))),()))
        |false=>
         some (.inl (x.1,v2.2.1,x.2.2.1,(x.2.2.2.1++ [v2.1]),(x.2.2.2.2.1++ [x.2.1]),x.2.2.2.2.2.1,x.2.2.2.2.2.2.1,x.2.2.2.2.2.2.2.1,(IntKind.i64.wrap (x.2.2.2.2.2.2.2.2.1+(1:Int))),()))
       |false=>
        some (.inl (x.1,v2.2.1,x.2.2.1,(x.2.2.2.1++ [v2.1]),(x.2.2.2.2.1++ [x.2.1]),x.2.2.2.2.2.1,x.2.2.2.2.2.2.1,x.2.2.2.2.2.2.2.1,(IntKind.i64.wrap (x.2.2.2.2.2.2.2.2.1+(1:Int))),()))
     |false=>
      match(v2.2.1.2.2.1==(0:Int))with
      |true=>
       match(v2.2.1.2.2.2.1==(0:Int))with
       |true=>
        match(decide (x.2.2.2.2.2.1≥(0:Int)))with
        |true=>
         some (.inl (x.1,(v2.2.1.1,x.2.2.2.2.2.1,v2.2.1.2.2.1,v2.2.1.2.2.2.1,v2.2.1.2.2.2.2.1,()),x.2.2.1,(x.2.2.2.1++ [v2.1]),(x.2.2.2.2.1++ [x.2.1]),(-1:Int),x.2.2.2.2.2.2.1,x.2.2.2.2.2.2.2.1,(IntKind.i64.wrap (x.2.2.2.2.2.2.2.2.1+(1:Int))),()))
        |false=>
         some (.inl (x.1,v2.2.1,x.2.2.1,(x.2.2.2.1++ [v2.1]),(x.2.2.2.2.1++ [x.2.1]),x.2.2.2.2.2.1,x.2.2.2.2.2.2.1,x.2.2.2.2.2.2.2.1,(IntKind.i64.wrap (x.2.2.2.2.2.2.2.2.1+(1:Int))),()))
       |false=>
        some (.inl (x.1,v2.2.1,x.2.2.1,(x.2.2.2.1++ [v2.1]),(x.2.2.2.2.1++ [x.2.1]),x.2.2.2.2.2.1,x.2.2.2.2.2.2.1,x.2.2.2.2.2.2.2.1,(IntKind.i64.wrap (x.2.2.2.2.2.2.2.2.1+(1:Int))),()))
      |false=>
       some (.inl (x.1,v2.2.1,x.2.2.1,(x.2.2.2.1++ [v2.1]),(x.2.2.2.2.1++ [x.2.1]),x.2.2.2.2.2.1,x.2.2.2.2.2.2.1,x.2.2.2.2.2.2.2.1,(IntKind.i64.wrap (x.2.2.2.2.2.2.2.2.1+(1:Int))),()))))))
|false=>
 some (.inr (.inl (x.2.1,x.2.2.1,x.2.2.2.1,x.2.2.2.2.1,())))
noncomputable def mY(x:Ty.T ad0):Option (Ty.T afW):=
match ag fI (x.1,x.2.1,((0:Int),(0:Int),(0:Int),(0:Int),(0:Int),()),[],[],(-1:Int),x.2.2.1,(x.2.2.1.length:Int),(0:Int),())with
|none=>none
|some (.inl v4)=>
 some (v4.2.2.1,v4.2.2.2.1,v4.1,())
|some (.inr v6)=>
 none
noncomputable def D5:Spec:=⟨_,afW,.unit,rfl,mY⟩
noncomputable def BK:FuncId→Option Spec:=bh [(65,D4),(144,BJ)]
theorem Kr:∀f s,BK f=some s→FnOK G0 Tryz.prog f s:=aF ⟨OB,Mr,trivial⟩
def yY:aO:=⟨[3,4,8,9,10,11,19,20,21],abM,0,[4,8,9,10],ac0,[],.unit⟩
noncomputable def BL:List ay:=[yY.spec fI]
theorem Ii:bc bd E0 BK (ba Tryz.f82 BL) Tryz.f82 0 yY fI:=fun x=>by kernel_rfl
theorem BM:FnOK G0 Tryz.prog 82 D5:=aH ao Kr Tryz.func82 BL (by kernel_rfl) (by exact⟨(Ii).lok,trivial⟩) fun x=>by kernel_rfl
noncomputable def pZ(x:Ty.T ad0):Option (Ty.T aeU):=
match lv x with
|none=>none
|some v1=>
match(v1.1 != (0:Int))with
|true=>
 some ([],((0:Int),(0:Int),(0:Int),(0:Int),(0:Int),()),v1.1,())
|false=>
 match mY x with
 |none=>none
 |some v2=>
 some (v2.1,v2.2.2.1,(0:Int),())
noncomputable def Qw:Spec:=⟨_,aeU,.unit,rfl,pZ⟩
theorem OD:FnOK G0 Tryz.prog 28 Qw:=ap ao (sg yG (sg BM (aJ))) Tryz.func28
abbrev abN:Ty:=(.pair (.list ax) (.pair (.int .i64) .unit))
noncomputable def gz(x:(Ty.T abN)):Option ((Ty.T abN) ⊕ ((Ty.T aeM) ⊕ (Ty.T ae))):=
match(decide (x.2.1<(x.1.length:Int)))with
|true=>
 aa (aq x.1 x.2.1) fun v1=>
 match l6 (v1,())with
 |none=>none
 |some v2=>
 match(!v2.1)with
 |true=>
  some (.inr (.inr (false,())))
 |false=>
  some (.inl (x.1,(IntKind.i64.wrap (x.2.1+(1:Int))),()))
|false=>
 some (.inr (.inl (x.1,())))
noncomputable def p4(x:Ty.T aeM):Option (Ty.T ae):=
match ag gz (x.1,(0:Int),())with
|none=>none
|some (.inl v3)=>
 some ((decide ((v3.1.length:Int)≤(30:Int))),())
|some (.inr v4)=>
 some (v4.1,())
noncomputable def Qx:Spec:=⟨_,ae,.unit,rfl,p4⟩
noncomputable def BN:FuncId→Option Spec:=bh [(101,xH)]
theorem Ks:∀f s,BN f=some s→FnOK G0 Tryz.prog f s:=aF ⟨Dw,trivial⟩
def yZ:aO:=⟨[0,3],abN,0,[0],aeM,[2],ae⟩
noncomputable def BO:List ay:=[yZ.spec gz]
theorem Ij:bc bd E0 BN (ba Tryz.f71 BO) Tryz.f71 0 yZ gz:=fun x=>by kernel_rfl
theorem OE:FnOK G0 Tryz.prog 71 Qx:=aH ao Ks Tryz.func71 BO (by kernel_rfl) (by exact⟨(Ij).lok,trivial⟩) fun x=>by kernel_rfl
noncomputable def Ap(x:Ty.T aeK):Option (Ty.T ae):=
match bp (x.1.1,(0:Int),(255:Int),())with
|none=>none
|some v1=>
match v1.1 with
|true=>
 match bp (x.1.2.1,(0:Int),(7:Int),())with
 |none=>none
 |some v2=>
 match v2.1 with
 |true=>
  match p4 (x.1.2.2.1,())with
  |none=>none
  |some v3=>
  match v3.1 with
  |true=>
   match p4 (x.1.2.2.2.1,())with
   |none=>none
   |some v4=>
   some (v4.1,())
  |false=>
   some (false,())
 |false=>
  some (false,())
|false=>
 some (false,())
noncomputable def Kt:Spec:=⟨_,ae,.unit,rfl,Ap⟩
theorem SH:FnOK G0 Tryz.prog 20 Kt:=ap ao (sg cD (sg OE (aJ))) Tryz.func20
noncomputable def iH(x:Ty.T y_7):Option (Ty.T ae):=
match bp (x.1.1,(0:Int),(65535:Int),())with
|none=>none
|some v1=>
match v1.1 with
|true=>
 match bp (x.1.2.1,(0:Int),(15:Int),())with
 |none=>none
 |some v2=>
 match v2.1 with
 |true=>
  match bp (x.1.2.2.1,(0:Int),(15:Int),())with
  |none=>none
  |some v3=>
  match v3.1 with
  |true=>
   match bp (x.1.2.2.2.1,(0:Int),(255:Int),())with
   |none=>none
   |some v4=>
   match v4.1 with
   |true=>
    match bp (x.1.2.2.2.2.1,(0:Int),(4294967295:Int),())with
    |none=>none
    |some v5=>
    some (v5.1,())
   |false=>
    some (false,())
  |false=>
   some (false,())
 |false=>
  some (false,())
|false=>
 some (false,())
noncomputable def SI:Spec:=⟨_,ae,.unit,rfl,iH⟩
theorem vq:FnOK G0 Tryz.prog 90 SI:=ap ao (sg cD (aJ)) Tryz.func90
noncomputable def D6(x:Ty.T agq):Option (Ty.T ae):=
match bp (x.2.1,(0:Int),(IntKind.i64.wrap ((x.1.length:Int)-(1:Int))),())with
|none=>none
|some v1=>
some (v1.1,())
noncomputable def SJ:Spec:=⟨_,ae,.unit,rfl,D6⟩
theorem Qy:FnOK G0 Tryz.prog 216 SJ:=ap ao (sg cD (aJ)) Tryz.func216
noncomputable def mp(x:Ty.T acQ):Option (Ty.T ae):=
match iH ((x.2.1.1,x.2.1.2.1,x.2.1.2.2.1,x.2.1.2.2.2.1,x.2.1.2.2.2.2.1,()),())with
|none=>none
|some v1=>
match(!v1.1)with
|true=>
 some (false,())
|false=>
 match D6 (x.1.2.2.1,x.2.1.2.1,())with
 |none=>none
 |some v2=>
 match(!v2.1)with
 |true=>
  some (false,())
 |false=>
  aa (aq x.1.2.2.1 x.2.1.2.1) fun v3=>
  match(decide (x.2.1.2.2.1≥v3.1))with
  |true=>
   some (false,())
  |false=>
   aa (aq x.1.2.2.1 x.2.1.2.1) fun v4=>
   match(decide (x.2.1.2.2.2.1≥v4.2.1))with
   |true=>
    some (false,())
   |false=>
    match cM (x.1.2.1,())with
    |none=>none
    |some v5=>
    some (((bits BinOp.and .i64 x.2.1.2.2.2.2.1 v5.1)==x.2.1.2.2.2.2.1),())
noncomputable def Ms:Spec:=⟨_,ae,.unit,rfl,mp⟩
theorem Ku:FnOK G0 Tryz.prog 150 Ms:=ap ao (sg vq (sg kg (sg Qy (aJ)))) Tryz.func150
noncomputable def wS(x:Ty.T acQ):Option (Ty.T et):=
match l5 ((x.1.1,x.1.2.1,x.1.2.2.1,x.1.2.2.2.1,()),())with
|none=>none
|some v1=>
match(!v1.1)with
|true=>
 some ((1:Int),())
|false=>
 match mp ((x.1.1,x.1.2.1,x.1.2.2.1,x.1.2.2.2.1,()),(x.2.1.1,x.2.1.2.1,x.2.1.2.2.1,x.2.1.2.2.2.1,x.2.1.2.2.2.2.1,()),())with
 |none=>none
 |some v2=>
 match(!v2.1)with
 |true=>
  some ((2:Int),())
 |false=>
  some ((0:Int),())
noncomputable def GI:Spec:=⟨_,et,.unit,rfl,wS⟩
theorem Qz:FnOK G0 Tryz.prog 132 GI:=ap ao (sg Gq (sg Ku (aJ))) Tryz.func132
noncomputable def ct(x:(Ty.T afg)):Option ((Ty.T afg) ⊕ ((Ty.T et) ⊕ (Ty.T .unit))):=
match(decide (x.2.2.1<(x.1.length:Int)))with
|true=>
 match(x.2.1==(0:Int))with
 |true=>
  aa (aq x.1 x.2.2.1) fun v2=>
  match Ap (v2,())with
  |none=>none
  |some v3=>
  match(!v3.1)with
  |true=>
   some (.inl (x.1,(5:Int),(IntKind.i64.wrap (x.2.2.1+(1:Int))),()))
  |false=>
   some (.inl (x.1,x.2.1,(IntKind.i64.wrap (x.2.2.1+(1:Int))),()))
 |false=>
  some (.inr (.inl (x.2.1,())))
|false=>
 some (.inr (.inl (x.2.1,())))
noncomputable def o7(x:Ty.T ad0):Option (Ty.T et):=
match wS (x.1,x.2.1,())with
|none=>none
|some v1=>
match(v1.1==(0:Int))with
|true=>
 match(decide ((x.2.2.1.length:Int)>(40:Int)))with
 |true=>
  match ag ct (x.2.2.1,(3:Int),(0:Int),())with
  |none=>none
  |some (.inl v4)=>
   some (v4.1,())
  |some (.inr v6)=>
   none
 |false=>
  match ag ct (x.2.2.1,v1.1,(0:Int),())with
  |none=>none
  |some (.inl v7)=>
   some (v7.1,())
  |some (.inr v9)=>
   none
|false=>
 match ag ct (x.2.2.1,v1.1,(0:Int),())with
 |none=>none
 |some (.inl v10)=>
  some (v10.1,())
 |some (.inr v12)=>
  none
noncomputable def GJ:Spec:=⟨_,et,.unit,rfl,o7⟩
noncomputable def D7:FuncId→Option Spec:=bh [(20,Kt),(132,GI)]
theorem Mu:∀f s,D7 f=some s→FnOK G0 Tryz.prog f s:=aF ⟨SH,Qz,trivial⟩
def BP:aO:=⟨[2,7,8],afg,0,[7],et,[],.unit⟩
noncomputable def D8:List ay:=[BP.spec ct]
theorem Kv:bc bd E0 D7 (ba Tryz.f66 D8) Tryz.f66 0 BP ct:=fun x=>by kernel_rfl
theorem D9:FnOK G0 Tryz.prog 66 GJ:=aH ao Mu Tryz.func66 D8 (by kernel_rfl) (by exact⟨(Kv).lok,trivial⟩) fun x=>by kernel_rfl
noncomputable def cJ(x:Ty.T acQ):Option (Ty.T ads):=
match rD (x.1.2.2.2.1,x.2.1.2.1,x.2.1.2.2.1,x.2.1.2.2.2.1,())with
|none=>none
|some v1=>
aa (aq x.1.2.2.2.1 v1.1) fun v2=>
some ((v2.2.2.2.1.1,v2.2.2.2.1.2.1,v2.2.2.2.1.2.2.1,v2.2.2.2.1.2.2.2.1,v2.2.2.2.1.2.2.2.2.1,()),())
noncomputable def xP:Spec:=⟨_,ads,.unit,rfl,cJ⟩
theorem gT:FnOK G0 Tryz.prog 84 xP:=ap ao (sg Dr (aJ)) Tryz.func84
abbrev abO:Ty:=agw
noncomputable def iM(x:(Ty.T abO)):Option ((Ty.T abO) ⊕ ((Ty.T la) ⊕ (Ty.T .unit))):=
match(decide (x.1>(0:Int)))with
|true=>
 aA (x.2.2.1.length+ [x.2.1].length) (
  some (.inl ((IntKind.i64.wrap (x.1-(1:Int))),x.2.1,(x.2.2.1++ [x.2.1]),())))
|false=>
 some (.inr (.inl (x.2.2.1,())))
noncomputable def dQ(x:Ty.T an):Option (Ty.T la):=
match ag iM (x.1,x.2.1,[],())with
|none=>none
|some (.inl v1)=>
 some (v1.1,())
|some (.inr v3)=>
 none
noncomputable def vr:Spec:=⟨_,la,.unit,rfl,dQ⟩
noncomputable def BQ:FuncId→Option Spec:=bh []
theorem Kw:∀f s,BQ f=some s→FnOK G0 Tryz.prog f s:=aF trivial
def y1:aO:=⟨[0,1,5],abO,0,[5],la,[],.unit⟩
noncomputable def BR:List ay:=[y1.spec iM]
theorem Ik:bc bd E0 BQ (ba Tryz.f153 BR) Tryz.f153 0 y1 iM:=fun x=>by kernel_rfl
theorem ll:FnOK G0 Tryz.prog 153 vr:=aH ao Kw Tryz.func153 BR (by kernel_rfl) (by exact⟨(Ik).lok,trivial⟩) fun x=>by kernel_rfl
noncomputable def jP(x:Ty.T Fn):Option (Ty.T la):=
aA (([]:List (Ty.T (.int .i64))).length+x.1.length) (
 some ((([]:List (Ty.T (.int .i64)))++x.1),()))
noncomputable def Aq:Spec:=⟨_,la,.unit,rfl,jP⟩
theorem xQ:FnOK G0 Tryz.prog 162 Aq:=ap ao aJ Tryz.func162
abbrev acP:Ty:=aek
noncomputable def dh(x:(Ty.T acP)):Option ((Ty.T acP) ⊕ ((Ty.T la) ⊕ (Ty.T .unit))):=
match(decide (x.2.2.2.1<x.2.1))with
|true=>
 match(x.1.1==(5:Int))with
 |true=>
  aa (aq x.2.2.1 x.2.2.2.1) fun _=>
  match x.2.2.1[x.2.2.2.1.toNat]? with
  |none=>none
  |some v3=>
  some (.inl ((x.1.1,x.1.2.1,x.1.2.2.1,x.1.2.2.2.1,()),x.2.1,(x.2.2.1.set x.2.2.2.1.toNat (1:Int)),(IntKind.i64.wrap (x.2.2.2.1+(1:Int))),()))
 |false=>
  match(x.1.1==(6:Int))with
  |true=>
   aa (aq x.2.2.1 x.2.2.2.1) fun _=>
   match x.2.2.1[x.2.2.2.1.toNat]? with
   |none=>none
   |some v5=>
   some (.inl ((x.1.1,x.1.2.1,x.1.2.2.1,x.1.2.2.2.1,()),x.2.1,(x.2.2.1.set x.2.2.2.1.toNat x.1.2.2.2.1),(IntKind.i64.wrap (x.2.2.2.1+(1:Int))),()))
  |false=>
   aa (aq x.2.2.1 x.2.2.2.1) fun _=>
   match x.2.2.1[x.2.2.2.1.toNat]? with
   |none=>none
   |some v7=>
   aa (aq x.2.2.1 x.2.2.2.1) fun _=>
   match x.2.2.1[x.2.2.2.1.toNat]? with
   |none=>none
   |some v9=>
   some (.inl ((x.1.1,x.1.2.1,x.1.2.2.1,x.1.2.2.2.1,()),x.2.1,(x.2.2.1.set x.2.2.2.1.toNat (IntKind.i64.wrap ((1:Int)-v7))),(IntKind.i64.wrap (x.2.2.2.1+(1:Int))),()))
|false=>
 some (.inr (.inl (x.2.2.1,())))
noncomputable def fX(x:Ty.T afq):Option (Unit ⊕ (Ty.T Fn)):=
match jP (x.1,())with
|none=>none
|some v1=>
match ag dh ((x.2.1.1,x.2.1.2.1,x.2.1.2.2.1,x.2.1.2.2.2.1,()),x.2.2.2.1,v1.1,x.2.2.1,())with
|none=>none
|some (.inl v2)=>
 some (.inr (v2.1,()))
|some (.inr v4)=>
 none
noncomputable def ku(x:Ty.T afv):Option (Unit ⊕ (Ty.T Fn)):=
match(x.2.1.1==(1:Int))with
|true=>
 match fX (x.1,(x.2.1.1,x.2.1.2.1,x.2.1.2.2.1,x.2.1.2.2.2.1,()),x.2.2.2.1,(if(IntKind.i64.wrap (x.2.1.2.1+(1:Int)))<x.2.2.1 then(IntKind.i64.wrap (x.2.1.2.1+(1:Int)))else x.2.2.1),())with
 |none=>none
 |some (.inl v6)=>none
 |some (.inr v5)=>
  some (.inr (v5.1,()))
|false=>
 match(x.2.1.1==(5:Int))with
 |true=>
  match fX (x.1,(x.2.1.1,x.2.1.2.1,x.2.1.2.2.1,x.2.1.2.2.2.1,()),x.2.2.2.1,x.2.2.1,())with
  |none=>none
  |some (.inl v8)=>none
  |some (.inr v7)=>
   some (.inr (v7.1,()))
 |false=>
  match(x.2.1.1==(3:Int))with
  |true=>
   aa (aL x.1.length none (some (.dat (.int .i64) x.2.2.2.1))) fun v9=>
   aa (aL x.1.length (some (.dat (.int .i64) x.2.2.2.2.1)) none) fun v10=>
   match jP ((List.drop v9.1 (List.take v9.2 x.1)),())with
   |none=>none
   |some v11=>
   aA (v11.1.length+(List.drop v10.1 (List.take v10.2 x.1)).length) (
    some (.inr ((v11.1++(List.drop v10.1 (List.take v10.2 x.1))),())))
  |false=>
   match(x.2.1.1==(4:Int))with
   |true=>
    match(decide (x.2.1.2.1>x.2.2.1))with
    |true=>
     match jP (x.1,())with
     |none=>none
     |some v12=>
     some (.inr (v12.1,()))
    |false=>
     aa (aL x.1.length none (some (.dat (.int .i64) x.2.2.2.1))) fun v13=>
     match jP ((List.drop v13.1 (List.take v13.2 x.1)),())with
     |none=>none
     |some v14=>
     match dQ (x.2.1.2.2.1,x.2.1.2.2.2.1,())with
     |none=>none
     |some v15=>
     aA (v14.1.length+v15.1.length) (
      aa (aL x.1.length (some (.dat (.int .i64) x.2.2.2.1)) none) fun v16=>
      aA ((v14.1++v15.1).length+(List.drop v16.1 (List.take v16.2 x.1)).length) (
       aa (aL ((v14.1++v15.1)++(List.drop v16.1 (List.take v16.2 x.1))).length none (some (.dat (.int .i64) (if(8192:Int)<(((v14.1++v15.1)++(List.drop v16.1 (List.take v16.2 x.1))).length:Int)then(8192:Int)else(((v14.1++v15.1)++(List.drop v16.1 (List.take v16.2 x.1))).length:Int))))) fun v17=>
       some (.inr ((List.drop v17.1 (List.take v17.2 ((v14.1++v15.1)++(List.drop v16.1 (List.take v16.2 x.1))))),()))))
   |false=>
    match fX (x.1,(x.2.1.1,x.2.1.2.1,x.2.1.2.2.1,x.2.1.2.2.2.1,()),x.2.2.2.1,x.2.2.2.2.1,())with
    |none=>none
    |some (.inl v19)=>none
    |some (.inr v18)=>
     some (.inr (v18.1,()))
noncomputable def mZ(x:Ty.T afQ):Option (Ty.T Fn):=
aI (
 match ku (x.1,(x.2.1.1,x.2.1.2.1,x.2.1.2.2.1,x.2.1.2.2.2.1,()),(x.1.length:Int),(if x.2.1.2.1<(x.1.length:Int)then x.2.1.2.1 else(x.1.length:Int)),(if(IntKind.i64.wrap (x.2.1.2.1+x.2.1.2.2.1))<(x.1.length:Int)then(IntKind.i64.wrap (x.2.1.2.1+x.2.1.2.2.1))else(x.1.length:Int)),())with
 |none=>none
 |some (.inl v21)=>none
 |some (.inr v20)=>
  some (v20.1,()))
noncomputable def vt:Spec:=⟨_,Fn,.unit,rfl,mZ⟩
noncomputable def gj:FuncId→Option Spec:=bh [(153,vr),(162,Aq)]
theorem Kx:∀f s,gj f=some s→FnOK G0 Tryz.prog f s:=aF ⟨ll,xQ,trivial⟩
noncomputable def wT:List (Nat×ay):=[(3,⟨[0,3,5,6,7],afv,1000003,[],.unit,[4],Fn,ku⟩),(16,⟨[0,3,6,7],afq,1000016,[],.unit,[4],Fn,fX⟩)]
noncomputable def lm:Nat→Option ay:=PP (bZ (ff Tryz.f104)) [⟨[3,7,9,10],aek,1,[9],la,[],.unit,ag dh⟩] wT
theorem Il(x):eY bd E0 gj lm Tryz.f104.ntmps (VT Tryz.f104 2) (eX Tryz.f104.ntmps [0,3,5,6,7] afv x) (zZ gj Tryz.f104.ntmps 1000003 [] .unit [4] Fn)=ku x:=by kernel_rfl
theorem FQ(x):eY bd E0 gj lm Tryz.f104.ntmps (VT Tryz.f104 3) (eX Tryz.f104.ntmps [0,3,6,7] afq x) (zZ gj Tryz.f104.ntmps 1000016 [] .unit [4] Fn)=fX x:=by kernel_rfl
theorem FR(x):eY bd E0 gj lm Tryz.f104.ntmps (LF Tryz.f104 0) (eX Tryz.f104.ntmps [3,7,9,10] aek x) (z6 gj Tryz.f104.ntmps [3,7,9,10] aek 1 [9] la [] .unit)=dh x:=by kernel_rfl
theorem OG:FnOK G0 Tryz.prog 104 vt:=Zr (Λ:=lm) ao Kx Tryz.func104 (by kernel_rfl) (show Tryz.f104.body=some (ff Tryz.f104) by kernel_rfl) [⟨[3,7,9,10],aek,1,[9],la,[],.unit,ag dh⟩] wT rfl (by kernel_rfl) (by exact⟨PR (FR),trivial⟩) (by exact⟨trivial,trivial,Tz Il,Tz FQ,trivial,trivial,trivial,trivial,trivial,trivial,trivial,trivial,trivial,trivial,trivial,trivial,trivial,trivial,trivial,trivial,trivial,trivial,trivial,trivial,trivial,trivial,trivial⟩) (by kernel_rfl)
 fun x y h=>(show rn bd E0 gj lm Tryz.f104 vt x=mZ x by kernel_rfl).trans h
abbrev abP:Ty:=(.pair (.list ax) (.pair (.list (.int .i64)) (.pair (.int .i64) .unit)))
noncomputable def gA(x:(Ty.T abP)):Option ((Ty.T abP) ⊕ ((Ty.T Fn) ⊕ (Ty.T .unit))):=
match(decide (x.2.2.1<(x.1.length:Int)))with
|true=>
 aa (aq x.1 x.2.2.1) fun v2=>
 match mZ (x.2.1,v2,())with
 |none=>none
 |some v3=>
 some (.inl (x.1,v3.1,(IntKind.i64.wrap (x.2.2.1+(1:Int))),()))
|false=>
 some (.inr (.inl (x.2.1,())))
noncomputable def iz(x:Ty.T afT):Option (Ty.T Fn):=
match jP (x.1,())with
|none=>none
|some v1=>
match ag gA (x.2.1,v1.1,(0:Int),())with
|none=>none
|some (.inl v4)=>
 some (v4.1,())
|some (.inr v6)=>
 none
noncomputable def QA:Spec:=⟨_,Fn,.unit,rfl,iz⟩
noncomputable def BS:FuncId→Option Spec:=bh [(104,vt),(162,Aq)]
theorem Ky:∀f s,BS f=some s→FnOK G0 Tryz.prog f s:=aF ⟨OG,xQ,trivial⟩
def y3:aO:=⟨[1,5,6],abP,0,[5],Fn,[],.unit⟩
noncomputable def BT:List ay:=[y3.spec gA]
theorem Im:bc bd E0 BS (ba Tryz.f108 BT) Tryz.f108 0 y3 gA:=fun x=>by kernel_rfl
theorem OH:FnOK G0 Tryz.prog 108 QA:=aH ao Ky Tryz.func108 BT (by kernel_rfl) (by exact⟨(Im).lok,trivial⟩) fun x=>by kernel_rfl
abbrev acf:Ty:=agx
noncomputable def io(x:(Ty.T acf)):Option ((Ty.T acf) ⊕ ((Ty.T .unit) ⊕ (Ty.T ae))):=
match(decide (x.2.2.1<(x.1.length:Int)))with
|true=>
 aa (aq x.1 x.2.2.1) fun v1=>
 aa (aq x.2.1 x.2.2.1) fun v2=>
 match(v1 != v2)with
 |true=>
  some (.inr (.inr (false,())))
 |false=>
  some (.inl (x.1,x.2.1,(IntKind.i64.wrap (x.2.2.1+(1:Int))),()))
|false=>
 some (.inr (.inl (())))
noncomputable def bI(x:Ty.T aeh):Option (Ty.T ae):=
match((x.1.length:Int) != (x.2.1.length:Int))with
|true=>
 some (false,())
|false=>
 match ag io (x.1,x.2.1,(0:Int),())with
 |none=>none
 |some (.inl v3)=>
  some (true,())
 |some (.inr v4)=>
  some (v4.1,())
noncomputable def SK:Spec:=⟨_,ae,.unit,rfl,bI⟩
noncomputable def Ea:FuncId→Option Spec:=bh []
theorem Mv:∀f s,Ea f=some s→FnOK G0 Tryz.prog f s:=aF trivial
def BU:aO:=⟨[0,1,5],acf,0,[],.unit,[4],ae⟩
noncomputable def Eb:List ay:=[BU.spec io]
theorem Kz:bc bd E0 Ea (ba Tryz.f225 Eb) Tryz.f225 0 BU io:=fun x=>by kernel_rfl
theorem Ec:FnOK G0 Tryz.prog 225 SK:=aH ao Mv Tryz.func225 Eb (by kernel_rfl) (by exact⟨(Kz).lok,trivial⟩) fun x=>by kernel_rfl
noncomputable def rY(x:Ty.T afk):Option (Ty.T ae):=
match(x.1.1==x.2.1.1)with
|true=>
 match(x.1.2.1==x.2.1.2.1)with
 |true=>
  match(dy ab (x.1.2.2.1.1,x.1.2.2.1.2.1,x.1.2.2.1.2.2.1,x.1.2.2.1.2.2.2.1,x.1.2.2.1.2.2.2.2.1,()) (x.2.1.2.2.1.1,x.2.1.2.2.1.2.1,x.2.1.2.2.1.2.2.1,x.2.1.2.2.1.2.2.2.1,x.2.1.2.2.1.2.2.2.2.1,()))with
  |true=>
   match bI (x.1.2.2.2.1,x.2.1.2.2.2.1,())with
   |none=>none
   |some v1=>
   some (v1.1,())
  |false=>
   some (false,())
 |false=>
  some (false,())
|false=>
 some (false,())
noncomputable def SL:Spec:=⟨_,ae,.unit,rfl,rY⟩
theorem QB:FnOK G0 Tryz.prog 168 SL:=ap ao (sg Ec (aJ)) Tryz.func168
noncomputable def kQ(x:Ty.T af3):Option (Ty.T aeY):=
match(x.1.1==(3:Int))with
|true=>
 match(x.2.1.1==(3:Int))with
 |true=>
  match rY ((x.1.2.1.1,x.1.2.1.2.1,(x.1.2.1.2.2.1.1,x.1.2.1.2.2.1.2.1,x.1.2.1.2.2.1.2.2.1,x.1.2.1.2.2.1.2.2.2.1,x.1.2.1.2.2.1.2.2.2.2.1,()),x.1.2.1.2.2.2.1,()),(x.2.1.2.1.1,x.2.1.2.1.2.1,(x.2.1.2.1.2.2.1.1,x.2.1.2.1.2.2.1.2.1,x.2.1.2.1.2.2.1.2.2.1,x.2.1.2.1.2.2.1.2.2.2.1,x.2.1.2.1.2.2.1.2.2.2.2.1,()),x.2.1.2.1.2.2.2.1,()),())with
  |none=>none
  |some v1=>
  match v1.1 with
  |true=>
   some ((x.1.1,(x.1.2.1.1,x.1.2.1.2.1,(x.1.2.1.2.2.1.1,x.1.2.1.2.2.1.2.1,x.1.2.1.2.2.1.2.2.1,x.1.2.1.2.2.1.2.2.2.1,x.1.2.1.2.2.1.2.2.2.2.1,()),x.1.2.1.2.2.2.1,()),()),())
  |false=>
   match(x.1.1==(3:Int))with
   |true=>
    match(x.2.1.1==(3:Int))with
    |true=>
     some (((4:Int),((0:Int),(0:Int),((0:Int),(0:Int),(0:Int),(0:Int),(0:Int),()),[],()),()),())
    |false=>
     match(x.1.1==(4:Int))with
     |true=>
      some (((4:Int),((0:Int),(0:Int),((0:Int),(0:Int),(0:Int),(0:Int),(0:Int),()),[],()),()),())
     |false=>
      match(x.2.1.1==(4:Int))with
      |true=>
       some (((4:Int),((0:Int),(0:Int),((0:Int),(0:Int),(0:Int),(0:Int),(0:Int),()),[],()),()),())
      |false=>
       match(x.1.1==(3:Int))with
       |true=>
        some ((x.1.1,(x.1.2.1.1,x.1.2.1.2.1,(x.1.2.1.2.2.1.1,x.1.2.1.2.2.1.2.1,x.1.2.1.2.2.1.2.2.1,x.1.2.1.2.2.1.2.2.2.1,x.1.2.1.2.2.1.2.2.2.2.1,()),x.1.2.1.2.2.2.1,()),()),())
       |false=>
        match(x.2.1.1==(3:Int))with
        |true=>
         some ((x.2.1.1,(x.2.1.2.1.1,x.2.1.2.1.2.1,(x.2.1.2.1.2.2.1.1,x.2.1.2.1.2.2.1.2.1,x.2.1.2.1.2.2.1.2.2.1,x.2.1.2.1.2.2.1.2.2.2.1,x.2.1.2.1.2.2.1.2.2.2.2.1,()),x.2.1.2.1.2.2.2.1,()),()),())
        |false=>
         some (((if x.2.1.1>x.1.1 then x.2.1.1 else x.1.1),((0:Int),(0:Int),((0:Int),(0:Int),(0:Int),(0:Int),(0:Int),()),[],()),()),())
   |false=>
    match(x.1.1==(4:Int))with
    |true=>
     some (((4:Int),((0:Int),(0:Int),((0:Int),(0:Int),(0:Int),(0:Int),(0:Int),()),[],()),()),())
    |false=>
     match(x.2.1.1==(4:Int))with
     |true=>
      some (((4:Int),((0:Int),(0:Int),((0:Int),(0:Int),(0:Int),(0:Int),(0:Int),()),[],()),()),())
     |false=>
      match(x.1.1==(3:Int))with
      |true=>
       some ((x.1.1,(x.1.2.1.1,x.1.2.1.2.1,(x.1.2.1.2.2.1.1,x.1.2.1.2.2.1.2.1,x.1.2.1.2.2.1.2.2.1,x.1.2.1.2.2.1.2.2.2.1,x.1.2.1.2.2.1.2.2.2.2.1,()),x.1.2.1.2.2.2.1,()),()),())
      |false=>
       match(x.2.1.1==(3:Int))with
       |true=>
        some ((x.2.1.1,(x.2.1.2.1.1,x.2.1.2.1.2.1,(x.2.1.2.1.2.2.1.1,x.2.1.2.1.2.2.1.2.1,x.2.1.2.1.2.2.1.2.2.1,x.2.1.2.1.2.2.1.2.2.2.1,x.2.1.2.1.2.2.1.2.2.2.2.1,()),x.2.1.2.1.2.2.2.1,()),()),())
       |false=>
        some (((if x.2.1.1>x.1.1 then x.2.1.1 else x.1.1),((0:Int),(0:Int),((0:Int),(0:Int),(0:Int),(0:Int),(0:Int),()),[],()),()),())
 |false=>
  match(x.1.1==(3:Int))with
  |true=>
   match(x.2.1.1==(3:Int))with
   |true=>
    some (((4:Int),((0:Int),(0:Int),((0:Int),(0:Int),(0:Int),(0:Int),(0:Int),()),[],()),()),())
   |false=>
    match(x.1.1==(4:Int))with
    |true=>
     some (((4:Int),((0:Int),(0:Int),((0:Int),(0:Int),(0:Int),(0:Int),(0:Int),()),[],()),()),())
    |false=>
     match(x.2.1.1==(4:Int))with
     |true=>
      some (((4:Int),((0:Int),(0:Int),((0:Int),(0:Int),(0:Int),(0:Int),(0:Int),()),[],()),()),())
     |false=>
      match(x.1.1==(3:Int))with
      |true=>
       some ((x.1.1,(x.1.2.1.1,x.1.2.1.2.1,(x.1.2.1.2.2.1.1,x.1.2.1.2.2.1.2.1,x.1.2.1.2.2.1.2.2.1,x.1.2.1.2.2.1.2.2.2.1,x.1.2.1.2.2.1.2.2.2.2.1,()),x.1.2.1.2.2.2.1,()),()),())
      |false=>
       match(x.2.1.1==(3:Int))with
       |true=>
        some ((x.2.1.1,(x.2.1.2.1.1,x.2.1.2.1.2.1,(x.2.1.2.1.2.2.1.1,x.2.1.2.1.2.2.1.2.1,x.2.1.2.1.2.2.1.2.2.1,x.2.1.2.1.2.2.1.2.2.2.1,x.2.1.2.1.2.2.1.2.2.2.2.1,()),x.2.1.2.1.2.2.2.1,()),()),())
       |false=>
        some (((if x.2.1.1>x.1.1 then x.2.1.1 else x.1.1),((0:Int),(0:Int),((0:Int),(0:Int),(0:Int),(0:Int),(0:Int),()),[],()),()),())
  |false=>
   match(x.1.1==(4:Int))with
   |true=>
    some (((4:Int),((0:Int),(0:Int),((0:Int),(0:Int),(0:Int),(0:Int),(0:Int),()),[],()),()),())
   |false=>
    match(x.2.1.1==(4:Int))with
    |true=>
     some (((4:Int),((0:Int),(0:Int),((0:Int),(0:Int),(0:Int),(0:Int),(0:Int),()),[],()),()),())
    |false=>
     match(x.1.1==(3:Int))with
     |true=>
      some ((x.1.1,(x.1.2.1.1,x.1.2.1.2.1,(x.1.2.1.2.2.1.1,x.1.2.1.2.2.1.2.1,x.1.2.1.2.2.1.2.2.1,x.1.2.1.2.2.1.2.2.2.1,x.1.2.1.2.2.1.2.2.2.2.1,()),x.1.2.1.2.2.2.1,()),()),())
     |false=>
      match(x.2.1.1==(3:Int))with
      |true=>
       some ((x.2.1.1,(x.2.1.2.1.1,x.2.1.2.1.2.1,(x.2.1.2.1.2.2.1.1,x.2.1.2.1.2.2.1.2.1,x.2.1.2.1.2.2.1.2.2.1,x.2.1.2.1.2.2.1.2.2.2.1,x.2.1.2.1.2.2.1.2.2.2.2.1,()),x.2.1.2.1.2.2.2.1,()),()),())
      |false=>
       some (((if x.2.1.1>x.1.1 then x.2.1.1 else x.1.1),((0:Int),(0:Int),((0:Int),(0:Int),(0:Int),(0:Int),(0:Int),()),[],()),()),())
|false=>
 match(x.1.1==(3:Int))with
 |true=>
  match(x.2.1.1==(3:Int))with
  |true=>
   some (((4:Int),((0:Int),(0:Int),((0:Int),(0:Int),(0:Int),(0:Int),(0:Int),()),[],()),()),())
  |false=>
   match(x.1.1==(4:Int))with
   |true=>
    some (((4:Int),((0:Int),(0:Int),((0:Int),(0:Int),(0:Int),(0:Int),(0:Int),()),[],()),()),())
   |false=>
    match(x.2.1.1==(4:Int))with
    |true=>
     some (((4:Int),((0:Int),(0:Int),((0:Int),(0:Int),(0:Int),(0:Int),(0:Int),()),[],()),()),())
    |false=>
     match(x.1.1==(3:Int))with
     |true=>
      some ((x.1.1,(x.1.2.1.1,x.1.2.1.2.1,(x.1.2.1.2.2.1.1,x.1.2.1.2.2.1.2.1,x.1.2.1.2.2.1.2.2.1,x.1.2.1.2.2.1.2.2.2.1,x.1.2.1.2.2.1.2.2.2.2.1,()),x.1.2.1.2.2.2.1,()),()),())
     |false=>
      match(x.2.1.1==(3:Int))with
      |true=>
       some ((x.2.1.1,(x.2.1.2.1.1,x.2.1.2.1.2.1,(x.2.1.2.1.2.2.1.1,x.2.1.2.1.2.2.1.2.1,x.2.1.2.1.2.2.1.2.2.1,x.2.1.2.1.2.2.1.2.2.2.1,x.2.1.2.1.2.2.1.2.2.2.2.1,()),x.2.1.2.1.2.2.2.1,()),()),())
      |false=>
       some (((if x.2.1.1>x.1.1 then x.2.1.1 else x.1.1),((0:Int),(0:Int),((0:Int),(0:Int),(0:Int),(0:Int),(0:Int),()),[],()),()),())
 |false=>
  match(x.1.1==(4:Int))with
  |true=>
   some (((4:Int),((0:Int),(0:Int),((0:Int),(0:Int),(0:Int),(0:Int),(0:Int),()),[],()),()),())
  |false=>
   match(x.2.1.1==(4:Int))with
   |true=>
    some (((4:Int),((0:Int),(0:Int),((0:Int),(0:Int),(0:Int),(0:Int),(0:Int),()),[],()),()),())
   |false=>
    match(x.1.1==(3:Int))with
    |true=>
     some ((x.1.1,(x.1.2.1.1,x.1.2.1.2.1,(x.1.2.1.2.2.1.1,x.1.2.1.2.2.1.2.1,x.1.2.1.2.2.1.2.2.1,x.1.2.1.2.2.1.2.2.2.1,x.1.2.1.2.2.1.2.2.2.2.1,()),x.1.2.1.2.2.2.1,()),()),())
    |false=>
     match(x.2.1.1==(3:Int))with
     |true=>
      some ((x.2.1.1,(x.2.1.2.1.1,x.2.1.2.1.2.1,(x.2.1.2.1.2.2.1.1,x.2.1.2.1.2.2.1.2.1,x.2.1.2.1.2.2.1.2.2.1,x.2.1.2.1.2.2.1.2.2.2.1,x.2.1.2.1.2.2.1.2.2.2.2.1,()),x.2.1.2.1.2.2.2.1,()),()),())
     |false=>
      some (((if x.2.1.1>x.1.1 then x.2.1.1 else x.1.1),((0:Int),(0:Int),((0:Int),(0:Int),(0:Int),(0:Int),(0:Int),()),[],()),()),())
noncomputable def QC:Spec:=⟨_,aeY,.unit,rfl,kQ⟩
theorem OI:FnOK G0 Tryz.prog 110 QC:=ap ao (sg QB (aJ)) Tryz.func110
noncomputable def tZ(x:Ty.T (.pair ac aY)):Option (Ty.T aeV):=
match cJ (x.1,x.2.1,())with
|none=>none
|some v1=>
aQ (
 match dQ (v1.1.2.2.1,x.2.2.1,())with
 |none=>none
 |some v2=>
 aI (
  match dL (v1.1.2.1,())with
  |none=>none
  |some v3=>
  match v3.1 with
  |true=>
   some ((v1.1.2.1,x.2.2.2.1,x.2.1,v2.1,()),())
  |false=>
   some ((v1.1.2.1,x.2.2.2.1,((0:Int),(0:Int),(0:Int),(0:Int),(0:Int),()),v2.1,()),()))) (
 match dQ (v1.1.2.2.1,x.2.2.1,())with
 |none=>none
 |some v2=>
 match dL (v1.1.2.1,())with
 |none=>none
 |some v3=>
 match v3.1 with
 |true=>
  some ((v1.1.2.1,x.2.2.2.1,x.2.1,v2.1,()),())
 |false=>
  some ((v1.1.2.1,x.2.2.2.1,((0:Int),(0:Int),(0:Int),(0:Int),(0:Int),()),v2.1,()),()))
noncomputable def Ed:Spec:=⟨_,aeV,.unit,rfl,tZ⟩
theorem OJ:FnOK G0 Tryz.prog 95 Ed:=ap ao (sg gT (sg ll (sg jp (aJ)))) Tryz.func95
abbrev abh:Ty:=afZ
abbrev acJ:Ty:=afx
noncomputable def fw(x:(Ty.T abh)):Option ((Ty.T abh) ⊕ ((Ty.T acJ) ⊕ (Ty.T .unit))):=
aa (aq x.2.1 x.2.2.2.1) fun v1=>
match(decide (x.2.2.2.2.1<v1))with
|true=>
 aa (aq x.1 x.2.2.2.1) fun v2=>
 aA (x.2.2.1.length+ [v2].length) (
  some (.inl (x.1,x.2.1,(x.2.2.1++ [v2]),x.2.2.2.1,(IntKind.i64.wrap (x.2.2.2.2.1+(1:Int))),())))
|false=>
 some (.inr (.inl (x.1,x.2.1,x.2.2.1,x.2.2.2.1,())))
abbrev abi:Ty:=afx
noncomputable def fx(x:(Ty.T abi)):Option ((Ty.T abi) ⊕ ((Ty.T la) ⊕ (Ty.T .unit))):=
match(decide (x.2.2.2.1<(x.1.length:Int)))with
|true=>
 match ag fw (x.1,x.2.1,x.2.2.1,x.2.2.2.1,(0:Int),())with
 |none=>none
 |some (.inl v1)=>
  some (.inl (v1.1,v1.2.1,v1.2.2.1,(IntKind.i64.wrap (v1.2.2.2.1+(1:Int))),()))
 |some (.inr v3)=>
  some (.inr (.inr (())))
|false=>
 some (.inr (.inl (x.2.2.1,())))
noncomputable def vu(x:Ty.T aeh):Option (Ty.T la):=
match ag fx (x.1,x.2.1,[],(0:Int),())with
|none=>none
|some (.inl v4)=>
 some (v4.1,())
|some (.inr v6)=>
 none
noncomputable def Mw:Spec:=⟨_,la,.unit,rfl,vu⟩
noncomputable def p5:FuncId→Option Spec:=bh []
theorem FS:∀f s,p5 f=some s→FnOK G0 Tryz.prog f s:=aF trivial
def vv:aO:=⟨[0,1,5,6],abi,0,[5],la,[],.unit⟩
def vw:aO:=⟨[0,1,5,6,7],abh,2,[0,1,5,6],acJ,[],.unit⟩
noncomputable def p6:List ay:=[vv.spec fx,vw.spec fw]
theorem Ee:bc bd E0 p5 (ba Tryz.f156 p6) Tryz.f156 0 vv fx:=fun x=>by kernel_rfl
theorem Ef:bc bd E0 p5 (ba Tryz.f156 p6) Tryz.f156 1 vw fw:=fun x=>by kernel_rfl
theorem KA:FnOK G0 Tryz.prog 156 Mw:=aH ao FS Tryz.func156 p6 (by kernel_rfl) (by exact⟨(Ee).lok,(Ef).lok,trivial⟩) fun x=>by kernel_rfl
noncomputable def mq(x:Ty.T Fn):Option (Ty.T la):=
match dQ ((x.1.length:Int),(8:Int),())with
|none=>none
|some v1=>
match vu (x.1,v1.1,())with
|none=>none
|some v2=>
some (v2.1,())
noncomputable def y4:Spec:=⟨_,la,.unit,rfl,mq⟩
theorem KB:FnOK G0 Tryz.prog 98 y4:=ap ao (sg ll (sg KA (aJ))) Tryz.func98
abbrev acg:Ty:=agu
abbrev adn:Ty:=aej
noncomputable def ip(x:(Ty.T acg)):Option ((Ty.T acg) ⊕ ((Ty.T adn) ⊕ (Ty.T .unit))):=
match(decide (x.2.2.2.1≥(0:Int)))with
|true=>
 aa (aq x.1 x.2.2.1) fun v1=>
 if(IntKind.u64.wrap x.2.2.2.1)<0 then none else
 aA (x.2.1.length+ [(bits BinOp.and .i64 (Int.fdiv v1 (2^min (IntKind.u64.wrap x.2.2.2.1).toNat IntKind.i64.bits)) (1:Int))].length) (
  some (.inl (x.1,(x.2.1++ [(bits BinOp.and .i64 (Int.fdiv v1 (2^min (IntKind.u64.wrap x.2.2.2.1).toNat IntKind.i64.bits)) (1:Int))]),x.2.2.1,(IntKind.i64.wrap (x.2.2.2.1-(1:Int))),())))
|false=>
 some (.inr (.inl (x.1,x.2.1,x.2.2.1,())))
abbrev ach:Ty:=aej
noncomputable def iq(x:(Ty.T ach)):Option ((Ty.T ach) ⊕ ((Ty.T la) ⊕ (Ty.T .unit))):=
match(decide (x.2.2.1<(x.1.length:Int)))with
|true=>
 match ag ip (x.1,x.2.1,x.2.2.1,(7:Int),())with
 |none=>none
 |some (.inl v1)=>
  some (.inl (v1.1,v1.2.1,(IntKind.i64.wrap (v1.2.2.1+(1:Int))),()))
 |some (.inr v3)=>
  some (.inr (.inr (())))
|false=>
 some (.inr (.inl (x.2.1,())))
noncomputable def kC(x:Ty.T Fn):Option (Ty.T la):=
match ag iq (x.1,[],(0:Int),())with
|none=>none
|some (.inl v4)=>
 some (v4.1,())
|some (.inr v6)=>
 none
noncomputable def GK:Spec:=⟨_,la,.unit,rfl,kC⟩
noncomputable def vx:FuncId→Option Spec:=bh []
theorem Mx:∀f s,vx f=some s→FnOK G0 Tryz.prog f s:=aF trivial
def BV:aO:=⟨[0,3,4],ach,0,[3],la,[],.unit⟩
def BW:aO:=⟨[0,3,4,5],acg,2,[0,3,4],adn,[],.unit⟩
noncomputable def vy:List ay:=[BV.spec iq,BW.spec ip]
theorem KC:bc bd E0 vx (ba Tryz.f219 vy) Tryz.f219 0 BV iq:=fun x=>by kernel_rfl
theorem KD:bc bd E0 vx (ba Tryz.f219 vy) Tryz.f219 1 BW ip:=fun x=>by kernel_rfl
theorem vz:FnOK G0 Tryz.prog 219 GK:=aH ao Mx Tryz.func219 vy (by kernel_rfl) (by exact⟨(KC).lok,(KD).lok,trivial⟩) fun x=>by kernel_rfl
abbrev abQ:Ty:=aej
noncomputable def gB(x:(Ty.T abQ)):Option ((Ty.T abQ) ⊕ ((Ty.T la) ⊕ (Ty.T .unit))):=
match(decide (x.2.2.1<(x.1.length:Int)))with
|true=>
 aA (x.2.1.length+ [(1:Int),(0:Int)].length) (
  aa (aL x.1.length (some (.dat (.int .i64) x.2.2.1)) (some (.dat (.int .i64) (IntKind.i64.wrap (x.2.2.1+(1:Int)))))) fun v1=>
  match kC ((List.drop v1.1 (List.take v1.2 x.1)),())with
  |none=>none
  |some v2=>
  aA ((x.2.1++ [(1:Int),(0:Int)]).length+v2.1.length) (
   some (.inl (x.1,((x.2.1++ [(1:Int),(0:Int)])++v2.1),(IntKind.i64.wrap (x.2.2.1+(1:Int))),()))))
|false=>
 some (.inr (.inl (x.2.1,())))
noncomputable def p7(x:Ty.T y_9):Option (Ty.T la):=
if 0≤x.2.1∧x.2.1≤x.2.1 then
 aA (x.2.1.toNat) (
  aA ((List.replicate x.2.1.toNat (0:Int)).length+ [(1:Int)].length) (
   match ag gB (x.1,((List.replicate x.2.1.toNat (0:Int))++ [(1:Int)]),(0:Int),())with
   |none=>none
   |some (.inl v3)=>
    aA (v3.1.length+ [(0:Int),(1:Int)].length) (
     some ((v3.1++ [(0:Int),(1:Int)]),()))
   |some (.inr v5)=>
    none))
else none
noncomputable def QD:Spec:=⟨_,la,.unit,rfl,p7⟩
noncomputable def BX:FuncId→Option Spec:=bh [(219,GK)]
theorem KE:∀f s,BX f=some s→FnOK G0 Tryz.prog f s:=aF ⟨vz,trivial⟩
def y5:aO:=⟨[0,5,6],abQ,0,[5],la,[],.unit⟩
noncomputable def BZ:List ay:=[y5.spec gB]
theorem Io:bc bd E0 BX (ba Tryz.f157 BZ) Tryz.f157 0 y5 gB:=fun x=>by kernel_rfl
theorem OK:FnOK G0 Tryz.prog 157 QD:=aH ao KE Tryz.func157 BZ (by kernel_rfl) (by exact⟨(Io).lok,trivial⟩) fun x=>by kernel_rfl
noncomputable def fY(x:(Ty.T afj)):Option ((Ty.T afj) ⊕ ((Ty.T et) ⊕ (Ty.T .unit))):=
match(decide (x.2.2.2.2.1<x.2.2.1))with
|true=>
 aa (aq x.1 (IntKind.i64.wrap (x.2.1+x.2.2.2.2.1))) fun v1=>
 some (.inl (x.1,x.2.1,x.2.2.1,(IntKind.i64.wrap ((IntKind.i64.wrap ((2:Int)*x.2.2.2.1))+v1)),(IntKind.i64.wrap (x.2.2.2.2.1+(1:Int))),()))
|false=>
 some (.inr (.inl (x.2.2.2.1,())))
noncomputable def cU(x:Ty.T y_6):Option (Ty.T et):=
match ag fY (x.1,x.2.1,x.2.2.1,(0:Int),(0:Int),())with
|none=>none
|some (.inl v2)=>
 some (v2.1,())
|some (.inr v4)=>
 none
noncomputable def B0:Spec:=⟨_,et,.unit,rfl,cU⟩
noncomputable def y6:FuncId→Option Spec:=bh []
theorem Ip:∀f s,y6 f=some s→FnOK G0 Tryz.prog f s:=aF trivial
def wU:aO:=⟨[0,1,2,7,8],afj,0,[7],et,[],.unit⟩
noncomputable def y7:List ay:=[wU.spec fY]
theorem FT:bc bd E0 y6 (ba Tryz.f299 y7) Tryz.f299 0 wU fY:=fun x=>by kernel_rfl
theorem y8:FnOK G0 Tryz.prog 299 B0:=aH ao Ip Tryz.func299 y7 (by kernel_rfl) (by exact⟨(FT).lok,trivial⟩) fun x=>by kernel_rfl
abbrev abR:Ty:=aej
noncomputable def gC(x:(Ty.T abR)):Option ((Ty.T abR) ⊕ ((Ty.T la) ⊕ (Ty.T .unit))):=
match(decide ((IntKind.i64.wrap (x.2.2.1+(8:Int)))≤(x.1.length:Int)))with
|true=>
 match cU (x.1,x.2.2.1,(8:Int),())with
 |none=>none
 |some v1=>
 aA (x.2.1.length+ [v1.1].length) (
  some (.inl (x.1,(x.2.1++ [v1.1]),(IntKind.i64.wrap (x.2.2.1+(8:Int))),())))
|false=>
 some (.inr (.inl (x.2.1,())))
noncomputable def t6(x:Ty.T Fn):Option (Ty.T la):=
match ag gC (x.1,[],(0:Int),())with
|none=>none
|some (.inl v2)=>
 some (v2.1,())
|some (.inr v4)=>
 none
noncomputable def QE:Spec:=⟨_,la,.unit,rfl,t6⟩
noncomputable def B1:FuncId→Option Spec:=bh [(299,B0)]
theorem KF:∀f s,B1 f=some s→FnOK G0 Tryz.prog f s:=aF ⟨y8,trivial⟩
def y9:aO:=⟨[0,3,4],abR,0,[3],la,[],.unit⟩
noncomputable def B2:List ay:=[y9.spec gC]
theorem Iq:bc bd E0 B1 (ba Tryz.f267 B2) Tryz.f267 0 y9 gC:=fun x=>by kernel_rfl
theorem OL:FnOK G0 Tryz.prog 267 QE:=aH ao KF Tryz.func267 B2 (by kernel_rfl) (by exact⟨(Iq).lok,trivial⟩) fun x=>by kernel_rfl
abbrev abu:Ty:=afu
noncomputable def g7(x:(Ty.T abu)):Option ((Ty.T abu) ⊕ ((Ty.T la) ⊕ (Ty.T .unit))):=
match(decide (x.2.2.1≥(0:Int)))with
|true=>
 if(IntKind.u64.wrap x.2.2.1)<0 then none else
 aA (x.2.1.length+ [(bits BinOp.and .i64 (Int.fdiv x.1 (2^min (IntKind.u64.wrap x.2.2.1).toNat IntKind.i64.bits)) (1:Int))].length) (
  some (.inl (x.1,(x.2.1++ [(bits BinOp.and .i64 (Int.fdiv x.1 (2^min (IntKind.u64.wrap x.2.2.1).toNat IntKind.i64.bits)) (1:Int))]),(IntKind.i64.wrap (x.2.2.1-(1:Int))),())))
|false=>
 some (.inr (.inl (x.2.1,())))
noncomputable def dE(x:Ty.T y_6):Option (Ty.T la):=
aA (([]:List (Ty.T (.int .i64))).length+x.1.length) (
 match ag g7 (x.2.1,(([]:List (Ty.T (.int .i64)))++x.1),(IntKind.i64.wrap (x.2.2.1-(1:Int))),())with
 |none=>none
 |some (.inl v1)=>
  some (v1.1,())
 |some (.inr v3)=>
  none)
noncomputable def OM:Spec:=⟨_,la,.unit,rfl,dE⟩
noncomputable def za:FuncId→Option Spec:=bh []
theorem Ir:∀f s,za f=some s→FnOK G0 Tryz.prog f s:=aF trivial
def wV:aO:=⟨[1,7,8],abu,0,[7],la,[],.unit⟩
noncomputable def zb:List ay:=[wV.spec g7]
theorem FU:bc bd E0 za (ba Tryz.f300 zb) Tryz.f300 0 wV g7:=fun x=>by kernel_rfl
theorem My:FnOK G0 Tryz.prog 300 OM:=aH ao Ir Tryz.func300 zb (by kernel_rfl) (by exact⟨(FU).lok,trivial⟩) fun x=>by kernel_rfl
noncomputable def mr(x:Ty.T y_7):Option (Ty.T la):=
match dE ([],x.1.1,(16:Int),())with
|none=>none
|some v1=>
match dE (v1.1,x.1.2.1,(4:Int),())with
|none=>none
|some v2=>
match dE (v2.1,x.1.2.2.1,(4:Int),())with
|none=>none
|some v3=>
match dE (v3.1,x.1.2.2.2.1,(8:Int),())with
|none=>none
|some v4=>
match dE (v4.1,x.1.2.2.2.2.1,(32:Int),())with
|none=>none
|some v5=>
some (v5.1,())
noncomputable def SM:Spec:=⟨_,la,.unit,rfl,mr⟩
theorem Eg:FnOK G0 Tryz.prog 268 SM:=ap ao (sg My (aJ)) Tryz.func268
noncomputable def bJ(x:Ty.T aeL):Option (Ty.T la):=
match dL (x.1.1,())with
|none=>none
|some v1=>
match v1.1 with
|true=>
 match mr ((x.1.2.2.1.1,x.1.2.2.1.2.1,x.1.2.2.1.2.2.1,x.1.2.2.1.2.2.2.1,x.1.2.2.1.2.2.2.2.1,()),())with
 |none=>none
 |some v2=>
 match t6 (v2.1,())with
 |none=>none
 |some v3=>
 aA ([(IntKind.i64.wrap ((IntKind.i64.wrap (x.1.1*(64:Int)))+(IntKind.i64.wrap (x.1.2.1*(8:Int)))))].length+v3.1.length) (
  match gQ (x.1.1,())with
  |none=>none
  |some v4=>
  match v4.1 with
  |true=>
   aA (([(IntKind.i64.wrap ((IntKind.i64.wrap (x.1.1*(64:Int)))+(IntKind.i64.wrap (x.1.2.1*(8:Int)))))]++v3.1).length+ [(x.1.2.2.2.1.length:Int)].length) (
    aA ((([(IntKind.i64.wrap ((IntKind.i64.wrap (x.1.1*(64:Int)))+(IntKind.i64.wrap (x.1.2.1*(8:Int)))))]++v3.1)++ [(x.1.2.2.2.1.length:Int)]).length+x.1.2.2.2.1.length) (
     some (((([(IntKind.i64.wrap ((IntKind.i64.wrap (x.1.1*(64:Int)))+(IntKind.i64.wrap (x.1.2.1*(8:Int)))))]++v3.1)++ [(x.1.2.2.2.1.length:Int)])++x.1.2.2.2.1),())))
  |false=>
   some (([(IntKind.i64.wrap ((IntKind.i64.wrap (x.1.1*(64:Int)))+(IntKind.i64.wrap (x.1.2.1*(8:Int)))))]++v3.1),()))
|false=>
 match gQ (x.1.1,())with
 |none=>none
 |some v5=>
 match v5.1 with
 |true=>
  aA ([(IntKind.i64.wrap ((IntKind.i64.wrap (x.1.1*(64:Int)))+(IntKind.i64.wrap (x.1.2.1*(8:Int)))))].length+ [(x.1.2.2.2.1.length:Int)].length) (
   aA (([(IntKind.i64.wrap ((IntKind.i64.wrap (x.1.1*(64:Int)))+(IntKind.i64.wrap (x.1.2.1*(8:Int)))))]++ [(x.1.2.2.2.1.length:Int)]).length+x.1.2.2.2.1.length) (
    some ((([(IntKind.i64.wrap ((IntKind.i64.wrap (x.1.1*(64:Int)))+(IntKind.i64.wrap (x.1.2.1*(8:Int)))))]++ [(x.1.2.2.2.1.length:Int)])++x.1.2.2.2.1),())))
 |false=>
  some ([(IntKind.i64.wrap ((IntKind.i64.wrap (x.1.1*(64:Int)))+(IntKind.i64.wrap (x.1.2.1*(8:Int)))))],())
noncomputable def SN:Spec:=⟨_,la,.unit,rfl,bJ⟩
theorem Eh:FnOK G0 Tryz.prog 220 SN:=ap ao (sg jp (sg pz (sg OL (sg Eg (aJ))))) Tryz.func220
abbrev aci:Ty:=(.pair (.int .i64) (.pair (.list (.int .i64)) (.pair (.box an) an)))
noncomputable def fk(x:(Ty.T aci)):Option ((Ty.T aci) ⊕ ((Ty.T et) ⊕ (Ty.T .unit))):=
match(decide (x.2.2.2.2.1<(x.2.1.length:Int)))with
|true=>
 if x.2.2.2.1=0 then none else
 aa (aq x.2.1 x.2.2.2.2.1) fun v1=>
 if x.2.2.2.1=0 then none else
 match((bits BinOp.xor .i64 (IntKind.i64.wrap (Int.tdiv x.1 x.2.2.2.1)) v1)==(1:Int))with
 |true=>
  some (.inl ((bits BinOp.xor .i64 (IntKind.i64.wrap ((Int.tmod x.1 x.2.2.2.1)*(2:Int))) x.2.2.1.2.1),x.2.1,(x.2.2.1.1,x.2.2.1.2.1,()),x.2.2.2.1,(IntKind.i64.wrap (x.2.2.2.2.1+(1:Int))),()))
 |false=>
  some (.inl ((IntKind.i64.wrap ((Int.tmod x.1 x.2.2.2.1)*(2:Int))),x.2.1,(x.2.2.1.1,x.2.2.1.2.1,()),x.2.2.2.1,(IntKind.i64.wrap (x.2.2.2.2.1+(1:Int))),()))
|false=>
 some (.inr (.inl (x.1,())))
noncomputable def o8(x:Ty.T afU):Option (Ty.T et):=
if(IntKind.u64.wrap (IntKind.i64.wrap (x.1.1-(1:Int))))<0 then none else
match ag fk (x.2.1,x.2.2.1,(x.1.1,x.1.2.1,()),(IntKind.i64.wrap ((1:Int)*2^min (IntKind.u64.wrap (IntKind.i64.wrap (x.1.1-(1:Int)))).toNat IntKind.i64.bits)),(0:Int),())with
|none=>none
|some (.inl v2)=>
 some (v2.1,())
|some (.inr v4)=>
 none
noncomputable def SO:Spec:=⟨_,et,.unit,rfl,o8⟩
noncomputable def Ei:FuncId→Option Spec:=bh []
theorem Mz:∀f s,Ei f=some s→FnOK G0 Tryz.prog f s:=aF trivial
def B3:aO:=⟨[1,2,3,7,8],aci,0,[1],et,[],.unit⟩
noncomputable def Ej:List ay:=[B3.spec fk]
theorem KG:bc bd E0 Ei (ba Tryz.f269 Ej) Tryz.f269 0 B3 fk:=fun x=>by kernel_rfl
theorem QF:FnOK G0 Tryz.prog 269 SO:=aH ao Mz Tryz.func269 Ej (by kernel_rfl) (by exact⟨(KG).lok,trivial⟩) fun x=>by kernel_rfl
noncomputable def ln(x:Ty.T .unit):Option (Ty.T aeJ):=
some (((24:Int),(6122955:Int),()),())
noncomputable def KH:Spec:=⟨_,aeJ,.unit,rfl,ln⟩
theorem Iu:FnOK G0 Tryz.prog 270 KH:=ap ao aJ Tryz.func270
noncomputable def jQ(x:Ty.T afY):Option (Ty.T et):=
match(x.1==(0:Int))with
|true=>
 match ln (())with
 |none=>none
 |some v1=>
 match mr ((x.2.2.2.1.1,x.2.2.2.1.2.1,x.2.2.2.1.2.2.1,x.2.2.2.1.2.2.2.1,x.2.2.2.1.2.2.2.2.1,()),())with
 |none=>none
 |some v2=>
 match o8 (v1.1,x.2.2.1,v2.1,())with
 |none=>none
 |some v3=>
 match ln (())with
 |none=>none
 |some v4=>
 match kC (x.2.1,())with
 |none=>none
 |some v5=>
 match o8 (v4.1,v3.1,v5.1,())with
 |none=>none
 |some v6=>
 some (v6.1,())
|false=>
 match ln (())with
 |none=>none
 |some v7=>
 match kC (x.2.1,())with
 |none=>none
 |some v8=>
 match o8 (v7.1,x.2.2.1,v8.1,())with
 |none=>none
 |some v9=>
 some (v9.1,())
noncomputable def ON:Spec:=⟨_,et,.unit,rfl,jQ⟩
theorem zd:FnOK G0 Tryz.prog 221 ON:=ap ao (sg vz (sg Eg (sg QF (sg Iu (aJ))))) Tryz.func221
noncomputable def o9(x:Ty.T afS):Option (Ty.T la):=
match bJ ((x.1.1,x.1.2.1,(x.1.2.2.1.1,x.1.2.2.1.2.1,x.1.2.2.1.2.2.1,x.1.2.2.1.2.2.2.1,x.1.2.2.1.2.2.2.2.1,()),x.1.2.2.2.1,()),())with
|none=>none
|some v1=>
match jQ (x.1.1,v1.1,x.2.1,(x.2.2.1.1,x.2.2.1.2.1,x.2.2.1.2.2.1,x.2.2.1.2.2.2.1,x.2.2.1.2.2.2.2.1,()),())with
|none=>none
|some v2=>
aA (v1.1.length+ [(IntKind.i64.wrap (Int.tdiv v2.1 (65536:Int))),(Int.tmod (IntKind.i64.wrap (Int.tdiv v2.1 (256:Int))) (256:Int)),(Int.tmod v2.1 (256:Int))].length) (
 some ((v1.1++ [(IntKind.i64.wrap (Int.tdiv v2.1 (65536:Int))),(Int.tmod (IntKind.i64.wrap (Int.tdiv v2.1 (256:Int))) (256:Int)),(Int.tmod v2.1 (256:Int))]),()))
noncomputable def SP:Spec:=⟨_,la,.unit,rfl,o9⟩
theorem QG:FnOK G0 Tryz.prog 158 SP:=ap ao (sg Eh (sg zd (aJ))) Tryz.func158
noncomputable def p8(x:Ty.T adZ):Option (Ty.T la):=
aI (
 match dQ ((8:Int),(1:Int),())with
 |none=>none
 |some v1=>
 match o9 ((x.2.2.1.1,x.2.2.1.2.1,(x.2.2.1.2.2.1.1,x.2.2.1.2.2.1.2.1,x.2.2.1.2.2.1.2.2.1,x.2.2.1.2.2.1.2.2.2.1,x.2.2.1.2.2.1.2.2.2.2.1,()),x.2.2.1.2.2.2.1,()),x.1.1,(x.2.1.1,x.2.1.2.1,x.2.1.2.2.1,x.2.1.2.2.2.1,x.2.1.2.2.2.2.1,()),())with
 |none=>none
 |some v2=>
 match p7 (v2.1,(8:Int),())with
 |none=>none
 |some v3=>
 aA (v1.1.length+v3.1.length) (
  match cJ ((x.1.1,x.1.2.1,x.1.2.2.1,x.1.2.2.2.1,()),(x.2.1.1,x.2.1.2.1,x.2.1.2.2.1,x.2.1.2.2.2.1,x.2.1.2.2.2.2.1,()),())with
  |none=>none
  |some v4=>
  match dQ ((IntKind.i64.wrap (v4.1.2.2.2.1-((v1.1++v3.1).length:Int))),(1:Int),())with
  |none=>none
  |some v5=>
  aA ((v1.1++v3.1).length+v5.1.length) (
   some (((v1.1++v3.1)++v5.1),()))))
noncomputable def Ek:Spec:=⟨_,la,.unit,rfl,p8⟩
theorem OO:FnOK G0 Tryz.prog 99 Ek:=ap ao (sg gT (sg ll (sg OK (sg QG (aJ))))) Tryz.func99
noncomputable def d7(x:(Ty.T y_6)):Option ((Ty.T y_6) ⊕ ((Ty.T .unit) ⊕ (Ty.T ae))):=
match(decide (x.2.2.1<(x.1.length:Int)))with
|true=>
 aa (aq x.1 x.2.2.1) fun v1=>
 match bp (v1,(0:Int),x.2.1,())with
 |none=>none
 |some v2=>
 match(!v2.1)with
 |true=>
  some (.inr (.inr (false,())))
 |false=>
  some (.inl (x.1,x.2.1,(IntKind.i64.wrap (x.2.2.1+(1:Int))),()))
|false=>
 some (.inr (.inl (())))
noncomputable def qL(x:Ty.T y_6):Option (Ty.T ae):=
match(decide ((x.1.length:Int)>x.2.1))with
|true=>
 some (false,())
|false=>
 match ag d7 (x.1,x.2.2.1,(0:Int),())with
 |none=>none
 |some (.inl v3)=>
  some (true,())
 |some (.inr v4)=>
  some (v4.1,())
noncomputable def UL:Spec:=⟨_,ae,.unit,rfl,qL⟩
noncomputable def GL:FuncId→Option Spec:=bh [(70,lV)]
theorem OP:∀f s,GL f=some s→FnOK G0 Tryz.prog f s:=aF ⟨cD,trivial⟩
def El:aO:=⟨[0,2,7],y_6,0,[],.unit,[6],ae⟩
noncomputable def GM:List ay:=[El.spec d7]
theorem MA:bc bd E0 GL (ba Tryz.f161 GM) Tryz.f161 0 El d7:=fun x=>by kernel_rfl
theorem GN:FnOK G0 Tryz.prog 161 UL:=aH ao OP Tryz.func161 GM (by kernel_rfl) (by exact⟨(MA).lok,trivial⟩) fun x=>by kernel_rfl
noncomputable def rZ(x:Ty.T Fn):Option (Ty.T ae):=
match qL (x.1,(1024:Int),(255:Int),())with
|none=>none
|some v1=>
some (v1.1,())
noncomputable def SQ:Spec:=⟨_,ae,.unit,rfl,rZ⟩
theorem QH:FnOK G0 Tryz.prog 298 SQ:=ap ao (sg GN (aJ)) Tryz.func298
noncomputable def cL(x:Ty.T aeL):Option (Ty.T ae):=
match rA (x.1.1,())with
|none=>none
|some v1=>
match(!v1.1)with
|true=>
 some (false,())
|false=>
 match bp (x.1.2.1,(0:Int),(7:Int),())with
 |none=>none
 |some v2=>
 match(!v2.1)with
 |true=>
  some (false,())
 |false=>
  match rB (x.1.1,(x.1.2.2.2.1.length:Int),())with
  |none=>none
  |some v3=>
  match(!v3.1)with
  |true=>
   some (false,())
  |false=>
   match rZ (x.1.2.2.2.1,())with
   |none=>none
   |some v4=>
   match(!v4.1)with
   |true=>
    some (false,())
   |false=>
    match(x.1.1==(0:Int))with
    |true=>
     some ((dy ab (x.1.2.2.1.1,x.1.2.2.1.2.1,x.1.2.2.1.2.2.1,x.1.2.2.1.2.2.2.1,x.1.2.2.1.2.2.2.2.1,()) ((0:Int),(0:Int),(0:Int),(0:Int),(0:Int),())),())
    |false=>
     match(x.1.1==(3:Int))with
     |true=>
      match iE (x.1.2.2.1.2.2.2.2.1,())with
      |none=>none
      |some v5=>
      match iH ((x.1.2.2.1.1,x.1.2.2.1.2.1,x.1.2.2.1.2.2.1,x.1.2.2.1.2.2.2.1,x.1.2.2.1.2.2.2.2.1,()),())with
      |none=>none
      |some v6=>
      match v6.1 with
      |true=>
       match(x.1.2.2.1.2.1==(0:Int))with
       |true=>
        match((v5.1.length:Int)==(1:Int))with
        |true=>
         some ((x.1.2.1==(0:Int)),())
        |false=>
         some (false,())
       |false=>
        some (false,())
      |false=>
       some (false,())
     |false=>
      match iH ((x.1.2.2.1.1,x.1.2.2.1.2.1,x.1.2.2.1.2.2.1,x.1.2.2.1.2.2.2.1,x.1.2.2.1.2.2.2.2.1,()),())with
      |none=>none
      |some v7=>
      some (v7.1,())
noncomputable def SR:Spec:=⟨_,ae,.unit,rfl,cL⟩
theorem Em:FnOK G0 Tryz.prog 266 SR:=ap ao (sg cD (sg vq (sg yj (sg Dl (sg Dm (sg QH (aJ))))))) Tryz.func266
noncomputable def du(x:Ty.T afm):Option (Ty.T ae):=
match ex ((x.1.1,x.1.2.1,x.1.2.2.1,x.1.2.2.2.1,x.1.2.2.2.2.1,()),())with
|none=>none
|some v1=>
match v1.1 with
|true=>
 match cL ((x.2.1.1,x.2.1.2.1,(x.2.1.2.2.1.1,x.2.1.2.2.1.2.1,x.2.1.2.2.1.2.2.1,x.2.1.2.2.1.2.2.2.1,x.2.1.2.2.1.2.2.2.2.1,()),x.2.1.2.2.2.1,()),())with
 |none=>none
 |some v2=>
 match v2.1 with
 |true=>
  match(x.2.1.1==x.1.2.1)with
  |true=>
   match((x.2.1.2.2.2.1.length:Int)==x.1.2.2.1)with
   |true=>
    match x.1.2.2.2.2.1 with
    |true=>
     some (true,())
    |false=>
     some ((x.2.1.2.1==(0:Int)),())
   |false=>
    some (false,())
  |false=>
   some (false,())
 |false=>
  some (false,())
|false=>
 some (false,())
noncomputable def En:Spec:=⟨_,ae,.unit,rfl,du⟩
theorem qy:FnOK G0 Tryz.prog 218 En:=ap ao (sg sY (sg Em (aJ))) Tryz.func218
end Go.Proofs.YtkgcbbkodalfmaaGreatDoor
