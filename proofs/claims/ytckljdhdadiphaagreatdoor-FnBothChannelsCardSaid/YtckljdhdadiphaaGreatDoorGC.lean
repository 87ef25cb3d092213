import Derived.Test.YtckljdhdadiphaaGreatDoorGB
namespace Go.Proofs.YtckljdhdadiphaaGreatDoor
open Go.RowKit
set_option linter.unusedVariables false
noncomputable def sZ(x:Ty.T IG):Option (Ty.T ZT):=
match sb ((x.1.1,x.1.2.1,x.1.2.2.1,()),x.2.1,())with
|none=>none
|some v1=>
match aa ((v1.2.1.1,v1.2.1.2.1,v1.2.1.2.2.1,()),(30:Int),())with
|none=>none
|some v2=>
match(v2.1==(0:Int))with
|true=>
 match aa ((v2.2.1.1,v2.2.1.2.1,v2.2.1.2.2.1,()),(2:Int),())with
 |none=>none
 |some v3=>
 ab (av [(0:Int),(7:Int)] v3.1) fun _=>
 match [(0:Int),(7:Int)][v3.1.toNat]? with
 |none=>none
 |some v5=>
 some ((v5,v1.1.2.1,v1.1.2.2.1,v1.1.2.2.2.1,()),(v3.2.1.1,v3.2.1.2.1,v3.2.1.2.2.1,()),())
|false=>
 match(v2.1==(1:Int))with
 |true=>
  match aa ((v2.2.1.1,v2.2.1.2.1,v2.2.1.2.2.1,()),(3:Int),())with
  |none=>none
  |some v6=>
  ab (av [(-1:Int),(8192:Int),(8193:Int)] v6.1) fun _=>
  match [(-1:Int),(8192:Int),(8193:Int)][v6.1.toNat]? with
  |none=>none
  |some v8=>
  some ((v1.1.1,v8,v1.1.2.2.1,v1.1.2.2.2.1,()),(v6.2.1.1,v6.2.1.2.1,v6.2.1.2.2.1,()),())
 |false=>
  match(v2.1==(2:Int))with
  |true=>
   match aa ((v2.2.1.1,v2.2.1.2.1,v2.2.1.2.2.1,()),(4:Int),())with
   |none=>none
   |some v9=>
   ab (av [(-1:Int),(0:Int),(8192:Int),(8193:Int)] v9.1) fun _=>
   match [(-1:Int),(0:Int),(8192:Int),(8193:Int)][v9.1.toNat]? with
   |none=>none
   |some v11=>
   some ((v1.1.1,v1.1.2.1,v11,v1.1.2.2.2.1,()),(v9.2.1.1,v9.2.1.2.1,v9.2.1.2.2.1,()),())
  |false=>
   match(v2.1==(3:Int))with
   |true=>
    match aa ((v2.2.1.1,v2.2.1.2.1,v2.2.1.2.2.1,()),(3:Int),())with
    |none=>none
    |some v12=>
    ab (av [(-1:Int),(1:Int),(2:Int)] v12.1) fun _=>
    match [(-1:Int),(1:Int),(2:Int)][v12.1.toNat]? with
    |none=>none
    |some v14=>
    some ((v1.1.1,v1.1.2.1,v1.1.2.2.1,v14,()),(v12.2.1.1,v12.2.1.2.1,v12.2.1.2.2.1,()),())
   |false=>
    some ((v1.1.1,v1.1.2.1,v1.1.2.2.1,v1.1.2.2.2.1,()),(v2.2.1.1,v2.2.1.2.1,v2.2.1.2.2.1,()),())
noncomputable def H1:ae:=⟨_,Xe,dY,rfl,sZ⟩
theorem QZ:FnOK G0 Tryz.prog 134 H1:=aq ap (sg bh (sg Nj (aU))) Tryz.func134
abbrev tX:Ty:=(.pair (.box ah) (.pair (.int .i64) (.pair (.own 133 bl) (.pair (.int .i64) .unit))))
abbrev Dm:Ty:=Qs
noncomputable def iG(x:(Ty.T tX)):Option ((Ty.T tX) ⊕ ((Ty.T Dm) ⊕ (Ty.T .unit))):=
match(decide (x.2.2.2.1>(0:Int)))with
|true=>
 match sZ ((x.1.1,x.1.2.1,x.1.2.2.1,()),x.2.1,())with
 |none=>none
 |some v2=>
 match mC ((v2.1.1,v2.1.2.1,v2.1.2.2.1,v2.1.2.2.2.1,()),())with
 |none=>none
 |some v3=>
 match v3.1 with
 |true=>
  aH (x.2.2.1.length+ [(v2.1.1,v2.1.2.1,v2.1.2.2.1,v2.1.2.2.2.1,())].length) (
   some (.inl ((v2.2.1.1,v2.2.1.2.1,v2.2.1.2.2.1,()),x.2.1,(x.2.2.1++ [(v2.1.1,v2.1.2.1,v2.1.2.2.1,v2.1.2.2.2.1,())]),(IntKind.i64.wrap (x.2.2.2.1-(1:Int))),())))
 |false=>
  match aa ((v2.2.1.1,v2.2.1.2.1,v2.2.1.2.2.1,()),(4:Int),())with
  |none=>none
  |some v4=>
  match(v4.1==(0:Int))with
  |true=>
   aH (x.2.2.1.length+ [(v2.1.1,v2.1.2.1,v2.1.2.2.1,v2.1.2.2.2.1,())].length) (
    some (.inl ((v4.2.1.1,v4.2.1.2.1,v4.2.1.2.2.1,()),x.2.1,(x.2.2.1++ [(v2.1.1,v2.1.2.1,v2.1.2.2.1,v2.1.2.2.2.1,())]),(IntKind.i64.wrap (x.2.2.2.1-(1:Int))),())))
  |false=>
   some (.inl ((v4.2.1.1,v4.2.1.2.1,v4.2.1.2.2.1,()),x.2.1,x.2.2.1,(IntKind.i64.wrap (x.2.2.2.1-(1:Int))),()))
|false=>
 some (.inr (.inl ((x.1.1,x.1.2.1,x.1.2.2.1,()),x.2.2.1,())))
abbrev tY:Ty:=Qs
abbrev Dn:Ty:=Qs
noncomputable def iH(x:(Ty.T tY)):Option ((Ty.T tY) ⊕ ((Ty.T tY) ⊕ (Ty.T .unit))):=
match aa ((x.1.1,x.1.2.1,x.1.2.2.1,()),(2:Int),())with
|none=>none
|some v8=>
match(decide ((x.2.1.length:Int)<(IntKind.i64.wrap ((30:Int)+v8.1))))with
|true=>
 aH (x.2.1.length+ [((1:Int),(3:Int),(0:Int),(0:Int),())].length) (
  some (.inl ((v8.2.1.1,v8.2.1.2.1,v8.2.1.2.2.1,()),(x.2.1++ [((1:Int),(3:Int),(0:Int),(0:Int),())]),())))
|false=>
 some (.inr (.inl ((v8.2.1.1,v8.2.1.2.1,v8.2.1.2.2.1,()),x.2.1,())))
noncomputable def pC(x:Ty.T IG):Option (Ty.T Yk):=
match aa ((x.1.1,x.1.2.1,x.1.2.2.1,()),(5:Int),())with
|none=>none
|some v1=>
match ac iG ((v1.2.1.1,v1.2.1.2.1,v1.2.1.2.2.1,()),x.2.1,[],v1.1,())with
|none=>none
|some (.inl v5)=>
 match aa ((v5.1.1,v5.1.2.1,v5.1.2.2.1,()),(40:Int),())with
 |none=>none
 |some v7=>
 match(v7.1==(0:Int))with
 |true=>
  match ac iH ((v7.2.1.1,v7.2.1.2.1,v7.2.1.2.2.1,()),v5.2.1,())with
  |none=>none
  |some (.inl v9)=>
   some (v9.2.1,(v9.1.1,v9.1.2.1,v9.1.2.2.1,()),())
  |some (.inr v11)=>
   none
 |false=>
  some (v5.2.1,(v7.2.1.1,v7.2.1.2.1,v7.2.1.2.2.1,()),())
|some (.inr v12)=>
 none
noncomputable def zb:ae:=⟨_,Yi,dY,rfl,pC⟩
noncomputable def xh:FuncId→Option ae:=bH [(42,de),(134,H1),(135,y9)]
theorem Nk:∀f s,xh f=some s→FnOK G0 Tryz.prog f s:=aK ⟨bh,QZ,FE,trivial⟩
def Dp:aX:=⟨[0,1,5,6],tX,0,[0,5],Dm,[],.unit⟩
def Dq:aX:=⟨[0,5],Dn,2,[0,5],Dn,[],.unit⟩
noncomputable def xi:List aD:=[Dp.spec iG,Dq.spec iH]
theorem Lm:bi bm E0 xh (be Tryz.f81 xi) Tryz.f81 0 Dp iG:=fun x=>by kernel_rfl
theorem Ln:bi bm E0 xh (be Tryz.f81 xi) Tryz.f81 1 Dq iH:=fun x=>by kernel_rfl
theorem xj:FnOK G0 Tryz.prog 81 zb:=aO ap Nk Tryz.func81 xi (by kernel_rfl) (by exact⟨(Lm).lok,(Ln).lok,trivial⟩) fun x=>by kernel_rfl
noncomputable def fx(x:Ty.T aV):Option (Ty.T ax):=
match bp (x.1,(3:Int),(15:Int),())with
|none=>none
|some v1=>
some (v1.1,())
noncomputable def Lo:ae:=⟨_,ax,.unit,rfl,fx⟩
theorem xk:FnOK G0 Tryz.prog 186 Lo:=aq ap (sg cu (aU)) Tryz.func186
noncomputable def yw(x:Ty.T vZ):Option (Ty.T jz):=
match mq (x.1,())with
|none=>none
|some v1=>
match(!v1.1)with
|true=>
 some ([],(1:Int),())
|false=>
 match fx (x.2.1,())with
 |none=>none
 |some v2=>
 match(!v2.1)with
 |true=>
  some ([],(2:Int),())
 |false=>
  match(decide ((IntKind.i64.wrap ((IntKind.i64.wrap (x.2.1+(3:Int)))+(IntKind.i64.wrap ((10:Int)*(x.1.length:Int)))))>(8192:Int)))with
  |true=>
   some ([],(3:Int),())
  |false=>
   match iW (x.1,x.2.1,())with
   |none=>none
   |some v3=>
   some (v3.1,(0:Int),())
noncomputable def H2:ae:=⟨_,jz,.unit,rfl,yw⟩
theorem Q0:FnOK G0 Tryz.prog 136 H2:=aq ap (sg Fl (sg C4 (sg xk (aU)))) Tryz.func136
noncomputable def ku(x:Ty.T dY):Option (Ty.T ZZ):=
match aa ((x.1.1,x.1.2.1,x.1.2.2.1,()),(12:Int),())with
|none=>none
|some v1=>
match(v1.1==(0:Int))with
|true=>
 match aa ((v1.2.1.1,v1.2.1.2.1,v1.2.1.2.2.1,()),(4:Int),())with
 |none=>none
 |some v2=>
 ab (av [(2:Int),(3:Int),(15:Int),(16:Int)] v2.1) fun _=>
 match [(2:Int),(3:Int),(15:Int),(16:Int)][v2.1.toNat]? with
 |none=>none
 |some v4=>
 some (v4,(v2.2.1.1,v2.2.1.2.1,v2.2.1.2.2.1,()),())
|false=>
 match aa ((v1.2.1.1,v1.2.1.2.1,v1.2.1.2.2.1,()),(13:Int),())with
 |none=>none
 |some v5=>
 some ((IntKind.i64.wrap ((3:Int)+v5.1)),(v5.2.1.1,v5.2.1.2.1,v5.2.1.2.2.1,()),())
noncomputable def qP:ae:=⟨_,aV,dY,rfl,ku⟩
theorem BP:FnOK G0 Tryz.prog 137 qP:=aq ap (sg bh (aU)) Tryz.func137
abbrev nM:Ty:=UA
abbrev vc:Ty:=Ux
noncomputable def gm(x:(Ty.T nM)):Option ((Ty.T nM) ⊕ ((Ty.T vc) ⊕ (Ty.T .unit))):=
match(decide (x.2.2.1>(0:Int)))with
|true=>
 match aa ((x.1.1,x.1.2.1,x.1.2.2.1,()),(2:Int),())with
 |none=>none
 |some v2=>
 aH (x.2.1.length+ [v2.1].length) (
  some (.inl ((v2.2.1.1,v2.2.1.2.1,v2.2.1.2.2.1,()),(x.2.1++ [v2.1]),(IntKind.i64.wrap (x.2.2.1-(1:Int))),())))
|false=>
 some (.inr (.inl ((x.1.1,x.1.2.1,x.1.2.2.1,()),x.2.1,())))
noncomputable def lw(x:Ty.T IG):Option (Ty.T Uy):=
match aa ((x.1.1,x.1.2.1,x.1.2.2.1,()),(IntKind.i64.wrap (x.2.1+(1:Int))),())with
|none=>none
|some v1=>
match ac gm ((v1.2.1.1,v1.2.1.2.1,v1.2.1.2.2.1,()),[],v1.1,())with
|none=>none
|some (.inl v3)=>
 match aa ((v3.1.1,v3.1.2.1,v3.1.2.2.1,()),(40:Int),())with
 |none=>none
 |some v5=>
 match(v5.1==(0:Int))with
 |true=>
  match aa ((v5.2.1.1,v5.2.1.2.1,v5.2.1.2.2.1,()),(2:Int),())with
  |none=>none
  |some v6=>
  ab (av [(2:Int),(-1:Int)] v6.1) fun _=>
  match [(2:Int),(-1:Int)][v6.1.toNat]? with
  |none=>none
  |some v8=>
  aH (v3.2.1.length+ [v8].length) (
   some ((v3.2.1++ [v8]),(v6.2.1.1,v6.2.1.2.1,v6.2.1.2.2.1,()),()))
 |false=>
  match(v5.1==(1:Int))with
  |true=>
   match aa ((v5.2.1.1,v5.2.1.2.1,v5.2.1.2.2.1,()),(3:Int),())with
   |none=>none
   |some v9=>
   if 0≤(IntKind.i64.wrap ((IntKind.i64.wrap ((8192:Int)+v9.1))-(1:Int)))∧(IntKind.i64.wrap ((IntKind.i64.wrap ((8192:Int)+v9.1))-(1:Int)))≤(IntKind.i64.wrap ((IntKind.i64.wrap ((8192:Int)+v9.1))-(1:Int)))then
    aH ((IntKind.i64.wrap ((IntKind.i64.wrap ((8192:Int)+v9.1))-(1:Int))).toNat) (
     some ((List.replicate (IntKind.i64.wrap ((IntKind.i64.wrap ((8192:Int)+v9.1))-(1:Int))).toNat (0:Int)),(v9.2.1.1,v9.2.1.2.1,v9.2.1.2.2.1,()),()))
   else none
  |false=>
   some (v3.2.1,(v5.2.1.1,v5.2.1.2.1,v5.2.1.2.2.1,()),())
|some (.inr v10)=>
 none
noncomputable def yx:ae:=⟨_,bG,dY,rfl,lw⟩
noncomputable def xl:FuncId→Option ae:=bH [(42,de)]
theorem FF:∀f s,xl f=some s→FnOK G0 Tryz.prog f s:=aK ⟨bh,trivial⟩
def vd:aX:=⟨[0,5,6],nM,0,[0,5],vc,[],.unit⟩
noncomputable def xm:List aD:=[vd.spec gm]
theorem D6:bi bm E0 xl (be Tryz.f187 xm) Tryz.f187 0 vd gm:=fun x=>by kernel_rfl
theorem Jw:FnOK G0 Tryz.prog 187 yx:=aO ap FF Tryz.func187 xm (by kernel_rfl) (by exact⟨(D6).lok,trivial⟩) fun x=>by kernel_rfl
abbrev ru:Ty:=Z1
noncomputable def fL(x:(Ty.T ru)):Option ((Ty.T ru) ⊕ ((Ty.T kU) ⊕ (Ty.T jz))):=
match(decide (x.2.2.2.1<(x.2.1.length:Int)))with
|true=>
 ab (av x.2.1 x.2.2.2.1) fun v2=>
 match bp (v2,(1:Int),(8192:Int),())with
 |none=>none
 |some v3=>
 match(!v3.1)with
 |true=>
  some (.inr (.inr ([],(2:Int),())))
 |false=>
  ab (av x.2.1 x.2.2.2.1) fun v4=>
  some (.inl (x.1,x.2.1,(IntKind.i64.wrap (x.2.2.1+v4)),(IntKind.i64.wrap (x.2.2.2.1+(1:Int))),()))
|false=>
 some (.inr (.inl (x.1,x.2.1,x.2.2.1,())))
abbrev qu:Ty:=(.pair (.int .i64) (.pair (.list (.int .i64)) (.pair (.own 2 (.int .i64)) (.pair (.int .i64) .unit))))
noncomputable def gd(x:(Ty.T qu)):Option ((Ty.T qu) ⊕ ((Ty.T bG) ⊕ (Ty.T .unit))):=
match(decide (x.2.2.2.1<(x.2.1.length:Int)))with
|true=>
 ab (av x.2.1 x.2.2.2.1) fun v7=>
 match cB (v7,x.1,())with
 |none=>none
 |some v8=>
 aH (x.2.2.1.length+v8.1.length) (
  some (.inl ((IntKind.i64.wrap ((1:Int)-x.1)),x.2.1,(x.2.2.1++v8.1),(IntKind.i64.wrap (x.2.2.2.1+(1:Int))),())))
|false=>
 some (.inr (.inl (x.2.2.1,())))
noncomputable def vx(x:Ty.T (.pair (.int .i64) (.pair (.list (.int .i64)) .unit))):Option (Ty.T jz):=
match bp (x.1,(0:Int),(1:Int),())with
|none=>none
|some v1=>
match(!v1.1)with
|true=>
 some ([],(2:Int),())
|false=>
 match ac fL (x.1,x.2.1,(0:Int),(0:Int),())with
 |none=>none
 |some (.inl v5)=>
  match(decide (v5.2.2.1>(8192:Int)))with
  |true=>
   some ([],(3:Int),())
  |false=>
   match ac gd (v5.1,v5.2.1,[],(0:Int),())with
   |none=>none
   |some (.inl v9)=>
    some (v9.1,(0:Int),())
   |some (.inr v11)=>
    none
 |some (.inr v6)=>
  some (v6.1,v6.2.1,())
noncomputable def FG:ae:=⟨_,jz,.unit,rfl,vx⟩
noncomputable def tZ:FuncId→Option ae:=bH [(79,mr),(158,i9)]
theorem Lp:∀f s,tZ f=some s→FnOK G0 Tryz.prog f s:=aK ⟨gt,cu,trivial⟩
def Au:aX:=⟨[0,1,6,7],ru,0,[0,1,6],kU,[4,5],jz⟩
def yy:aX:=⟨[0,1,8,9],qu,2,[8],bG,[],.unit⟩
noncomputable def t7:List aD:=[Au.spec fL,yy.spec gd]
theorem Jy:bi bm E0 tZ (be Tryz.f188 t7) Tryz.f188 0 Au fL:=fun x=>by kernel_rfl
theorem Hl:bi bm E0 tZ (be Tryz.f188 t7) Tryz.f188 1 yy gd:=fun x=>by kernel_rfl
theorem Pp:FnOK G0 Tryz.prog 188 FG:=aO ap Lp Tryz.func188 t7 (by kernel_rfl) (by exact⟨(Jy).lok,(Hl).lok,trivial⟩) fun x=>by kernel_rfl
abbrev ua:Ty:=UA
abbrev Dr:Ty:=Ux
noncomputable def jG(x:(Ty.T ua)):Option ((Ty.T ua) ⊕ ((Ty.T Dr) ⊕ (Ty.T .unit))):=
match(decide (x.2.2.1>(0:Int)))with
|true=>
 match aa ((x.1.1,x.1.2.1,x.1.2.2.1,()),(9:Int),())with
 |none=>none
 |some v4=>
 aH (x.2.1.length+ [(IntKind.i64.wrap ((5:Int)+v4.1))].length) (
  some (.inl ((v4.2.1.1,v4.2.1.2.1,v4.2.1.2.2.1,()),(x.2.1++ [(IntKind.i64.wrap ((5:Int)+v4.1))]),(IntKind.i64.wrap (x.2.2.1-(1:Int))),())))
|false=>
 some (.inr (.inl ((x.1.1,x.1.2.1,x.1.2.2.1,()),x.2.1,())))
noncomputable def s7(x:Ty.T dY):Option (Ty.T Uy):=
match aa ((x.1.1,x.1.2.1,x.1.2.2.1,()),(5:Int),())with
|none=>none
|some v1=>
match(v1.1==(0:Int))with
|true=>
 match lw ((v1.2.1.1,v1.2.1.2.1,v1.2.1.2.2.1,()),(40:Int),())with
 |none=>none
 |some v2=>
 some (v2.1,(v2.2.1.1,v2.2.1.2.1,v2.2.1.2.2.1,()),())
|false=>
 match aa ((v1.2.1.1,v1.2.1.2.1,v1.2.1.2.2.1,()),(8:Int),())with
 |none=>none
 |some v3=>
 match ac jG ((v3.2.1.1,v3.2.1.2.1,v3.2.1.2.2.1,()),[],v3.1,())with
 |none=>none
 |some (.inl v5)=>
  match aa ((v5.1.1,v5.1.2.1,v5.1.2.2.1,()),(8:Int),())with
  |none=>none
  |some v7=>
  match vx ((IntKind.i64.wrap ((1:Int)-(IntKind.i64.wrap (Int.tdiv v7.1 (7:Int))))),v5.2.1,())with
  |none=>none
  |some v8=>
  some (v8.1,(v7.2.1.1,v7.2.1.2.1,v7.2.1.2.2.1,()),())
 |some (.inr v9)=>
  none
noncomputable def H3:ae:=⟨_,bG,dY,rfl,s7⟩
noncomputable def FH:FuncId→Option ae:=bH [(42,de),(187,yx),(188,FG)]
theorem Nl:∀f s,FH f=some s→FnOK G0 Tryz.prog f s:=aK ⟨bh,Jw,Pp,trivial⟩
def Ds:aX:=⟨[0,3,4],ua,0,[0,3],Dr,[],.unit⟩
noncomputable def FI:List aD:=[Ds.spec jG]
theorem Lq:bi bm E0 FH (be Tryz.f138 FI) Tryz.f138 0 Ds jG:=fun x=>by kernel_rfl
theorem Q3:FnOK G0 Tryz.prog 138 H3:=aO ap Nl Tryz.func138 FI (by kernel_rfl) (by exact⟨(Lq).lok,trivial⟩) fun x=>by kernel_rfl
abbrev ub:Ty:=(.pair (.list (.int .i64)) (.pair (.int .i64) (.pair (.int .i64) (.pair (.own 2 (.int .i64)) (.pair (.int .i64) .unit)))))
abbrev Dt:Ty:=Yl
noncomputable def iI(x:(Ty.T ub)):Option ((Ty.T ub) ⊕ ((Ty.T Dt) ⊕ (Ty.T .unit))):=
match(decide (x.2.2.2.2.1<x.2.1))with
|true=>
 aH (x.2.2.2.1.length+ [(1:Int)].length) (
  some (.inl (x.1,x.2.1,x.2.2.1,(x.2.2.2.1++ [(1:Int)]),(IntKind.i64.wrap (x.2.2.2.2.1+(1:Int))),())))
|false=>
 some (.inr (.inl (x.1,x.2.2.1,x.2.2.2.1,())))
abbrev rv:Ty:=Uz
noncomputable def gO(x:(Ty.T rv)):Option ((Ty.T rv) ⊕ ((Ty.T bG) ⊕ (Ty.T .unit))):=
match(decide (x.2.2.1<x.1))with
|true=>
 aH (x.2.1.length+ [(1:Int)].length) (
  some (.inl (x.1,(x.2.1++ [(1:Int)]),(IntKind.i64.wrap (x.2.2.1+(1:Int))),())))
|false=>
 some (.inr (.inl (x.2.1,())))
noncomputable def yz(x:Ty.T qM):Option (Ty.T jz):=
match iC (x.1,())with
|none=>none
|some v1=>
match(!v1.1)with
|true=>
 some ([],(1:Int),())
|false=>
 match bp (x.2.1,(0:Int),(8192:Int),())with
 |none=>none
 |some v2=>
 match(!v2.1)with
 |true=>
  some ([],(2:Int),())
 |false=>
  match bp (x.2.2.1,(0:Int),(8192:Int),())with
  |none=>none
  |some v3=>
  match(!v3.1)with
  |true=>
   some ([],(2:Int),())
  |false=>
   match(decide ((IntKind.i64.wrap ((IntKind.i64.wrap ((x.1.length:Int)+x.2.1))+x.2.2.1))>(8192:Int)))with
   |true=>
    some ([],(3:Int),())
   |false=>
    match ac iI (x.1,x.2.1,x.2.2.1,[],(0:Int),())with
    |none=>none
    |some (.inl v4)=>
     aH (v4.2.2.1.length+v4.1.length) (
      match ac gO (v4.2.1,(v4.2.2.1++v4.1),(0:Int),())with
      |none=>none
      |some (.inl v6)=>
       some (v6.1,(0:Int),())
      |some (.inr v8)=>
       none)
    |some (.inr v9)=>
     none
noncomputable def H4:ae:=⟨_,jz,.unit,rfl,yz⟩
noncomputable def xn:FuncId→Option ae:=bH [(121,BN),(158,i9)]
theorem Nn:∀f s,xn f=some s→FnOK G0 Tryz.prog f s:=aK ⟨kk,cu,trivial⟩
def Du:aX:=⟨[0,1,2,8,9],ub,1,[0,2,8],Dt,[],.unit⟩
def Av:aX:=⟨[2,8,10],rv,3,[8],bG,[],.unit⟩
noncomputable def xo:List aD:=[Du.spec iI,Av.spec gO]
theorem Lr:bi bm E0 xn (be Tryz.f139 xo) Tryz.f139 0 Du iI:=fun x=>by kernel_rfl
theorem Jz:bi bm E0 xn (be Tryz.f139 xo) Tryz.f139 1 Av gO:=fun x=>by kernel_rfl
theorem Q4:FnOK G0 Tryz.prog 139 H4:=aO ap Nn Tryz.func139 xo (by kernel_rfl) (by exact⟨(Lr).lok,(Jz).lok,trivial⟩) fun x=>by kernel_rfl
abbrev uc:Ty:=My
noncomputable def iJ(x:(Ty.T uc)):Option ((Ty.T uc) ⊕ ((Ty.T bG) ⊕ (Ty.T .unit))):=
match(decide (x.2.2.1<(x.1.length:Int)))with
|true=>
 ab (av x.1 x.2.2.1) fun v1=>
 ab (av x.1 x.2.2.1) fun v2=>
 ab (av x.2.1 v2) fun _=>
 match x.2.1[v2.toNat]? with
 |none=>none
 |some v4=>
 ab (av x.2.1 v1) fun _=>
 match x.2.1[v1.toNat]? with
 |none=>none
 |some v6=>
 some (.inl (x.1,(x.2.1.set v1.toNat (IntKind.i64.wrap ((1:Int)-v4))),(IntKind.i64.wrap (x.2.2.1+(1:Int))),()))
|false=>
 some (.inr (.inl (x.2.1,())))
noncomputable def tc(x:Ty.T IH):Option (Ty.T bG):=
aH (([]:List (Ty.T (.int .i64))).length+x.1.length) (
 match ac iJ (x.2.1,(([]:List (Ty.T (.int .i64)))++x.1),(0:Int),())with
 |none=>none
 |some (.inl v7)=>
  some (v7.1,())
 |some (.inr v9)=>
  none)
noncomputable def SL:ae:=⟨_,bG,.unit,rfl,tc⟩
noncomputable def FJ:FuncId→Option ae:=bH []
theorem Np:∀f s,FJ f=some s→FnOK G0 Tryz.prog f s:=aK trivial
def Dv:aX:=⟨[1,5,6],uc,0,[5],bG,[],.unit⟩
noncomputable def FK:List aD:=[Dv.spec iJ]
theorem Ls:bi bm E0 FJ (be Tryz.f190 FK) Tryz.f190 0 Dv iJ:=fun x=>by kernel_rfl
theorem Q5:FnOK G0 Tryz.prog 190 SL:=aO ap Np Tryz.func190 FK (by kernel_rfl) (by exact⟨(Ls).lok,trivial⟩) fun x=>by kernel_rfl
noncomputable def nc(x:Ty.T IH):Option (Ty.T jz):=
match iC (x.1,())with
|none=>none
|some v1=>
match(!v1.1)with
|true=>
 some ([],(1:Int),())
|false=>
 match mY (x.2.1,(x.1.length:Int),())with
 |none=>none
 |some v2=>
 match(!v2.1)with
 |true=>
  some ([],(2:Int),())
 |false=>
  match tc (x.1,x.2.1,())with
  |none=>none
  |some v3=>
  some (v3.1,(0:Int),())
noncomputable def FL:ae:=⟨_,jz,.unit,rfl,nc⟩
theorem Pq:FnOK G0 Tryz.prog 140 FL:=aq ap (sg kk (sg CL (sg Q5 (aU)))) Tryz.func140
abbrev mD:Ty:=(.pair (.box ah) (.pair (.int .i64) (.pair (.own 2 (.int .i64)) (.pair (.int .i64) .unit))))
abbrev td:Ty:=(.pair (.box ah) (.pair (.int .i64) (.pair (.own 2 (.int .i64)) .unit)))
noncomputable def eA(x:(Ty.T mD)):Option ((Ty.T mD) ⊕ ((Ty.T td) ⊕ (Ty.T .unit))):=
match(decide (x.2.2.2.1<x.2.1))with
|true=>
 match(decide ((x.2.2.1.length:Int)<(8:Int)))with
 |true=>
  aH (x.2.2.1.length+ [x.2.2.2.1].length) (
   al (
    match aa ((x.1.1,x.1.2.1,x.1.2.2.1,()),(8:Int),())with
    |none=>none
    |some v2=>
    ab (av [(6:Int),(5:Int),(7:Int),(12:Int),(4:Int),(6:Int),(9:Int),(1:Int)] v2.1) fun _=>
    al (
     match [(6:Int),(5:Int),(7:Int),(12:Int),(4:Int),(6:Int),(9:Int),(1:Int)][v2.1.toNat]? with
     |none=>none
     |some v4=>
     match aa ((v2.2.1.1,v2.2.1.2.1,v2.2.1.2.2.1,()),(4:Int),())with
     |none=>none
     |some v5=>
     some (.inl ((v5.2.1.1,v5.2.1.2.1,v5.2.1.2.2.1,()),x.2.1,(x.2.2.1++ [x.2.2.2.1]),(IntKind.i64.wrap ((IntKind.i64.wrap (x.2.2.2.1+v4))+v5.1)),()))) (
     match aa ((v2.2.1.1,v2.2.1.2.1,v2.2.1.2.2.1,()),(4:Int),())with
     |none=>none
     |some v4=>
     match [(6:Int),(5:Int),(7:Int),(12:Int),(4:Int),(6:Int),(9:Int),(1:Int)][v2.1.toNat]? with
     |none=>none
     |some v5=>
     some (.inl ((v4.2.1.1,v4.2.1.2.1,v4.2.1.2.2.1,()),x.2.1,(x.2.2.1++ [x.2.2.2.1]),(IntKind.i64.wrap ((IntKind.i64.wrap (x.2.2.2.1+v5))+v4.1)),())))) (
    match aa ((x.1.1,x.1.2.1,x.1.2.2.1,()),(8:Int),())with
    |none=>none
    |some v2=>
    al (
     ab (av [(6:Int),(5:Int),(7:Int),(12:Int),(4:Int),(6:Int),(9:Int),(1:Int)] v2.1) fun _=>
     al (
      match [(6:Int),(5:Int),(7:Int),(12:Int),(4:Int),(6:Int),(9:Int),(1:Int)][v2.1.toNat]? with
      |none=>none
      |some v4=>
      match aa ((v2.2.1.1,v2.2.1.2.1,v2.2.1.2.2.1,()),(4:Int),())with
      |none=>none
      |some v5=>
      some (.inl ((v5.2.1.1,v5.2.1.2.1,v5.2.1.2.2.1,()),x.2.1,(x.2.2.1++ [x.2.2.2.1]),(IntKind.i64.wrap ((IntKind.i64.wrap (x.2.2.2.1+v4))+v5.1)),()))) (
      match aa ((v2.2.1.1,v2.2.1.2.1,v2.2.1.2.2.1,()),(4:Int),())with
      |none=>none
      |some v4=>
      match [(6:Int),(5:Int),(7:Int),(12:Int),(4:Int),(6:Int),(9:Int),(1:Int)][v2.1.toNat]? with
      |none=>none
      |some v5=>
      some (.inl ((v4.2.1.1,v4.2.1.2.1,v4.2.1.2.2.1,()),x.2.1,(x.2.2.1++ [x.2.2.2.1]),(IntKind.i64.wrap ((IntKind.i64.wrap (x.2.2.2.1+v5))+v4.1)),())))) (
     match aa ((v2.2.1.1,v2.2.1.2.1,v2.2.1.2.2.1,()),(4:Int),())with
     |none=>none
     |some v3=>
     ab (av [(6:Int),(5:Int),(7:Int),(12:Int),(4:Int),(6:Int),(9:Int),(1:Int)] v2.1) fun _=>
     match [(6:Int),(5:Int),(7:Int),(12:Int),(4:Int),(6:Int),(9:Int),(1:Int)][v2.1.toNat]? with
     |none=>none
     |some v5=>
     some (.inl ((v3.2.1.1,v3.2.1.2.1,v3.2.1.2.2.1,()),x.2.1,(x.2.2.1++ [x.2.2.2.1]),(IntKind.i64.wrap ((IntKind.i64.wrap (x.2.2.2.1+v5))+v3.1)),())))))
 |false=>
  some (.inr (.inl ((x.1.1,x.1.2.1,x.1.2.2.1,()),x.2.1,x.2.2.1,())))
|false=>
 some (.inr (.inl ((x.1.1,x.1.2.1,x.1.2.2.1,()),x.2.1,x.2.2.1,())))
noncomputable def jh(x:Ty.T IG):Option (Ty.T Uy):=
match aa ((x.1.1,x.1.2.1,x.1.2.2.1,()),(9:Int),())with
|none=>none
|some v1=>
match ac eA ((v1.2.1.1,v1.2.1.2.1,v1.2.1.2.2.1,()),x.2.1,[],v1.1,())with
|none=>none
|some (.inl v6)=>
 match aa ((v6.1.1,v6.1.2.1,v6.1.2.2.1,()),(30:Int),())with
 |none=>none
 |some v8=>
 match(v8.1==(0:Int))with
 |true=>
  aH (v6.2.2.1.length+ [v6.2.1].length) (
   some ((v6.2.2.1++ [v6.2.1]),(v8.2.1.1,v8.2.1.2.1,v8.2.1.2.2.1,()),()))
 |false=>
  match(v8.1==(1:Int))with
  |true=>
   aH (v6.2.2.1.length+ [(0:Int)].length) (
    some ((v6.2.2.1++ [(0:Int)]),(v8.2.1.1,v8.2.1.2.1,v8.2.1.2.2.1,()),()))
  |false=>
   some (v6.2.2.1,(v8.2.1.1,v8.2.1.2.1,v8.2.1.2.2.1,()),())
|some (.inr v9)=>
 none
noncomputable def xp:ae:=⟨_,bG,dY,rfl,jh⟩
noncomputable def ve:FuncId→Option ae:=bH [(42,de)]
theorem D7:∀f s,ve f=some s→FnOK G0 Tryz.prog f s:=aK ⟨bh,trivial⟩
def tf:aX:=⟨[0,1,5,6],mD,0,[0,1,5],td,[],.unit⟩
noncomputable def vf:List aD:=[tf.spec eA]
theorem BQ:bi bm E0 ve (be Tryz.f141 vf) Tryz.f141 0 tf eA:=fun x=>by kernel_rfl
theorem Hm:FnOK G0 Tryz.prog 141 xp:=aO ap D7 Tryz.func141 vf (by kernel_rfl) (by exact⟨(BQ).lok,trivial⟩) fun x=>by kernel_rfl
abbrev ud:Ty:=(.pair (.box ah) (.pair (.own 2 (.int .i64)) (.pair (.own 2 (.int .i64)) (.pair (.int .i64) .unit))))
abbrev Dw:Ty:=(.pair (.box ah) (.pair (.own 2 (.int .i64)) (.pair (.own 2 (.int .i64)) .unit)))
noncomputable def jH(x:(Ty.T ud)):Option ((Ty.T ud) ⊕ ((Ty.T Dw) ⊕ (Ty.T .unit))):=
match(decide (x.2.2.2.1>(0:Int)))with
|true=>
 match aa ((x.1.1,x.1.2.1,x.1.2.2.1,()),(x.2.2.1.length:Int),())with
 |none=>none
 |some v12=>
 match aa ((v12.2.1.1,v12.2.1.2.1,v12.2.1.2.2.1,()),(3:Int),())with
 |none=>none
 |some v13=>
 ab (av x.2.2.1 v12.1) fun _=>
 match x.2.2.1[v12.1.toNat]? with
 |none=>none
 |some v15=>
 some (.inl ((v13.2.1.1,v13.2.1.2.1,v13.2.1.2.2.1,()),x.2.1,(x.2.2.1.set v12.1.toNat (IntKind.i64.wrap ((7:Int)+v13.1))),(IntKind.i64.wrap (x.2.2.2.1-(1:Int))),()))
|false=>
 some (.inr (.inl ((x.1.1,x.1.2.1,x.1.2.2.1,()),x.2.1,x.2.2.1,())))
abbrev rz:Ty:=UA
abbrev Aw:Ty:=Ux
noncomputable def fM(x:(Ty.T rz)):Option ((Ty.T rz) ⊕ ((Ty.T Aw) ⊕ (Ty.T .unit))):=
match(decide (x.2.2.1>(0:Int)))with
|true=>
 match aa ((x.1.1,x.1.2.1,x.1.2.2.1,()),(x.2.1.length:Int),())with
 |none=>none
 |some v25=>
 ab (av x.2.1 v25.1) fun _=>
 match x.2.1[v25.1.toNat]? with
 |none=>none
 |some v27=>
 ab (av x.2.1 v25.1) fun _=>
 match x.2.1[v25.1.toNat]? with
 |none=>none
 |some v29=>
 some (.inl ((v25.2.1.1,v25.2.1.2.1,v25.2.1.2.2.1,()),(x.2.1.set v25.1.toNat (IntKind.i64.wrap ((1:Int)-v27))),(IntKind.i64.wrap (x.2.2.1-(1:Int))),()))
|false=>
 some (.inr (.inl ((x.1.1,x.1.2.1,x.1.2.2.1,()),x.2.1,())))
noncomputable def mE(x:Ty.T dY):Option (Ty.T (.pair (.list (.int .i64)) (.pair (.box ah) .unit))):=
match gL ((x.1.1,x.1.2.1,x.1.2.2.1,()),(4:Int),())with
|none=>none
|some v1=>
match ku ((v1.2.1.1,v1.2.1.2.1,v1.2.1.2.2.1,()),())with
|none=>none
|some v2=>
match yw (v1.1,v2.1,())with
|none=>none
|some v3=>
match(v3.2.1 != (0:Int))with
|true=>
 match s7 ((v2.2.1.1,v2.2.1.2.1,v2.2.1.2.2.1,()),())with
 |none=>none
 |some v4=>
 some (v4.1,(v4.2.1.1,v4.2.1.2.1,v4.2.1.2.2.1,()),())
|false=>
 match(decide ((v3.1.length:Int)>(600:Int)))with
 |true=>
  match s7 ((v2.2.1.1,v2.2.1.2.1,v2.2.1.2.2.1,()),())with
  |none=>none
  |some v5=>
  some (v5.1,(v5.2.1.1,v5.2.1.2.1,v5.2.1.2.2.1,()),())
 |false=>
  match aa ((v2.2.1.1,v2.2.1.2.1,v2.2.1.2.2.1,()),(4:Int),())with
  |none=>none
  |some v6=>
  match aa ((v6.2.1.1,v6.2.1.2.1,v6.2.1.2.2.1,()),(4:Int),())with
  |none=>none
  |some v7=>
  match yz (v3.1,v6.1,v7.1,())with
  |none=>none
  |some v8=>
  match cB ((v8.1.length:Int),(8:Int),())with
  |none=>none
  |some v9=>
  match aa ((v7.2.1.1,v7.2.1.2.1,v7.2.1.2.2.1,()),(2:Int),())with
  |none=>none
  |some v10=>
  match(v10.1==(0:Int))with
  |true=>
   match aa ((v10.2.1.1,v10.2.1.2.1,v10.2.1.2.2.1,()),(4:Int),())with
   |none=>none
   |some v11=>
   match ac jH ((v11.2.1.1,v11.2.1.2.1,v11.2.1.2.2.1,()),v8.1,v9.1,v11.1,())with
   |none=>none
   |some (.inl v16)=>
    match js (v16.2.1,v16.2.2.1,())with
    |none=>none
    |some v18=>
    match aa ((v16.1.1,v16.1.2.1,v16.1.2.2.1,()),(5:Int),())with
    |none=>none
    |some v19=>
    match(v19.1==(0:Int))with
    |true=>
     match jh ((v19.2.1.1,v19.2.1.2.1,v19.2.1.2.2.1,()),(v18.1.length:Int),())with
     |none=>none
     |some v20=>
     match nc (v18.1,v20.1,())with
     |none=>none
     |some v21=>
     some (v21.1,(v20.2.1.1,v20.2.1.2.1,v20.2.1.2.2.1,()),())
    |false=>
     match(v19.1==(1:Int))with
     |true=>
      match aa ((v19.2.1.1,v19.2.1.2.1,v19.2.1.2.2.1,()),(v18.1.length:Int),())with
      |none=>none
      |some v22=>
      ab (aM v18.1.length none (some (.dat (.int .i64) v22.1))) fun v23=>
      some ((List.drop v23.1 (List.take v23.2 v18.1)),(v22.2.1.1,v22.2.1.2.1,v22.2.1.2.2.1,()),())
     |false=>
      match(v19.1==(2:Int))with
      |true=>
       match aa ((v19.2.1.1,v19.2.1.2.1,v19.2.1.2.2.1,()),(3:Int),())with
       |none=>none
       |some v24=>
       match ac fM ((v24.2.1.1,v24.2.1.2.1,v24.2.1.2.2.1,()),v16.2.1,v24.1,())with
       |none=>none
       |some (.inl v30)=>
        match dI (v30.2.1,())with
        |none=>none
        |some v32=>
        some (v32.1,(v30.1.1,v30.1.2.1,v30.1.2.2.1,()),())
       |some (.inr v33)=>
        none
      |false=>
       some (v18.1,(v19.2.1.1,v19.2.1.2.1,v19.2.1.2.2.1,()),())
   |some (.inr v34)=>
    none
  |false=>
   match js (v8.1,v9.1,())with
   |none=>none
   |some v35=>
   match aa ((v10.2.1.1,v10.2.1.2.1,v10.2.1.2.2.1,()),(5:Int),())with
   |none=>none
   |some v36=>
   match(v36.1==(0:Int))with
   |true=>
    match jh ((v36.2.1.1,v36.2.1.2.1,v36.2.1.2.2.1,()),(v35.1.length:Int),())with
    |none=>none
    |some v37=>
    match nc (v35.1,v37.1,())with
    |none=>none
    |some v38=>
    some (v38.1,(v37.2.1.1,v37.2.1.2.1,v37.2.1.2.2.1,()),())
   |false=>
    match(v36.1==(1:Int))with
    |true=>
     match aa ((v36.2.1.1,v36.2.1.2.1,v36.2.1.2.2.1,()),(v35.1.length:Int),())with
     |none=>none
     |some v39=>
     ab (aM v35.1.length none (some (.dat (.int .i64) v39.1))) fun v40=>
     some ((List.drop v40.1 (List.take v40.2 v35.1)),(v39.2.1.1,v39.2.1.2.1,v39.2.1.2.2.1,()),())
    |false=>
     match(v36.1==(2:Int))with
     |true=>
      match aa ((v36.2.1.1,v36.2.1.2.1,v36.2.1.2.2.1,()),(3:Int),())with
      |none=>none
      |some v41=>
      match ac fM ((v41.2.1.1,v41.2.1.2.1,v41.2.1.2.2.1,()),v8.1,v41.1,())with
      |none=>none
      |some (.inl v42)=>
       match dI (v42.2.1,())with
       |none=>none
       |some v44=>
       some (v44.1,(v42.1.1,v42.1.2.1,v42.1.2.2.1,()),())
      |some (.inr v45)=>
       none
     |false=>
      some (v35.1,(v36.2.1.1,v36.2.1.2.1,v36.2.1.2.2.1,()),())
noncomputable def H5:ae:=⟨_,fD,dY,rfl,mE⟩
noncomputable def xq:FuncId→Option ae:=bH [(41,xf),(42,de),(59,rh),(79,mr),(106,zW),(136,H2),(137,qP),(138,H3),(139,H4),(140,FL),(141,xp)]
theorem Nq:∀f s,xq f=some s→FnOK G0 Tryz.prog f s:=aK ⟨u9,bh,qk,gt,yi,Q0,BP,Q3,Q4,Pq,Hm,trivial⟩
def Dx:aX:=⟨[0,5,7,8],ud,0,[0,5,7],Dw,[],.unit⟩
def Ax:aX:=⟨[0,5,10],rz,3,[0,5],Aw,[],.unit⟩
noncomputable def xr:List aD:=[Dx.spec jH,Ax.spec fM]
theorem Lt:bi bm E0 xq (be Tryz.f82 xr) Tryz.f82 0 Dx jH:=fun x=>by kernel_rfl
theorem JA:bi bm E0 xq (be Tryz.f82 xr) Tryz.f82 1 Ax fM:=fun x=>by kernel_rfl
theorem FM:FnOK G0 Tryz.prog 82 H5:=aO ap Nq Tryz.func82 xr (by kernel_rfl) (by exact⟨(Lt).lok,(JA).lok,trivial⟩) fun x=>by kernel_rfl
abbrev qv:Ty:=(.pair (.list (.int .i64)) (.pair (.box bl) (.pair (.int .i64) .unit)))
abbrev yA:Ty:=(.pair (.list (.int .i64)) (.pair (.box bl) .unit))
noncomputable def dV(x:(Ty.T qv)):Option ((Ty.T qv) ⊕ ((Ty.T yA) ⊕ (Ty.T ax))):=
match(decide (x.2.2.1≤(IntKind.i64.wrap (x.2.1.2.1+(2:Int)))))with
|true=>
 ab (av x.1 x.2.2.1) fun v2=>
 ab (av x.1 x.2.1.2.1) fun v3=>
 match(v2 != v3)with
 |true=>
  some (.inr (.inr (false,())))
 |false=>
  some (.inl (x.1,(x.2.1.1,x.2.1.2.1,x.2.1.2.2.1,x.2.1.2.2.2.1,()),(IntKind.i64.wrap (x.2.2.1+(1:Int))),()))
|false=>
 some (.inr (.inl (x.1,(x.2.1.1,x.2.1.2.1,x.2.1.2.2.1,x.2.1.2.2.2.1,()),())))
noncomputable def oa(x:Ty.T ZU):Option (Ty.T ax):=
match(x.2.1.1 != (3:Int))with
|true=>
 match(x.2.1.1 != (4:Int))with
 |true=>
  some (false,())
 |false=>
  match(x.2.1.2.2.1 != (1:Int))with
  |true=>
   some (false,())
  |false=>
   match bp (x.2.1.2.1,(2:Int),(IntKind.i64.wrap ((x.1.length:Int)-(3:Int))),())with
   |none=>none
   |some v1=>
   match(!v1.1)with
   |true=>
    some (false,())
   |false=>
    match ac dV (x.1,(x.2.1.1,x.2.1.2.1,x.2.1.2.2.1,x.2.1.2.2.2.1,()),(IntKind.i64.wrap (x.2.1.2.1-(2:Int))),())with
    |none=>none
    |some (.inl v4)=>
     match(v4.2.1.1==(3:Int))with
     |true=>
      some (true,())
     |false=>
      ab (av v4.1 v4.2.1.2.1) fun v6=>
      some ((v4.2.1.2.2.2.1==v6),())
    |some (.inr v5)=>
     some (v5.1,())
|false=>
 match(x.2.1.2.2.1 != (1:Int))with
 |true=>
  some (false,())
 |false=>
  match bp (x.2.1.2.1,(2:Int),(IntKind.i64.wrap ((x.1.length:Int)-(3:Int))),())with
  |none=>none
  |some v7=>
  match(!v7.1)with
  |true=>
   some (false,())
  |false=>
   match ac dV (x.1,(x.2.1.1,x.2.1.2.1,x.2.1.2.2.1,x.2.1.2.2.2.1,()),(IntKind.i64.wrap (x.2.1.2.1-(2:Int))),())with
   |none=>none
   |some (.inl v8)=>
    match(v8.2.1.1==(3:Int))with
    |true=>
     some (true,())
    |false=>
     ab (av v8.1 v8.2.1.2.1) fun v10=>
     some ((v8.2.1.2.2.2.1==v10),())
   |some (.inr v9)=>
    some (v9.1,())
noncomputable def Dy:ae:=⟨_,ax,.unit,rfl,oa⟩
noncomputable def Ay:FuncId→Option ae:=bH [(158,i9)]
theorem JB:∀f s,Ay f=some s→FnOK G0 Tryz.prog f s:=aK ⟨cu,trivial⟩
def yB:aX:=⟨[0,3,5],qv,0,[0,3],yA,[4],ax⟩
noncomputable def Az:List aD:=[yB.spec dV]
theorem Hn:bi bm E0 Ay (be Tryz.f174 Az) Tryz.f174 0 yB dV:=fun x=>by kernel_rfl
theorem Nr:FnOK G0 Tryz.prog 174 Dy:=aO ap JB Tryz.func174 Az (by kernel_rfl) (by exact⟨(Hn).lok,trivial⟩) fun x=>by kernel_rfl
abbrev lc:Ty:=(.pair (.box ah) (.pair (.own 133 bl) bM))
abbrev qw:Ty:=Qs
noncomputable def cY(x:(Ty.T lc)):Option ((Ty.T lc) ⊕ ((Ty.T qw) ⊕ (Ty.T .unit))):=
match(decide (x.2.2.2.1<x.2.2.1))with
|true=>
 match(decide ((x.2.1.length:Int)<(25:Int)))with
 |true=>
  aH (x.2.1.length+ [((1:Int),x.2.2.2.1,(0:Int),(0:Int),())].length) (
   match aa ((x.1.1,x.1.2.1,x.1.2.2.1,()),(40:Int),())with
   |none=>none
   |some v5=>
   some (.inl ((v5.2.1.1,v5.2.1.2.1,v5.2.1.2.2.1,()),(x.2.1++ [((1:Int),x.2.2.2.1,(0:Int),(0:Int),())]),x.2.2.1,(IntKind.i64.wrap ((IntKind.i64.wrap (x.2.2.2.1+(6:Int)))+v5.1)),())))
 |false=>
  some (.inr (.inl ((x.1.1,x.1.2.1,x.1.2.2.1,()),x.2.1,())))
|false=>
 some (.inr (.inl ((x.1.1,x.1.2.1,x.1.2.2.1,()),x.2.1,())))
abbrev ld:Ty:=(.pair (.box ah) (.pair (.own 133 bl) (.pair (.int .i64) (.pair (.list (.int .i64)) .unit))))
abbrev qx:Ty:=Qs
noncomputable def bX(x:(Ty.T ld)):Option ((Ty.T ld) ⊕ ((Ty.T qx) ⊕ (Ty.T .unit))):=
match(decide ((IntKind.i64.wrap (x.2.2.1+(3:Int)))<(x.2.2.2.1.length:Int)))with
|true=>
 match(decide ((x.2.1.length:Int)<(10:Int)))with
 |true=>
  match aa ((x.1.1,x.1.2.1,x.1.2.2.1,()),(2:Int),())with
  |none=>none
  |some v24=>
  match((IntKind.i64.wrap ((3:Int)+v24.1))==(4:Int))with
  |true=>
   ab (av x.2.2.2.1 x.2.2.1) fun v25=>
   match oa (x.2.2.2.1,((IntKind.i64.wrap ((3:Int)+v24.1)),x.2.2.1,(1:Int),v25,()),())with
   |none=>none
   |some v26=>
   match(!v26.1)with
   |true=>
    match aa ((v24.2.1.1,v24.2.1.2.1,v24.2.1.2.2.1,()),(24:Int),())with
    |none=>none
    |some v27=>
    match(decide (v27.1>(0:Int)))with
    |true=>
     some (.inl ((v27.2.1.1,v27.2.1.2.1,v27.2.1.2.2.1,()),x.2.1,(IntKind.i64.wrap (x.2.2.1+(1:Int))),x.2.2.2.1,()))
    |false=>
     aH (x.2.1.length+ [((IntKind.i64.wrap ((3:Int)+v24.1)),x.2.2.1,(1:Int),v25,())].length) (
      match gc (x.2.2.2.1,((IntKind.i64.wrap ((3:Int)+v24.1)),x.2.2.1,(1:Int),v25,()),())with
      |none=>none
      |some v28=>
      match aa ((v27.2.1.1,v27.2.1.2.1,v27.2.1.2.2.1,()),(60:Int),())with
      |none=>none
      |some v29=>
      match aa ((v29.2.1.1,v29.2.1.2.1,v29.2.1.2.2.1,()),(30:Int),())with
      |none=>none
      |some v30=>
      some (.inl ((v30.2.1.1,v30.2.1.2.1,v30.2.1.2.2.1,()),(x.2.1++ [((IntKind.i64.wrap ((3:Int)+v24.1)),x.2.2.1,(1:Int),v25,())]),(IntKind.i64.wrap ((IntKind.i64.wrap ((IntKind.i64.wrap (x.2.2.1+(160:Int)))+v29.1))-(IntKind.i64.wrap ((IntKind.i64.wrap (Int.tdiv v30.1 (29:Int)))*(9:Int))))),v28.1,())))
   |false=>
    aH (x.2.1.length+ [((IntKind.i64.wrap ((3:Int)+v24.1)),x.2.2.1,(1:Int),v25,())].length) (
     match gc (x.2.2.2.1,((IntKind.i64.wrap ((3:Int)+v24.1)),x.2.2.1,(1:Int),v25,()),())with
     |none=>none
     |some v31=>
     match aa ((v24.2.1.1,v24.2.1.2.1,v24.2.1.2.2.1,()),(60:Int),())with
     |none=>none
     |some v32=>
     match aa ((v32.2.1.1,v32.2.1.2.1,v32.2.1.2.2.1,()),(30:Int),())with
     |none=>none
     |some v33=>
     some (.inl ((v33.2.1.1,v33.2.1.2.1,v33.2.1.2.2.1,()),(x.2.1++ [((IntKind.i64.wrap ((3:Int)+v24.1)),x.2.2.1,(1:Int),v25,())]),(IntKind.i64.wrap ((IntKind.i64.wrap ((IntKind.i64.wrap (x.2.2.1+(160:Int)))+v32.1))-(IntKind.i64.wrap ((IntKind.i64.wrap (Int.tdiv v33.1 (29:Int)))*(9:Int))))),v31.1,())))
  |false=>
   match oa (x.2.2.2.1,((IntKind.i64.wrap ((3:Int)+v24.1)),x.2.2.1,(1:Int),(0:Int),()),())with
   |none=>none
   |some v34=>
   match(!v34.1)with
   |true=>
    match aa ((v24.2.1.1,v24.2.1.2.1,v24.2.1.2.2.1,()),(24:Int),())with
    |none=>none
    |some v35=>
    match(decide (v35.1>(0:Int)))with
    |true=>
     some (.inl ((v35.2.1.1,v35.2.1.2.1,v35.2.1.2.2.1,()),x.2.1,(IntKind.i64.wrap (x.2.2.1+(1:Int))),x.2.2.2.1,()))
    |false=>
     aH (x.2.1.length+ [((IntKind.i64.wrap ((3:Int)+v24.1)),x.2.2.1,(1:Int),(0:Int),())].length) (
      match gc (x.2.2.2.1,((IntKind.i64.wrap ((3:Int)+v24.1)),x.2.2.1,(1:Int),(0:Int),()),())with
      |none=>none
      |some v36=>
      match aa ((v35.2.1.1,v35.2.1.2.1,v35.2.1.2.2.1,()),(60:Int),())with
      |none=>none
      |some v37=>
      match aa ((v37.2.1.1,v37.2.1.2.1,v37.2.1.2.2.1,()),(30:Int),())with
      |none=>none
      |some v38=>
      some (.inl ((v38.2.1.1,v38.2.1.2.1,v38.2.1.2.2.1,()),(x.2.1++ [((IntKind.i64.wrap ((3:Int)+v24.1)),x.2.2.1,(1:Int),(0:Int),())]),(IntKind.i64.wrap ((IntKind.i64.wrap ((IntKind.i64.wrap (x.2.2.1+(160:Int)))+v37.1))-(IntKind.i64.wrap ((IntKind.i64.wrap (Int.tdiv v38.1 (29:Int)))*(9:Int))))),v36.1,())))
   |false=>
    aH (x.2.1.length+ [((IntKind.i64.wrap ((3:Int)+v24.1)),x.2.2.1,(1:Int),(0:Int),())].length) (
     match gc (x.2.2.2.1,((IntKind.i64.wrap ((3:Int)+v24.1)),x.2.2.1,(1:Int),(0:Int),()),())with
     |none=>none
     |some v39=>
     match aa ((v24.2.1.1,v24.2.1.2.1,v24.2.1.2.2.1,()),(60:Int),())with
     |none=>none
     |some v40=>
     match aa ((v40.2.1.1,v40.2.1.2.1,v40.2.1.2.2.1,()),(30:Int),())with
     |none=>none
     |some v41=>
     some (.inl ((v41.2.1.1,v41.2.1.2.1,v41.2.1.2.2.1,()),(x.2.1++ [((IntKind.i64.wrap ((3:Int)+v24.1)),x.2.2.1,(1:Int),(0:Int),())]),(IntKind.i64.wrap ((IntKind.i64.wrap ((IntKind.i64.wrap (x.2.2.1+(160:Int)))+v40.1))-(IntKind.i64.wrap ((IntKind.i64.wrap (Int.tdiv v41.1 (29:Int)))*(9:Int))))),v39.1,())))
 |false=>
  some (.inr (.inl ((x.1.1,x.1.2.1,x.1.2.2.1,()),x.2.1,())))
|false=>
 some (.inr (.inl ((x.1.1,x.1.2.1,x.1.2.2.1,()),x.2.1,())))
noncomputable def jS(x:Ty.T (.pair (.box ah) (.pair (.list (.int .i64)) .unit))):Option (Ty.T Yk):=
match iC (x.2.1,())with
|none=>none
|some v1=>
match(!v1.1)with
|true=>
 some ([],(x.1.1,x.1.2.1,x.1.2.2.1,()),())
|false=>
 match aa ((x.1.1,x.1.2.1,x.1.2.2.1,()),(5:Int),())with
 |none=>none
 |some v2=>
 match(v2.1==(0:Int))with
 |true=>
  match pC ((v2.2.1.1,v2.2.1.2.1,v2.2.1.2.2.1,()),(x.2.1.length:Int),())with
  |none=>none
  |some v3=>
  some (v3.1,(v3.2.1.1,v3.2.1.2.1,v3.2.1.2.2.1,()),())
 |false=>
  match(v2.1==(1:Int))with
  |true=>
   match aa ((v2.2.1.1,v2.2.1.2.1,v2.2.1.2.2.1,()),(20:Int),())with
   |none=>none
   |some v4=>
   match ac cY ((v4.2.1.1,v4.2.1.2.1,v4.2.1.2.2.1,()),[],(x.2.1.length:Int),v4.1,())with
   |none=>none
   |some (.inl v6)=>
    match(decide ((v6.2.1.length:Int)>(1:Int)))with
    |true=>
     match aa ((v6.1.1,v6.1.2.1,v6.1.2.2.1,()),(12:Int),())with
     |none=>none
     |some v8=>
     match(v8.1==(0:Int))with
     |true=>
      ab (av v6.2.1 (0:Int)) fun _=>
      match v6.2.1[(0:Int).toNat]? with
      |none=>none
      |some v10=>
      ab (av v6.2.1 (1:Int)) fun _=>
      match v6.2.1[(1:Int).toNat]? with
      |none=>none
      |some v12=>
      some ((v6.2.1.set ((1:Int).toNat) (v12.1,(IntKind.i64.wrap (v10.2.1+(5:Int))),v12.2.2.1,v12.2.2.2.1,())),(v8.2.1.1,v8.2.1.2.1,v8.2.1.2.2.1,()),())
     |false=>
      some (v6.2.1,(v8.2.1.1,v8.2.1.2.1,v8.2.1.2.2.1,()),())
    |false=>
     some (v6.2.1,(v6.1.1,v6.1.2.1,v6.1.2.2.1,()),())
   |some (.inr v13)=>
    none
  |false=>
   match(v2.1==(2:Int))with
   |true=>
    match aa ((v2.2.1.1,v2.2.1.2.1,v2.2.1.2.2.1,()),(20:Int),())with
    |none=>none
    |some v14=>
    match ac cY ((v14.2.1.1,v14.2.1.2.1,v14.2.1.2.2.1,()),[],(x.2.1.length:Int),v14.1,())with
    |none=>none
    |some (.inl v15)=>
     match(decide ((v15.2.1.length:Int)>(1:Int)))with
     |true=>
      match aa ((v15.1.1,v15.1.2.1,v15.1.2.2.1,()),(12:Int),())with
      |none=>none
      |some v17=>
      match(v17.1==(0:Int))with
      |true=>
       ab (av v15.2.1 (0:Int)) fun _=>
       match v15.2.1[(0:Int).toNat]? with
       |none=>none
       |some v19=>
       ab (av v15.2.1 (1:Int)) fun _=>
       match v15.2.1[(1:Int).toNat]? with
       |none=>none
       |some v21=>
       some ((v15.2.1.set ((1:Int).toNat) (v21.1,(IntKind.i64.wrap (v19.2.1+(5:Int))),v21.2.2.1,v21.2.2.2.1,())),(v17.2.1.1,v17.2.1.2.1,v17.2.1.2.2.1,()),())
      |false=>
       some (v15.2.1,(v17.2.1.1,v17.2.1.2.1,v17.2.1.2.2.1,()),())
     |false=>
      some (v15.2.1,(v15.1.1,v15.1.2.1,v15.1.2.2.1,()),())
    |some (.inr v22)=>
     none
   |false=>
    match aa ((v2.2.1.1,v2.2.1.2.1,v2.2.1.2.2.1,()),(60:Int),())with
    |none=>none
    |some v23=>
    match ac bX ((v23.2.1.1,v23.2.1.2.1,v23.2.1.2.2.1,()),[],v23.1,x.2.1,())with
    |none=>none
    |some (.inl v42)=>
     some (v42.2.1,(v42.1.1,v42.1.2.1,v42.1.2.2.1,()),())
    |some (.inr v44)=>
     none
noncomputable def vg:ae:=⟨_,Yi,dY,rfl,jS⟩
noncomputable def mF:FuncId→Option ae:=bH [(42,de),(81,zb),(121,BN),(174,Dy),(175,qs)]
theorem BR:∀f s,mF f=some s→FnOK G0 Tryz.prog f s:=aK ⟨bh,xj,kk,Nr,Dj,trivial⟩
def qy:aX:=⟨[0,5,6,7],lc,1,[0,5],qw,[],.unit⟩
def qz:aX:=⟨[0,5,8,9],ld,3,[0,5],qx,[],.unit⟩
noncomputable def mG:List aD:=[qy.spec cY,qz.spec bX]
theorem zd:bi bm E0 mF (be Tryz.f120 mG) Tryz.f120 0 qy cY:=fun x=>by kernel_rfl
theorem ze:bi bm E0 mF (be Tryz.f120 mG) Tryz.f120 1 qz bX:=fun x=>by kernel_rfl
theorem FN:FnOK G0 Tryz.prog 120 vg:=aO ap BR Tryz.func120 mG (by kernel_rfl) (by exact⟨(zd).lok,(ze).lok,trivial⟩) fun x=>by kernel_rfl
abbrev rA:Ty:=(.pair (.box ah) (.pair (.box ar) (.pair (.box ak) (.pair (.box ar) (.pair (.box ak) (.pair (.own 2 (.int .i64)) (.pair (.int .i64) .unit)))))))
abbrev AA:Ty:=(.pair (.box ah) (.pair (.box ar) (.pair (.box ak) (.pair (.box ar) (.pair (.box ak) (.pair (.own 2 (.int .i64)) .unit))))))
noncomputable def ji(x:(Ty.T rA)):Option ((Ty.T rA) ⊕ ((Ty.T AA) ⊕ (Ty.T .unit))):=
match(decide (x.2.2.2.2.2.2.1>(0:Int)))with
|true=>
 match aa ((x.1.1,x.1.2.1,x.1.2.2.1,()),(x.2.2.2.2.2.1.length:Int),())with
 |none=>none
 |some v13=>
 ab (av x.2.2.2.2.2.1 v13.1) fun _=>
 match x.2.2.2.2.2.1[v13.1.toNat]? with
 |none=>none
 |some v15=>
 ab (av x.2.2.2.2.2.1 v13.1) fun _=>
 match x.2.2.2.2.2.1[v13.1.toNat]? with
 |none=>none
 |some v17=>
 some (.inl ((v13.2.1.1,v13.2.1.2.1,v13.2.1.2.2.1,()),(x.2.1.1,x.2.1.2.1,x.2.1.2.2.1,x.2.1.2.2.2.1,()),(x.2.2.1.1,x.2.2.1.2.1,x.2.2.1.2.2.1,x.2.2.1.2.2.2.1,x.2.2.1.2.2.2.2.1,()),(x.2.2.2.1.1,x.2.2.2.1.2.1,x.2.2.2.1.2.2.1,x.2.2.2.1.2.2.2.1,()),(x.2.2.2.2.1.1,x.2.2.2.2.1.2.1,x.2.2.2.2.1.2.2.1,x.2.2.2.2.1.2.2.2.1,x.2.2.2.2.1.2.2.2.2.1,()),(x.2.2.2.2.2.1.set v13.1.toNat (IntKind.i64.wrap ((1:Int)-v15))),(IntKind.i64.wrap (x.2.2.2.2.2.2.1-(1:Int))),()))
|false=>
 some (.inr (.inl ((x.1.1,x.1.2.1,x.1.2.2.1,()),(x.2.1.1,x.2.1.2.1,x.2.1.2.2.1,x.2.1.2.2.2.1,()),(x.2.2.1.1,x.2.2.1.2.1,x.2.2.1.2.2.1,x.2.2.1.2.2.2.1,x.2.2.1.2.2.2.2.1,()),(x.2.2.2.1.1,x.2.2.2.1.2.1,x.2.2.2.1.2.2.1,x.2.2.2.1.2.2.2.1,()),(x.2.2.2.2.1.1,x.2.2.2.2.1.2.1,x.2.2.2.2.1.2.2.1,x.2.2.2.2.1.2.2.2.1,x.2.2.2.2.1.2.2.2.2.1,()),x.2.2.2.2.2.1,())))
noncomputable def mH(x:Ty.T dY):Option (Ty.T (.pair ar (.pair ak (.pair (.list (.int .i64)) (.pair (.box ah) .unit))))):=
match sY ((x.1.1,x.1.2.1,x.1.2.2.1,()),())with
|none=>none
|some v1=>
match lu ((v1.1.1,v1.1.2.1,v1.1.2.2.1,v1.1.2.2.2.1,()),(v1.2.1.1,v1.2.1.2.1,v1.2.1.2.2.1,v1.2.1.2.2.2.1,v1.2.1.2.2.2.2.1,()),(v1.2.2.1.1,v1.2.2.1.2.1,(v1.2.2.1.2.2.1.1,v1.2.2.1.2.2.1.2.1,v1.2.2.1.2.2.1.2.2.1,v1.2.2.1.2.2.1.2.2.2.1,v1.2.2.1.2.2.1.2.2.2.2.1,()),v1.2.2.1.2.2.2.1,()),())with
|none=>none
|some v2=>
match(v2.2.1 != (0:Int))with
|true=>
 al (
  match mE ((v1.2.2.2.1.1,v1.2.2.2.1.2.1,v1.2.2.2.1.2.2.1,()),())with
  |none=>none
  |some v3=>
  some ((v1.1.1,v1.1.2.1,v1.1.2.2.1,v1.1.2.2.2.1,()),(v1.2.1.1,v1.2.1.2.1,v1.2.1.2.2.1,v1.2.1.2.2.2.1,v1.2.1.2.2.2.2.1,()),v3.1,(v3.2.1.1,v3.2.1.2.1,v3.2.1.2.2.1,()),())) (
  match mE ((v1.2.2.2.1.1,v1.2.2.2.1.2.1,v1.2.2.2.1.2.2.1,()),())with
  |none=>none
  |some v3=>
  an (
   some ((v1.1.1,v1.1.2.1,v1.1.2.2.1,v1.1.2.2.2.1,()),(v1.2.1.1,v1.2.1.2.1,v1.2.1.2.2.1,v1.2.1.2.2.2.1,v1.2.1.2.2.2.2.1,()),v3.1,(v3.2.1.1,v3.2.1.2.1,v3.2.1.2.2.1,()),())))
|false=>
 match aa ((v1.2.2.2.1.1,v1.2.2.2.1.2.1,v1.2.2.2.1.2.2.1,()),(8:Int),())with
 |none=>none
 |some v4=>
 match(v4.1==(0:Int))with
 |true=>
  match pC ((v4.2.1.1,v4.2.1.2.1,v4.2.1.2.2.1,()),(v2.1.length:Int),())with
  |none=>none
  |some v5=>
  match iE (v2.1,v5.1,())with
  |none=>none
  |some v6=>
  an (
   some ((v1.1.1,v1.1.2.1,v1.1.2.2.1,v1.1.2.2.2.1,()),(v1.2.1.1,v1.2.1.2.1,v1.2.1.2.2.1,v1.2.1.2.2.2.1,v1.2.1.2.2.2.2.1,()),v6.1,(v5.2.1.1,v5.2.1.2.1,v5.2.1.2.2.1,()),()))
 |false=>
  match(v4.1==(1:Int))with
  |true=>
   match jS ((v4.2.1.1,v4.2.1.2.1,v4.2.1.2.2.1,()),v2.1,())with
   |none=>none
   |some v7=>
   match iE (v2.1,v7.1,())with
   |none=>none
   |some v8=>
   an (
    some ((v1.1.1,v1.1.2.1,v1.1.2.2.1,v1.1.2.2.2.1,()),(v1.2.1.1,v1.2.1.2.1,v1.2.1.2.2.1,v1.2.1.2.2.2.1,v1.2.1.2.2.2.2.1,()),v8.1,(v7.2.1.1,v7.2.1.2.1,v7.2.1.2.2.1,()),()))
  |false=>
   match(v4.1==(2:Int))with
   |true=>
    match jS ((v4.2.1.1,v4.2.1.2.1,v4.2.1.2.2.1,()),v2.1,())with
    |none=>none
    |some v9=>
    match iE (v2.1,v9.1,())with
    |none=>none
    |some v10=>
    an (
     some ((v1.1.1,v1.1.2.1,v1.1.2.2.1,v1.1.2.2.2.1,()),(v1.2.1.1,v1.2.1.2.1,v1.2.1.2.2.1,v1.2.1.2.2.2.1,v1.2.1.2.2.2.2.1,()),v10.1,(v9.2.1.1,v9.2.1.2.1,v9.2.1.2.2.1,()),()))
   |false=>
    match(v4.1==(3:Int))with
    |true=>
     match kY ((v1.1.1,v1.1.2.1,v1.1.2.2.1,v1.1.2.2.2.1,()),(v1.2.1.1,v1.2.1.2.1,v1.2.1.2.2.1,v1.2.1.2.2.2.1,v1.2.1.2.2.2.2.1,()),(v1.2.2.1.1,v1.2.2.1.2.1,(v1.2.2.1.2.2.1.1,v1.2.2.1.2.2.1.2.1,v1.2.2.1.2.2.1.2.2.1,v1.2.2.1.2.2.1.2.2.2.1,v1.2.2.1.2.2.1.2.2.2.2.1,()),v1.2.2.1.2.2.2.1,()),())with
     |none=>none
     |some v11=>
     match aa ((v4.2.1.1,v4.2.1.2.1,v4.2.1.2.2.1,()),(3:Int),())with
     |none=>none
     |some v12=>
     match ac ji ((v12.2.1.1,v12.2.1.2.1,v12.2.1.2.2.1,()),((0:Int),[],[],[],()),((0:Int),(0:Int),(0:Int),(0:Int),(0:Int),()),(v1.1.1,v1.1.2.1,v1.1.2.2.1,v1.1.2.2.2.1,()),(v1.2.1.1,v1.2.1.2.1,v1.2.1.2.2.1,v1.2.1.2.2.2.1,v1.2.1.2.2.2.2.1,()),v11.1,(IntKind.i64.wrap ((1:Int)+v12.1)),())with
     |none=>none
     |some (.inl v18)=>
      al (
       match dI (v18.2.2.2.2.2.1,())with
       |none=>none
       |some v20=>
       some ((v18.2.2.2.1.1,v18.2.2.2.1.2.1,v18.2.2.2.1.2.2.1,v18.2.2.2.1.2.2.2.1,()),(v18.2.2.2.2.1.1,v18.2.2.2.2.1.2.1,v18.2.2.2.2.1.2.2.1,v18.2.2.2.2.1.2.2.2.1,v18.2.2.2.2.1.2.2.2.2.1,()),v20.1,(v18.1.1,v18.1.2.1,v18.1.2.2.1,()),())) (
       match dI (v18.2.2.2.2.2.1,())with
       |none=>none
       |some v20=>
       an (
        some ((v18.2.2.2.1.1,v18.2.2.2.1.2.1,v18.2.2.2.1.2.2.1,v18.2.2.2.1.2.2.2.1,()),(v18.2.2.2.2.1.1,v18.2.2.2.2.1.2.1,v18.2.2.2.2.1.2.2.1,v18.2.2.2.2.1.2.2.2.1,v18.2.2.2.2.1.2.2.2.2.1,()),v20.1,(v18.1.1,v18.1.2.1,v18.1.2.2.1,()),())))
     |some (.inr v21)=>
      none
    |false=>
     match(v4.1==(4:Int))with
     |true=>
      an (
       match aa ((v4.2.1.1,v4.2.1.2.1,v4.2.1.2.2.1,()),(2:Int),())with
       |none=>none
       |some v22=>
       an (
        some ((v1.1.1,v1.1.2.1,v1.1.2.2.1,v1.1.2.2.2.1,()),((Int.tmod (IntKind.i64.wrap (v1.2.1.1+v22.1)) (65536:Int)),v1.2.1.2.1,v1.2.1.2.2.1,v1.2.1.2.2.2.1,v1.2.1.2.2.2.2.1,()),v2.1,(v22.2.1.1,v22.2.1.2.1,v22.2.1.2.2.1,()),())))
     |false=>
      match(v4.1==(5:Int))with
      |true=>
       match cB ((v2.1.length:Int),(1:Int),())with
       |none=>none
       |some v23=>
       an (
        some ((v1.1.1,v1.1.2.1,v1.1.2.2.1,v1.1.2.2.2.1,()),(v1.2.1.1,v1.2.1.2.1,v1.2.1.2.2.1,v1.2.1.2.2.2.1,v1.2.1.2.2.2.2.1,()),v23.1,(v4.2.1.1,v4.2.1.2.1,v4.2.1.2.2.1,()),()))
      |false=>
       an (
        some ((v1.1.1,v1.1.2.1,v1.1.2.2.1,v1.1.2.2.2.1,()),(v1.2.1.1,v1.2.1.2.1,v1.2.1.2.2.1,v1.2.1.2.2.2.1,v1.2.1.2.2.2.2.1,()),v2.1,(v4.2.1.1,v4.2.1.2.1,v4.2.1.2.2.1,()),()))
noncomputable def SM:ae:=⟨_,tG,dY,rfl,mH⟩
noncomputable def FO:FuncId→Option ae:=bH [(18,yl),(40,H0),(42,de),(59,rh),(60,Fu),(79,mr),(80,yv),(81,zb),(82,H5),(120,vg)]
theorem Ns:∀f s,FO f=some s→FnOK G0 Tryz.prog f s:=aK ⟨Jn,QW,bh,qk,C5,gt,xg,xj,FM,FN,trivial⟩
def AB:aX:=⟨[0,2,3,5,6,10,11],rA,1,[0,2,3,5,6,10],AA,[],.unit⟩
noncomputable def FP:List aD:=[AB.spec ji]
theorem JC:bi bm E0 FO (be Tryz.f70 FP) Tryz.f70 0 AB ji:=fun x=>by kernel_rfl
theorem FQ:FnOK G0 Tryz.prog 70 SM:=aO ap Ns Tryz.func70 FP (by kernel_rfl) (by exact⟨(JC).lok,trivial⟩) fun x=>by kernel_rfl
noncomputable def ge(x:Ty.T Mx):Option (Ty.T tG):=
match sK (x.1,())with
|none=>none
|some v1=>
match mH ((v1.1.1,v1.1.2.1,v1.1.2.2.1,()),())with
|none=>none
|some v2=>
some ((v2.1.1,v2.1.2.1,v2.1.2.2.1,v2.1.2.2.2.1,()),(v2.2.1.1,v2.2.1.2.1,v2.2.1.2.2.1,v2.2.1.2.2.2.1,v2.2.1.2.2.2.2.1,()),v2.2.2.1,())
noncomputable def zf:ae:=⟨_,tG,.unit,rfl,ge⟩
theorem xG:FnOK G0 Tryz.prog 28 zf:=aq ap (sg EU (sg FQ (aU))) Tryz.func28
noncomputable def tg(x:Ty.T tG):Option (Ty.T aV):=
match mn ((x.1.1,x.1.2.1,x.1.2.2.1,x.1.2.2.2.1,()),(x.2.1.1,x.2.1.2.1,x.2.1.2.2.1,x.2.1.2.2.2.1,x.2.1.2.2.2.2.1,()),())with
|none=>none
|some v1=>
match(v1.1==(0:Int))with
|true=>
 match iC (x.2.2.1,())with
 |none=>none
 |some v2=>
 match(!v2.1)with
 |true=>
  some ((2:Int),())
 |false=>
  some (v1.1,())
|false=>
 some (v1.1,())
noncomputable def SN:ae:=⟨_,aV,.unit,rfl,tg⟩
theorem FR:FnOK G0 Tryz.prog 71 SN:=aq ap (sg Fj (sg kk (aU))) Tryz.func71
abbrev ue:Ty:=aaa
noncomputable def iK(x:(Ty.T ue)):Option ((Ty.T ue) ⊕ ((Ty.T .unit) ⊕ (Ty.T ax))):=
match(decide (x.2.2.1<(x.1.length:Int)))with
|true=>
 ab (av x.1 x.2.2.1) fun v1=>
 ab (av x.2.1 x.2.2.1) fun v2=>
 match(v1 != v2)with
 |true=>
  some (.inr (.inr (false,())))
 |false=>
  some (.inl (x.1,x.2.1,(IntKind.i64.wrap (x.2.2.1+(1:Int))),()))
|false=>
 some (.inr (.inl (())))
noncomputable def bT(x:Ty.T IH):Option (Ty.T ax):=
match((x.1.length:Int) != (x.2.1.length:Int))with
|true=>
 some (false,())
|false=>
 match ac iK (x.1,x.2.1,(0:Int),())with
 |none=>none
 |some (.inl v3)=>
  some (true,())
 |some (.inr v4)=>
  some (v4.1,())
noncomputable def SO:ae:=⟨_,ax,.unit,rfl,bT⟩
noncomputable def FS:FuncId→Option ae:=bH []
theorem Nt:∀f s,FS f=some s→FnOK G0 Tryz.prog f s:=aK trivial
def Dz:aX:=⟨[0,1,5],ue,0,[],.unit,[4],ax⟩
noncomputable def FT:List aD:=[Dz.spec iK]
theorem Lu:bi bm E0 FS (be Tryz.f191 FT) Tryz.f191 0 Dz iK:=fun x=>by kernel_rfl
theorem FU:FnOK G0 Tryz.prog 191 SO:=aO ap Nt Tryz.func191 FT (by kernel_rfl) (by exact⟨(Lu).lok,trivial⟩) fun x=>by kernel_rfl
noncomputable def vy(x:Ty.T fD):Option (Ty.T yU):=
match dc (x.1,(0:Int),(16:Int),())with
|none=>none
|some v1=>
match dc (x.1,(16:Int),(4:Int),())with
|none=>none
|some v2=>
match dc (x.1,(20:Int),(4:Int),())with
|none=>none
|some v3=>
match dc (x.1,(24:Int),(8:Int),())with
|none=>none
|some v4=>
match dc (x.1,(32:Int),(32:Int),())with
|none=>none
|some v5=>
some ((v1.1,v2.1,v3.1,v4.1,v5.1,()),())
noncomputable def Q6:ae:=⟨_,yU,.unit,rfl,vy⟩
theorem Pr:FnOK G0 Tryz.prog 208 Q6:=aq ap (sg zZ (aU)) Tryz.func208
noncomputable def vz(x:Ty.T fD):Option (Ty.T UC):=
match((x.1.length:Int)==(0:Int))with
|true=>
 some (((0:Int),(0:Int),((0:Int),(0:Int),(0:Int),(0:Int),(0:Int),()),[],()),false,())
|false=>
 ab (av x.1 (0:Int)) fun v1=>
 ab (av x.1 (0:Int)) fun v2=>
 ab (aM x.1.length (some (.dat (.int .i64) (1:Int))) none) fun v3=>
 match dj ((IntKind.i64.wrap (Int.tdiv v1 (64:Int))),())with
 |none=>none
 |some v4=>
 match v4.1 with
 |true=>
  match(decide (((List.drop v3.1 (List.take v3.2 x.1)).length:Int)<(8:Int)))with
  |true=>
   some (((0:Int),(0:Int),((0:Int),(0:Int),(0:Int),(0:Int),(0:Int),()),[],()),false,())
  |false=>
   ab (aM (List.drop v3.1 (List.take v3.2 x.1)).length none (some (.dat (.int .i64) (8:Int)))) fun v5=>
   match kP ((List.drop v5.1 (List.take v5.2 (List.drop v3.1 (List.take v3.2 x.1)))),())with
   |none=>none
   |some v6=>
   match vy (v6.1,())with
   |none=>none
   |some v7=>
   ab (aM (List.drop v3.1 (List.take v3.2 x.1)).length (some (.dat (.int .i64) (8:Int))) none) fun v8=>
   match fH ((IntKind.i64.wrap (Int.tdiv v1 (64:Int))),())with
   |none=>none
   |some v9=>
   match v9.1 with
   |true=>
    match(((List.drop v8.1 (List.take v8.2 (List.drop v3.1 (List.take v3.2 x.1)))).length:Int)==(0:Int))with
    |true=>
     some (((0:Int),(0:Int),((0:Int),(0:Int),(0:Int),(0:Int),(0:Int),()),[],()),false,())
    |false=>
     ab (aM (List.drop v8.1 (List.take v8.2 (List.drop v3.1 (List.take v3.2 x.1)))).length (some (.dat (.int .i64) (1:Int))) none) fun v10=>
     match kl ((List.drop v10.1 (List.take v10.2 (List.drop v8.1 (List.take v8.2 (List.drop v3.1 (List.take v3.2 x.1)))))),())with
     |none=>none
     |some v11=>
     al (
      match cO (((IntKind.i64.wrap (Int.tdiv v1 (64:Int))),(Int.tmod (IntKind.i64.wrap (Int.tdiv v2 (8:Int))) (8:Int)),(v7.1.1,v7.1.2.1,v7.1.2.2.1,v7.1.2.2.2.1,v7.1.2.2.2.2.1,()),v11.1,()),())with
      |none=>none
      |some v12=>
      match v12.1 with
      |true=>
       match bR (((IntKind.i64.wrap (Int.tdiv v1 (64:Int))),(Int.tmod (IntKind.i64.wrap (Int.tdiv v2 (8:Int))) (8:Int)),(v7.1.1,v7.1.2.1,v7.1.2.2.1,v7.1.2.2.2.1,v7.1.2.2.2.2.1,()),v11.1,()),())with
       |none=>none
       |some v13=>
       match bT (v13.1,x.1,())with
       |none=>none
       |some v14=>
       some (((IntKind.i64.wrap (Int.tdiv v1 (64:Int))),(Int.tmod (IntKind.i64.wrap (Int.tdiv v2 (8:Int))) (8:Int)),(v7.1.1,v7.1.2.1,v7.1.2.2.1,v7.1.2.2.2.1,v7.1.2.2.2.2.1,()),v11.1,()),v14.1,())
      |false=>
       some (((IntKind.i64.wrap (Int.tdiv v1 (64:Int))),(Int.tmod (IntKind.i64.wrap (Int.tdiv v2 (8:Int))) (8:Int)),(v7.1.1,v7.1.2.1,v7.1.2.2.1,v7.1.2.2.2.1,v7.1.2.2.2.2.1,()),v11.1,()),false,())) (
      al (
       match cO (((IntKind.i64.wrap (Int.tdiv v1 (64:Int))),(Int.tmod (IntKind.i64.wrap (Int.tdiv v2 (8:Int))) (8:Int)),(v7.1.1,v7.1.2.1,v7.1.2.2.1,v7.1.2.2.2.1,v7.1.2.2.2.2.1,()),v11.1,()),())with
       |none=>none
       |some v12=>
       match v12.1 with
       |true=>
        match bR (((IntKind.i64.wrap (Int.tdiv v1 (64:Int))),(Int.tmod (IntKind.i64.wrap (Int.tdiv v2 (8:Int))) (8:Int)),(v7.1.1,v7.1.2.1,v7.1.2.2.1,v7.1.2.2.2.1,v7.1.2.2.2.2.1,()),v11.1,()),())with
        |none=>none
        |some v13=>
        match bT (v13.1,x.1,())with
        |none=>none
        |some v14=>
        some (((IntKind.i64.wrap (Int.tdiv v1 (64:Int))),(Int.tmod (IntKind.i64.wrap (Int.tdiv v2 (8:Int))) (8:Int)),(v7.1.1,v7.1.2.1,v7.1.2.2.1,v7.1.2.2.2.1,v7.1.2.2.2.2.1,()),v11.1,()),v14.1,())
       |false=>
        some (((IntKind.i64.wrap (Int.tdiv v1 (64:Int))),(Int.tmod (IntKind.i64.wrap (Int.tdiv v2 (8:Int))) (8:Int)),(v7.1.1,v7.1.2.1,v7.1.2.2.1,v7.1.2.2.2.1,v7.1.2.2.2.2.1,()),v11.1,()),false,())) (
       match cO (((IntKind.i64.wrap (Int.tdiv v1 (64:Int))),(Int.tmod (IntKind.i64.wrap (Int.tdiv v2 (8:Int))) (8:Int)),(v7.1.1,v7.1.2.1,v7.1.2.2.1,v7.1.2.2.2.1,v7.1.2.2.2.2.1,()),v11.1,()),())with
       |none=>none
       |some v12=>
       match v12.1 with
       |true=>
        al (
         match bR (((IntKind.i64.wrap (Int.tdiv v1 (64:Int))),(Int.tmod (IntKind.i64.wrap (Int.tdiv v2 (8:Int))) (8:Int)),(v7.1.1,v7.1.2.1,v7.1.2.2.1,v7.1.2.2.2.1,v7.1.2.2.2.2.1,()),v11.1,()),())with
         |none=>none
         |some v13=>
         match bT (v13.1,x.1,())with
         |none=>none
         |some v14=>
         some (((IntKind.i64.wrap (Int.tdiv v1 (64:Int))),(Int.tmod (IntKind.i64.wrap (Int.tdiv v2 (8:Int))) (8:Int)),(v7.1.1,v7.1.2.1,v7.1.2.2.1,v7.1.2.2.2.1,v7.1.2.2.2.2.1,()),v11.1,()),v14.1,())) (
         al (
          match bR (((IntKind.i64.wrap (Int.tdiv v1 (64:Int))),(Int.tmod (IntKind.i64.wrap (Int.tdiv v2 (8:Int))) (8:Int)),(v7.1.1,v7.1.2.1,v7.1.2.2.1,v7.1.2.2.2.1,v7.1.2.2.2.2.1,()),v11.1,()),())with
          |none=>none
          |some v13=>
          match bT (v13.1,x.1,())with
          |none=>none
          |some v14=>
          some (((IntKind.i64.wrap (Int.tdiv v1 (64:Int))),(Int.tmod (IntKind.i64.wrap (Int.tdiv v2 (8:Int))) (8:Int)),(v7.1.1,v7.1.2.1,v7.1.2.2.1,v7.1.2.2.2.1,v7.1.2.2.2.2.1,()),v11.1,()),v14.1,())) (
          match bR (((IntKind.i64.wrap (Int.tdiv v1 (64:Int))),(Int.tmod (IntKind.i64.wrap (Int.tdiv v2 (8:Int))) (8:Int)),(v7.1.1,v7.1.2.1,v7.1.2.2.1,v7.1.2.2.2.1,v7.1.2.2.2.2.1,()),v11.1,()),())with
          |none=>none
          |some v13=>
          an (
           match bT (v13.1,x.1,())with
           |none=>none
           |some v14=>
           some (((IntKind.i64.wrap (Int.tdiv v1 (64:Int))),(Int.tmod (IntKind.i64.wrap (Int.tdiv v2 (8:Int))) (8:Int)),(v7.1.1,v7.1.2.1,v7.1.2.2.1,v7.1.2.2.2.1,v7.1.2.2.2.2.1,()),v11.1,()),v14.1,()))))
       |false=>
        al (
         some (((IntKind.i64.wrap (Int.tdiv v1 (64:Int))),(Int.tmod (IntKind.i64.wrap (Int.tdiv v2 (8:Int))) (8:Int)),(v7.1.1,v7.1.2.1,v7.1.2.2.1,v7.1.2.2.2.1,v7.1.2.2.2.2.1,()),v11.1,()),false,())) (
         al (
          some (((IntKind.i64.wrap (Int.tdiv v1 (64:Int))),(Int.tmod (IntKind.i64.wrap (Int.tdiv v2 (8:Int))) (8:Int)),(v7.1.1,v7.1.2.1,v7.1.2.2.1,v7.1.2.2.2.1,v7.1.2.2.2.2.1,()),v11.1,()),false,())) (
          an (
           some (((IntKind.i64.wrap (Int.tdiv v1 (64:Int))),(Int.tmod (IntKind.i64.wrap (Int.tdiv v2 (8:Int))) (8:Int)),(v7.1.1,v7.1.2.1,v7.1.2.2.1,v7.1.2.2.2.1,v7.1.2.2.2.2.1,()),v11.1,()),false,()))))))
   |false=>
    al (
     match cO (((IntKind.i64.wrap (Int.tdiv v1 (64:Int))),(Int.tmod (IntKind.i64.wrap (Int.tdiv v2 (8:Int))) (8:Int)),(v7.1.1,v7.1.2.1,v7.1.2.2.1,v7.1.2.2.2.1,v7.1.2.2.2.2.1,()),[],()),())with
     |none=>none
     |some v15=>
     match v15.1 with
     |true=>
      match bR (((IntKind.i64.wrap (Int.tdiv v1 (64:Int))),(Int.tmod (IntKind.i64.wrap (Int.tdiv v2 (8:Int))) (8:Int)),(v7.1.1,v7.1.2.1,v7.1.2.2.1,v7.1.2.2.2.1,v7.1.2.2.2.2.1,()),[],()),())with
      |none=>none
      |some v16=>
      match bT (v16.1,x.1,())with
      |none=>none
      |some v17=>
      some (((IntKind.i64.wrap (Int.tdiv v1 (64:Int))),(Int.tmod (IntKind.i64.wrap (Int.tdiv v2 (8:Int))) (8:Int)),(v7.1.1,v7.1.2.1,v7.1.2.2.1,v7.1.2.2.2.1,v7.1.2.2.2.2.1,()),[],()),v17.1,())
     |false=>
      some (((IntKind.i64.wrap (Int.tdiv v1 (64:Int))),(Int.tmod (IntKind.i64.wrap (Int.tdiv v2 (8:Int))) (8:Int)),(v7.1.1,v7.1.2.1,v7.1.2.2.1,v7.1.2.2.2.1,v7.1.2.2.2.2.1,()),[],()),false,())) (
     al (
      match cO (((IntKind.i64.wrap (Int.tdiv v1 (64:Int))),(Int.tmod (IntKind.i64.wrap (Int.tdiv v2 (8:Int))) (8:Int)),(v7.1.1,v7.1.2.1,v7.1.2.2.1,v7.1.2.2.2.1,v7.1.2.2.2.2.1,()),[],()),())with
      |none=>none
      |some v15=>
      match v15.1 with
      |true=>
       match bR (((IntKind.i64.wrap (Int.tdiv v1 (64:Int))),(Int.tmod (IntKind.i64.wrap (Int.tdiv v2 (8:Int))) (8:Int)),(v7.1.1,v7.1.2.1,v7.1.2.2.1,v7.1.2.2.2.1,v7.1.2.2.2.2.1,()),[],()),())with
       |none=>none
       |some v16=>
       match bT (v16.1,x.1,())with
       |none=>none
       |some v17=>
       some (((IntKind.i64.wrap (Int.tdiv v1 (64:Int))),(Int.tmod (IntKind.i64.wrap (Int.tdiv v2 (8:Int))) (8:Int)),(v7.1.1,v7.1.2.1,v7.1.2.2.1,v7.1.2.2.2.1,v7.1.2.2.2.2.1,()),[],()),v17.1,())
      |false=>
       some (((IntKind.i64.wrap (Int.tdiv v1 (64:Int))),(Int.tmod (IntKind.i64.wrap (Int.tdiv v2 (8:Int))) (8:Int)),(v7.1.1,v7.1.2.1,v7.1.2.2.1,v7.1.2.2.2.1,v7.1.2.2.2.2.1,()),[],()),false,())) (
      match cO (((IntKind.i64.wrap (Int.tdiv v1 (64:Int))),(Int.tmod (IntKind.i64.wrap (Int.tdiv v2 (8:Int))) (8:Int)),(v7.1.1,v7.1.2.1,v7.1.2.2.1,v7.1.2.2.2.1,v7.1.2.2.2.2.1,()),[],()),())with
      |none=>none
      |some v15=>
      match v15.1 with
      |true=>
       al (
        match bR (((IntKind.i64.wrap (Int.tdiv v1 (64:Int))),(Int.tmod (IntKind.i64.wrap (Int.tdiv v2 (8:Int))) (8:Int)),(v7.1.1,v7.1.2.1,v7.1.2.2.1,v7.1.2.2.2.1,v7.1.2.2.2.2.1,()),[],()),())with
        |none=>none
        |some v16=>
        match bT (v16.1,x.1,())with
        |none=>none
        |some v17=>
        some (((IntKind.i64.wrap (Int.tdiv v1 (64:Int))),(Int.tmod (IntKind.i64.wrap (Int.tdiv v2 (8:Int))) (8:Int)),(v7.1.1,v7.1.2.1,v7.1.2.2.1,v7.1.2.2.2.1,v7.1.2.2.2.2.1,()),[],()),v17.1,())) (
        al (
         match bR (((IntKind.i64.wrap (Int.tdiv v1 (64:Int))),(Int.tmod (IntKind.i64.wrap (Int.tdiv v2 (8:Int))) (8:Int)),(v7.1.1,v7.1.2.1,v7.1.2.2.1,v7.1.2.2.2.1,v7.1.2.2.2.2.1,()),[],()),())with
         |none=>none
         |some v16=>
         match bT (v16.1,x.1,())with
         |none=>none
         |some v17=>
         some (((IntKind.i64.wrap (Int.tdiv v1 (64:Int))),(Int.tmod (IntKind.i64.wrap (Int.tdiv v2 (8:Int))) (8:Int)),(v7.1.1,v7.1.2.1,v7.1.2.2.1,v7.1.2.2.2.1,v7.1.2.2.2.2.1,()),[],()),v17.1,())) (
         match bR (((IntKind.i64.wrap (Int.tdiv v1 (64:Int))),(Int.tmod (IntKind.i64.wrap (Int.tdiv v2 (8:Int))) (8:Int)),(v7.1.1,v7.1.2.1,v7.1.2.2.1,v7.1.2.2.2.1,v7.1.2.2.2.2.1,()),[],()),())with
         |none=>none
         |some v16=>
         an (
          match bT (v16.1,x.1,())with
          |none=>none
          |some v17=>
          some (((IntKind.i64.wrap (Int.tdiv v1 (64:Int))),(Int.tmod (IntKind.i64.wrap (Int.tdiv v2 (8:Int))) (8:Int)),(v7.1.1,v7.1.2.1,v7.1.2.2.1,v7.1.2.2.2.1,v7.1.2.2.2.2.1,()),[],()),v17.1,()))))
      |false=>
       al (
        some (((IntKind.i64.wrap (Int.tdiv v1 (64:Int))),(Int.tmod (IntKind.i64.wrap (Int.tdiv v2 (8:Int))) (8:Int)),(v7.1.1,v7.1.2.1,v7.1.2.2.1,v7.1.2.2.2.1,v7.1.2.2.2.2.1,()),[],()),false,())) (
        al (
         some (((IntKind.i64.wrap (Int.tdiv v1 (64:Int))),(Int.tmod (IntKind.i64.wrap (Int.tdiv v2 (8:Int))) (8:Int)),(v7.1.1,v7.1.2.1,v7.1.2.2.1,v7.1.2.2.2.1,v7.1.2.2.2.2.1,()),[],()),false,())) (
         an (
          some (((IntKind.i64.wrap (Int.tdiv v1 (64:Int))),(Int.tmod (IntKind.i64.wrap (Int.tdiv v2 (8:Int))) (8:Int)),(v7.1.1,v7.1.2.1,v7.1.2.2.1,v7.1.2.2.2.1,v7.1.2.2.2.2.1,()),[],()),false,()))))))
 |false=>
  match fH ((IntKind.i64.wrap (Int.tdiv v1 (64:Int))),())with
  |none=>none
  |some v18=>
  match v18.1 with
  |true=>
   match(((List.drop v3.1 (List.take v3.2 x.1)).length:Int)==(0:Int))with
   |true=>
    some (((0:Int),(0:Int),((0:Int),(0:Int),(0:Int),(0:Int),(0:Int),()),[],()),false,())
   |false=>
    ab (aM (List.drop v3.1 (List.take v3.2 x.1)).length (some (.dat (.int .i64) (1:Int))) none) fun v19=>
    match kl ((List.drop v19.1 (List.take v19.2 (List.drop v3.1 (List.take v3.2 x.1)))),())with
    |none=>none
    |some v20=>
    al (
     match cO (((IntKind.i64.wrap (Int.tdiv v1 (64:Int))),(Int.tmod (IntKind.i64.wrap (Int.tdiv v2 (8:Int))) (8:Int)),((0:Int),(0:Int),(0:Int),(0:Int),(0:Int),()),v20.1,()),())with
     |none=>none
     |some v21=>
     match v21.1 with
     |true=>
      match bR (((IntKind.i64.wrap (Int.tdiv v1 (64:Int))),(Int.tmod (IntKind.i64.wrap (Int.tdiv v2 (8:Int))) (8:Int)),((0:Int),(0:Int),(0:Int),(0:Int),(0:Int),()),v20.1,()),())with
      |none=>none
      |some v22=>
      match bT (v22.1,x.1,())with
      |none=>none
      |some v23=>
      some (((IntKind.i64.wrap (Int.tdiv v1 (64:Int))),(Int.tmod (IntKind.i64.wrap (Int.tdiv v2 (8:Int))) (8:Int)),((0:Int),(0:Int),(0:Int),(0:Int),(0:Int),()),v20.1,()),v23.1,())
     |false=>
      some (((IntKind.i64.wrap (Int.tdiv v1 (64:Int))),(Int.tmod (IntKind.i64.wrap (Int.tdiv v2 (8:Int))) (8:Int)),((0:Int),(0:Int),(0:Int),(0:Int),(0:Int),()),v20.1,()),false,())) (
     al (
      match cO (((IntKind.i64.wrap (Int.tdiv v1 (64:Int))),(Int.tmod (IntKind.i64.wrap (Int.tdiv v2 (8:Int))) (8:Int)),((0:Int),(0:Int),(0:Int),(0:Int),(0:Int),()),v20.1,()),())with
      |none=>none
      |some v21=>
      match v21.1 with
      |true=>
       match bR (((IntKind.i64.wrap (Int.tdiv v1 (64:Int))),(Int.tmod (IntKind.i64.wrap (Int.tdiv v2 (8:Int))) (8:Int)),((0:Int),(0:Int),(0:Int),(0:Int),(0:Int),()),v20.1,()),())with
       |none=>none
       |some v22=>
       match bT (v22.1,x.1,())with
       |none=>none
       |some v23=>
       some (((IntKind.i64.wrap (Int.tdiv v1 (64:Int))),(Int.tmod (IntKind.i64.wrap (Int.tdiv v2 (8:Int))) (8:Int)),((0:Int),(0:Int),(0:Int),(0:Int),(0:Int),()),v20.1,()),v23.1,())
      |false=>
       some (((IntKind.i64.wrap (Int.tdiv v1 (64:Int))),(Int.tmod (IntKind.i64.wrap (Int.tdiv v2 (8:Int))) (8:Int)),((0:Int),(0:Int),(0:Int),(0:Int),(0:Int),()),v20.1,()),false,())) (
      match cO (((IntKind.i64.wrap (Int.tdiv v1 (64:Int))),(Int.tmod (IntKind.i64.wrap (Int.tdiv v2 (8:Int))) (8:Int)),((0:Int),(0:Int),(0:Int),(0:Int),(0:Int),()),v20.1,()),())with
      |none=>none
      |some v21=>
      match v21.1 with
      |true=>
       al (
        match bR (((IntKind.i64.wrap (Int.tdiv v1 (64:Int))),(Int.tmod (IntKind.i64.wrap (Int.tdiv v2 (8:Int))) (8:Int)),((0:Int),(0:Int),(0:Int),(0:Int),(0:Int),()),v20.1,()),())with
        |none=>none
        |some v22=>
        match bT (v22.1,x.1,())with
        |none=>none
        |some v23=>
        some (((IntKind.i64.wrap (Int.tdiv v1 (64:Int))),(Int.tmod (IntKind.i64.wrap (Int.tdiv v2 (8:Int))) (8:Int)),((0:Int),(0:Int),(0:Int),(0:Int),(0:Int),()),v20.1,()),v23.1,())) (
        al (
         match bR (((IntKind.i64.wrap (Int.tdiv v1 (64:Int))),(Int.tmod (IntKind.i64.wrap (Int.tdiv v2 (8:Int))) (8:Int)),((0:Int),(0:Int),(0:Int),(0:Int),(0:Int),()),v20.1,()),())with
         |none=>none
         |some v22=>
         match bT (v22.1,x.1,())with
         |none=>none
         |some v23=>
         some (((IntKind.i64.wrap (Int.tdiv v1 (64:Int))),(Int.tmod (IntKind.i64.wrap (Int.tdiv v2 (8:Int))) (8:Int)),((0:Int),(0:Int),(0:Int),(0:Int),(0:Int),()),v20.1,()),v23.1,())) (
         match bR (((IntKind.i64.wrap (Int.tdiv v1 (64:Int))),(Int.tmod (IntKind.i64.wrap (Int.tdiv v2 (8:Int))) (8:Int)),((0:Int),(0:Int),(0:Int),(0:Int),(0:Int),()),v20.1,()),())with
         |none=>none
         |some v22=>
         an (
          match bT (v22.1,x.1,())with
          |none=>none
          |some v23=>
          some (((IntKind.i64.wrap (Int.tdiv v1 (64:Int))),(Int.tmod (IntKind.i64.wrap (Int.tdiv v2 (8:Int))) (8:Int)),((0:Int),(0:Int),(0:Int),(0:Int),(0:Int),()),v20.1,()),v23.1,()))))
      |false=>
       al (
        some (((IntKind.i64.wrap (Int.tdiv v1 (64:Int))),(Int.tmod (IntKind.i64.wrap (Int.tdiv v2 (8:Int))) (8:Int)),((0:Int),(0:Int),(0:Int),(0:Int),(0:Int),()),v20.1,()),false,())) (
        al (
         some (((IntKind.i64.wrap (Int.tdiv v1 (64:Int))),(Int.tmod (IntKind.i64.wrap (Int.tdiv v2 (8:Int))) (8:Int)),((0:Int),(0:Int),(0:Int),(0:Int),(0:Int),()),v20.1,()),false,())) (
         an (
          some (((IntKind.i64.wrap (Int.tdiv v1 (64:Int))),(Int.tmod (IntKind.i64.wrap (Int.tdiv v2 (8:Int))) (8:Int)),((0:Int),(0:Int),(0:Int),(0:Int),(0:Int),()),v20.1,()),false,()))))))
  |false=>
   al (
    match cO (((IntKind.i64.wrap (Int.tdiv v1 (64:Int))),(Int.tmod (IntKind.i64.wrap (Int.tdiv v2 (8:Int))) (8:Int)),((0:Int),(0:Int),(0:Int),(0:Int),(0:Int),()),[],()),())with
    |none=>none
    |some v24=>
    match v24.1 with
    |true=>
     match bR (((IntKind.i64.wrap (Int.tdiv v1 (64:Int))),(Int.tmod (IntKind.i64.wrap (Int.tdiv v2 (8:Int))) (8:Int)),((0:Int),(0:Int),(0:Int),(0:Int),(0:Int),()),[],()),())with
     |none=>none
     |some v25=>
     match bT (v25.1,x.1,())with
     |none=>none
     |some v26=>
     some (((IntKind.i64.wrap (Int.tdiv v1 (64:Int))),(Int.tmod (IntKind.i64.wrap (Int.tdiv v2 (8:Int))) (8:Int)),((0:Int),(0:Int),(0:Int),(0:Int),(0:Int),()),[],()),v26.1,())
    |false=>
     some (((IntKind.i64.wrap (Int.tdiv v1 (64:Int))),(Int.tmod (IntKind.i64.wrap (Int.tdiv v2 (8:Int))) (8:Int)),((0:Int),(0:Int),(0:Int),(0:Int),(0:Int),()),[],()),false,())) (
    al (
     match cO (((IntKind.i64.wrap (Int.tdiv v1 (64:Int))),(Int.tmod (IntKind.i64.wrap (Int.tdiv v2 (8:Int))) (8:Int)),((0:Int),(0:Int),(0:Int),(0:Int),(0:Int),()),[],()),())with
     |none=>none
     |some v24=>
     match v24.1 with
     |true=>
      match bR (((IntKind.i64.wrap (Int.tdiv v1 (64:Int))),(Int.tmod (IntKind.i64.wrap (Int.tdiv v2 (8:Int))) (8:Int)),((0:Int),(0:Int),(0:Int),(0:Int),(0:Int),()),[],()),())with
      |none=>none
      |some v25=>
      match bT (v25.1,x.1,())with
      |none=>none
      |some v26=>
      some (((IntKind.i64.wrap (Int.tdiv v1 (64:Int))),(Int.tmod (IntKind.i64.wrap (Int.tdiv v2 (8:Int))) (8:Int)),((0:Int),(0:Int),(0:Int),(0:Int),(0:Int),()),[],()),v26.1,())
     |false=>
      some (((IntKind.i64.wrap (Int.tdiv v1 (64:Int))),(Int.tmod (IntKind.i64.wrap (Int.tdiv v2 (8:Int))) (8:Int)),((0:Int),(0:Int),(0:Int),(0:Int),(0:Int),()),[],()),false,())) (
     match cO (((IntKind.i64.wrap (Int.tdiv v1 (64:Int))),(Int.tmod (IntKind.i64.wrap (Int.tdiv v2 (8:Int))) (8:Int)),((0:Int),(0:Int),(0:Int),(0:Int),(0:Int),()),[],()),())with
     |none=>none
     |some v24=>
     match v24.1 with
     |true=>
      al (
       match bR (((IntKind.i64.wrap (Int.tdiv v1 (64:Int))),(Int.tmod (IntKind.i64.wrap (Int.tdiv v2 (8:Int))) (8:Int)),((0:Int),(0:Int),(0:Int),(0:Int),(0:Int),()),[],()),())with
       |none=>none
       |some v25=>
       match bT (v25.1,x.1,())with
       |none=>none
       |some v26=>
       some (((IntKind.i64.wrap (Int.tdiv v1 (64:Int))),(Int.tmod (IntKind.i64.wrap (Int.tdiv v2 (8:Int))) (8:Int)),((0:Int),(0:Int),(0:Int),(0:Int),(0:Int),()),[],()),v26.1,())) (
       al (
        match bR (((IntKind.i64.wrap (Int.tdiv v1 (64:Int))),(Int.tmod (IntKind.i64.wrap (Int.tdiv v2 (8:Int))) (8:Int)),((0:Int),(0:Int),(0:Int),(0:Int),(0:Int),()),[],()),())with
        |none=>none
        |some v25=>
        match bT (v25.1,x.1,())with
        |none=>none
        |some v26=>
        some (((IntKind.i64.wrap (Int.tdiv v1 (64:Int))),(Int.tmod (IntKind.i64.wrap (Int.tdiv v2 (8:Int))) (8:Int)),((0:Int),(0:Int),(0:Int),(0:Int),(0:Int),()),[],()),v26.1,())) (
        match bR (((IntKind.i64.wrap (Int.tdiv v1 (64:Int))),(Int.tmod (IntKind.i64.wrap (Int.tdiv v2 (8:Int))) (8:Int)),((0:Int),(0:Int),(0:Int),(0:Int),(0:Int),()),[],()),())with
        |none=>none
        |some v25=>
        an (
         match bT (v25.1,x.1,())with
         |none=>none
         |some v26=>
         some (((IntKind.i64.wrap (Int.tdiv v1 (64:Int))),(Int.tmod (IntKind.i64.wrap (Int.tdiv v2 (8:Int))) (8:Int)),((0:Int),(0:Int),(0:Int),(0:Int),(0:Int),()),[],()),v26.1,()))))
     |false=>
      al (
       some (((IntKind.i64.wrap (Int.tdiv v1 (64:Int))),(Int.tmod (IntKind.i64.wrap (Int.tdiv v2 (8:Int))) (8:Int)),((0:Int),(0:Int),(0:Int),(0:Int),(0:Int),()),[],()),false,())) (
       al (
        some (((IntKind.i64.wrap (Int.tdiv v1 (64:Int))),(Int.tmod (IntKind.i64.wrap (Int.tdiv v2 (8:Int))) (8:Int)),((0:Int),(0:Int),(0:Int),(0:Int),(0:Int),()),[],()),false,())) (
        an (
         some (((IntKind.i64.wrap (Int.tdiv v1 (64:Int))),(Int.tmod (IntKind.i64.wrap (Int.tdiv v2 (8:Int))) (8:Int)),((0:Int),(0:Int),(0:Int),(0:Int),(0:Int),()),[],()),false,()))))))
noncomputable def Q7:ae:=⟨_,UC,.unit,rfl,vz⟩
theorem Ps:FnOK G0 Tryz.prog 159 Q7:=aq ap (sg Fr (sg iv (sg mi (sg xa (sg Fm (sg za (sg FU (sg Pr (aU))))))))) Tryz.func159
noncomputable def jc(x:Ty.T Z7):Option (Ty.T UD):=
match(decide ((IntKind.i64.wrap ((x.1.length:Int)-(3:Int)))<(1:Int)))with
|true=>
 some (((0:Int),(0:Int),((0:Int),(0:Int),(0:Int),(0:Int),(0:Int),()),[],()),(6:Int),())
|false=>
 ab (av x.1 (IntKind.i64.wrap ((x.1.length:Int)-(3:Int)))) fun v1=>
 ab (av x.1 (IntKind.i64.wrap ((IntKind.i64.wrap ((x.1.length:Int)-(3:Int)))+(1:Int)))) fun v2=>
 ab (av x.1 (IntKind.i64.wrap ((IntKind.i64.wrap ((x.1.length:Int)-(3:Int)))+(2:Int)))) fun v3=>
 ab (av x.1 (0:Int)) fun v4=>
 ab (aM x.1.length none (some (.dat (.int .i64) (IntKind.i64.wrap ((x.1.length:Int)-(3:Int)))))) fun v5=>
 match jb ((IntKind.i64.wrap (Int.tdiv v4 (64:Int))),(List.drop v5.1 (List.take v5.2 x.1)),x.2.1,(x.2.2.1.1,x.2.2.1.2.1,x.2.2.1.2.2.1,x.2.2.1.2.2.2.1,x.2.2.1.2.2.2.2.1,()),())with
 |none=>none
 |some v6=>
 match(v6.1 != (IntKind.i64.wrap ((IntKind.i64.wrap ((IntKind.i64.wrap (v1*(65536:Int)))+(IntKind.i64.wrap (v2*(256:Int)))))+v3)))with
 |true=>
  some (((0:Int),(0:Int),((0:Int),(0:Int),(0:Int),(0:Int),(0:Int),()),[],()),(7:Int),())
 |false=>
  ab (aM x.1.length none (some (.dat (.int .i64) (IntKind.i64.wrap ((x.1.length:Int)-(3:Int)))))) fun v7=>
  match vz ((List.drop v7.1 (List.take v7.2 x.1)),())with
  |none=>none
  |some v8=>
  match(!v8.2.1)with
  |true=>
   some (((0:Int),(0:Int),((0:Int),(0:Int),(0:Int),(0:Int),(0:Int),()),[],()),(6:Int),())
  |false=>
   match dj (v8.1.1,())with
   |none=>none
   |some v9=>
   match v9.1 with
   |true=>
    match(!(cS ak (v8.1.2.2.1.1,v8.1.2.2.1.2.1,v8.1.2.2.1.2.2.1,v8.1.2.2.1.2.2.2.1,v8.1.2.2.1.2.2.2.2.1,()) (x.2.2.1.1,x.2.2.1.2.1,x.2.2.1.2.2.1,x.2.2.1.2.2.2.1,x.2.2.1.2.2.2.2.1,())))with
    |true=>
     some (((0:Int),(0:Int),((0:Int),(0:Int),(0:Int),(0:Int),(0:Int),()),[],()),(5:Int),())
    |false=>
     some ((v8.1.1,v8.1.2.1,(v8.1.2.2.1.1,v8.1.2.2.1.2.1,v8.1.2.2.1.2.2.1,v8.1.2.2.1.2.2.2.1,v8.1.2.2.1.2.2.2.2.1,()),v8.1.2.2.2.1,()),(0:Int),())
   |false=>
    some ((v8.1.1,v8.1.2.1,(v8.1.2.2.1.1,v8.1.2.2.1.2.1,v8.1.2.2.1.2.2.1,v8.1.2.2.1.2.2.2.1,v8.1.2.2.1.2.2.2.2.1,()),v8.1.2.2.2.1,()),(0:Int),())
noncomputable def SP:ae:=⟨_,UD,.unit,rfl,jc⟩
theorem Q8:FnOK G0 Tryz.prog 101 SP:=aq ap (sg Aa (sg iv (sg Ps (aU)))) Tryz.func101
noncomputable def jT(x:Ty.T tG):Option (Ty.T pU):=
match jc (x.2.2.1,x.1.1,(x.2.1.1,x.2.1.2.1,x.2.1.2.2.1,x.2.1.2.2.2.1,x.2.1.2.2.2.2.1,()),())with
|none=>none
|some v1=>
match(v1.2.1==(0:Int))with
|true=>
 match gr ((x.1.1,x.1.2.1,x.1.2.2.1,x.1.2.2.2.1,()),(x.2.1.1,x.2.1.2.1,x.2.1.2.2.1,x.2.1.2.2.2.1,x.2.1.2.2.2.2.1,()),())with
 |none=>none
 |some v2=>
 match c9 (v2.1,(v1.1.1,v1.1.2.1,(v1.1.2.2.1.1,v1.1.2.2.1.2.1,v1.1.2.2.1.2.2.1,v1.1.2.2.1.2.2.2.1,v1.1.2.2.1.2.2.2.2.1,()),v1.1.2.2.2.1,()),())with
 |none=>none
 |some v3=>
 match(!v3.1)with
 |true=>
  match((5:Int) != (0:Int))with
  |true=>
   some (((2:Int),((0:Int),(0:Int),((0:Int),(0:Int),(0:Int),(0:Int),(0:Int),()),[],()),()),(5:Int),())
  |false=>
   some (((3:Int),(v1.1.1,v1.1.2.1,(v1.1.2.2.1.1,v1.1.2.2.1.2.1,v1.1.2.2.1.2.2.1,v1.1.2.2.1.2.2.2.1,v1.1.2.2.1.2.2.2.2.1,()),v1.1.2.2.2.1,()),()),(0:Int),())
 |false=>
  match(v1.2.1 != (0:Int))with
  |true=>
   some (((2:Int),((0:Int),(0:Int),((0:Int),(0:Int),(0:Int),(0:Int),(0:Int),()),[],()),()),v1.2.1,())
  |false=>
   some (((3:Int),(v1.1.1,v1.1.2.1,(v1.1.2.2.1.1,v1.1.2.2.1.2.1,v1.1.2.2.1.2.2.1,v1.1.2.2.1.2.2.2.1,v1.1.2.2.1.2.2.2.2.1,()),v1.1.2.2.2.1,()),()),(0:Int),())
|false=>
 match(v1.2.1 != (0:Int))with
 |true=>
  some (((2:Int),((0:Int),(0:Int),((0:Int),(0:Int),(0:Int),(0:Int),(0:Int),()),[],()),()),v1.2.1,())
 |false=>
  some (((3:Int),(v1.1.1,v1.1.2.1,(v1.1.2.2.1.1,v1.1.2.2.1.2.1,v1.1.2.2.1.2.2.1,v1.1.2.2.1.2.2.2.1,v1.1.2.2.1.2.2.2.2.1,()),v1.1.2.2.2.1,()),()),(0:Int),())
noncomputable def Q9:ae:=⟨_,pU,.unit,rfl,jT⟩
theorem Pt:FnOK G0 Tryz.prog 50 Q9:=aq ap (sg mp (sg Q8 (sg qO (aU)))) Tryz.func50
noncomputable def fN(x:(Ty.T qM)):Option ((Ty.T qM) ⊕ ((Ty.T .unit) ⊕ (Ty.T aV))):=
match(decide (x.2.2.1<(x.1.length:Int)))with
|true=>
 ab (av x.1 x.2.2.1) fun v1=>
 match(v1==x.2.1)with
 |true=>
  some (.inr (.inr (x.2.2.1,())))
 |false=>
  some (.inl (x.1,x.2.1,(IntKind.i64.wrap (x.2.2.1+(1:Int))),()))
|false=>
 some (.inr (.inl (())))
noncomputable def cC(x:Ty.T qM):Option (Ty.T aV):=
match ac fN (x.1,x.2.2.1,(IntKind.i64.wrap (x.2.1+(1:Int))),())with
|none=>none
|some (.inl v2)=>
 some ((-1:Int),())
|some (.inr v3)=>
 some (v3.1,())
noncomputable def FV:ae:=⟨_,aV,.unit,rfl,cC⟩
noncomputable def DA:FuncId→Option ae:=bH []
theorem Lv:∀f s,DA f=some s→FnOK G0 Tryz.prog f s:=aK trivial
def AC:aX:=⟨[0,2,7],qM,0,[],.unit,[6],aV⟩
noncomputable def DB:List aD:=[AC.spec fN]
theorem JD:bi bm E0 DA (be Tryz.f261 DB) Tryz.f261 0 AC fN:=fun x=>by kernel_rfl
theorem uf:FnOK G0 Tryz.prog 261 FV:=aO ap Lv Tryz.func261 DB (by kernel_rfl) (by exact⟨(JD).lok,trivial⟩) fun x=>by kernel_rfl
noncomputable def qA(x:Ty.T aV):Option (Ty.T aV):=
some ((IntKind.i64.wrap (Int.tdiv (IntKind.i64.wrap (x.1+(4:Int))) (8:Int))),())
noncomputable def Ra:ae:=⟨_,aV,.unit,rfl,qA⟩
theorem Pu:FnOK G0 Tryz.prog 262 Ra:=aq ap aU Tryz.func262
noncomputable def pD(x:Ty.T vZ):Option (Ty.T aV):=
match cC (x.1,(IntKind.i64.wrap (x.2.1+(11:Int))),(0:Int),())with
|none=>none
|some v1=>
match(decide (v1.1≥(0:Int)))with
|true=>
 some ((6:Int),())
|false=>
 some ((0:Int),())
noncomputable def H6:ae:=⟨_,aV,.unit,rfl,pD⟩
theorem FW:FnOK G0 Tryz.prog 263 H6:=aq ap (sg uf (aU)) Tryz.func263
noncomputable def AD(x:Ty.T vZ):Option (Ty.T aV):=
match(decide (x.2.1≥(x.1.length:Int)))with
|true=>
 some ((1:Int),())
|false=>
 ab (av x.1 x.2.1) fun v1=>
 some (v1,())
noncomputable def FX:ae:=⟨_,aV,.unit,rfl,AD⟩
theorem Lw:FnOK G0 Tryz.prog 255 FX:=aq ap aU Tryz.func255
abbrev rB:Ty:=Yl
noncomputable def dt(x:(Ty.T rB)):Option ((Ty.T rB) ⊕ ((Ty.T .unit) ⊕ (Ty.T jz))):=
aH (x.2.2.1.length+ [x.2.1].length) (
 match AD (x.1,(IntKind.i64.wrap (x.2.1+(76:Int))),())with
 |none=>none
 |some v1=>
 match(v1.1==(0:Int))with
 |true=>
  match pD (x.1,(IntKind.i64.wrap (x.2.1+(72:Int))),())with
  |none=>none
  |some v2=>
  some (.inr (.inr ((x.2.2.1++ [x.2.1]),v2.1,())))
 |false=>
  match cC (x.1,(IntKind.i64.wrap (x.2.1+(76:Int))),(0:Int),())with
  |none=>none
  |some v3=>
  match(decide (v3.1<(0:Int)))with
  |true=>
   some (.inr (.inr ([],(6:Int),())))
  |false=>
   match(decide (v3.1>(IntKind.i64.wrap (x.2.1+(84:Int)))))with
   |true=>
    some (.inr (.inr ([],(6:Int),())))
   |false=>
    some (.inl (x.1,v3.1,(x.2.2.1++ [x.2.1]),())))
noncomputable def qB(x:Ty.T vZ):Option (Ty.T jz):=
match ac dt (x.1,x.2.1,[],())with
|none=>none
|some (.inl v4)=>
 none
|some (.inr v5)=>
 some (v5.1,v5.2.1,())
noncomputable def Rb:ae:=⟨_,jz,.unit,rfl,qB⟩
noncomputable def DC:FuncId→Option ae:=bH [(255,FX),(261,FV),(263,H6)]
theorem Lx:∀f s,DC f=some s→FnOK G0 Tryz.prog f s:=aK ⟨Lw,uf,FW,trivial⟩
def AE:aX:=⟨[0,1,6],rB,999999,[],.unit,[4,5],jz⟩
noncomputable def DD:List aD:=[AE.spec dt]
theorem JE:bi bm E0 DC (be Tryz.f264 DD) Tryz.f264 0 AE dt:=fun x=>by kernel_rfl
theorem Pv:FnOK G0 Tryz.prog 264 Rb:=aO ap Lx Tryz.func264 DD (by kernel_rfl) (by exact⟨(JE).lok,trivial⟩) fun x=>by kernel_rfl
noncomputable def BS(x:Ty.T fD):Option (Ty.T (.pair kU .unit)):=
match cC (x.1,(-1:Int),(0:Int),())with
|none=>none
|some v1=>
match(decide (v1.1<(0:Int)))with
|true=>
 some (((0:Int),[],(4:Int),()),())
|false=>
 match cC (x.1,v1.1,(1:Int),())with
 |none=>none
 |some v2=>
 match(decide (v2.1<(0:Int)))with
 |true=>
  match qA ((IntKind.i64.wrap ((x.1.length:Int)-v1.1)),())with
  |none=>none
  |some v3=>
  match cC (x.1,(x.1.length:Int),(0:Int),())with
  |none=>none
  |some v4=>
  match fx (v3.1,())with
  |none=>none
  |some v5=>
  match(!v5.1)with
  |true=>
   some (((0:Int),[],(6:Int),()),())
  |false=>
   match(decide (v4.1<(0:Int)))with
   |true=>
    some (((0:Int),[],(6:Int),()),())
   |false=>
    match(decide ((IntKind.i64.wrap (v4.1-(x.1.length:Int)))>(19:Int)))with
    |true=>
     some (((0:Int),[],(6:Int),()),())
    |false=>
     match(decide ((IntKind.i64.wrap (v4.1-(x.1.length:Int)))<(5:Int)))with
     |true=>
      some (((0:Int),[],(6:Int),()),())
     |false=>
      match((IntKind.i64.wrap (v4.1-(x.1.length:Int)))==(12:Int))with
      |true=>
       some (((0:Int),[],(6:Int),()),())
      |false=>
       match(decide ((IntKind.i64.wrap (v4.1-(x.1.length:Int)))<(12:Int)))with
       |true=>
        match pD (x.1,v4.1,())with
        |none=>none
        |some v6=>
        some ((v3.1,[],v6.1,()),())
       |false=>
        match qB (x.1,v4.1,())with
        |none=>none
        |some v7=>
        some ((v3.1,v7.1,v7.2.1,()),())
 |false=>
  match qA ((IntKind.i64.wrap (v2.1-v1.1)),())with
  |none=>none
  |some v8=>
  match cC (x.1,v2.1,(0:Int),())with
  |none=>none
  |some v9=>
  match fx (v8.1,())with
  |none=>none
  |some v10=>
  match(!v10.1)with
  |true=>
   some (((0:Int),[],(6:Int),()),())
  |false=>
   match(decide (v9.1<(0:Int)))with
   |true=>
    some (((0:Int),[],(6:Int),()),())
   |false=>
    match(decide ((IntKind.i64.wrap (v9.1-v2.1))>(19:Int)))with
    |true=>
     some (((0:Int),[],(6:Int),()),())
    |false=>
     match(decide ((IntKind.i64.wrap (v9.1-v2.1))<(5:Int)))with
     |true=>
      some (((0:Int),[],(6:Int),()),())
     |false=>
      match((IntKind.i64.wrap (v9.1-v2.1))==(12:Int))with
      |true=>
       some (((0:Int),[],(6:Int),()),())
      |false=>
       match(decide ((IntKind.i64.wrap (v9.1-v2.1))<(12:Int)))with
       |true=>
        match pD (x.1,v9.1,())with
        |none=>none
        |some v11=>
        some ((v8.1,[],v11.1,()),())
       |false=>
        match qB (x.1,v9.1,())with
        |none=>none
        |some v12=>
        some ((v8.1,v12.1,v12.2.1,()),())
noncomputable def UP:ae:=⟨_,(.pair kU .unit),.unit,rfl,BS⟩
theorem SQ:FnOK G0 Tryz.prog 254 UP:=aq ap (sg xk (sg uf (sg Pu (sg FW (sg Pv (aU)))))) Tryz.func254
noncomputable def yC(x:Ty.T fD):Option (Ty.T Yj):=
match iC (x.1,())with
|none=>none
|some v1=>
match(!v1.1)with
|true=>
 some (((0:Int),[],(0:Int),()),(1:Int),())
|false=>
 match BS (x.1,())with
 |none=>none
 |some v2=>
 some ((v2.1.1,v2.1.2.1,v2.1.2.2.1,()),v2.1.2.2.1,())
noncomputable def SR:ae:=⟨_,Yj,.unit,rfl,yC⟩
theorem Rc:FnOK G0 Tryz.prog 228 SR:=aq ap (sg kk (sg SQ (aU))) Tryz.func228
abbrev rC:Ty:=(.pair (.list (.int .i64)) (.pair (.list (.int .i64)) (.pair (.own 2 (.int .i64)) (.pair (.int .i64) bM))))
abbrev AG:Ty:=aae
noncomputable def gP(x:(Ty.T rC)):Option ((Ty.T rC) ⊕ ((Ty.T AG) ⊕ (Ty.T .unit))):=
match(decide (x.2.2.2.2.2.1<(8:Int)))with
|true=>
 ab (av x.2.1 x.2.2.2.1) fun v1=>
 match AD (x.1,(IntKind.i64.wrap ((IntKind.i64.wrap (v1+(IntKind.i64.wrap ((8:Int)*x.2.2.2.2.2.1))))+(12:Int))),())with
 |none=>none
 |some v2=>
 some (.inl (x.1,x.2.1,x.2.2.1,x.2.2.2.1,(IntKind.i64.wrap ((IntKind.i64.wrap ((2:Int)*x.2.2.2.2.1))+v2.1)),(IntKind.i64.wrap (x.2.2.2.2.2.1+(1:Int))),()))
|false=>
 some (.inr (.inl (x.1,x.2.1,x.2.2.1,x.2.2.2.1,x.2.2.2.2.1,())))
abbrev rD:Ty:=Xu
noncomputable def gQ(x:(Ty.T rD)):Option ((Ty.T rD) ⊕ ((Ty.T bG) ⊕ (Ty.T .unit))):=
match(decide (x.2.2.2.1<(x.2.1.length:Int)))with
|true=>
 match ac gP (x.1,x.2.1,x.2.2.1,x.2.2.2.1,(0:Int),(0:Int),())with
 |none=>none
 |some (.inl v1)=>
  aH (v1.2.2.1.length+ [v1.2.2.2.2.1].length) (
   some (.inl (v1.1,v1.2.1,(v1.2.2.1++ [v1.2.2.2.2.1]),(IntKind.i64.wrap (v1.2.2.2.1+(1:Int))),())))
 |some (.inr v3)=>
  some (.inr (.inr (())))
|false=>
 some (.inr (.inl (x.2.2.1,())))
noncomputable def qC(x:Ty.T IH):Option (Ty.T bG):=
match ac gQ (x.1,x.2.1,[],(0:Int),())with
|none=>none
|some (.inl v4)=>
 some (v4.1,())
|some (.inr v6)=>
 none
noncomputable def Rd:ae:=⟨_,bG,.unit,rfl,qC⟩
noncomputable def ug:FuncId→Option ae:=bH [(255,FX)]
theorem Ly:∀f s,ug f=some s→FnOK G0 Tryz.prog f s:=aK ⟨Lw,trivial⟩
def AH:aX:=⟨[0,1,5,6],rD,0,[5],bG,[],.unit⟩
def AI:aX:=⟨[0,1,5,6,7,8],rC,2,[0,1,5,6,7],AG,[],.unit⟩
noncomputable def uh:List aD:=[AH.spec gQ,AI.spec gP]
theorem JF:bi bm E0 ug (be Tryz.f229 uh) Tryz.f229 0 AH gQ:=fun x=>by kernel_rfl
theorem JG:bi bm E0 ug (be Tryz.f229 uh) Tryz.f229 1 AI gP:=fun x=>by kernel_rfl
theorem Pw:FnOK G0 Tryz.prog 229 Rd:=aO ap Ly Tryz.func229 uh (by kernel_rfl) (by exact⟨(JF).lok,(JG).lok,trivial⟩) fun x=>by kernel_rfl
noncomputable def oE(x:Ty.T fD):Option (Ty.T jz):=
match yC (x.1,())with
|none=>none
|some v1=>
match(v1.2.1 != (0:Int))with
|true=>
 some ([],v1.2.1,())
|false=>
 match qC (x.1,v1.1.2.1,())with
 |none=>none
 |some v2=>
 some (v2.1,(0:Int),())
noncomputable def Lz:ae:=⟨_,jz,.unit,rfl,oE⟩
theorem JH:FnOK G0 Tryz.prog 176 Lz:=aq ap (sg Rc (sg Pw (aU))) Tryz.func176
abbrev ui:Ty:=Xq
noncomputable def fy(x:(Ty.T ui)):Option ((Ty.T ui) ⊕ ((Ty.T aV) ⊕ (Ty.T .unit))):=
match(decide (x.2.2.2.1≤x.2.1))with
|true=>
 match(decide (x.2.2.2.1<(0:Int)))with
 |true=>
  some (.inl (x.1,x.2.1,(IntKind.i64.wrap (x.2.2.1+(1:Int))),(IntKind.i64.wrap (x.2.2.2.1+(1:Int))),()))
 |false=>
  ab (av x.1 x.2.2.2.1) fun v1=>
  some (.inl (x.1,x.2.1,(IntKind.i64.wrap (x.2.2.1+v1)),(IntKind.i64.wrap (x.2.2.2.1+(1:Int))),()))
|false=>
 some (.inr (.inl (x.2.2.1,())))
noncomputable def yD(x:Ty.T vZ):Option (Ty.T aV):=
match ac fy (x.1,x.2.1,(0:Int),(IntKind.i64.wrap ((IntKind.i64.wrap (x.2.1-(5:Int)))+(1:Int))),())with
|none=>none
|some (.inl v2)=>
 some (v2.1,())
|some (.inr v4)=>
 none
noncomputable def H7:ae:=⟨_,aV,.unit,rfl,yD⟩
noncomputable def FY:FuncId→Option ae:=bH []
theorem Nu:∀f s,FY f=some s→FnOK G0 Tryz.prog f s:=aK trivial
def DE:aX:=⟨[0,1,5,6],ui,0,[5],aV,[],.unit⟩
noncomputable def FZ:List aD:=[DE.spec fy]
theorem LA:bi bm E0 FY (be Tryz.f230 FZ) Tryz.f230 0 DE fy:=fun x=>by kernel_rfl
theorem Re:FnOK G0 Tryz.prog 230 H7:=aO ap Nu Tryz.func230 FZ (by kernel_rfl) (by exact⟨(LA).lok,trivial⟩) fun x=>by kernel_rfl
abbrev uj:Ty:=My
noncomputable def iL(x:(Ty.T uj)):Option ((Ty.T uj) ⊕ ((Ty.T bG) ⊕ (Ty.T .unit))):=
match(decide (x.2.2.1<(x.1.length:Int)))with
|true=>
 match yD (x.1,x.2.2.1,())with
 |none=>none
 |some v1=>
 match(decide (v1.1≥(3:Int)))with
 |true=>
  aH (x.2.1.length+ [(1:Int)].length) (
   some (.inl (x.1,(x.2.1++ [(1:Int)]),(IntKind.i64.wrap (x.2.2.1+(1:Int))),())))
 |false=>
  aH (x.2.1.length+ [(0:Int)].length) (
   some (.inl (x.1,(x.2.1++ [(0:Int)]),(IntKind.i64.wrap (x.2.2.1+(1:Int))),())))
|false=>
 some (.inr (.inl (x.2.1,())))
noncomputable def yE(x:Ty.T fD):Option (Ty.T bG):=
match ac iL (x.1,[],(0:Int),())with
|none=>none
|some (.inl v2)=>
 some (v2.1,())
|some (.inr v4)=>
 none
noncomputable def SS:ae:=⟨_,bG,.unit,rfl,yE⟩
noncomputable def F0:FuncId→Option ae:=bH [(230,H7)]
theorem Nv:∀f s,F0 f=some s→FnOK G0 Tryz.prog f s:=aK ⟨Re,trivial⟩
def DF:aX:=⟨[0,3,4],uj,0,[3],bG,[],.unit⟩
noncomputable def F1:List aD:=[DF.spec iL]
theorem LB:bi bm E0 F0 (be Tryz.f177 F1) Tryz.f177 0 DF iL:=fun x=>by kernel_rfl
theorem Rf:FnOK G0 Tryz.prog 177 SS:=aO ap Nv Tryz.func177 F1 (by kernel_rfl) (by exact⟨(LB).lok,trivial⟩) fun x=>by kernel_rfl
noncomputable def lI(x:Ty.T fD):Option (Ty.T jz):=
match iC (x.1,())with
|none=>none
|some v1=>
match(!v1.1)with
|true=>
 some ([],(1:Int),())
|false=>
 match yE (x.1,())with
 |none=>none
 |some v2=>
 match oE (v2.1,())with
 |none=>none
 |some v3=>
 some (v3.1,v3.2.1,())
noncomputable def Ho:ae:=⟨_,jz,.unit,rfl,lI⟩
theorem F2:FnOK G0 Tryz.prog 122 Ho:=aq ap (sg kk (sg JH (sg Rf (aU)))) Tryz.func122
noncomputable def gg(x:Ty.T tG):Option (Ty.T pU):=
match lI (x.2.2.1,())with
|none=>none
|some v1=>
match(v1.2.1==(0:Int))with
|true=>
 match jT ((x.1.1,x.1.2.1,x.1.2.2.1,x.1.2.2.2.1,()),(x.2.1.1,x.2.1.2.1,x.2.1.2.2.1,x.2.1.2.2.2.1,x.2.1.2.2.2.2.1,()),v1.1,())with
 |none=>none
 |some v2=>
 some ((v2.1.1,(v2.1.2.1.1,v2.1.2.1.2.1,(v2.1.2.1.2.2.1.1,v2.1.2.1.2.2.1.2.1,v2.1.2.1.2.2.1.2.2.1,v2.1.2.1.2.2.1.2.2.2.1,v2.1.2.1.2.2.1.2.2.2.2.1,()),v2.1.2.1.2.2.2.1,()),()),v2.2.1,())
|false=>
 match(v1.2.1==(4:Int))with
 |true=>
  some (((0:Int),((0:Int),(0:Int),((0:Int),(0:Int),(0:Int),(0:Int),(0:Int),()),[],()),()),v1.2.1,())
 |false=>
  some (((1:Int),((0:Int),(0:Int),((0:Int),(0:Int),(0:Int),(0:Int),(0:Int),()),[],()),()),v1.2.1,())
noncomputable def Nw:ae:=⟨_,pU,.unit,rfl,gg⟩
theorem yF:FnOK G0 Tryz.prog 72 Nw:=aq ap (sg Pt (sg F2 (aU))) Tryz.func72
noncomputable def dF(x:Ty.T tG):Option (Ty.T pU):=
match tg ((x.1.1,x.1.2.1,x.1.2.2.1,x.1.2.2.2.1,()),(x.2.1.1,x.2.1.2.1,x.2.1.2.2.1,x.2.1.2.2.2.1,x.2.1.2.2.2.2.1,()),x.2.2.1,())with
|none=>none
|some v1=>
match(v1.1 != (0:Int))with
|true=>
 some (((0:Int),((0:Int),(0:Int),((0:Int),(0:Int),(0:Int),(0:Int),(0:Int),()),[],()),()),v1.1,())
|false=>
 match gg ((x.1.1,x.1.2.1,x.1.2.2.1,x.1.2.2.2.1,()),(x.2.1.1,x.2.1.2.1,x.2.1.2.2.1,x.2.1.2.2.2.1,x.2.1.2.2.2.2.1,()),x.2.2.1,())with
 |none=>none
 |some v2=>
 some ((v2.1.1,(v2.1.2.1.1,v2.1.2.1.2.1,(v2.1.2.1.2.2.1.1,v2.1.2.1.2.2.1.2.1,v2.1.2.1.2.2.1.2.2.1,v2.1.2.1.2.2.1.2.2.2.1,v2.1.2.1.2.2.1.2.2.2.2.1,()),v2.1.2.1.2.2.2.1,()),()),(0:Int),())
noncomputable def F3:ae:=⟨_,pU,.unit,rfl,dF⟩
theorem qQ:FnOK G0 Tryz.prog 29 F3:=aq ap (sg FR (sg yF (aU))) Tryz.func29
noncomputable def th(x:Ty.T tG):Option (Ty.T bM):=
match oO (x.2.2.1,())with
|none=>none
|some v1=>
match lm ((x.1.1,x.1.2.1,x.1.2.2.1,x.1.2.2.2.1,()),(x.2.1.1,x.2.1.2.1,x.2.1.2.2.1,x.2.1.2.2.2.1,x.2.1.2.2.2.2.1,()),v1.1,())with
|none=>none
|some v2=>
match(v2.1 != (0:Int))with
|true=>
 some ((0:Int),v2.1,())
|false=>
 match jP ((x.1.1,x.1.2.1,x.1.2.2.1,x.1.2.2.2.1,()),(x.2.1.1,x.2.1.2.1,x.2.1.2.2.1,x.2.1.2.2.2.1,x.2.1.2.2.2.2.1,()),x.2.2.1,())with
 |none=>none
 |some v3=>
 some (v3.2.1,(0:Int),())
noncomputable def ST:ae:=⟨_,bM,.unit,rfl,th⟩
theorem Rg:FnOK G0 Tryz.prog 30 ST:=aq ap (sg wE (sg rX (sg EM (aU)))) Tryz.func30
noncomputable def ti(x:Ty.T tG):Option (Ty.T bM):=
match tg ((x.1.1,x.1.2.1,x.1.2.2.1,x.1.2.2.2.1,()),(x.2.1.1,x.2.1.2.1,x.2.1.2.2.1,x.2.1.2.2.2.1,x.2.1.2.2.2.2.1,()),x.2.2.1,())with
|none=>none
|some v1=>
match(v1.1 != (0:Int))with
|true=>
 some ((0:Int),v1.1,())
|false=>
 match gg ((x.1.1,x.1.2.1,x.1.2.2.1,x.1.2.2.2.1,()),(x.2.1.1,x.2.1.2.1,x.2.1.2.2.1,x.2.1.2.2.2.1,x.2.1.2.2.2.2.1,()),x.2.2.1,())with
 |none=>none
 |some v2=>
 some (v2.2.1,(0:Int),())
noncomputable def SU:ae:=⟨_,bM,.unit,rfl,ti⟩
theorem Rh:FnOK G0 Tryz.prog 31 SU:=aq ap (sg FR (sg yF (aU))) Tryz.func31
noncomputable def fR(x:Ty.T Xl):Option (Ty.T ax):=
match(x.1.1==x.2.1.1)with
|true=>
 match(x.1.2.1==x.2.1.2.1)with
 |true=>
  match(cS ak (x.1.2.2.1.1,x.1.2.2.1.2.1,x.1.2.2.1.2.2.1,x.1.2.2.1.2.2.2.1,x.1.2.2.1.2.2.2.2.1,()) (x.2.1.2.2.1.1,x.2.1.2.2.1.2.1,x.2.1.2.2.1.2.2.1,x.2.1.2.2.1.2.2.2.1,x.2.1.2.2.1.2.2.2.2.1,()))with
  |true=>
   match bC (x.1.2.2.2.1,x.2.1.2.2.2.1,())with
   |none=>none
   |some v1=>
   some (v1.1,())
  |false=>
   some (false,())
 |false=>
  some (false,())
|false=>
 some (false,())
noncomputable def Px:ae:=⟨_,ax,.unit,rfl,fR⟩
theorem AJ:FnOK G0 Tryz.prog 57 Px:=aq ap (sg kE (aU)) Tryz.func57
noncomputable def gV(x:Ty.T Mu):Option (Ty.T ax):=
match(x.1.1==(3:Int))with
|true=>
 match cV ((x.1.2.1.1,x.1.2.1.2.1,(x.1.2.1.2.2.1.1,x.1.2.1.2.2.1.2.1,x.1.2.1.2.2.1.2.2.1,x.1.2.1.2.2.1.2.2.2.1,x.1.2.1.2.2.1.2.2.2.2.1,()),x.1.2.1.2.2.2.1,()),())with
 |none=>none
 |some v1=>
 some (v1.1,())
|false=>
 match cn (x.1.1,(0:Int),(4:Int),())with
 |none=>none
 |some v2=>
 match v2.1 with
 |true=>
  match fR ((x.1.2.1.1,x.1.2.1.2.1,(x.1.2.1.2.2.1.1,x.1.2.1.2.2.1.2.1,x.1.2.1.2.2.1.2.2.1,x.1.2.1.2.2.1.2.2.2.1,x.1.2.1.2.2.1.2.2.2.2.1,()),x.1.2.1.2.2.2.1,()),((0:Int),(0:Int),((0:Int),(0:Int),(0:Int),(0:Int),(0:Int),()),[],()),())with
  |none=>none
  |some v3=>
  some (v3.1,())
 |false=>
  some (false,())
noncomputable def Py:ae:=⟨_,ax,.unit,rfl,gV⟩
theorem AK:FnOK G0 Tryz.prog 32 Py:=aq ap (sg AJ (sg wN (sg du (aU)))) Tryz.func32
noncomputable def kJ(x:Ty.T Mx):Option (Ty.T ax):=
match vq (x.1,())with
|none=>none
|some v1=>
match v1.1 with
|true=>
 some (true,())
|false=>
 match ge (x.1,())with
 |none=>none
 |some v2=>
 match ci v2 with
 |none=>none
 |some v3=>
 match dF v2 with
 |none=>none
 |some v4=>
 match th v2 with
 |none=>none
 |some v5=>
 match ti v2 with
 |none=>none
 |some v6=>
 match(v3.2.1 != v4.2.1)with
 |true=>
  some (false,())
 |false=>
  match dq (v3.1,v4.1,())with
  |none=>none
  |some v7=>
  match(!v7.1)with
  |true=>
   some (false,())
  |false=>
   match(v5.2.1 != v6.2.1)with
   |true=>
    some (false,())
   |false=>
    match(v5.1 != v6.1)with
    |true=>
     some (false,())
    |false=>
     match(v3.2.1 != (0:Int))with
     |true=>
      some (true,())
     |false=>
      match gV (v3.1,())with
      |none=>none
      |some v8=>
      match(!v8.1)with
      |true=>
       some (false,())
      |false=>
       match((v3.1.1==(3:Int)) != (v5.1==(0:Int)))with
       |true=>
        some (false,())
       |false=>
        match((v3.1.1==(0:Int)) != (v5.1==(4:Int)))with
        |true=>
         some (false,())
        |false=>
         match(v3.1.1 != (3:Int))with
         |true=>
          some (true,())
         |false=>
          match ij (v2.2.2.1,())with
          |none=>none
          |some v9=>
          match mh (v2.1,v2.2.1,v3.1.2.1,())with
          |none=>none
          |some v10=>
          match jQ (v2.1,v2.2.1,())with
          |none=>none
          |some v11=>
          match(v9.2.1==(0:Int))with
          |true=>
           match(v10.2.1==(0:Int))with
           |true=>
            match(v11.2.1==(0:Int))with
            |true=>
             match jL (v9.1,v10.1,())with
             |none=>none
             |some v12=>
             match v12.1 with
             |true=>
              match fA (v11.1,v3.1.2.1,())with
              |none=>none
              |some v13=>
              match v13.1 with
              |true=>
               match mg (v2.1,v2.2.1,v3.1.2.1,())with
               |none=>none
               |some v14=>
               some (v14.1,())
              |false=>
               some (false,())
             |false=>
              some (false,())
            |false=>
             some (false,())
           |false=>
            some (false,())
          |false=>
           some (false,())
noncomputable def Nx:ae:=⟨_,ax,.unit,rfl,kJ⟩
theorem LC:FnOK G0 Tryz.prog 5 Nx:=aq ap (sg Qu (sg uo (sg lF (sg Cn (sg KP (sg EP (sg KQ (sg xG (sg qQ (sg Rg (sg Rh (sg AK (sg sI (sg qN (aU))))))))))))))) Tryz.func5
noncomputable def iP(x:Ty.T Mx):Option (Ty.T UB):=
match sK (x.1,())with
|none=>none
|some v1=>
match mH ((v1.1.1,v1.1.2.1,v1.1.2.2.1,()),())with
|none=>none
|some v2=>
match aa ((v2.2.2.2.1.1,v2.2.2.2.1.2.1,v2.2.2.2.1.2.2.1,()),(4:Int),())with
|none=>none
|some v3=>
match(v3.1==(0:Int))with
|true=>
 an (
  some ((v2.1.1,v2.1.2.1,v2.1.2.2.1,v2.1.2.2.2.1,()),(v2.2.1.1,v2.2.1.2.1,v2.2.1.2.2.1,v2.2.1.2.2.2.1,v2.2.1.2.2.2.2.1,()),v2.2.2.1,v2.2.2.1,()))
|false=>
 match(v3.1==(1:Int))with
 |true=>
  al (
   match cB ((100:Int),(1:Int),())with
   |none=>none
   |some v4=>
   some ((v2.1.1,v2.1.2.1,v2.1.2.2.1,v2.1.2.2.2.1,()),(v2.2.1.1,v2.2.1.2.1,v2.2.1.2.2.1,v2.2.1.2.2.2.1,v2.2.1.2.2.2.2.1,()),v2.2.2.1,v4.1,())) (
   match cB ((100:Int),(1:Int),())with
   |none=>none
   |some v4=>
   an (
    some ((v2.1.1,v2.1.2.1,v2.1.2.2.1,v2.1.2.2.2.1,()),(v2.2.1.1,v2.2.1.2.1,v2.2.1.2.2.1,v2.2.1.2.2.2.1,v2.2.1.2.2.2.2.1,()),v2.2.2.1,v4.1,())))
 |false=>
  match pC ((v3.2.1.1,v3.2.1.2.1,v3.2.1.2.2.1,()),(v2.2.2.1.length:Int),())with
  |none=>none
  |some v5=>
  match iE (v2.2.2.1,v5.1,())with
  |none=>none
  |some v6=>
  match(v6.2.1 != (0:Int))with
  |true=>
   al (
    match mE ((v5.2.1.1,v5.2.1.2.1,v5.2.1.2.2.1,()),())with
    |none=>none
    |some v7=>
    some ((v2.1.1,v2.1.2.1,v2.1.2.2.1,v2.1.2.2.2.1,()),(v2.2.1.1,v2.2.1.2.1,v2.2.1.2.2.1,v2.2.1.2.2.2.1,v2.2.1.2.2.2.2.1,()),v2.2.2.1,v7.1,())) (
    match mE ((v5.2.1.1,v5.2.1.2.1,v5.2.1.2.2.1,()),())with
    |none=>none
    |some v7=>
    an (
     some ((v2.1.1,v2.1.2.1,v2.1.2.2.1,v2.1.2.2.2.1,()),(v2.2.1.1,v2.2.1.2.1,v2.2.1.2.2.1,v2.2.1.2.2.2.1,v2.2.1.2.2.2.2.1,()),v2.2.2.1,v7.1,())))
  |false=>
   an (
    some ((v2.1.1,v2.1.2.1,v2.1.2.2.1,v2.1.2.2.2.1,()),(v2.2.1.1,v2.2.1.2.1,v2.2.1.2.2.1,v2.2.1.2.2.2.1,v2.2.1.2.2.2.2.1,()),v2.2.2.1,v6.1,()))
noncomputable def D8:ae:=⟨_,UB,.unit,rfl,iP⟩
theorem BT:FnOK G0 Tryz.prog 35 D8:=aq ap (sg EU (sg bh (sg FQ (sg gt (sg xg (sg xj (sg FM (aU)))))))) Tryz.func35
noncomputable def lx(x:Ty.T Qr):Option (Ty.T ax):=
match(x.1.1==x.2.1.1)with
|true=>
 match fR ((x.1.2.1.1,x.1.2.1.2.1,(x.1.2.1.2.2.1.1,x.1.2.1.2.2.1.2.1,x.1.2.1.2.2.1.2.2.1,x.1.2.1.2.2.1.2.2.2.1,x.1.2.1.2.2.1.2.2.2.2.1,()),x.1.2.1.2.2.2.1,()),(x.2.1.2.1.1,x.2.1.2.1.2.1,(x.2.1.2.1.2.2.1.1,x.2.1.2.1.2.2.1.2.1,x.2.1.2.1.2.2.1.2.2.1,x.2.1.2.1.2.2.1.2.2.2.1,x.2.1.2.1.2.2.1.2.2.2.2.1,()),x.2.1.2.1.2.2.2.1,()),())with
 |none=>none
 |some v1=>
 some (v1.1,())
|false=>
 some (false,())
noncomputable def LD:ae:=⟨_,ax,.unit,rfl,lx⟩
theorem JI:FnOK G0 Tryz.prog 15 LD:=aq ap (sg AJ (aU)) Tryz.func15
noncomputable def AL(x:Ty.T Qr):Option (Ty.T Mu):=
match(x.1.1==(3:Int))with
|true=>
 match lx ((x.1.1,(x.1.2.1.1,x.1.2.1.2.1,(x.1.2.1.2.2.1.1,x.1.2.1.2.2.1.2.1,x.1.2.1.2.2.1.2.2.1,x.1.2.1.2.2.1.2.2.2.1,x.1.2.1.2.2.1.2.2.2.2.1,()),x.1.2.1.2.2.2.1,()),()),(x.2.1.1,(x.2.1.2.1.1,x.2.1.2.1.2.1,(x.2.1.2.1.2.2.1.1,x.2.1.2.1.2.2.1.2.1,x.2.1.2.1.2.2.1.2.2.1,x.2.1.2.1.2.2.1.2.2.2.1,x.2.1.2.1.2.2.1.2.2.2.2.1,()),x.2.1.2.1.2.2.2.1,()),()),())with
 |none=>none
 |some v1=>
 match v1.1 with
 |true=>
  some ((x.1.1,(x.1.2.1.1,x.1.2.1.2.1,(x.1.2.1.2.2.1.1,x.1.2.1.2.2.1.2.1,x.1.2.1.2.2.1.2.2.1,x.1.2.1.2.2.1.2.2.2.1,x.1.2.1.2.2.1.2.2.2.2.1,()),x.1.2.1.2.2.2.1,()),()),())
 |false=>
  match(x.1.1==(3:Int))with
  |true=>
   match(x.2.1.1==(3:Int))with
   |true=>
    some (((4:Int),((0:Int),(0:Int),((0:Int),(0:Int),(0:Int),(0:Int),(0:Int),()),[],()),()),())
   |false=>
    match(x.1.1==(4:Int))with
    |true=>
     some (((4:Int),((0:Int),(0:Int),((0:Int),(0:Int),(0:Int),(0:Int),(0:Int),()),[],()),()),())
    |false=>
     match(x.2.1.1==(4:Int))with
     |true=>
      some (((4:Int),((0:Int),(0:Int),((0:Int),(0:Int),(0:Int),(0:Int),(0:Int),()),[],()),()),())
     |false=>
      match(decide (x.1.1≥x.2.1.1))with
      |true=>
       some ((x.1.1,(x.1.2.1.1,x.1.2.1.2.1,(x.1.2.1.2.2.1.1,x.1.2.1.2.2.1.2.1,x.1.2.1.2.2.1.2.2.1,x.1.2.1.2.2.1.2.2.2.1,x.1.2.1.2.2.1.2.2.2.2.1,()),x.1.2.1.2.2.2.1,()),()),())
      |false=>
       some ((x.2.1.1,(x.2.1.2.1.1,x.2.1.2.1.2.1,(x.2.1.2.1.2.2.1.1,x.2.1.2.1.2.2.1.2.1,x.2.1.2.1.2.2.1.2.2.1,x.2.1.2.1.2.2.1.2.2.2.1,x.2.1.2.1.2.2.1.2.2.2.2.1,()),x.2.1.2.1.2.2.2.1,()),()),())
  |false=>
   match(x.1.1==(4:Int))with
   |true=>
    some (((4:Int),((0:Int),(0:Int),((0:Int),(0:Int),(0:Int),(0:Int),(0:Int),()),[],()),()),())
   |false=>
    match(x.2.1.1==(4:Int))with
    |true=>
     some (((4:Int),((0:Int),(0:Int),((0:Int),(0:Int),(0:Int),(0:Int),(0:Int),()),[],()),()),())
    |false=>
     match(decide (x.1.1≥x.2.1.1))with
     |true=>
      some ((x.1.1,(x.1.2.1.1,x.1.2.1.2.1,(x.1.2.1.2.2.1.1,x.1.2.1.2.2.1.2.1,x.1.2.1.2.2.1.2.2.1,x.1.2.1.2.2.1.2.2.2.1,x.1.2.1.2.2.1.2.2.2.2.1,()),x.1.2.1.2.2.2.1,()),()),())
     |false=>
      some ((x.2.1.1,(x.2.1.2.1.1,x.2.1.2.1.2.1,(x.2.1.2.1.2.2.1.1,x.2.1.2.1.2.2.1.2.1,x.2.1.2.1.2.2.1.2.2.1,x.2.1.2.1.2.2.1.2.2.2.1,x.2.1.2.1.2.2.1.2.2.2.2.1,()),x.2.1.2.1.2.2.2.1,()),()),())
|false=>
 match(x.1.1==(3:Int))with
 |true=>
  match(x.2.1.1==(3:Int))with
  |true=>
   some (((4:Int),((0:Int),(0:Int),((0:Int),(0:Int),(0:Int),(0:Int),(0:Int),()),[],()),()),())
  |false=>
   match(x.1.1==(4:Int))with
   |true=>
    some (((4:Int),((0:Int),(0:Int),((0:Int),(0:Int),(0:Int),(0:Int),(0:Int),()),[],()),()),())
   |false=>
    match(x.2.1.1==(4:Int))with
    |true=>
     some (((4:Int),((0:Int),(0:Int),((0:Int),(0:Int),(0:Int),(0:Int),(0:Int),()),[],()),()),())
    |false=>
     match(decide (x.1.1≥x.2.1.1))with
     |true=>
      some ((x.1.1,(x.1.2.1.1,x.1.2.1.2.1,(x.1.2.1.2.2.1.1,x.1.2.1.2.2.1.2.1,x.1.2.1.2.2.1.2.2.1,x.1.2.1.2.2.1.2.2.2.1,x.1.2.1.2.2.1.2.2.2.2.1,()),x.1.2.1.2.2.2.1,()),()),())
     |false=>
      some ((x.2.1.1,(x.2.1.2.1.1,x.2.1.2.1.2.1,(x.2.1.2.1.2.2.1.1,x.2.1.2.1.2.2.1.2.1,x.2.1.2.1.2.2.1.2.2.1,x.2.1.2.1.2.2.1.2.2.2.1,x.2.1.2.1.2.2.1.2.2.2.2.1,()),x.2.1.2.1.2.2.2.1,()),()),())
 |false=>
  match(x.1.1==(4:Int))with
  |true=>
   some (((4:Int),((0:Int),(0:Int),((0:Int),(0:Int),(0:Int),(0:Int),(0:Int),()),[],()),()),())
  |false=>
   match(x.2.1.1==(4:Int))with
   |true=>
    some (((4:Int),((0:Int),(0:Int),((0:Int),(0:Int),(0:Int),(0:Int),(0:Int),()),[],()),()),())
   |false=>
    match(decide (x.1.1≥x.2.1.1))with
    |true=>
     some ((x.1.1,(x.1.2.1.1,x.1.2.1.2.1,(x.1.2.1.2.2.1.1,x.1.2.1.2.2.1.2.1,x.1.2.1.2.2.1.2.2.1,x.1.2.1.2.2.1.2.2.2.1,x.1.2.1.2.2.1.2.2.2.2.1,()),x.1.2.1.2.2.2.1,()),()),())
    |false=>
     some ((x.2.1.1,(x.2.1.2.1.1,x.2.1.2.1.2.1,(x.2.1.2.1.2.2.1.1,x.2.1.2.1.2.2.1.2.1,x.2.1.2.1.2.2.1.2.2.1,x.2.1.2.1.2.2.1.2.2.2.1,x.2.1.2.1.2.2.1.2.2.2.2.1,()),x.2.1.2.1.2.2.2.1,()),()),())
noncomputable def VY:ae:=⟨_,Mu,.unit,rfl,AL⟩
theorem LE:FnOK G0 Tryz.prog 83 VY:=aq ap (sg JI (aU)) Tryz.func83
noncomputable def iM(x:Ty.T UB):Option (Ty.T Uv):=
match ci ((x.1.1,x.1.2.1,x.1.2.2.1,x.1.2.2.2.1,()),(x.2.1.1,x.2.1.2.1,x.2.1.2.2.1,x.2.1.2.2.2.1,x.2.1.2.2.2.2.1,()),x.2.2.1,())with
|none=>none
|some v1=>
match(v1.2.1 != (0:Int))with
|true=>
 some (((0:Int),((0:Int),(0:Int),((0:Int),(0:Int),(0:Int),(0:Int),(0:Int),()),[],()),()),v1.2.1,())
|false=>
 match ci ((x.1.1,x.1.2.1,x.1.2.2.1,x.1.2.2.2.1,()),(x.2.1.1,x.2.1.2.1,x.2.1.2.2.1,x.2.1.2.2.2.1,x.2.1.2.2.2.2.1,()),x.2.2.2.1,())with
 |none=>none
 |some v2=>
 match(v2.2.1 != (0:Int))with
 |true=>
  some (((0:Int),((0:Int),(0:Int),((0:Int),(0:Int),(0:Int),(0:Int),(0:Int),()),[],()),()),v2.2.1,())
 |false=>
  match AL ((v1.1.1,(v1.1.2.1.1,v1.1.2.1.2.1,(v1.1.2.1.2.2.1.1,v1.1.2.1.2.2.1.2.1,v1.1.2.1.2.2.1.2.2.1,v1.1.2.1.2.2.1.2.2.2.1,v1.1.2.1.2.2.1.2.2.2.2.1,()),v1.1.2.1.2.2.2.1,()),()),(v2.1.1,(v2.1.2.1.1,v2.1.2.1.2.1,(v2.1.2.1.2.2.1.1,v2.1.2.1.2.2.1.2.1,v2.1.2.1.2.2.1.2.2.1,v2.1.2.1.2.2.1.2.2.2.1,v2.1.2.1.2.2.1.2.2.2.2.1,()),v2.1.2.1.2.2.2.1,()),()),())with
  |none=>none
  |some v3=>
  some ((v3.1.1,(v3.1.2.1.1,v3.1.2.1.2.1,(v3.1.2.1.2.2.1.1,v3.1.2.1.2.2.1.2.1,v3.1.2.1.2.2.1.2.2.1,v3.1.2.1.2.2.1.2.2.2.1,v3.1.2.1.2.2.1.2.2.2.2.1,()),v3.1.2.1.2.2.2.1,()),()),(0:Int),())
noncomputable def LF:ae:=⟨_,Uv,.unit,rfl,iM⟩
theorem JJ:FnOK G0 Tryz.prog 36 LF:=aq ap (sg lF (sg LE (aU))) Tryz.func36
noncomputable def tj(x:Ty.T Xl):Option (Ty.T ax):=
match(x.1.1==x.2.1.1)with
|true=>
 match(x.1.2.1==x.2.1.2.1)with
 |true=>
  match(cS ak (x.1.2.2.1.1,x.1.2.2.1.2.1,x.1.2.2.1.2.2.1,x.1.2.2.1.2.2.2.1,x.1.2.2.1.2.2.2.2.1,()) (x.2.1.2.2.1.1,x.2.1.2.2.1.2.1,x.2.1.2.2.1.2.2.1,x.2.1.2.2.1.2.2.2.1,x.2.1.2.2.1.2.2.2.2.1,()))with
  |true=>
   match bT (x.1.2.2.2.1,x.2.1.2.2.2.1,())with
   |none=>none
   |some v1=>
   some (v1.1,())
  |false=>
   some (false,())
 |false=>
  some (false,())
|false=>
 some (false,())
noncomputable def SV:ae:=⟨_,ax,.unit,rfl,tj⟩
theorem Ri:FnOK G0 Tryz.prog 142 SV:=aq ap (sg FU (aU)) Tryz.func142
noncomputable def vA(x:Ty.T Qr):Option (Ty.T Mu):=
match(x.1.1==(3:Int))with
|true=>
 match(x.2.1.1==(3:Int))with
 |true=>
  match tj ((x.1.2.1.1,x.1.2.1.2.1,(x.1.2.1.2.2.1.1,x.1.2.1.2.2.1.2.1,x.1.2.1.2.2.1.2.2.1,x.1.2.1.2.2.1.2.2.2.1,x.1.2.1.2.2.1.2.2.2.2.1,()),x.1.2.1.2.2.2.1,()),(x.2.1.2.1.1,x.2.1.2.1.2.1,(x.2.1.2.1.2.2.1.1,x.2.1.2.1.2.2.1.2.1,x.2.1.2.1.2.2.1.2.2.1,x.2.1.2.1.2.2.1.2.2.2.1,x.2.1.2.1.2.2.1.2.2.2.2.1,()),x.2.1.2.1.2.2.2.1,()),())with
  |none=>none
  |some v1=>
  match v1.1 with
  |true=>
   some ((x.1.1,(x.1.2.1.1,x.1.2.1.2.1,(x.1.2.1.2.2.1.1,x.1.2.1.2.2.1.2.1,x.1.2.1.2.2.1.2.2.1,x.1.2.1.2.2.1.2.2.2.1,x.1.2.1.2.2.1.2.2.2.2.1,()),x.1.2.1.2.2.2.1,()),()),())
  |false=>
   match(x.1.1==(3:Int))with
   |true=>
    match(x.2.1.1==(3:Int))with
    |true=>
     some (((4:Int),((0:Int),(0:Int),((0:Int),(0:Int),(0:Int),(0:Int),(0:Int),()),[],()),()),())
    |false=>
     match(x.1.1==(4:Int))with
     |true=>
      some (((4:Int),((0:Int),(0:Int),((0:Int),(0:Int),(0:Int),(0:Int),(0:Int),()),[],()),()),())
     |false=>
      match(x.2.1.1==(4:Int))with
      |true=>
       some (((4:Int),((0:Int),(0:Int),((0:Int),(0:Int),(0:Int),(0:Int),(0:Int),()),[],()),()),())
      |false=>
       match(x.1.1==(3:Int))with
       |true=>
        some ((x.1.1,(x.1.2.1.1,x.1.2.1.2.1,(x.1.2.1.2.2.1.1,x.1.2.1.2.2.1.2.1,x.1.2.1.2.2.1.2.2.1,x.1.2.1.2.2.1.2.2.2.1,x.1.2.1.2.2.1.2.2.2.2.1,()),x.1.2.1.2.2.2.1,()),()),())
       |false=>
        match(x.2.1.1==(3:Int))with
        |true=>
         some ((x.2.1.1,(x.2.1.2.1.1,x.2.1.2.1.2.1,(x.2.1.2.1.2.2.1.1,x.2.1.2.1.2.2.1.2.1,x.2.1.2.1.2.2.1.2.2.1,x.2.1.2.1.2.2.1.2.2.2.1,x.2.1.2.1.2.2.1.2.2.2.2.1,()),x.2.1.2.1.2.2.2.1,()),()),())
        |false=>
         some (((if x.2.1.1>x.1.1 then x.2.1.1 else x.1.1),((0:Int),(0:Int),((0:Int),(0:Int),(0:Int),(0:Int),(0:Int),()),[],()),()),())
   |false=>
    match(x.1.1==(4:Int))with
    |true=>
     some (((4:Int),((0:Int),(0:Int),((0:Int),(0:Int),(0:Int),(0:Int),(0:Int),()),[],()),()),())
    |false=>
     match(x.2.1.1==(4:Int))with
     |true=>
      some (((4:Int),((0:Int),(0:Int),((0:Int),(0:Int),(0:Int),(0:Int),(0:Int),()),[],()),()),())
     |false=>
      match(x.1.1==(3:Int))with
      |true=>
       some ((x.1.1,(x.1.2.1.1,x.1.2.1.2.1,(x.1.2.1.2.2.1.1,x.1.2.1.2.2.1.2.1,x.1.2.1.2.2.1.2.2.1,x.1.2.1.2.2.1.2.2.2.1,x.1.2.1.2.2.1.2.2.2.2.1,()),x.1.2.1.2.2.2.1,()),()),())
      |false=>
       match(x.2.1.1==(3:Int))with
       |true=>
        some ((x.2.1.1,(x.2.1.2.1.1,x.2.1.2.1.2.1,(x.2.1.2.1.2.2.1.1,x.2.1.2.1.2.2.1.2.1,x.2.1.2.1.2.2.1.2.2.1,x.2.1.2.1.2.2.1.2.2.2.1,x.2.1.2.1.2.2.1.2.2.2.2.1,()),x.2.1.2.1.2.2.2.1,()),()),())
       |false=>
        some (((if x.2.1.1>x.1.1 then x.2.1.1 else x.1.1),((0:Int),(0:Int),((0:Int),(0:Int),(0:Int),(0:Int),(0:Int),()),[],()),()),())
 |false=>
  match(x.1.1==(3:Int))with
  |true=>
   match(x.2.1.1==(3:Int))with
   |true=>
    some (((4:Int),((0:Int),(0:Int),((0:Int),(0:Int),(0:Int),(0:Int),(0:Int),()),[],()),()),())
   |false=>
    match(x.1.1==(4:Int))with
    |true=>
     some (((4:Int),((0:Int),(0:Int),((0:Int),(0:Int),(0:Int),(0:Int),(0:Int),()),[],()),()),())
    |false=>
     match(x.2.1.1==(4:Int))with
     |true=>
      some (((4:Int),((0:Int),(0:Int),((0:Int),(0:Int),(0:Int),(0:Int),(0:Int),()),[],()),()),())
     |false=>
      match(x.1.1==(3:Int))with
      |true=>
       some ((x.1.1,(x.1.2.1.1,x.1.2.1.2.1,(x.1.2.1.2.2.1.1,x.1.2.1.2.2.1.2.1,x.1.2.1.2.2.1.2.2.1,x.1.2.1.2.2.1.2.2.2.1,x.1.2.1.2.2.1.2.2.2.2.1,()),x.1.2.1.2.2.2.1,()),()),())
      |false=>
       match(x.2.1.1==(3:Int))with
       |true=>
        some ((x.2.1.1,(x.2.1.2.1.1,x.2.1.2.1.2.1,(x.2.1.2.1.2.2.1.1,x.2.1.2.1.2.2.1.2.1,x.2.1.2.1.2.2.1.2.2.1,x.2.1.2.1.2.2.1.2.2.2.1,x.2.1.2.1.2.2.1.2.2.2.2.1,()),x.2.1.2.1.2.2.2.1,()),()),())
       |false=>
        some (((if x.2.1.1>x.1.1 then x.2.1.1 else x.1.1),((0:Int),(0:Int),((0:Int),(0:Int),(0:Int),(0:Int),(0:Int),()),[],()),()),())
  |false=>
   match(x.1.1==(4:Int))with
   |true=>
    some (((4:Int),((0:Int),(0:Int),((0:Int),(0:Int),(0:Int),(0:Int),(0:Int),()),[],()),()),())
   |false=>
    match(x.2.1.1==(4:Int))with
    |true=>
     some (((4:Int),((0:Int),(0:Int),((0:Int),(0:Int),(0:Int),(0:Int),(0:Int),()),[],()),()),())
    |false=>
     match(x.1.1==(3:Int))with
     |true=>
      some ((x.1.1,(x.1.2.1.1,x.1.2.1.2.1,(x.1.2.1.2.2.1.1,x.1.2.1.2.2.1.2.1,x.1.2.1.2.2.1.2.2.1,x.1.2.1.2.2.1.2.2.2.1,x.1.2.1.2.2.1.2.2.2.2.1,()),x.1.2.1.2.2.2.1,()),()),())
     |false=>
      match(x.2.1.1==(3:Int))with
      |true=>
       some ((x.2.1.1,(x.2.1.2.1.1,x.2.1.2.1.2.1,(x.2.1.2.1.2.2.1.1,x.2.1.2.1.2.2.1.2.1,x.2.1.2.1.2.2.1.2.2.1,x.2.1.2.1.2.2.1.2.2.2.1,x.2.1.2.1.2.2.1.2.2.2.2.1,()),x.2.1.2.1.2.2.2.1,()),()),())
      |false=>
       some (((if x.2.1.1>x.1.1 then x.2.1.1 else x.1.1),((0:Int),(0:Int),((0:Int),(0:Int),(0:Int),(0:Int),(0:Int),()),[],()),()),())
|false=>
 match(x.1.1==(3:Int))with
 |true=>
  match(x.2.1.1==(3:Int))with
  |true=>
   some (((4:Int),((0:Int),(0:Int),((0:Int),(0:Int),(0:Int),(0:Int),(0:Int),()),[],()),()),())
  |false=>
   match(x.1.1==(4:Int))with
   |true=>
    some (((4:Int),((0:Int),(0:Int),((0:Int),(0:Int),(0:Int),(0:Int),(0:Int),()),[],()),()),())
   |false=>
    match(x.2.1.1==(4:Int))with
    |true=>
     some (((4:Int),((0:Int),(0:Int),((0:Int),(0:Int),(0:Int),(0:Int),(0:Int),()),[],()),()),())
    |false=>
     match(x.1.1==(3:Int))with
     |true=>
      some ((x.1.1,(x.1.2.1.1,x.1.2.1.2.1,(x.1.2.1.2.2.1.1,x.1.2.1.2.2.1.2.1,x.1.2.1.2.2.1.2.2.1,x.1.2.1.2.2.1.2.2.2.1,x.1.2.1.2.2.1.2.2.2.2.1,()),x.1.2.1.2.2.2.1,()),()),())
     |false=>
      match(x.2.1.1==(3:Int))with
      |true=>
       some ((x.2.1.1,(x.2.1.2.1.1,x.2.1.2.1.2.1,(x.2.1.2.1.2.2.1.1,x.2.1.2.1.2.2.1.2.1,x.2.1.2.1.2.2.1.2.2.1,x.2.1.2.1.2.2.1.2.2.2.1,x.2.1.2.1.2.2.1.2.2.2.2.1,()),x.2.1.2.1.2.2.2.1,()),()),())
      |false=>
       some (((if x.2.1.1>x.1.1 then x.2.1.1 else x.1.1),((0:Int),(0:Int),((0:Int),(0:Int),(0:Int),(0:Int),(0:Int),()),[],()),()),())
 |false=>
  match(x.1.1==(4:Int))with
  |true=>
   some (((4:Int),((0:Int),(0:Int),((0:Int),(0:Int),(0:Int),(0:Int),(0:Int),()),[],()),()),())
  |false=>
   match(x.2.1.1==(4:Int))with
   |true=>
    some (((4:Int),((0:Int),(0:Int),((0:Int),(0:Int),(0:Int),(0:Int),(0:Int),()),[],()),()),())
   |false=>
    match(x.1.1==(3:Int))with
    |true=>
     some ((x.1.1,(x.1.2.1.1,x.1.2.1.2.1,(x.1.2.1.2.2.1.1,x.1.2.1.2.2.1.2.1,x.1.2.1.2.2.1.2.2.1,x.1.2.1.2.2.1.2.2.2.1,x.1.2.1.2.2.1.2.2.2.2.1,()),x.1.2.1.2.2.2.1,()),()),())
    |false=>
     match(x.2.1.1==(3:Int))with
     |true=>
      some ((x.2.1.1,(x.2.1.2.1.1,x.2.1.2.1.2.1,(x.2.1.2.1.2.2.1.1,x.2.1.2.1.2.2.1.2.1,x.2.1.2.1.2.2.1.2.2.1,x.2.1.2.1.2.2.1.2.2.2.1,x.2.1.2.1.2.2.1.2.2.2.2.1,()),x.2.1.2.1.2.2.2.1,()),()),())
     |false=>
      some (((if x.2.1.1>x.1.1 then x.2.1.1 else x.1.1),((0:Int),(0:Int),((0:Int),(0:Int),(0:Int),(0:Int),(0:Int),()),[],()),()),())
noncomputable def Rj:ae:=⟨_,Mu,.unit,rfl,vA⟩
theorem Pz:FnOK G0 Tryz.prog 84 Rj:=aq ap (sg Ri (aU)) Tryz.func84
noncomputable def ly(x:Ty.T UB):Option (Ty.T Uv):=
match dF ((x.1.1,x.1.2.1,x.1.2.2.1,x.1.2.2.2.1,()),(x.2.1.1,x.2.1.2.1,x.2.1.2.2.1,x.2.1.2.2.2.1,x.2.1.2.2.2.2.1,()),x.2.2.1,())with
|none=>none
|some v1=>
match(v1.2.1 != (0:Int))with
|true=>
 some (((0:Int),((0:Int),(0:Int),((0:Int),(0:Int),(0:Int),(0:Int),(0:Int),()),[],()),()),v1.2.1,())
|false=>
 match dF ((x.1.1,x.1.2.1,x.1.2.2.1,x.1.2.2.2.1,()),(x.2.1.1,x.2.1.2.1,x.2.1.2.2.1,x.2.1.2.2.2.1,x.2.1.2.2.2.2.1,()),x.2.2.2.1,())with
 |none=>none
 |some v2=>
 match(v2.2.1 != (0:Int))with
 |true=>
  some (((0:Int),((0:Int),(0:Int),((0:Int),(0:Int),(0:Int),(0:Int),(0:Int),()),[],()),()),v2.2.1,())
 |false=>
  match vA ((v1.1.1,(v1.1.2.1.1,v1.1.2.1.2.1,(v1.1.2.1.2.2.1.1,v1.1.2.1.2.2.1.2.1,v1.1.2.1.2.2.1.2.2.1,v1.1.2.1.2.2.1.2.2.2.1,v1.1.2.1.2.2.1.2.2.2.2.1,()),v1.1.2.1.2.2.2.1,()),()),(v2.1.1,(v2.1.2.1.1,v2.1.2.1.2.1,(v2.1.2.1.2.2.1.1,v2.1.2.1.2.2.1.2.1,v2.1.2.1.2.2.1.2.2.1,v2.1.2.1.2.2.1.2.2.2.1,v2.1.2.1.2.2.1.2.2.2.2.1,()),v2.1.2.1.2.2.2.1,()),()),())with
  |none=>none
  |some v3=>
  some ((v3.1.1,(v3.1.2.1.1,v3.1.2.1.2.1,(v3.1.2.1.2.2.1.1,v3.1.2.1.2.2.1.2.1,v3.1.2.1.2.2.1.2.2.1,v3.1.2.1.2.2.1.2.2.2.1,v3.1.2.1.2.2.1.2.2.2.2.1,()),v3.1.2.1.2.2.2.1,()),()),(0:Int),())
noncomputable def LG:ae:=⟨_,Uv,.unit,rfl,ly⟩
theorem JK:FnOK G0 Tryz.prog 37 LG:=aq ap (sg qQ (sg Pz (aU))) Tryz.func37
noncomputable def qD(x:Ty.T Mu):Option (Ty.T Ym):=
match et (x.1.2.1.2.2.2.1,())with
|none=>none
|some v1=>
some ((x.1.1,(x.1.2.1.1,x.1.2.1.2.1,(x.1.2.1.2.2.1.1,x.1.2.1.2.2.1.2.1,x.1.2.1.2.2.1.2.2.1,x.1.2.1.2.2.1.2.2.2.1,x.1.2.1.2.2.1.2.2.2.2.1,()),v1.1,()),()),())
noncomputable def Ny:ae:=⟨_,Ym,.unit,rfl,qD⟩
theorem LH:FnOK G0 Tryz.prog 85 Ny:=aq ap (sg pv (aU)) Tryz.func85
noncomputable def jU(x:Ty.T Qr):Option (Ty.T pU):=
match gV ((x.1.1,(x.1.2.1.1,x.1.2.1.2.1,(x.1.2.1.2.2.1.1,x.1.2.1.2.2.1.2.1,x.1.2.1.2.2.1.2.2.1,x.1.2.1.2.2.1.2.2.2.1,x.1.2.1.2.2.1.2.2.2.2.1,()),x.1.2.1.2.2.2.1,()),()),())with
|none=>none
|some v1=>
match(!v1.1)with
|true=>
 some (((0:Int),((0:Int),(0:Int),((0:Int),(0:Int),(0:Int),(0:Int),(0:Int),()),[],()),()),(1:Int),())
|false=>
 match gV ((x.2.1.1,(x.2.1.2.1.1,x.2.1.2.1.2.1,(x.2.1.2.1.2.2.1.1,x.2.1.2.1.2.2.1.2.1,x.2.1.2.1.2.2.1.2.2.1,x.2.1.2.1.2.2.1.2.2.2.1,x.2.1.2.1.2.2.1.2.2.2.2.1,()),x.2.1.2.1.2.2.2.1,()),()),())with
 |none=>none
 |some v2=>
 match(!v2.1)with
 |true=>
  some (((0:Int),((0:Int),(0:Int),((0:Int),(0:Int),(0:Int),(0:Int),(0:Int),()),[],()),()),(1:Int),())
 |false=>
  match AL ((x.1.1,(x.1.2.1.1,x.1.2.1.2.1,(x.1.2.1.2.2.1.1,x.1.2.1.2.2.1.2.1,x.1.2.1.2.2.1.2.2.1,x.1.2.1.2.2.1.2.2.2.1,x.1.2.1.2.2.1.2.2.2.2.1,()),x.1.2.1.2.2.2.1,()),()),(x.2.1.1,(x.2.1.2.1.1,x.2.1.2.1.2.1,(x.2.1.2.1.2.2.1.1,x.2.1.2.1.2.2.1.2.1,x.2.1.2.1.2.2.1.2.2.1,x.2.1.2.1.2.2.1.2.2.2.1,x.2.1.2.1.2.2.1.2.2.2.2.1,()),x.2.1.2.1.2.2.2.1,()),()),())with
  |none=>none
  |some v3=>
  match qD (v3.1,())with
  |none=>none
  |some v4=>
  some ((v4.1.1,(v4.1.2.1.1,v4.1.2.1.2.1,(v4.1.2.1.2.2.1.1,v4.1.2.1.2.2.1.2.1,v4.1.2.1.2.2.1.2.2.1,v4.1.2.1.2.2.1.2.2.2.1,v4.1.2.1.2.2.1.2.2.2.2.1,()),v4.1.2.1.2.2.2.1,()),()),(0:Int),())
noncomputable def Hp:ae:=⟨_,pU,.unit,rfl,jU⟩
theorem F4:FnOK G0 Tryz.prog 38 Hp:=aq ap (sg AK (sg LE (sg LH (aU)))) Tryz.func38
noncomputable def gR(x:Ty.T Mx):Option (Ty.T ax):=
match vq (x.1,())with
|none=>none
|some v1=>
match v1.1 with
|true=>
 some (true,())
|false=>
 match iP (x.1,())with
 |none=>none
 |some v2=>
 match iM v2 with
 |none=>none
 |some v3=>
 match ly v2 with
 |none=>none
 |some v4=>
 match(v3.2.1 != v4.2.1)with
 |true=>
  some (false,())
 |false=>
  match dq (v3.1,v4.1,())with
  |none=>none
  |some v5=>
  match(!v5.1)with
  |true=>
   some (false,())
  |false=>
   match(v3.2.1 != (0:Int))with
   |true=>
    some (true,())
   |false=>
    match ci (v2.1,v2.2.1,v2.2.2.1,())with
    |none=>none
    |some v6=>
    match ci (v2.1,v2.2.1,v2.2.2.2.1,())with
    |none=>none
    |some v7=>
    match jU (v6.1,v7.1,())with
    |none=>none
    |some v8=>
    match iM (v2.1,v2.2.1,v2.2.2.2.1,v2.2.2.1,())with
    |none=>none
    |some v9=>
    match(v6.2.1==(0:Int))with
    |true=>
     match(v7.2.1==(0:Int))with
     |true=>
      match(v8.2.1==(0:Int))with
      |true=>
       match(v9.2.1==(0:Int))with
       |true=>
        match dq (v8.1,v3.1,())with
        |none=>none
        |some v10=>
        match v10.1 with
        |true=>
         match dq (v9.1,v3.1,())with
         |none=>none
         |some v11=>
         some (v11.1,())
        |false=>
         some (false,())
       |false=>
        some (false,())
      |false=>
       some (false,())
     |false=>
      some (false,())
    |false=>
     some (false,())
noncomputable def F5:ae:=⟨_,ax,.unit,rfl,gR⟩
theorem D9:FnOK G0 Tryz.prog 6 F5:=aq ap (sg Qu (sg uo (sg lF (sg BT (sg JJ (sg JK (sg F4 (aU)))))))) Tryz.func6
end Go.Proofs.YtckljdhdadiphaaGreatDoor
