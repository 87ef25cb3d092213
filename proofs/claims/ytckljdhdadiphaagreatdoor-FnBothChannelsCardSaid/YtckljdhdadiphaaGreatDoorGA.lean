import Derived.Test.YtckljdhdadiphaaGreatDoorSho
import Derived.Test.YtckljdhdadiphaaGreatDoorLibS
import Derived.Test.YtckljdhdadiphaaGreatDoorSh
import Derived.Test.YtckljdhdadiphaaGreatDoorTdW
import Derived.Test.YtckljdhdadiphaaGreatDoorTrW
import Derived.Test.YtckljdhdadiphaaGreatDoorProg
import Derived.KernelRfl
namespace Go.Proofs.YtckljdhdadiphaaGreatDoor
open Go.RowKit
set_option linter.unusedVariables false
abbrev ar:Ty:=(.pair (.int .i64) (.pair (.list (.pair (.int .i64) (.pair .str (.pair (.int .i64) (.pair .bool .unit))))) (.pair (.list (.pair (.int .i64) (.pair (.int .i64) (.pair (.list (.int .i64)) .unit)))) (.pair (.list (.pair (.int .i64) (.pair (.int .i64) (.pair (.int .i64) (.pair (.pair (.int .i64) (.pair (.int .i64) (.pair (.int .i64) (.pair (.int .i64) (.pair .bool .unit))))) .unit))))) .unit))))
abbrev ak:Ty:=(.pair (.int .i64) (.pair (.int .i64) (.pair (.int .i64) (.pair (.int .i64) (.pair (.int .i64) .unit)))))
abbrev ba:Ty:=(.pair (.int .i64) (.pair (.int .i64) (.pair ak (.pair (.list (.int .i64)) .unit))))
abbrev bI:Ty:=(.pair (.int .i64) (.pair ba .unit))
abbrev cP:Ty:=(.pair (.int .i64) (.pair (.int .i64) (.pair (.int .i64) (.pair (.int .i64) (.pair .bool .unit)))))
abbrev ah:Ty:=(.pair (.list (.int .u8)) (.pair (.int .i64) (.pair (.int .i64) .unit)))
abbrev aA:Ty:=(.pair (.int .i64) (.pair .str (.pair (.int .i64) (.pair .bool .unit))))
abbrev ao:Ty:=(.pair (.int .i64) (.pair (.int .i64) (.pair (.int .i64) (.pair cP .unit))))
abbrev po:Ty:=(.pair (.list (.int .i64)) (.pair (.int .i64) (.pair (.list (.int .i64)) .unit)))
abbrev bl:Ty:=(.pair (.int .i64) (.pair (.int .i64) (.pair (.int .i64) (.pair (.int .i64) .unit))))
abbrev aG:Ty:=(.pair (.int .i64) (.pair (.int .i64) (.pair (.list (.int .i64)) .unit)))
abbrev bM:Ty:=(.pair (.int .i64) (.pair (.int .i64) .unit))
abbrev kU:Ty:=(.pair (.int .i64) (.pair (.list (.int .i64)) (.pair (.int .i64) .unit)))
abbrev xS:Ty:=(.pair .str .unit)
abbrev Uq:Ty:=(.pair bM .unit)
abbrev ax:Ty:=(.pair .bool .unit)
abbrev qU:Ty:=(.pair ar .unit)
abbrev yU:Ty:=(.pair ak .unit)
abbrev Ms:Ty:=(.pair ba .unit)
abbrev Xe:Ty:=(.pair bl .unit)
abbrev Mu:Ty:=(.pair bI .unit)
abbrev Xf:Ty:=(.pair ao .unit)
abbrev aV:Ty:=(.pair (.int .i64) .unit)
abbrev un:Ty:=(.pair (.box ar) bM)
abbrev Et:Ty:=(.pair cP .unit)
abbrev Xg:Ty:=(.pair (.ptr ar) bM)
abbrev Qp:Ty:=(.pair (.box ar) bl)
abbrev Xh:Ty:=(.pair (.box ar) ak)
abbrev Xi:Ty:=(.pair (.list bl) .unit)
abbrev Ur:Ty:=(.pair (.ptr po) bM)
abbrev Mv:Ty:=(.pair (.list aA) bM)
abbrev dY:Ty:=(.pair (.box ah) .unit)
abbrev Mw:Ty:=(.pair (.list aA) .unit)
abbrev Qq:Ty:=(.pair (.list ao) .unit)
abbrev Us:Ty:=(.pair (.list aG) .unit)
abbrev ZK:Ty:=(.pair .str (.pair .str .unit))
abbrev Yi:Ty:=(.pair (.own 133 bl) .unit)
abbrev qM:Ty:=(.pair (.list (.int .i64)) bM)
abbrev Mx:Ty:=(.pair (.list (.int .u8)) .unit)
abbrev Xj:Ty:=(.pair (.list ao) bl)
abbrev fD:Ty:=(.pair (.list (.int .i64)) .unit)
abbrev Ut:Ty:=(.pair (.own 2 (.int .i64)) bM)
abbrev ZL:Ty:=(.pair .bool (.pair .bool .unit))
abbrev bG:Ty:=(.pair (.own 2 (.int .i64)) .unit)
abbrev yV:Ty:=(.pair ar (.pair ak .unit))
abbrev Uu:Ty:=(.pair (.own 116 ao) .unit)
abbrev Xk:Ty:=(.pair (.list (.int .i64)) bl)
abbrev ZM:Ty:=(.pair (.own 103 aA) .unit)
abbrev Xl:Ty:=(.pair ba (.pair ba .unit))
abbrev Xm:Ty:=(.pair .str (.pair (.int .i64) .unit))
abbrev Qr:Ty:=(.pair bI (.pair bI .unit))
abbrev ZN:Ty:=(.pair ar (.pair (.int .i64) .unit))
abbrev Xn:Ty:=(.pair cP (.pair ba .unit))
abbrev ZO:Ty:=(.pair ao (.pair ao .unit))
abbrev Uv:Ty:=(.pair bI (.pair (.int .i64) .unit))
abbrev Yj:Ty:=(.pair kU (.pair (.int .i64) .unit))
abbrev Xo:Ty:=(.pair (.box ar) (.pair (.int .i64) bM))
abbrev ZP:Ty:=(.pair cP (.pair (.int .i64) .unit))
abbrev Uw:Ty:=(.pair (.box ar) (.pair (.int .i64) .unit))
abbrev ZQ:Ty:=(.pair (.ptr ar) (.pair (.int .i64) .unit))
abbrev ZR:Ty:=(.pair ak (.pair (.box ah) .unit))
abbrev ZS:Ty:=(.pair ba (.pair (.box ah) .unit))
abbrev ZT:Ty:=(.pair bl (.pair (.box ah) .unit))
abbrev ZU:Ty:=(.pair (.list (.int .i64)) (.pair bl .unit))
abbrev Br:Ty:=(.pair ar (.pair ak (.pair ba .unit)))
abbrev ZV:Ty:=(.pair (.list ao) (.pair (.int .i64) bM))
abbrev IG:Ty:=(.pair (.box ah) (.pair (.int .i64) .unit))
abbrev Xp:Ty:=(.pair (.nptr po) (.pair (.int .i64) .unit))
abbrev ZW:Ty:=(.pair (.box ar) (.pair (.list aG) bM))
abbrev ZX:Ty:=(.pair (.list aA) (.pair (.int .i64) .unit))
abbrev ZY:Ty:=(.pair (.list aG) (.pair (.int .i64) .unit))
abbrev ZZ:Ty:=(.pair (.int .i64) (.pair (.box ah) .unit))
abbrev Z0:Ty:=(.pair cP (.pair (.box ah) .unit))
abbrev Xq:Ty:=(.pair (.list (.int .i64)) (.pair (.int .i64) bM))
abbrev Z1:Ty:=(.pair (.int .i64) (.pair (.list (.int .i64)) bM))
abbrev vZ:Ty:=(.pair (.list (.int .i64)) (.pair (.int .i64) .unit))
abbrev jz:Ty:=(.pair (.own 2 (.int .i64)) (.pair (.int .i64) .unit))
abbrev Xr:Ty:=(.pair (.list (.int .i64)) (.pair (.box bl) bM))
abbrev Z2:Ty:=(.pair ba (.pair (.int .i64) (.pair ak .unit)))
abbrev Z3:Ty:=(.pair (.list (.int .i64)) (.pair (.list bl) .unit))
abbrev Qs:Ty:=(.pair (.box ah) (.pair (.own 133 bl) .unit))
abbrev Yk:Ty:=(.pair (.own 133 bl) (.pair (.box ah) .unit))
abbrev Ux:Ty:=(.pair (.box ah) (.pair (.own 2 (.int .i64)) .unit))
abbrev Uy:Ty:=(.pair (.own 2 (.int .i64)) (.pair (.box ah) .unit))
abbrev Z4:Ty:=(.pair (.own 103 aA) (.pair (.box ah) .unit))
abbrev IH:Ty:=(.pair (.list (.int .i64)) (.pair (.list (.int .i64)) .unit))
abbrev Z5:Ty:=(.pair (.list (.int .i64)) (.pair (.own 2 (.int .i64)) bM))
abbrev tG:Ty:=(.pair ar (.pair ak (.pair (.list (.int .i64)) .unit)))
abbrev Z6:Ty:=(.pair bM (.pair (.int .i64) (.pair (.list (.int .i64)) .unit)))
abbrev Z7:Ty:=(.pair (.list (.int .i64)) (.pair (.int .i64) (.pair ak .unit)))
abbrev Z8:Ty:=(.pair (.box ar) (.pair (.int .i64) (.pair (.list aG) bM)))
abbrev Uz:Ty:=(.pair (.int .i64) (.pair (.own 2 (.int .i64)) (.pair (.int .i64) .unit)))
abbrev Xs:Ty:=(.pair (.list (.int .i64)) (.pair (.box bl) (.pair (.int .i64) bM)))
abbrev Z9:Ty:=(.pair (.int .i64) (.pair (.int .i64) (.pair (.own 2 (.int .i64)) .unit)))
abbrev UA:Ty:=(.pair (.box ah) (.pair (.own 2 (.int .i64)) (.pair (.int .i64) .unit)))
abbrev aaa:Ty:=(.pair (.list (.int .i64)) (.pair (.list (.int .i64)) (.pair (.int .i64) .unit)))
abbrev My:Ty:=(.pair (.list (.int .i64)) (.pair (.own 2 (.int .i64)) (.pair (.int .i64) .unit)))
abbrev Yl:Ty:=(.pair (.list (.int .i64)) (.pair (.int .i64) (.pair (.own 2 (.int .i64)) .unit)))
abbrev aab:Ty:=(.pair (.int .i64) (.pair (.list (.int .i64)) (.pair (.int .i64) (.pair ak .unit))))
abbrev aac:Ty:=(.pair (.list aA) (.pair (.fn (.pair aA .unit) (.pair .bool .unit)) .unit))
abbrev aad:Ty:=(.pair (.list ao) (.pair (.fn (.pair ao .unit) (.pair .bool .unit)) .unit))
abbrev aae:Ty:=(.pair (.list (.int .i64)) (.pair (.list (.int .i64)) (.pair (.own 2 (.int .i64)) bM)))
abbrev UB:Ty:=(.pair ar (.pair ak (.pair (.list (.int .i64)) (.pair (.list (.int .i64)) .unit))))
abbrev Qt:Ty:=(.pair (.box bl) (.pair (.int .i64) (.pair (.own 2 (.int .i64)) (.pair (.int .i64) .unit))))
abbrev aaf:Ty:=(.pair (.own 141 (.pair (.int .i64) (.pair (.int .i64) (.pair (.own 2 (.int .i64)) .unit)))) .unit)
abbrev Xt:Ty:=(.pair (.box (.pair (.list (.int .i64)) (.pair (.int .i64) (.pair (.own 2 (.int .i64)) .unit)))) .unit)
abbrev aag:Ty:=(.pair (.pair (.int .i64) (.pair (.int .i64) (.pair ak (.pair (.own 2 (.int .i64)) .unit)))) .unit)
abbrev Xu:Ty:=(.pair (.list (.int .i64)) (.pair (.list (.int .i64)) (.pair (.own 2 (.int .i64)) (.pair (.int .i64) .unit))))
abbrev UC:Ty:=(.pair (.pair (.int .i64) (.pair (.int .i64) (.pair ak (.pair (.own 2 (.int .i64)) .unit)))) (.pair .bool .unit))
abbrev UD:Ty:=(.pair (.pair (.int .i64) (.pair (.int .i64) (.pair ak (.pair (.own 2 (.int .i64)) .unit)))) (.pair (.int .i64) .unit))
abbrev aah:Ty:=(.pair (.box (.pair (.list (.int .i64)) (.pair (.int .i64) (.pair (.own 2 (.int .i64)) .unit)))) (.pair (.int .i64) .unit))
abbrev aai:Ty:=(.pair (.int .i64) (.pair (.box (.pair (.list (.int .i64)) (.pair (.int .i64) (.pair (.own 2 (.int .i64)) .unit)))) .unit))
abbrev aaj:Ty:=(.pair (.own 141 (.pair (.int .i64) (.pair (.int .i64) (.pair (.own 2 (.int .i64)) .unit)))) (.pair (.box ah) .unit))
abbrev Xv:Ty:=(.pair (.pair (.int .i64) (.pair (.own 103 aA) (.pair (.own 141 aG) (.pair (.own 116 ao) .unit)))) .unit)
abbrev Ym:Ty:=(.pair (.pair (.int .i64) (.pair (.pair (.int .i64) (.pair (.int .i64) (.pair ak (.pair (.own 2 (.int .i64)) .unit)))) .unit)) .unit)
abbrev pU:Ty:=(.pair (.pair (.int .i64) (.pair (.pair (.int .i64) (.pair (.int .i64) (.pair ak (.pair (.own 2 (.int .i64)) .unit)))) .unit)) (.pair (.int .i64) .unit))
abbrev aak:Ty:=(.pair (.box ah) (.pair (.box ar) (.pair (.own 103 aA) (.pair (.own 2 (.int .i64)) (.pair (.own 141 aG) (.pair (.own 116 ao) bM))))))
abbrev Xw:Ty:=(.pair (.box ah) (.pair (.box ar) (.pair (.own 103 aA) (.pair (.own 2 (.int .i64)) (.pair (.own 141 aG) (.pair (.own 116 ao) (.pair (.int .i64) (.pair (.int .i64) (.pair (.box aG) (.pair (.own 2 (.int .i64)) (.pair (.int .i64) .unit)))))))))))
def bm:ce:=[(2,(.int .i64)),(3,(.int .i64)),(4,.bool),(5,(.int .u8)),(9,.str),(22,(.list (.int .u8))),(24,(.list aA)),(25,(.list aG)),(26,(.list ao)),(28,ar),(30,ak),(31,(.list (.int .i64))),(35,ba),(37,bI),(50,cP),(92,(.list bl)),(98,ah),(101,(.int .u64)),(103,aA),(116,ao),(128,po),(133,bl),(141,aG),(147,bM),(189,kU),(194,(.list .str))]
def E0:bP:=[(22,5),(24,103),(25,141),(26,116),(31,2),(92,133),(194,9)]
theorem ap:cd Tryz.prog bm E0=true:=by kernel_rfl
def VT:ce:=[(2,(.int .i64)),(2,(.int .i64)),(4,.bool),(24,(.list aA)),(25,(.list aG)),(26,(.list ao)),(28,ar),(31,(.list (.int .i64))),(50,cP),(103,aA),(116,ao),(141,aG)]
def E1:bP:=[(24,103),(25,141),(26,116),(31,2)]
theorem abn:cd Tryz.prog VT E1=true:=by kernel_rfl
def Γ2:ce:=[(2,(.int .i64)),(25,(.list Z9)),(31,(.list (.int .i64))),(141,aG)]
def E2:bP:=[(25,141),(31,2)]
theorem aam:cd Tryz.prog Γ2 E2=true:=by kernel_rfl
def Γ3:ce:=[(2,(.int .i64)),(4,.bool),(4,.bool),(24,(.list aA)),(28,ar),(30,ak),(31,(.list (.int .i64))),(35,ba),(50,cP),(101,(.int .u64)),(103,aA)]
def E3:bP:=[(24,103),(31,2)]
theorem abo:cd Tryz.prog Γ3 E3=true:=by kernel_rfl
abbrev G0:Gl:=Gl.none
noncomputable def vq(x:Ty.T Mx):Option (Ty.T ax):=
some ((decide ((x.1.length:Int)>(4096:Int))),())
noncomputable def YH:ae:=⟨_,ax,.unit,rfl,vq⟩
theorem Qu:FnOK G0 Tryz.prog 7 YH:=aq ap aU Tryz.func7
abbrev qV:Ty:=aaa
noncomputable def dp(x:(Ty.T qV)):Option ((Ty.T qV) ⊕ ((Ty.T .unit) ⊕ (Ty.T ax))):=
match(decide (x.2.2.1<(x.1.length:Int)))with
|true=>
 ab (av x.1 x.2.2.1) fun v1=>
 ab (av x.2.1 x.2.2.1) fun v2=>
 match(v1 != v2)with
 |true=>
  some (.inr (.inr (false,())))
 |false=>
  some (.inl (x.1,x.2.1,(IntKind.i64.wrap (x.2.2.1+(1:Int))),()))
|false=>
 some (.inr (.inl (())))
noncomputable def jL(x:Ty.T IH):Option (Ty.T ax):=
match((x.1.length:Int) != (x.2.1.length:Int))with
|true=>
 some (false,())
|false=>
 match ac dp (x.1,x.2.1,(0:Int),())with
 |none=>none
 |some (.inl v3)=>
  some (true,())
 |some (.inr v4)=>
  some (v4.1,())
noncomputable def Qv:ae:=⟨_,ax,.unit,rfl,jL⟩
noncomputable def Cl:FuncId→Option ae:=bH []
theorem Kj:∀f s,Cl f=some s→FnOK G0 Tryz.prog f s:=aK trivial
def zu:aX:=⟨[0,1,5],qV,0,[],.unit,[4],ax⟩
noncomputable def Cm:List aD:=[zu.spec dp]
theorem II:bi bm E0 Cl (be Tryz.f21 Cm) Tryz.f21 0 zu dp:=fun x=>by kernel_rfl
theorem Cn:FnOK G0 Tryz.prog 21 Qv:=aO ap Kj Tryz.func21 Cm (by kernel_rfl) (by exact⟨(II).lok,trivial⟩) fun x=>by kernel_rfl
noncomputable def kx(x:Ty.T Xl):Option (Ty.T ax):=
match(x.1.1==x.2.1.1)with
|true=>
 match(x.1.2.1==x.2.1.2.1)with
 |true=>
  match(cS ak x.1.2.2.1 x.2.1.2.2.1)with
  |true=>
   match jL (x.1.2.2.2.1,x.2.1.2.2.2.1,())with
   |none=>none
   |some v1=>
   some (v1.1,())
  |false=>
   some (false,())
 |false=>
  some (false,())
|false=>
 some (false,())
noncomputable def Mz:ae:=⟨_,ax,.unit,rfl,kx⟩
theorem Kk:FnOK G0 Tryz.prog 27 Mz:=aq ap (sg Cn (aU)) Tryz.func27
noncomputable def dq(x:Ty.T Qr):Option (Ty.T ax):=
match(x.1.1==x.2.1.1)with
|true=>
 match kx (x.1.2.1,x.2.1.2.1,())with
 |none=>none
 |some v1=>
 some (v1.1,())
|false=>
 some (false,())
noncomputable def IJ:ae:=⟨_,ax,.unit,rfl,dq⟩
theorem uo:FnOK G0 Tryz.prog 11 IJ:=aq ap (sg Kk (aU)) Tryz.func11
noncomputable def cn(x:Ty.T (.pair (.int .i64) bM)):Option (Ty.T ax):=
match(decide (x.1≥x.2.1))with
|true=>
 some ((decide (x.1≤x.2.2.1)),())
|false=>
 some (false,())
noncomputable def Kl:ae:=⟨_,ax,.unit,rfl,cn⟩
theorem du:FnOK G0 Tryz.prog 74 Kl:=aq ap aU Tryz.func74
abbrev lR:Ty:=(.pair (.int .i64) (.pair (.list aA) bM))
noncomputable def ef(x:(Ty.T lR)):Option ((Ty.T lR) ⊕ ((Ty.T aV) ⊕ (Ty.T .unit))):=
match(decide (x.2.2.2.1<x.2.2.1))with
|true=>
 ab (av x.2.1 x.2.2.2.1) fun v1=>
 match(!v1.2.2.2.1)with
 |true=>
  if v1.1<0 then none else
  some (.inl ((bits BinOp.or .i64 x.1 (IntKind.i64.wrap ((1:Int)*2^min v1.1.toNat IntKind.i64.bits))),x.2.1,x.2.2.1,(IntKind.i64.wrap (x.2.2.2.1+(1:Int))),()))
 |false=>
  some (.inl (x.1,x.2.1,x.2.2.1,(IntKind.i64.wrap (x.2.2.2.1+(1:Int))),()))
|false=>
 some (.inr (.inl (x.1,())))
noncomputable def je(x:Ty.T Mw):Option (Ty.T aV):=
match ac ef ((0:Int),x.1,(x.1.length:Int),(0:Int),())with
|none=>none
|some (.inl v2)=>
 some (v2.1,())
|some (.inr v4)=>
 none
noncomputable def wd:ae:=⟨_,aV,.unit,rfl,je⟩
noncomputable def up:FuncId→Option ae:=bH []
theorem DI:∀f s,up f=some s→FnOK G0 Tryz.prog f s:=aK trivial
def sz:aX:=⟨[3,6,7,8],lR,0,[3],aV,[],.unit⟩
noncomputable def uq:List aD:=[sz.spec ef]
theorem Bt:bi bm E0 up (be Tryz.f172 uq) Tryz.f172 0 sz ef:=fun x=>by kernel_rfl
theorem ns:FnOK G0 Tryz.prog 172 wd:=aO ap DI Tryz.func172 uq (by kernel_rfl) (by exact⟨(Bt).lok,trivial⟩) fun x=>by kernel_rfl
noncomputable def PG(x:Ty.T bM):Option (Ty.T ax):=
if x.2.1<0 then none else
some (((bits BinOp.and .i64 (Int.fdiv x.1 (2^min x.2.1.toNat IntKind.i64.bits)) (1:Int))==(1:Int)),())
noncomputable def YI:ae:=⟨_,ax,.unit,rfl,PG⟩
theorem Xx:FnOK G0 Tryz.prog 218 YI:=aq ap aU Tryz.func218
noncomputable def mR(x:Ty.T (.pair ao (.pair (.ptr ar) .unit))):Option (Ty.T ax):=
match je (x.2.1.2.1,())with
|none=>none
|some v1=>
match PG (v1.1,x.1.2.2.2.1.1,())with
|none=>none
|some v2=>
some ((!v2.1),())
noncomputable def IK:ae:=⟨_,ax,.unit,rfl,mR⟩
theorem GT:FnOK G0 Tryz.prog 217 IK:=aq ap (sg ns (sg Xx (aU))) Tryz.func217
noncomputable def mS(x:Ty.T Xf):Option (Ty.T ax):=
match(x.1.2.2.2.1.2.1==(3:Int))with
|true=>
 some ((x.1.1 != (0:Int)),())
|false=>
 some (false,())
noncomputable def IL:ae:=⟨_,ax,.unit,rfl,mS⟩
theorem GU:FnOK G0 Tryz.prog 219 IL:=aq ap aU Tryz.func219
noncomputable def we(x:Ty.T aV):Option (Ty.T ax):=
match cn (x.1,(0:Int),(31:Int),())with
|none=>none
|some v1=>
some (v1.1,())
noncomputable def UE:ae:=⟨_,ax,.unit,rfl,we⟩
theorem HB:FnOK G0 Tryz.prog 130 UE:=aq ap (sg du (aU)) Tryz.func130
noncomputable def wg(x:Ty.T ZK):Option (Ty.T xS):=ab (Ki x.1 x.2.1) fun s=>some (s,())
noncomputable def MA:ae:=⟨ZK,xS,.unit,rfl,wg⟩
theorem Km:FnOK G0 Tryz.prog 258 MA:=FnOK.str2_str (vo Tryz.func258 (by kernel_rfl) (show Tryz.f258.body=some (gA Tryz.f258) by kernel_rfl)) (fun w s t y _ hy=>Up w s t y hy)
noncomputable def lS(x:Ty.T (.pair aA .unit)):Option (Ty.T ax):=
match(decide ((x.1.2.1.length:Int)≥(1:Int)))with
|true=>
 match(decide ((x.1.2.1.length:Int)≤(6:Int)))with
 |true=>
  match wg (x.1.2.1,([97,98,99,100,101,102,103,104,105,106,107,108,109,110,111,112,113,114,115,116,117,118,119,120,121,122,48,49,50,51,52,53,54,55,56,57]:List UInt8),())with
  |none=>none
  |some v1=>
  match(v1.1== [])with
  |true=>
   match we (x.1.1,())with
   |none=>none
   |some v2=>
   match v2.1 with
   |true=>
    match cn (x.1.2.2.1,(0:Int),(1000:Int),())with
    |none=>none
    |some v3=>
    some (v3.1,())
   |false=>
    some (false,())
  |false=>
   some (false,())
 |false=>
  some (false,())
|false=>
 some (false,())
noncomputable def zw:ae:=⟨_,ax,.unit,rfl,lS⟩
theorem Kn:FnOK G0 Tryz.prog 246 zw:=aq ap (sg du (sg HB (sg Km (aU)))) Tryz.func246
abbrev gy:Ty:=(.pair (.list aA) (.pair (.fn (.pair aA .unit) (.pair .bool .unit)) bM))
noncomputable def b9(x:(Ty.T gy)):Option ((Ty.T gy) ⊕ ((Ty.T .unit) ⊕ (Ty.T aV))):=
match(decide (x.2.2.2.1<x.2.2.1))with
|true=>
 ab (av x.1 x.2.2.2.1) fun v1=>
 match x.2.1 (v1,())with
 |none=>none
 |some v2=>
 match v2.1 with
 |true=>
  some (.inr (.inr (x.2.2.2.1,())))
 |false=>
  some (.inl (x.1,x.2.1,x.2.2.1,(IntKind.i64.wrap (x.2.2.2.1+(1:Int))),()))
|false=>
 some (.inr (.inl (())))
noncomputable def dT(x:Ty.T aac):Option (Ty.T aV):=
match ac b9 (x.1,x.2.1,(x.1.length:Int),(0:Int),())with
|none=>none
|some (.inl v3)=>
 some ((-1:Int),())
|some (.inr v4)=>
 some (v4.1,())
noncomputable def sA:ae:=⟨_,aV,.unit,rfl,dT⟩
noncomputable def ky:FuncId→Option ae:=bH []
theorem pV:∀f s,ky f=some s→FnOK G0 Tryz.prog f s:=aK trivial
def kp:aX:=⟨[0,1,7,8],gy,0,[],.unit,[4],aV⟩
noncomputable def kz:List aD:=[kp.spec b9]
theorem pI:bi bm E0 ky (be Tryz.f259 kz) Tryz.f259 0 kp b9:=fun x=>by kernel_rfl
theorem qW:FnOK G0 Tryz.prog 259 sA:=aO ap pV Tryz.func259 kz (by kernel_rfl) (by exact⟨(pI).lok,trivial⟩) fun x=>by kernel_rfl
noncomputable def cH(x:Ty.T aac):Option (Ty.T ax):=
match dT (x.1,x.2.1,())with
|none=>none
|some v1=>
some ((decide (v1.1≥(0:Int))),())
noncomputable def jM:ae:=⟨_,ax,.unit,rfl,cH⟩
theorem pJ:FnOK G0 Tryz.prog 247 jM:=aq ap (sg qW (aU)) Tryz.func247
noncomputable def jN(x:Ty.T (.pair aA (.pair (.ptr aA) .unit))):Option (Ty.T ax):=
some ((x.1.2.1==x.2.1.2.1),())
noncomputable def ur:ae:=⟨_,ax,.unit,rfl,jN⟩
theorem Eu:FnOK G0 Tryz.prog 248 ur:=aq ap aU Tryz.func248
abbrev nt:Ty:=(.pair (.list aA) (.pair (.list aA) bM))
noncomputable def eO(x:(Ty.T nt)):Option ((Ty.T nt) ⊕ ((Ty.T Mw) ⊕ (Ty.T ax))):=
match(decide (x.2.2.2.1<x.2.2.1))with
|true=>
 ab (av x.2.1 x.2.2.2.1) fun v1=>
 match lS ((v1.1,v1.2.1,v1.2.2.1,v1.2.2.2.1,()),())with
 |none=>none
 |some v2=>
 match(!v2.1)with
 |true=>
  some (.inr (.inr (false,())))
 |false=>
  match(decide (x.2.2.2.1>(0:Int)))with
  |true=>
   ab (av x.1 (IntKind.i64.wrap (x.2.2.2.1-(1:Int)))) fun v3=>
   match(decide (v3.1≥v1.1))with
   |true=>
    some (.inr (.inr (false,())))
   |false=>
    ab (aM x.1.length none (some (.dat (.int .i64) x.2.2.2.1))) fun v4=>
    match cH ((List.drop v4.1 (List.take v4.2 x.1)),(fun z=>jN (z.1,(v1.1,v1.2.1,v1.2.2.1,v1.2.2.2.1,()),())),())with
    |none=>none
    |some v5=>
    match v5.1 with
    |true=>
     some (.inr (.inr (false,())))
    |false=>
     some (.inl (x.1,x.2.1,x.2.2.1,(IntKind.i64.wrap (x.2.2.2.1+(1:Int))),()))
  |false=>
   ab (aM x.1.length none (some (.dat (.int .i64) x.2.2.2.1))) fun v6=>
   match cH ((List.drop v6.1 (List.take v6.2 x.1)),(fun z=>jN (z.1,(v1.1,v1.2.1,v1.2.2.1,v1.2.2.2.1,()),())),())with
   |none=>none
   |some v7=>
   match v7.1 with
   |true=>
    some (.inr (.inr (false,())))
   |false=>
    some (.inl (x.1,x.2.1,x.2.2.1,(IntKind.i64.wrap (x.2.2.2.1+(1:Int))),()))
|false=>
 some (.inr (.inl (x.1,())))
noncomputable def oq(x:Ty.T Mw):Option (Ty.T ax):=
match ac eO (x.1,x.1,(x.1.length:Int),(0:Int),())with
|none=>none
|some (.inl v8)=>
 match(decide ((v8.1.length:Int)≥(1:Int)))with
 |true=>
  some ((decide ((v8.1.length:Int)≤(32:Int))),())
 |false=>
  some (false,())
|some (.inr v9)=>
 some (v9.1,())
noncomputable def Ko:ae:=⟨_,ax,.unit,rfl,oq⟩
noncomputable def wh:FuncId→Option ae:=bH [(246,zw),(247,jM),(248,ur)]
theorem Ev:∀f s,wh f=some s→FnOK G0 Tryz.prog f s:=aK ⟨Kn,pJ,Eu,trivial⟩
def ut:aX:=⟨[0,5,6,7],nt,0,[0],Mw,[2],ax⟩
noncomputable def wi:List aD:=[ut.spec eO]
theorem DJ:bi bm E0 wh (be Tryz.f220 wi) Tryz.f220 0 ut eO:=fun x=>by kernel_rfl
theorem IM:FnOK G0 Tryz.prog 220 Ko:=aO ap Ev Tryz.func220 wi (by kernel_rfl) (by exact⟨(DJ).lok,trivial⟩) fun x=>by kernel_rfl
abbrev kf:Ty:=Xq
noncomputable def c7(x:(Ty.T kf)):Option ((Ty.T kf) ⊕ ((Ty.T .unit) ⊕ (Ty.T aV))):=
match(decide (x.2.2.2.1<x.2.2.1))with
|true=>
 ab (av x.1 x.2.2.2.1) fun v1=>
 match(x.2.1==v1)with
 |true=>
  some (.inr (.inr (x.2.2.2.1,())))
 |false=>
  some (.inl (x.1,x.2.1,x.2.2.1,(IntKind.i64.wrap (x.2.2.2.1+(1:Int))),()))
|false=>
 some (.inr (.inl (())))
noncomputable def lT(x:Ty.T vZ):Option (Ty.T aV):=
match ac c7 (x.1,x.2.1,(x.1.length:Int),(0:Int),())with
|none=>none
|some (.inl v2)=>
 some ((-1:Int),())
|some (.inr v3)=>
 some (v3.1,())
noncomputable def Bu:ae:=⟨_,aV,.unit,rfl,lT⟩
noncomputable def pp:FuncId→Option ae:=bH []
theorem xD:∀f s,pp f=some s→FnOK G0 Tryz.prog f s:=aK trivial
def nT:aX:=⟨[0,1,7,8],kf,0,[],.unit,[4],aV⟩
noncomputable def pq:List aD:=[nT.spec c7]
theorem wj:bi bm E0 pp (be Tryz.f173 pq) Tryz.f173 0 nT c7:=fun x=>by kernel_rfl
theorem zx:FnOK G0 Tryz.prog 173 Bu:=aO ap xD Tryz.func173 pq (by kernel_rfl) (by exact⟨(wj).lok,trivial⟩) fun x=>by kernel_rfl
noncomputable def ii(x:Ty.T vZ):Option (Ty.T ax):=
match lT (x.1,x.2.1,())with
|none=>none
|some v1=>
some ((decide (v1.1≥(0:Int))),())
noncomputable def nk:ae:=⟨_,ax,.unit,rfl,ii⟩
theorem wl:FnOK G0 Tryz.prog 119 nk:=aq ap (sg zx (aU)) Tryz.func119
abbrev qX:Ty:=(.pair (.list (.int .i64)) (.pair (.int .i64) (.pair (.list (.int .i64)) bM)))
noncomputable def gE(x:(Ty.T qX)):Option ((Ty.T qX) ⊕ ((Ty.T .unit) ⊕ (Ty.T ax))):=
match(decide (x.2.2.2.2.1<x.2.2.2.1))with
|true=>
 ab (av x.2.2.1 x.2.2.2.2.1) fun v1=>
 match(decide (v1<(0:Int)))with
 |true=>
  some (.inr (.inr (false,())))
 |false=>
  match(decide (v1≥x.2.1))with
  |true=>
   some (.inr (.inr (false,())))
  |false=>
   match(decide (x.2.2.2.2.1>(0:Int)))with
   |true=>
    ab (av x.1 (IntKind.i64.wrap (x.2.2.2.2.1-(1:Int)))) fun v2=>
    match(decide (v2≥v1))with
    |true=>
     some (.inr (.inr (false,())))
    |false=>
     some (.inl (x.1,x.2.1,x.2.2.1,x.2.2.2.1,(IntKind.i64.wrap (x.2.2.2.2.1+(1:Int))),()))
   |false=>
    some (.inl (x.1,x.2.1,x.2.2.1,x.2.2.2.1,(IntKind.i64.wrap (x.2.2.2.2.1+(1:Int))),()))
|false=>
 some (.inr (.inl (())))
noncomputable def vr(x:Ty.T vZ):Option (Ty.T ax):=
match ac gE (x.1,x.2.1,x.1,(x.1.length:Int),(0:Int),())with
|none=>none
|some (.inl v3)=>
 some (true,())
|some (.inr v4)=>
 some (v4.1,())
noncomputable def Ew:ae:=⟨_,ax,.unit,rfl,vr⟩
noncomputable def Co:FuncId→Option ae:=bH []
theorem Kq:∀f s,Co f=some s→FnOK G0 Tryz.prog f s:=aK trivial
def zy:aX:=⟨[0,1,7,8,9],qX,0,[],.unit,[4],ax⟩
noncomputable def Cp:List aD:=[zy.spec gE]
theorem IO:bi bm E0 Co (be Tryz.f249 Cp) Tryz.f249 0 zy gE:=fun x=>by kernel_rfl
theorem OZ:FnOK G0 Tryz.prog 249 Ew:=aO ap Kq Tryz.func249 Cp (by kernel_rfl) (by exact⟨(IO).lok,trivial⟩) fun x=>by kernel_rfl
abbrev nu:Ty:=(.pair (.list aG) (.pair (.list aG) bM))
noncomputable def eP(x:(Ty.T nu)):Option ((Ty.T nu) ⊕ ((Ty.T Us) ⊕ (Ty.T ax))):=
match(decide (x.2.2.2.1<x.2.2.1))with
|true=>
 ab (av x.2.1 x.2.2.2.1) fun v1=>
 match cn (v1.1,(1:Int),(8:Int),())with
 |none=>none
 |some v2=>
 match(!v2.1)with
 |true=>
  some (.inr (.inr (false,())))
 |false=>
  match cn (v1.2.1,(1:Int),(16:Int),())with
  |none=>none
  |some v3=>
  match(!v3.1)with
  |true=>
   some (.inr (.inr (false,())))
  |false=>
   match vr (v1.2.2.1,(x.1.length:Int),())with
   |none=>none
   |some v4=>
   match(!v4.1)with
   |true=>
    some (.inr (.inr (false,())))
   |false=>
    match ii (v1.2.2.1,x.2.2.2.1,())with
    |none=>none
    |some v5=>
    match v5.1 with
    |true=>
     some (.inr (.inr (false,())))
    |false=>
     some (.inl (x.1,x.2.1,x.2.2.1,(IntKind.i64.wrap (x.2.2.2.1+(1:Int))),()))
|false=>
 some (.inr (.inl (x.1,())))
noncomputable def ot(x:Ty.T Us):Option (Ty.T ax):=
match ac eP (x.1,x.1,(x.1.length:Int),(0:Int),())with
|none=>none
|some (.inl v6)=>
 match(decide ((v6.1.length:Int)≥(1:Int)))with
 |true=>
  some ((decide ((v6.1.length:Int)≤(16:Int))),())
 |false=>
  some (false,())
|some (.inr v7)=>
 some (v7.1,())
noncomputable def Kr:ae:=⟨_,ax,.unit,rfl,ot⟩
noncomputable def wm:FuncId→Option ae:=bH [(74,Kl),(119,nk),(249,Ew)]
theorem Ey:∀f s,wm f=some s→FnOK G0 Tryz.prog f s:=aK ⟨du,wl,OZ,trivial⟩
def uu:aX:=⟨[0,5,6,7],nu,0,[0],Us,[2],ax⟩
noncomputable def wo:List aD:=[uu.spec eP]
theorem DK:bi bm E0 wm (be Tryz.f221 wo) Tryz.f221 0 uu eP:=fun x=>by kernel_rfl
theorem IP:FnOK G0 Tryz.prog 221 Kr:=aO ap Ey Tryz.func221 wo (by kernel_rfl) (by exact⟨(DK).lok,trivial⟩) fun x=>by kernel_rfl
noncomputable def wq(x:Ty.T aV):Option (Ty.T ax):=
match cn (x.1,(0:Int),(3:Int),())with
|none=>none
|some v1=>
some (v1.1,())
noncomputable def UF:ae:=⟨_,ax,.unit,rfl,wq⟩
theorem HD:FnOK G0 Tryz.prog 123 UF:=aq ap (sg du (aU)) Tryz.func123
noncomputable def lU(x:Ty.T bM):Option (Ty.T ax):=
match(x.1==(0:Int))with
|true=>
 match cn (x.2.1,(0:Int),(32:Int),())with
 |none=>none
 |some v1=>
 some (v1.1,())
|false=>
 match(x.1==(2:Int))with
 |true=>
  match cn (x.2.1,(1:Int),(32:Int),())with
  |none=>none
  |some v2=>
  some (v2.1,())
 |false=>
  some ((x.2.1==(0:Int)),())
noncomputable def MB:ae:=⟨_,ax,.unit,rfl,lU⟩
theorem xT:FnOK G0 Tryz.prog 124 MB:=aq ap (sg du (aU)) Tryz.func124
noncomputable def fU(x:Ty.T aV):Option (Ty.T ax):=
some ((x.1 != (0:Int)),())
noncomputable def Qw:ae:=⟨_,ax,.unit,rfl,fU⟩
theorem lj:FnOK G0 Tryz.prog 116 Qw:=aq ap aU Tryz.func116
noncomputable def jO(x:Ty.T aV):Option (Ty.T ax):=
match(x.1==(0:Int))with
|true=>
 some (true,())
|false=>
 some ((x.1==(2:Int)),())
noncomputable def Sf:ae:=⟨_,ax,.unit,rfl,jO⟩
theorem ws:FnOK G0 Tryz.prog 165 Sf:=aq ap aU Tryz.func165
noncomputable def vt(x:Ty.T bM):Option (Ty.T aV):=
match fU (x.1,())with
|none=>none
|some v1=>
match v1.1 with
|true=>
 match jO (x.1,())with
 |none=>none
 |some v2=>
 match v2.1 with
 |true=>
  some ((IntKind.i64.wrap ((IntKind.i64.wrap ((1:Int)+(8:Int)))+(IntKind.i64.wrap ((1:Int)+x.2.1)))),())
 |false=>
  some ((IntKind.i64.wrap ((1:Int)+(8:Int))),())
|false=>
 match jO (x.1,())with
 |none=>none
 |some v3=>
 match v3.1 with
 |true=>
  some ((IntKind.i64.wrap ((1:Int)+(IntKind.i64.wrap ((1:Int)+x.2.1)))),())
 |false=>
  some ((1:Int),())
noncomputable def Qx:ae:=⟨_,aV,.unit,rfl,vt⟩
theorem O0:FnOK G0 Tryz.prog 182 Qx:=aq ap (sg lj (sg ws (aU))) Tryz.func182
noncomputable def ll(x:Ty.T bM):Option (Ty.T aV):=
match vt (x.1,x.2.1,())with
|none=>none
|some v1=>
some ((IntKind.i64.wrap ((11:Int)+(IntKind.i64.wrap ((10:Int)*(IntKind.i64.wrap (v1.1+(3:Int))))))),())
noncomputable def Ks:ae:=⟨_,aV,.unit,rfl,ll⟩
theorem IQ:FnOK G0 Tryz.prog 131 Ks:=aq ap (sg O0 (aU)) Tryz.func131
noncomputable def fE(x:Ty.T Et):Option (Ty.T ax):=
match we (x.1.1,())with
|none=>none
|some v1=>
match(!v1.1)with
|true=>
 some (false,())
|false=>
 match wq (x.1.2.1,())with
 |none=>none
 |some v2=>
 match(!v2.1)with
 |true=>
  some (false,())
 |false=>
  match lU (x.1.2.1,x.1.2.2.1,())with
  |none=>none
  |some v3=>
  match(!v3.1)with
  |true=>
   some (false,())
  |false=>
   match x.1.2.2.2.2.1 with
   |true=>
    match(x.1.2.1==(3:Int))with
    |true=>
     some (false,())
    |false=>
     match ll (x.1.2.1,x.1.2.2.1,())with
     |none=>none
     |some v4=>
     match cn (x.1.2.2.2.1,(IntKind.i64.wrap (v4.1+(20:Int))),(1000:Int),())with
     |none=>none
     |some v5=>
     some (v5.1,())
   |false=>
    match ll (x.1.2.1,x.1.2.2.1,())with
    |none=>none
    |some v6=>
    match cn (x.1.2.2.2.1,(IntKind.i64.wrap (v6.1+(20:Int))),(1000:Int),())with
    |none=>none
    |some v7=>
    some (v7.1,())
noncomputable def IR:ae:=⟨_,ax,.unit,rfl,fE⟩
theorem uv:FnOK G0 Tryz.prog 77 IR:=aq ap (sg du (sg HD (sg xT (sg HB (sg IQ (aU)))))) Tryz.func77
noncomputable def lV(x:Ty.T Xf):Option (Ty.T ax):=
match cn (x.1.1,(0:Int),(15:Int),())with
|none=>none
|some v1=>
match v1.1 with
|true=>
 match cn (x.1.2.1,(0:Int),(7:Int),())with
 |none=>none
 |some v2=>
 match v2.1 with
 |true=>
  match cn (x.1.2.2.1,(0:Int),(15:Int),())with
  |none=>none
  |some v3=>
  match v3.1 with
  |true=>
   match fE ((x.1.2.2.2.1.1,x.1.2.2.2.1.2.1,x.1.2.2.2.1.2.2.1,x.1.2.2.2.1.2.2.2.1,x.1.2.2.2.1.2.2.2.2.1,()),())with
   |none=>none
   |some v4=>
   some (v4.1,())
  |false=>
   some (false,())
 |false=>
  some (false,())
|false=>
 some (false,())
noncomputable def zz:ae:=⟨_,ax,.unit,rfl,lV⟩
theorem Kt:FnOK G0 Tryz.prog 250 zz:=aq ap (sg du (sg uv (aU))) Tryz.func250
noncomputable def pr(x:Ty.T bM):Option (Ty.T aV):=
match(decide (x.1<x.2.1))with
|true=>
 some ((-1:Int),())
|false=>
 match(decide (x.1>x.2.1))with
 |true=>
  some ((1:Int),())
 |false=>
  some ((0:Int),())
noncomputable def Sg:ae:=⟨_,aV,.unit,rfl,pr⟩
theorem Qy:FnOK G0 Tryz.prog 260 Sg:=aq ap aU Tryz.func260
noncomputable def jf(x:Ty.T ZO):Option (Ty.T aV):=
match(x.1.1 != x.2.1.1)with
|true=>
 match pr (x.1.1,x.2.1.1,())with
 |none=>none
 |some v1=>
 some (v1.1,())
|false=>
 match(x.1.2.1 != x.2.1.2.1)with
 |true=>
  match pr (x.1.2.1,x.2.1.2.1,())with
  |none=>none
  |some v2=>
  some (v2.1,())
 |false=>
  match pr (x.1.2.2.1,x.2.1.2.2.1,())with
  |none=>none
  |some v3=>
  some (v3.1,())
noncomputable def oL:ae:=⟨_,aV,.unit,rfl,jf⟩
theorem uw:FnOK G0 Tryz.prog 251 oL:=aq ap (sg Qy (aU)) Tryz.func251
abbrev nv:Ty:=(.pair (.list ao) (.pair (.list ao) bM))
noncomputable def eR(x:(Ty.T nv)):Option ((Ty.T nv) ⊕ ((Ty.T Qq) ⊕ (Ty.T ax))):=
match(decide (x.2.2.2.1<x.2.2.1))with
|true=>
 ab (av x.2.1 x.2.2.2.1) fun v1=>
 match lV ((v1.1,v1.2.1,v1.2.2.1,(v1.2.2.2.1.1,v1.2.2.2.1.2.1,v1.2.2.2.1.2.2.1,v1.2.2.2.1.2.2.2.1,v1.2.2.2.1.2.2.2.2.1,()),()),())with
 |none=>none
 |some v2=>
 match(!v2.1)with
 |true=>
  some (.inr (.inr (false,())))
 |false=>
  match(decide (x.2.2.2.1>(0:Int)))with
  |true=>
   ab (av x.1 (IntKind.i64.wrap (x.2.2.2.1-(1:Int)))) fun v3=>
   match jf (v3,(v1.1,v1.2.1,v1.2.2.1,(v1.2.2.2.1.1,v1.2.2.2.1.2.1,v1.2.2.2.1.2.2.1,v1.2.2.2.1.2.2.2.1,v1.2.2.2.1.2.2.2.2.1,()),()),())with
   |none=>none
   |some v4=>
   match(decide (v4.1≥(0:Int)))with
   |true=>
    some (.inr (.inr (false,())))
   |false=>
    some (.inl (x.1,x.2.1,x.2.2.1,(IntKind.i64.wrap (x.2.2.2.1+(1:Int))),()))
  |false=>
   some (.inl (x.1,x.2.1,x.2.2.1,(IntKind.i64.wrap (x.2.2.2.1+(1:Int))),()))
|false=>
 some (.inr (.inl (x.1,())))
noncomputable def ou(x:Ty.T Qq):Option (Ty.T ax):=
match ac eR (x.1,x.1,(x.1.length:Int),(0:Int),())with
|none=>none
|some (.inl v5)=>
 some ((decide ((v5.1.length:Int)≤(120:Int))),())
|some (.inr v6)=>
 some (v6.1,())
noncomputable def Ku:ae:=⟨_,ax,.unit,rfl,ou⟩
noncomputable def wt:FuncId→Option ae:=bH [(250,zz),(251,oL)]
theorem Ez:∀f s,wt f=some s→FnOK G0 Tryz.prog f s:=aK ⟨Kt,uw,trivial⟩
def ux:aX:=⟨[0,5,6,7],nv,0,[0],Qq,[2],ax⟩
noncomputable def wu:List aD:=[ux.spec eR]
theorem DL:bi bm E0 wt (be Tryz.f222 wu) Tryz.f222 0 ux eR:=fun x=>by kernel_rfl
theorem IU:FnOK G0 Tryz.prog 222 Ku:=aO ap Ez Tryz.func222 wu (by kernel_rfl) (by exact⟨(DL).lok,trivial⟩) fun x=>by kernel_rfl
abbrev oM:Ty:=(.pair (.box ar) (.pair (.int .i64) (.pair (.int .i64) (.pair (.box aG) (.pair (.list aG) bl)))))
abbrev wv:Ty:=Z8
noncomputable def eh(x:(Ty.T oM)):Option ((Ty.T oM) ⊕ ((Ty.T wv) ⊕ (Ty.T ax))):=
match(decide (x.2.2.2.2.2.2.2.2.1<x.2.2.2.2.2.2.2.1))with
|true=>
 match(x.2.1==(x.1.2.2.2.1.length:Int))with
 |true=>
  some (.inr (.inr (false,())))
 |false=>
  ab (av x.1.2.2.2.1 x.2.1) fun v2=>
  if x.2.2.2.1.2.1=0 then none else
  if x.2.2.2.1.2.1=0 then none else
  match jf (v2,(x.2.2.1,(IntKind.i64.wrap (Int.tdiv x.2.2.2.2.2.2.2.2.1 x.2.2.2.1.2.1)),(Int.tmod x.2.2.2.2.2.2.2.2.1 x.2.2.2.1.2.1),((0:Int),(0:Int),(0:Int),(0:Int),false,()),()),())with
  |none=>none
  |some v3=>
  match(v3.1 != (0:Int))with
  |true=>
   some (.inr (.inr (false,())))
  |false=>
   some (.inl ((x.1.1,x.1.2.1,x.1.2.2.1,x.1.2.2.2.1,()),(IntKind.i64.wrap (x.2.1+(1:Int))),x.2.2.1,(x.2.2.2.1.1,x.2.2.2.1.2.1,x.2.2.2.1.2.2.1,()),x.2.2.2.2.1,x.2.2.2.2.2.1,x.2.2.2.2.2.2.1,x.2.2.2.2.2.2.2.1,(IntKind.i64.wrap (x.2.2.2.2.2.2.2.2.1+(1:Int))),()))
|false=>
 some (.inr (.inl ((x.1.1,x.1.2.1,x.1.2.2.1,x.1.2.2.2.1,()),x.2.1,x.2.2.2.2.1,x.2.2.2.2.2.1,x.2.2.2.2.2.2.1,())))
abbrev oN:Ty:=Z8
abbrev ww:Ty:=Uw
noncomputable def dD(x:(Ty.T oN)):Option ((Ty.T oN) ⊕ ((Ty.T ww) ⊕ (Ty.T ax))):=
match(decide (x.2.2.2.2.1<x.2.2.2.1))with
|true=>
 ab (av x.2.2.1 x.2.2.2.2.1) fun v1=>
 match ac eh ((x.1.1,x.1.2.1,x.1.2.2.1,x.1.2.2.2.1,()),x.2.1,x.2.2.2.2.1,(v1.1,v1.2.1,v1.2.2.1,()),x.2.2.1,x.2.2.2.1,x.2.2.2.2.1,(IntKind.i64.wrap (v1.1*v1.2.1)),(0:Int),())with
 |none=>none
 |some (.inl v2)=>
  some (.inl ((v2.1.1,v2.1.2.1,v2.1.2.2.1,v2.1.2.2.2.1,()),v2.2.1,v2.2.2.1,v2.2.2.2.1,(IntKind.i64.wrap (v2.2.2.2.2.1+(1:Int))),()))
 |some (.inr v3)=>
  some (.inr (.inr (v3.1,())))
|false=>
 some (.inr (.inl ((x.1.1,x.1.2.1,x.1.2.2.1,x.1.2.2.2.1,()),x.2.1,())))
noncomputable def lW(x:Ty.T qU):Option (Ty.T ax):=
match ac dD ((x.1.1,x.1.2.1,x.1.2.2.1,x.1.2.2.2.1,()),(0:Int),x.1.2.2.1,(x.1.2.2.1.length:Int),(0:Int),())with
|none=>none
|some (.inl v4)=>
 some ((v4.2.1==(v4.1.2.2.2.1.length:Int)),())
|some (.inr v5)=>
 some (v5.1,())
noncomputable def MC:ae:=⟨_,ax,.unit,rfl,lW⟩
noncomputable def pW:FuncId→Option ae:=bH [(251,oL)]
theorem GV:∀f s,pW f=some s→FnOK G0 Tryz.prog f s:=aK ⟨uw,trivial⟩
def wA:aX:=⟨[1,3,8,9,10],oN,0,[1,3],ww,[2],ax⟩
def wB:aX:=⟨[1,3,4,5,8,9,10,19,20],oM,2,[1,3,8,9,10],wv,[2],ax⟩
noncomputable def pX:List aD:=[wA.spec dD,wB.spec eh]
theorem EA:bi bm E0 pW (be Tryz.f223 pX) Tryz.f223 0 wA dD:=fun x=>by kernel_rfl
theorem EB:bi bm E0 pW (be Tryz.f223 pX) Tryz.f223 1 wB eh:=fun x=>by kernel_rfl
theorem Kv:FnOK G0 Tryz.prog 223 MC:=aO ap GV Tryz.func223 pX (by kernel_rfl) (by exact⟨(EA).lok,(EB).lok,trivial⟩) fun x=>by kernel_rfl
abbrev gz:Ty:=(.pair (.list ao) (.pair (.fn (.pair ao .unit) (.pair .bool .unit)) bM))
noncomputable def ca(x:(Ty.T gz)):Option ((Ty.T gz) ⊕ ((Ty.T .unit) ⊕ (Ty.T aV))):=
match(decide (x.2.2.2.1<x.2.2.1))with
|true=>
 ab (av x.1 x.2.2.2.1) fun v1=>
 match x.2.1 (v1,())with
 |none=>none
 |some v2=>
 match v2.1 with
 |true=>
  some (.inr (.inr (x.2.2.2.1,())))
 |false=>
  some (.inl (x.1,x.2.1,x.2.2.1,(IntKind.i64.wrap (x.2.2.2.1+(1:Int))),()))
|false=>
 some (.inr (.inl (())))
noncomputable def dg(x:Ty.T aad):Option (Ty.T aV):=
match ac ca (x.1,x.2.1,(x.1.length:Int),(0:Int),())with
|none=>none
|some (.inl v3)=>
 some ((-1:Int),())
|some (.inr v4)=>
 some (v4.1,())
noncomputable def sB:ae:=⟨_,aV,.unit,rfl,dg⟩
noncomputable def kA:FuncId→Option ae:=bH []
theorem pY:∀f s,kA f=some s→FnOK G0 Tryz.prog f s:=aK trivial
def kq:aX:=⟨[0,1,7,8],gz,0,[],.unit,[4],aV⟩
noncomputable def kB:List aD:=[kq.spec ca]
theorem pK:bi bm E0 kA (be Tryz.f169 kB) Tryz.f169 0 kq ca:=fun x=>by kernel_rfl
theorem kC:FnOK G0 Tryz.prog 169 sB:=aO ap pY Tryz.func169 kB (by kernel_rfl) (by exact⟨(pK).lok,trivial⟩) fun x=>by kernel_rfl
noncomputable def cg(x:Ty.T aad):Option (Ty.T ax):=
match dg (x.1,x.2.1,())with
|none=>none
|some v1=>
some ((decide (v1.1≥(0:Int))),())
noncomputable def pZ:ae:=⟨_,ax,.unit,rfl,cg⟩
theorem pL:FnOK G0 Tryz.prog 224 pZ:=aq ap (sg kC (aU)) Tryz.func224
noncomputable def p4(x:Ty.T (.pair ao (.pair (.ptr (.int .i64)) (.pair (.ptr (.int .i64)) (.pair (.ptr (.int .i64)) .unit))))):Option (Ty.T ax):=
match(x.1.1==x.2.1)with
|true=>
 match(x.1.2.1==x.2.2.1)with
 |true=>
  some ((x.1.2.2.1==x.2.2.2.1),())
 |false=>
  some (false,())
|false=>
 some (false,())
noncomputable def MD:ae:=⟨_,ax,.unit,rfl,p4⟩
theorem Kw:FnOK G0 Tryz.prog 170 MD:=aq ap aU Tryz.func170
noncomputable def mU(x:Ty.T ZV):Option (Ty.T aV):=
match dg (x.1,(fun z=>p4 (z.1,x.2.1,x.2.2.1,x.2.2.2.1,())),())with
|none=>none
|some v1=>
some (v1.1,())
noncomputable def EC:ae:=⟨_,aV,.unit,rfl,mU⟩
theorem Cq:FnOK G0 Tryz.prog 113 EC:=aq ap (sg kC (sg Kw (aU))) Tryz.func113
abbrev qY:Ty:=(.pair (.box ar) (.pair (.list ao) bM))
noncomputable def gG(x:(Ty.T qY)):Option ((Ty.T qY) ⊕ ((Ty.T .unit) ⊕ (Ty.T ax))):=
match(decide (x.2.2.2.1<x.2.2.1))with
|true=>
 ab (av x.2.1 x.2.2.2.1) fun v1=>
 an (
  match mU (x.1.2.2.2.1,v1.1,(0:Int),v1.2.2.1,())with
  |none=>none
  |some v2=>
  ab (av x.1.2.2.2.1 v2.1) fun v3=>
  match(v1.2.2.2.1.2.2.2.1 != v3.2.2.2.1.2.2.2.1)with
  |true=>
   some (.inr (.inr (false,())))
  |false=>
   some (.inl ((x.1.1,x.1.2.1,x.1.2.2.1,x.1.2.2.2.1,()),x.2.1,x.2.2.1,(IntKind.i64.wrap (x.2.2.2.1+(1:Int))),())))
|false=>
 some (.inr (.inl (())))
noncomputable def p5(x:Ty.T qU):Option (Ty.T ax):=
match ac gG ((x.1.1,x.1.2.1,x.1.2.2.1,x.1.2.2.2.1,()),x.1.2.2.2.1,(x.1.2.2.2.1.length:Int),(0:Int),())with
|none=>none
|some (.inl v4)=>
 some (true,())
|some (.inr v5)=>
 some (v5.1,())
noncomputable def Qz:ae:=⟨_,ax,.unit,rfl,p5⟩
noncomputable def Cr:FuncId→Option ae:=bH [(113,EC)]
theorem Kx:∀f s,Cr f=some s→FnOK G0 Tryz.prog f s:=aK ⟨Cq,trivial⟩
def zA:aX:=⟨[1,7,8,9],qY,0,[],.unit,[2],ax⟩
noncomputable def Cs:List aD:=[zA.spec gG]
theorem IV:bi bm E0 Cr (be Tryz.f225 Cs) Tryz.f225 0 zA gG:=fun x=>by kernel_rfl
theorem O1:FnOK G0 Tryz.prog 225 Qz:=aO ap Kx Tryz.func225 Cs (by kernel_rfl) (by exact⟨(IV).lok,trivial⟩) fun x=>by kernel_rfl
abbrev lZ:Ty:=(.pair (.int .i64) (.pair (.list ao) bM))
noncomputable def ej(x:(Ty.T lZ)):Option ((Ty.T lZ) ⊕ ((Ty.T aV) ⊕ (Ty.T .unit))):=
match(decide (x.2.2.2.1<x.2.2.1))with
|true=>
 ab (av x.2.1 x.2.2.2.1) fun v1=>
 some (.inl ((IntKind.i64.wrap (x.1+v1.2.2.2.1.2.2.2.1)),x.2.1,x.2.2.1,(IntKind.i64.wrap (x.2.2.2.1+(1:Int))),()))
|false=>
 some (.inr (.inl (x.1,())))
noncomputable def mV(x:Ty.T Qq):Option (Ty.T aV):=
match ac ej ((0:Int),x.1,(x.1.length:Int),(0:Int),())with
|none=>none
|some (.inl v2)=>
 some (v2.1,())
|some (.inr v4)=>
 none
noncomputable def wC:ae:=⟨_,aV,.unit,rfl,mV⟩
noncomputable def uy:FuncId→Option ae:=bH []
theorem DM:∀f s,uy f=some s→FnOK G0 Tryz.prog f s:=aK trivial
def sC:aX:=⟨[3,6,7,8],lZ,0,[3],aV,[],.unit⟩
noncomputable def uA:List aD:=[sC.spec ej]
theorem Bv:bi bm E0 uy (be Tryz.f252 uA) Tryz.f252 0 sC ej:=fun x=>by kernel_rfl
theorem GX:FnOK G0 Tryz.prog 252 wC:=aO ap DM Tryz.func252 uA (by kernel_rfl) (by exact⟨(Bv).lok,trivial⟩) fun x=>by kernel_rfl
abbrev p6:Ty:=(.pair (.int .i64) (.pair (.own 116 ao) (.pair (.list ao) bM)))
noncomputable def fV(x:(Ty.T p6)):Option ((Ty.T p6) ⊕ ((Ty.T Uu) ⊕ (Ty.T .unit))):=
match(decide (x.2.2.2.2.1<x.2.2.2.1))with
|true=>
 ab (av x.2.2.1 x.2.2.2.2.1) fun v1=>
 match(v1.1==x.1)with
 |true=>
  aH (x.2.1.length+ [(v1.1,v1.2.1,v1.2.2.1,(v1.2.2.2.1.1,v1.2.2.2.1.2.1,v1.2.2.2.1.2.2.1,v1.2.2.2.1.2.2.2.1,v1.2.2.2.1.2.2.2.2.1,()),())].length) (
   some (.inl (x.1,(x.2.1++ [(v1.1,v1.2.1,v1.2.2.1,(v1.2.2.2.1.1,v1.2.2.2.1.2.1,v1.2.2.2.1.2.2.1,v1.2.2.2.1.2.2.2.1,v1.2.2.2.1.2.2.2.2.1,()),())]),x.2.2.1,x.2.2.2.1,(IntKind.i64.wrap (x.2.2.2.2.1+(1:Int))),())))
 |false=>
  some (.inl (x.1,x.2.1,x.2.2.1,x.2.2.2.1,(IntKind.i64.wrap (x.2.2.2.2.1+(1:Int))),()))
|false=>
 some (.inr (.inl (x.2.1,())))
noncomputable def nU(x:Ty.T ZN):Option (Ty.T Uu):=
match ac fV (x.2.1,[],x.1.2.2.2.1,(x.1.2.2.2.1.length:Int),(0:Int),())with
|none=>none
|some (.inl v2)=>
 some (v2.1,())
|some (.inr v4)=>
 none
noncomputable def Ct:ae:=⟨_,Uu,.unit,rfl,nU⟩
noncomputable def zB:FuncId→Option ae:=bH []
theorem IW:∀f s,zB f=some s→FnOK G0 Tryz.prog f s:=aK trivial
def xU:aX:=⟨[1,5,10,11,12],p6,0,[5],Uu,[],.unit⟩
noncomputable def zC:List aD:=[xU.spec fV]
theorem GY:bi bm E0 zB (be Tryz.f253 zC) Tryz.f253 0 xU fV:=fun x=>by kernel_rfl
theorem ME:FnOK G0 Tryz.prog 253 Ct:=aO ap IW Tryz.func253 zC (by kernel_rfl) (by exact⟨(GY).lok,trivial⟩) fun x=>by kernel_rfl
noncomputable def io(x:(Ty.T un)):Option ((Ty.T un) ⊕ ((Ty.T .unit) ⊕ (Ty.T ax))):=
match(decide (x.2.2.1<x.2.1))with
|true=>
 match nU ((x.1.1,x.1.2.1,x.1.2.2.1,x.1.2.2.2.1,()),x.2.2.1,())with
 |none=>none
 |some v1=>
 match mV (v1.1,())with
 |none=>none
 |some v2=>
 match(decide (v2.1>(32000:Int)))with
 |true=>
  some (.inr (.inr (false,())))
 |false=>
  some (.inl ((x.1.1,x.1.2.1,x.1.2.2.1,x.1.2.2.2.1,()),x.2.1,(IntKind.i64.wrap (x.2.2.1+(1:Int))),()))
|false=>
 some (.inr (.inl (())))
noncomputable def sD(x:Ty.T qU):Option (Ty.T ax):=
match ac io ((x.1.1,x.1.2.1,x.1.2.2.1,x.1.2.2.2.1,()),(x.1.2.2.1.length:Int),(0:Int),())with
|none=>none
|some (.inl v3)=>
 some (true,())
|some (.inr v4)=>
 some (v4.1,())
noncomputable def Sh:ae:=⟨_,ax,.unit,rfl,sD⟩
noncomputable def ED:FuncId→Option ae:=bH [(252,wC),(253,Ct)]
theorem MF:∀f s,ED f=some s→FnOK G0 Tryz.prog f s:=aK ⟨GX,ME,trivial⟩
def Cu:aX:=⟨[1,6,7],un,0,[],.unit,[2],ax⟩
noncomputable def EE:List aD:=[Cu.spec io]
theorem Ky:bi bm E0 ED (be Tryz.f226 EE) Tryz.f226 0 Cu io:=fun x=>by kernel_rfl
theorem QA:FnOK G0 Tryz.prog 226 Sh:=aO ap MF Tryz.func226 EE (by kernel_rfl) (by exact⟨(Ky).lok,trivial⟩) fun x=>by kernel_rfl
abbrev tH:Ty:=(.pair (.box ar) (.pair (.int .i64) (.pair (.int .i64) (.pair (.int .i64) (.pair (.list aG) (.pair (.int .i64) (.pair (.int .i64) (.pair (.int .i64) (.pair (.int .i64) (.pair (.list ao) bM))))))))))
abbrev Cv:Ty:=(.pair (.box ar) (.pair (.int .i64) (.pair (.int .i64) (.pair (.list aG) bl))))
noncomputable def fv(x:(Ty.T tH)):Option ((Ty.T tH) ⊕ ((Ty.T Cv) ⊕ (Ty.T .unit))):=
match(decide (x.2.2.2.2.2.2.2.2.2.2.2.1<x.2.2.2.2.2.2.2.2.2.2.1))with
|true=>
 ab (av x.2.2.2.2.2.2.2.2.2.1 x.2.2.2.2.2.2.2.2.2.2.2.1) fun v2=>
 match(v2.1==x.2.1)with
 |true=>
  match(v2.2.1==x.2.2.1)with
  |true=>
   if v2.2.2.2.1.1<0 then none else
   some (.inl ((x.1.1,x.1.2.1,x.1.2.2.1,x.1.2.2.2.1,()),x.2.1,x.2.2.1,(bits BinOp.or .i64 x.2.2.2.1 (IntKind.i64.wrap ((1:Int)*2^min v2.2.2.2.1.1.toNat IntKind.i64.bits))),x.2.2.2.2.1,x.2.2.2.2.2.1,x.2.2.2.2.2.2.1,x.2.2.2.2.2.2.2.1,x.2.2.2.2.2.2.2.2.1,x.2.2.2.2.2.2.2.2.2.1,x.2.2.2.2.2.2.2.2.2.2.1,(IntKind.i64.wrap (x.2.2.2.2.2.2.2.2.2.2.2.1+(1:Int))),()))
  |false=>
   some (.inl ((x.1.1,x.1.2.1,x.1.2.2.1,x.1.2.2.2.1,()),x.2.1,x.2.2.1,x.2.2.2.1,x.2.2.2.2.1,x.2.2.2.2.2.1,x.2.2.2.2.2.2.1,x.2.2.2.2.2.2.2.1,x.2.2.2.2.2.2.2.2.1,x.2.2.2.2.2.2.2.2.2.1,x.2.2.2.2.2.2.2.2.2.2.1,(IntKind.i64.wrap (x.2.2.2.2.2.2.2.2.2.2.2.1+(1:Int))),()))
 |false=>
  some (.inl ((x.1.1,x.1.2.1,x.1.2.2.1,x.1.2.2.2.1,()),x.2.1,x.2.2.1,x.2.2.2.1,x.2.2.2.2.1,x.2.2.2.2.2.1,x.2.2.2.2.2.2.1,x.2.2.2.2.2.2.2.1,x.2.2.2.2.2.2.2.2.1,x.2.2.2.2.2.2.2.2.2.1,x.2.2.2.2.2.2.2.2.2.2.1,(IntKind.i64.wrap (x.2.2.2.2.2.2.2.2.2.2.2.1+(1:Int))),()))
|false=>
 some (.inr (.inl ((x.1.1,x.1.2.1,x.1.2.2.1,x.1.2.2.2.1,()),x.2.1,x.2.2.2.1,x.2.2.2.2.1,x.2.2.2.2.2.1,x.2.2.2.2.2.2.1,x.2.2.2.2.2.2.2.1,x.2.2.2.2.2.2.2.2.1,())))
abbrev tI:Ty:=(.pair (.box ar) (.pair (.int .i64) (.pair (.list aG) bl)))
abbrev Cw:Ty:=ZW
noncomputable def gp(x:(Ty.T tI)):Option ((Ty.T tI) ⊕ ((Ty.T Cw) ⊕ (Ty.T ax))):=
match(decide (x.2.2.2.2.2.2.1<x.2.2.2.2.2.1))with
|true=>
 match ac fv ((x.1.1,x.1.2.1,x.1.2.2.1,x.1.2.2.2.1,()),x.2.1,x.2.2.2.2.2.2.1,(0:Int),x.2.2.1,x.2.2.2.1,x.2.2.2.2.1,x.2.2.2.2.2.1,x.2.2.2.2.2.2.1,x.1.2.2.2.1,(x.1.2.2.2.1.length:Int),(0:Int),())with
 |none=>none
 |some (.inl v2)=>
  match je (v2.1.2.1,())with
  |none=>none
  |some v4=>
  match((bits BinOp.andNot .i64 v4.1 v2.2.2.1) != (0:Int))with
  |true=>
   some (.inr (.inr (false,())))
  |false=>
   some (.inl ((v2.1.1,v2.1.2.1,v2.1.2.2.1,v2.1.2.2.2.1,()),v2.2.1,v2.2.2.2.1,v2.2.2.2.2.1,v2.2.2.2.2.2.1,v2.2.2.2.2.2.2.1,(IntKind.i64.wrap (v2.2.2.2.2.2.2.2.1+(1:Int))),()))
 |some (.inr v5)=>
  none
|false=>
 some (.inr (.inl ((x.1.1,x.1.2.1,x.1.2.2.1,x.1.2.2.2.1,()),x.2.2.1,x.2.2.2.1,x.2.2.2.2.1,())))
abbrev tJ:Ty:=ZW
noncomputable def ip(x:(Ty.T tJ)):Option ((Ty.T tJ) ⊕ ((Ty.T .unit) ⊕ (Ty.T ax))):=
match(decide (x.2.2.2.1<x.2.2.1))with
|true=>
 ab (av x.2.1 x.2.2.2.1) fun v1=>
 match ac gp ((x.1.1,x.1.2.1,x.1.2.2.1,x.1.2.2.2.1,()),x.2.2.2.1,x.2.1,x.2.2.1,x.2.2.2.1,v1.1,(0:Int),())with
 |none=>none
 |some (.inl v2)=>
  some (.inl ((v2.1.1,v2.1.2.1,v2.1.2.2.1,v2.1.2.2.2.1,()),v2.2.1,v2.2.2.1,(IntKind.i64.wrap (v2.2.2.2.1+(1:Int))),()))
 |some (.inr v3)=>
  some (.inr (.inr (v3.1,())))
|false=>
 some (.inr (.inl (())))
noncomputable def sE(x:Ty.T qU):Option (Ty.T ax):=
match ac ip ((x.1.1,x.1.2.1,x.1.2.2.1,x.1.2.2.2.1,()),x.1.2.2.1,(x.1.2.2.1.length:Int),(0:Int),())with
|none=>none
|some (.inl v4)=>
 some (true,())
|some (.inr v5)=>
 some (v5.1,())
noncomputable def Si:ae:=⟨_,ax,.unit,rfl,sE⟩
noncomputable def p7:FuncId→Option ae:=bH [(172,wd)]
theorem MG:∀f s,p7 f=some s→FnOK G0 Tryz.prog f s:=aK ⟨ns,trivial⟩
def Cy:aX:=⟨[1,10,11,12],tJ,0,[],.unit,[2],ax⟩
def Cz:aX:=⟨[1,3,10,11,12,18,19],tI,2,[1,10,11,12],Cw,[2],ax⟩
def CA:aX:=⟨[1,3,5,6,10,11,12,18,19,23,24,25],tH,4,[1,3,6,10,11,12,18,19],Cv,[],.unit⟩
noncomputable def p8:List aD:=[Cy.spec ip,Cz.spec gp,CA.spec fv]
theorem Kz:bi bm E0 p7 (be Tryz.f227 p8) Tryz.f227 0 Cy ip:=fun x=>by kernel_rfl
theorem KA:bi bm E0 p7 (be Tryz.f227 p8) Tryz.f227 1 Cz gp:=fun x=>by kernel_rfl
theorem KB:bi bm E0 p7 (be Tryz.f227 p8) Tryz.f227 2 CA fv:=fun x=>by kernel_rfl
theorem QB:FnOK G0 Tryz.prog 227 Si:=aO ap MG Tryz.func227 p8 (by kernel_rfl) (by exact⟨(Kz).lok,(KA).lok,(KB).lok,trivial⟩) fun x=>by kernel_rfl
noncomputable def l0(x:Ty.T qU):Option (Ty.T aV):=
match cn (x.1.1,(1:Int),(16777215:Int),())with
|none=>none
|some v1=>
match(!v1.1)with
|true=>
 some ((1:Int),())
|false=>
 match oq (x.1.2.1,())with
 |none=>none
 |some v2=>
 match(!v2.1)with
 |true=>
  some ((2:Int),())
 |false=>
  match ot (x.1.2.2.1,())with
  |none=>none
  |some v3=>
  match(!v3.1)with
  |true=>
   some ((3:Int),())
  |false=>
   match ou (x.1.2.2.2.1,())with
   |none=>none
   |some v4=>
   match(!v4.1)with
   |true=>
    some ((4:Int),())
   |false=>
    match lW ((x.1.1,x.1.2.1,x.1.2.2.1,x.1.2.2.2.1,()),())with
    |none=>none
    |some v5=>
    match(!v5.1)with
    |true=>
     some ((5:Int),())
    |false=>
     match cg (x.1.2.2.2.1,(fun z=>mR (z.1,(x.1.1,x.1.2.1,x.1.2.2.1,x.1.2.2.2.1,()),())),())with
     |none=>none
     |some v6=>
     match v6.1 with
     |true=>
      some ((6:Int),())
     |false=>
      match p5 ((x.1.1,x.1.2.1,x.1.2.2.1,x.1.2.2.2.1,()),())with
      |none=>none
      |some v7=>
      match(!v7.1)with
      |true=>
       some ((7:Int),())
      |false=>
       match sD ((x.1.1,x.1.2.1,x.1.2.2.1,x.1.2.2.2.1,()),())with
       |none=>none
       |some v8=>
       match(!v8.1)with
       |true=>
        some ((8:Int),())
       |false=>
        match sE ((x.1.1,x.1.2.1,x.1.2.2.1,x.1.2.2.2.1,()),())with
        |none=>none
        |some v9=>
        match(!v9.1)with
        |true=>
         some ((9:Int),())
        |false=>
         match cg (x.1.2.2.2.1,mS,())with
         |none=>none
         |some v10=>
         match v10.1 with
         |true=>
          some ((10:Int),())
         |false=>
          some ((0:Int),())
noncomputable def MH:ae:=⟨_,aV,.unit,rfl,l0⟩
theorem KC:FnOK G0 Tryz.prog 171 MH:=aq ap (sg du (sg GT (sg GU (sg IM (sg IP (sg IU (sg Kv (sg pL (sg O1 (sg QA (sg QB (aU)))))))))))) Tryz.func171
noncomputable def iq(x:Ty.T qU):Option (Ty.T ax):=
match l0 ((x.1.1,x.1.2.1,x.1.2.2.1,x.1.2.2.2.1,()),())with
|none=>none
|some v1=>
some ((v1.1==(0:Int)),())
noncomputable def UG:ae:=⟨_,ax,.unit,rfl,iq⟩
theorem HE:FnOK G0 Tryz.prog 114 UG:=aq ap (sg KC (aU)) Tryz.func114
noncomputable def Bw(x:Ty.T aV):Option (Ty.T ax):=
match cn (x.1,(0:Int),(4294967295:Int),())with
|none=>none
|some v1=>
some (v1.1,())
noncomputable def QC:ae:=⟨_,ax,.unit,rfl,Bw⟩
theorem O2:FnOK G0 Tryz.prog 178 QC:=aq ap (sg du (aU)) Tryz.func178
noncomputable def fF(x:Ty.T yU):Option (Ty.T ax):=
match cn (x.1.1,(0:Int),(65535:Int),())with
|none=>none
|some v1=>
match v1.1 with
|true=>
 match cn (x.1.2.1,(0:Int),(15:Int),())with
 |none=>none
 |some v2=>
 match v2.1 with
 |true=>
  match cn (x.1.2.2.1,(0:Int),(15:Int),())with
  |none=>none
  |some v3=>
  match v3.1 with
  |true=>
   match cn (x.1.2.2.2.1,(0:Int),(255:Int),())with
   |none=>none
   |some v4=>
   match v4.1 with
   |true=>
    match Bw (x.1.2.2.2.2.1,())with
    |none=>none
    |some v5=>
    some (v5.1,())
   |false=>
    some (false,())
  |false=>
   some (false,())
 |false=>
  some (false,())
|false=>
 some (false,())
noncomputable def Sj:ae:=⟨_,ax,.unit,rfl,fF⟩
theorem wD:FnOK G0 Tryz.prog 125 Sj:=aq ap (sg du (sg O2 (aU))) Tryz.func125
noncomputable def i7(x:Ty.T yV):Option (Ty.T ax):=
match fF ((x.2.1.1,x.2.1.2.1,x.2.1.2.2.1,x.2.1.2.2.2.1,x.2.1.2.2.2.2.1,()),())with
|none=>none
|some v1=>
match(!v1.1)with
|true=>
 some (false,())
|false=>
 match(decide (x.2.1.2.1≥(x.1.2.2.1.length:Int)))with
 |true=>
  some (false,())
 |false=>
  ab (av x.1.2.2.1 x.2.1.2.1) fun v2=>
  match(decide (x.2.1.2.2.1<v2.1))with
  |true=>
   match(decide (x.2.1.2.2.2.1<v2.2.1))with
   |true=>
    match je (x.1.2.1,())with
    |none=>none
    |some v3=>
    some (((bits BinOp.andNot .i64 x.2.1.2.2.2.2.1 v3.1)==(0:Int)),())
   |false=>
    some (false,())
  |false=>
   some (false,())
noncomputable def Sk:ae:=⟨_,ax,.unit,rfl,i7⟩
theorem EF:FnOK G0 Tryz.prog 115 Sk:=aq ap (sg wD (sg ns (aU))) Tryz.func115
noncomputable def fW(x:Ty.T yV):Option (Ty.T aV):=
match iq ((x.1.1,x.1.2.1,x.1.2.2.1,x.1.2.2.2.1,()),())with
|none=>none
|some v1=>
match(!v1.1)with
|true=>
 some ((1:Int),())
|false=>
 match i7 ((x.1.1,x.1.2.1,x.1.2.2.1,x.1.2.2.2.1,()),(x.2.1.1,x.2.1.2.1,x.2.1.2.2.1,x.2.1.2.2.2.1,x.2.1.2.2.2.2.1,()),())with
 |none=>none
 |some v2=>
 match(!v2.1)with
 |true=>
  some ((2:Int),())
 |false=>
  some ((0:Int),())
noncomputable def QD:ae:=⟨_,aV,.unit,rfl,fW⟩
theorem tK:FnOK G0 Tryz.prog 68 QD:=aq ap (sg HE (sg EF (aU))) Tryz.func68
noncomputable def lm(x:Ty.T (.pair ar (.pair ak (.pair .bool .unit)))):Option (Ty.T aV):=
match fW ((x.1.1,x.1.2.1,x.1.2.2.1,x.1.2.2.2.1,()),(x.2.1.1,x.2.1.2.1,x.2.1.2.2.1,x.2.1.2.2.2.1,x.2.1.2.2.2.2.1,()),())with
|none=>none
|some v1=>
match(v1.1 != (0:Int))with
|true=>
 some (v1.1,())
|false=>
 match(!x.2.2.1)with
 |true=>
  some ((2:Int),())
 |false=>
  some ((0:Int),())
noncomputable def KD:ae:=⟨_,aV,.unit,rfl,lm⟩
theorem wE:FnOK G0 Tryz.prog 45 KD:=aq ap (sg tK (aU)) Tryz.func45
abbrev p9:Ty:=(.pair (.int .i64) (.pair (.int .i64) (.pair (.list (.int .i64)) bM)))
noncomputable def cT(x:(Ty.T p9)):Option ((Ty.T p9) ⊕ ((Ty.T .unit) ⊕ (Ty.T ax))):=
match(decide (x.2.2.2.2.1<x.2.2.2.1))with
|true=>
 ab (av x.2.2.1 x.2.2.2.2.1) fun v1=>
 match(decide (v1<x.1))with
 |true=>
  some (.inr (.inr (false,())))
 |false=>
  match(decide (v1>x.2.1))with
  |true=>
   some (.inr (.inr (false,())))
  |false=>
   some (.inl (x.1,x.2.1,x.2.2.1,x.2.2.2.1,(IntKind.i64.wrap (x.2.2.2.2.1+(1:Int))),()))
|false=>
 some (.inr (.inl (())))
noncomputable def kg(x:Ty.T qM):Option (Ty.T ax):=
match ac cT (x.2.1,x.2.2.1,x.1,(x.1.length:Int),(0:Int),())with
|none=>none
|some (.inl v2)=>
 some (true,())
|some (.inr v3)=>
 some (v3.1,())
noncomputable def O3:ae:=⟨_,ax,.unit,rfl,kg⟩
noncomputable def zD:FuncId→Option ae:=bH []
theorem IX:∀f s,zD f=some s→FnOK G0 Tryz.prog f s:=aK trivial
def xV:aX:=⟨[1,2,9,10,11],p9,0,[],.unit,[6],ax⟩
noncomputable def zE:List aD:=[xV.spec cT]
theorem GZ:bi bm E0 zD (be Tryz.f96 zE) Tryz.f96 0 xV cT:=fun x=>by kernel_rfl
theorem zF:FnOK G0 Tryz.prog 96 O3:=aO ap IX Tryz.func96 zE (by kernel_rfl) (by exact⟨(GZ).lok,trivial⟩) fun x=>by kernel_rfl
noncomputable def oO(x:Ty.T fD):Option (Ty.T ax):=
match(decide ((x.1.length:Int)≤(8192:Int)))with
|true=>
 match kg (x.1,(0:Int),(1:Int),())with
 |none=>none
 |some v1=>
 some (v1.1,())
|false=>
 some (false,())
noncomputable def UH:ae:=⟨_,ax,.unit,rfl,oO⟩
theorem rX:FnOK G0 Tryz.prog 54 UH:=aq ap (sg zF (aU)) Tryz.func54
noncomputable def MI(x:Ty.T ax):Option (Ty.T aV):=
match x.1 with
|true=>
 some ((1:Int),())
|false=>
 some ((0:Int),())
noncomputable def Ol:ae:=⟨_,aV,.unit,rfl,MI⟩
theorem UI:FnOK G0 Tryz.prog 179 Ol:=aq ap aU Tryz.func179
abbrev ma:Ty:=Xq
noncomputable def cG(x:(Ty.T ma)):Option ((Ty.T ma) ⊕ ((Ty.T aV) ⊕ (Ty.T .unit))):=
match(decide (x.2.2.2.1≤x.2.1))with
|true=>
 match(decide (x.2.2.2.1<(0:Int)))with
 |true=>
  some (.inl (x.1,x.2.1,(IntKind.i64.wrap (x.2.2.1+(1:Int))),(IntKind.i64.wrap (x.2.2.2.1+(1:Int))),()))
 |false=>
  ab (av x.1 x.2.2.2.1) fun v1=>
  match(v1==(1:Int))with
  |true=>
   some (.inl (x.1,x.2.1,(IntKind.i64.wrap (x.2.2.1+(1:Int))),(IntKind.i64.wrap (x.2.2.2.1+(1:Int))),()))
  |false=>
   some (.inl (x.1,x.2.1,x.2.2.1,(IntKind.i64.wrap (x.2.2.2.1+(1:Int))),()))
|false=>
 some (.inr (.inl (x.2.2.1,())))
noncomputable def mW(x:Ty.T vZ):Option (Ty.T aV):=
match ac cG (x.1,x.2.1,(0:Int),(IntKind.i64.wrap ((IntKind.i64.wrap (x.2.1-(5:Int)))+(1:Int))),())with
|none=>none
|some (.inl v2)=>
 some (v2.1,())
|some (.inr v4)=>
 none
noncomputable def wF:ae:=⟨_,aV,.unit,rfl,mW⟩
noncomputable def uB:FuncId→Option ae:=bH []
theorem DN:∀f s,uB f=some s→FnOK G0 Tryz.prog f s:=aK trivial
def sF:aX:=⟨[0,1,5,6],ma,0,[5],aV,[],.unit⟩
noncomputable def uC:List aD:=[sF.spec cG]
theorem Bx:bi bm E0 uB (be Tryz.f180 uC) Tryz.f180 0 sF cG:=fun x=>by kernel_rfl
theorem G1:FnOK G0 Tryz.prog 180 wF:=aO ap DN Tryz.func180 uC (by kernel_rfl) (by exact⟨(Bx).lok,trivial⟩) fun x=>by kernel_rfl
abbrev Bz:Ty:=Z5
noncomputable def kV(x:(Ty.T Bz)):Option ((Ty.T Bz) ⊕ ((Ty.T bG) ⊕ (Ty.T .unit))):=
match(decide (x.2.2.2.1<x.2.2.1))with
|true=>
 match mW (x.1,x.2.2.2.1,())with
 |none=>none
 |some v1=>
 match MI ((decide ((IntKind.i64.wrap ((2:Int)*v1.1))>(5:Int))),())with
 |none=>none
 |some v2=>
 aH (x.2.1.length+ [v2.1].length) (
  some (.inl (x.1,(x.2.1++ [v2.1]),x.2.2.1,(IntKind.i64.wrap (x.2.2.2.1+(1:Int))),())))
|false=>
 some (.inr (.inl (x.2.1,())))
noncomputable def KE(x:Ty.T fD):Option (Ty.T bG):=
match ac kV (x.1,[],(x.1.length:Int),(0:Int),())with
|none=>none
|some (.inl v3)=>
 some (v3.1,())
|some (.inr v5)=>
 none
noncomputable def Xy:ae:=⟨_,bG,.unit,rfl,KE⟩
noncomputable def Om:FuncId→Option ae:=bH [(179,Ol),(180,wF)]
theorem Sl:∀f s,Om f=some s→FnOK G0 Tryz.prog f s:=aK ⟨UI,G1,trivial⟩
def KF:aX:=⟨[0,3,7,8],Bz,0,[3],bG,[],.unit⟩
noncomputable def On:List aD:=[KF.spec kV]
theorem QE:bi bm E0 Om (be Tryz.f126 On) Tryz.f126 0 KF kV:=fun x=>by kernel_rfl
theorem VU:FnOK G0 Tryz.prog 126 Xy:=aO ap Sl Tryz.func126 On (by kernel_rfl) (by exact⟨(QE).lok,trivial⟩) fun x=>by kernel_rfl
noncomputable def ov(x:Ty.T fD):Option (Ty.T jz):=
match oO (x.1,())with
|none=>none
|some v1=>
match(!v1.1)with
|true=>
 some ([],(1:Int),())
|false=>
 match KE (x.1,())with
 |none=>none
 |some v2=>
 some (v2.1,(0:Int),())
noncomputable def KG:ae:=⟨_,jz,.unit,rfl,ov⟩
theorem IY:FnOK G0 Tryz.prog 75 KG:=aq ap (sg rX (sg VU (aU))) Tryz.func75
noncomputable def wG(x:Ty.T aV):Option (Ty.T ax):=
match cn (x.1,(3:Int),(15:Int),())with
|none=>none
|some v1=>
some (v1.1,())
noncomputable def MJ:ae:=⟨_,ax,.unit,rfl,wG⟩
theorem KH:FnOK G0 Tryz.prog 51 MJ:=aq ap (sg du (aU)) Tryz.func51
noncomputable def co(x:(Ty.T Ur)):Option ((Ty.T Ur) ⊕ ((Ty.T bM) ⊕ (Ty.T aV))):=
match(decide (x.2.1<(x.1.1.length:Int)))with
|true=>
 ab (av x.1.1 x.2.1) fun v1=>
 match(v1==x.2.2.1)with
 |true=>
  some (.inr (.inr (x.2.1,())))
 |false=>
  some (.inl (x.1,(IntKind.i64.wrap (x.2.1+(1:Int))),x.2.2.1,()))
|false=>
 some (.inr (.inl (x.2.1,x.2.2.1,())))
noncomputable def bQ(x:Ty.T Ur):Option (Ty.T aV):=
match ac co (x.1,(IntKind.i64.wrap (x.2.1+(1:Int))),x.2.2.1,())with
|none=>none
|some (.inl v2)=>
 match(v2.2.1==(1:Int))with
 |true=>
  some (v2.1,())
 |false=>
  some ((-1:Int),())
|some (.inr v3)=>
 some (v3.1,())
noncomputable def nV:ae:=⟨_,aV,.unit,rfl,bQ⟩
noncomputable def nl:FuncId→Option ae:=bH []
theorem vu:∀f s,nl f=some s→FnOK G0 Tryz.prog f s:=aK trivial
def mb:aX:=⟨[0,1,2],Ur,0,[1,2],bM,[6],aV⟩
noncomputable def nm:List aD:=[mb.spec co]
theorem tL:bi bm E0 nl (be Tryz.f231 nm) Tryz.f231 0 mb co:=fun x=>by kernel_rfl
theorem nn:FnOK G0 Tryz.prog 231 nV:=aO ap vu Tryz.func231 nm (by kernel_rfl) (by exact⟨(tL).lok,trivial⟩) fun x=>by kernel_rfl
noncomputable def wH(x:Ty.T aV):Option (Ty.T aV):=
some ((IntKind.i64.wrap (Int.tdiv (IntKind.i64.wrap (x.1+(4:Int))) (8:Int))),())
noncomputable def MK:ae:=⟨_,aV,.unit,rfl,wH⟩
theorem KI:FnOK G0 Tryz.prog 232 MK:=aq ap aU Tryz.func232
noncomputable def gB(x:Ty.T Xp):Option (Ty.T aV):=
ab x.1 fun v1=>
match(decide (x.2.1≥(v1.1.length:Int)))with
|true=>
 some ((1:Int),())
|false=>
 ab x.1 fun v2=>
 ab (av v2.1 x.2.1) fun v3=>
 some (v3,())
noncomputable def kD:ae:=⟨_,aV,.unit,rfl,gB⟩
theorem nW:FnOK G0 Tryz.prog 129 kD:=aq ap aU Tryz.func129
abbrev el:Ty:=aah
noncomputable def bB(x:(Ty.T el)):Option ((Ty.T el) ⊕ ((Ty.T .unit) ⊕ (Ty.T el))):=
aH (x.1.2.2.1.length+ [x.2.1].length) (
 match gB ((some (x.1.1,x.1.2.1,(x.1.2.2.1++ [x.2.1]),())),(IntKind.i64.wrap (x.2.1+(76:Int))),())with
 |none=>none
 |some v1=>
 match(v1.1==(0:Int))with
 |true=>
  some (.inr (.inr ((x.1.1,x.1.2.1,(x.1.2.2.1++ [x.2.1]),()),(IntKind.i64.wrap (x.2.1+(72:Int))),())))
 |false=>
  match bQ ((x.1.1,x.1.2.1,(x.1.2.2.1++ [x.2.1]),()),(IntKind.i64.wrap (x.2.1+(76:Int))),(0:Int),())with
  |none=>none
  |some v2=>
  match(decide (v2.1<(0:Int)))with
  |true=>
   some (.inr (.inr ((x.1.1,x.1.2.1,(x.1.2.2.1++ [x.2.1]),()),(-1:Int),())))
  |false=>
   match(decide (v2.1>(IntKind.i64.wrap ((IntKind.i64.wrap (x.2.1+(76:Int)))+(8:Int)))))with
   |true=>
    some (.inr (.inr ((x.1.1,x.1.2.1,(x.1.2.2.1++ [x.2.1]),()),(-1:Int),())))
   |false=>
    some (.inl ((x.1.1,x.1.2.1,(x.1.2.2.1++ [x.2.1]),()),v2.1,())))
noncomputable def cU(x:Ty.T aah):Option (Ty.T aai):=
match ac bB ((x.1.1,x.1.2.1,x.1.2.2.1,()),x.2.1,())with
|none=>none
|some (.inl v3)=>
 none
|some (.inr v4)=>
 some (v4.2.1,(v4.1.1,v4.1.2.1,v4.1.2.2.1,()),())
noncomputable def yW:ae:=⟨_,aV,Xt,rfl,cU⟩
noncomputable def np:FuncId→Option ae:=bH [(129,kD),(231,nV)]
theorem vv:∀f s,np f=some s→FnOK G0 Tryz.prog f s:=aK ⟨nW,nn,trivial⟩
def mc:aX:=⟨[0,1],el,999999,[],.unit,[0,4],el⟩
noncomputable def nq:List aD:=[mc.spec bB]
theorem tM:bi bm E0 np (be Tryz.f233 nq) Tryz.f233 0 mc bB:=fun x=>by kernel_rfl
theorem xE:FnOK G0 Tryz.prog 233 yW:=aO ap vv Tryz.func233 nq (by kernel_rfl) (by exact⟨(tM).lok,trivial⟩) fun x=>by kernel_rfl
noncomputable def kt(x:Ty.T Xt):Option (Ty.T aai):=
match bQ ((x.1.1,x.1.2.1,x.1.2.2.1,()),(-1:Int),(0:Int),())with
|none=>none
|some v1=>
match(decide (v1.1<(0:Int)))with
|true=>
 some ((4:Int),(x.1.1,x.1.2.1,x.1.2.2.1,()),())
|false=>
 match bQ ((x.1.1,x.1.2.1,x.1.2.2.1,()),v1.1,(1:Int),())with
 |none=>none
 |some v2=>
 match wH ((IntKind.i64.wrap (v2.1-v1.1)),())with
 |none=>none
 |some v3=>
 match wG (v3.1,())with
 |none=>none
 |some v4=>
 match(!v4.1)with
 |true=>
  some ((6:Int),(x.1.1,v3.1,x.1.2.2.1,()),())
 |false=>
  match bQ ((x.1.1,v3.1,x.1.2.2.1,()),v2.1,(0:Int),())with
  |none=>none
  |some v5=>
  match(decide (v5.1<(0:Int)))with
  |true=>
   some ((6:Int),(x.1.1,v3.1,x.1.2.2.1,()),())
  |false=>
   match(decide ((IntKind.i64.wrap (v5.1-v2.1))>(19:Int)))with
   |true=>
    some ((6:Int),(x.1.1,v3.1,x.1.2.2.1,()),())
   |false=>
    match(decide ((IntKind.i64.wrap (v5.1-v2.1))<(5:Int)))with
    |true=>
     some ((6:Int),(x.1.1,v3.1,x.1.2.2.1,()),())
    |false=>
     match((IntKind.i64.wrap (v5.1-v2.1))==(12:Int))with
     |true=>
      some ((6:Int),(x.1.1,v3.1,x.1.2.2.1,()),())
     |false=>
      match(decide ((IntKind.i64.wrap (v5.1-v2.1))≥(13:Int)))with
      |true=>
       match cU ((x.1.1,v3.1,x.1.2.2.1,()),v5.1,())with
       |none=>none
       |some v6=>
       match(decide (v6.1<(0:Int)))with
       |true=>
        some ((6:Int),(v6.2.1.1,v6.2.1.2.1,v6.2.1.2.2.1,()),())
       |false=>
        match bQ ((v6.2.1.1,v6.2.1.2.1,v6.2.1.2.2.1,()),(IntKind.i64.wrap (v6.1+(11:Int))),(0:Int),())with
        |none=>none
        |some v7=>
        match(decide (v7.1≥(0:Int)))with
        |true=>
         some ((6:Int),(v6.2.1.1,v6.2.1.2.1,v6.2.1.2.2.1,()),())
        |false=>
         some ((0:Int),(v6.2.1.1,v6.2.1.2.1,v6.2.1.2.2.1,()),())
      |false=>
       match bQ ((x.1.1,v3.1,x.1.2.2.1,()),(IntKind.i64.wrap (v5.1+(11:Int))),(0:Int),())with
       |none=>none
       |some v8=>
       match(decide (v8.1≥(0:Int)))with
       |true=>
        some ((6:Int),(x.1.1,v3.1,x.1.2.2.1,()),())
       |false=>
        some ((0:Int),(x.1.1,v3.1,x.1.2.2.1,()),())
noncomputable def DP:ae:=⟨_,aV,Xt,rfl,kt⟩
theorem BA:FnOK G0 Tryz.prog 181 DP:=aq ap (sg KH (sg nn (sg KI (sg xE (aU))))) Tryz.func181
noncomputable def ow(x:Ty.T fD):Option (Ty.T Xp):=
match oO (x.1,())with
|none=>none
|some v1=>
match(!v1.1)with
|true=>
 some (none,(1:Int),())
|false=>
 match kt ((x.1,(0:Int),[],()),())with
 |none=>none
 |some v2=>
 match(v2.1 != (0:Int))with
 |true=>
  some (none,v2.1,())
 |false=>
  some ((some (v2.2.1.1,v2.2.1.2.1,v2.2.1.2.2.1,())),(0:Int),())
noncomputable def xW:ae:=⟨_,Xp,.unit,rfl,ow⟩
theorem IZ:FnOK G0 Tryz.prog 127 xW:=aq ap (sg rX (sg BA (aU))) Tryz.func127
abbrev tN:Ty:=Uz
noncomputable def jD(x:(Ty.T tN)):Option ((Ty.T tN) ⊕ ((Ty.T bG) ⊕ (Ty.T .unit))):=
match(decide (x.2.2.1<(9:Int)))with
|true=>
 aH (x.2.1.length+ [(IntKind.i64.wrap ((IntKind.i64.wrap (x.1+(IntKind.i64.wrap ((8:Int)*x.2.2.1))))+(12:Int)))].length) (
  some (.inl (x.1,(x.2.1++ [(IntKind.i64.wrap ((IntKind.i64.wrap (x.1+(IntKind.i64.wrap ((8:Int)*x.2.2.1))))+(12:Int)))]),(IntKind.i64.wrap (x.2.2.1+(1:Int))),())))
|false=>
 some (.inr (.inl (x.2.1,())))
noncomputable def xX(x:Ty.T aV):Option (Ty.T bG):=
match ac jD (x.1,[],(0:Int),())with
|none=>none
|some (.inl v1)=>
 some (v1.1,())
|some (.inr v3)=>
 none
noncomputable def HF:ae:=⟨_,bG,.unit,rfl,xX⟩
noncomputable def EG:FuncId→Option ae:=bH []
theorem ML:∀f s,EG f=some s→FnOK G0 Tryz.prog f s:=aK trivial
def CB:aX:=⟨[0,3,6],tN,0,[3],bG,[],.unit⟩
noncomputable def EH:List aD:=[CB.spec jD]
theorem KJ:bi bm E0 EG (be Tryz.f128 EH) Tryz.f128 0 CB jD:=fun x=>by kernel_rfl
theorem QF:FnOK G0 Tryz.prog 128 HF:=aO ap ML Tryz.func128 EH (by kernel_rfl) (by exact⟨(KJ).lok,trivial⟩) fun x=>by kernel_rfl
abbrev me:Ty:=(.pair (.nptr po) (.pair (.own 2 (.int .i64)) (.pair (.int .i64) (.pair (.list (.int .i64)) (.pair (.int .i64) (.pair (.int .i64) (.pair (.own 2 (.int .i64)) bM)))))))
abbrev sG:Ty:=(.pair (.nptr po) (.pair (.own 2 (.int .i64)) (.pair (.int .i64) (.pair (.list (.int .i64)) bM))))
noncomputable def ep(x:(Ty.T me)):Option ((Ty.T me) ⊕ ((Ty.T sG) ⊕ (Ty.T .unit))):=
match(decide (x.2.2.2.2.2.2.2.2.1<x.2.2.2.2.2.2.2.1))with
|true=>
 ab (av x.2.2.2.2.2.2.1 x.2.2.2.2.2.2.2.2.1) fun _=>
 match x.2.2.2.2.2.2.1[x.2.2.2.2.2.2.2.2.1.toNat]? with
 |none=>none
 |some v7=>
 match gB (x.1,v7,())with
 |none=>none
 |some v8=>
 some (.inl (x.1,x.2.1,(IntKind.i64.wrap ((IntKind.i64.wrap ((2:Int)*x.2.2.1))+v8.1)),x.2.2.2.1,x.2.2.2.2.1,x.2.2.2.2.2.1,x.2.2.2.2.2.2.1,x.2.2.2.2.2.2.2.1,(IntKind.i64.wrap (x.2.2.2.2.2.2.2.2.1+(1:Int))),()))
|false=>
 some (.inr (.inl (x.1,x.2.1,x.2.2.1,x.2.2.2.1,x.2.2.2.2.1,x.2.2.2.2.2.1,())))
abbrev nA:Ty:=(.pair (.nptr po) (.pair (.own 2 (.int .i64)) (.pair (.list (.int .i64)) bM)))
noncomputable def eS(x:(Ty.T nA)):Option ((Ty.T nA) ⊕ ((Ty.T bG) ⊕ (Ty.T .unit))):=
match(decide (x.2.2.2.2.1<x.2.2.2.1))with
|true=>
 ab (av x.2.2.1 x.2.2.2.2.1) fun v3=>
 match xX (v3,())with
 |none=>none
 |some v4=>
 ab (aM v4.1.length none (some (.dat (.int .i64) (8:Int)))) fun v5=>
 match ac ep (x.1,x.2.1,(0:Int),x.2.2.1,x.2.2.2.1,x.2.2.2.2.1,(List.take v5.2 v4.1),((List.take v5.2 v4.1).length:Int),(0:Int),())with
 |none=>none
 |some (.inl v6)=>
  aH (v6.2.1.length+ [v6.2.2.1].length) (
   some (.inl (v6.1,(v6.2.1++ [v6.2.2.1]),v6.2.2.2.1,v6.2.2.2.2.1,(IntKind.i64.wrap (v6.2.2.2.2.2.1+(1:Int))),())))
 |some (.inr v8)=>
  some (.inr (.inr (())))
|false=>
 some (.inr (.inl (x.2.1,())))
noncomputable def oz(x:Ty.T fD):Option (Ty.T jz):=
match ow (x.1,())with
|none=>none
|some v1=>
match(v1.2.1 != (0:Int))with
|true=>
 some ([],v1.2.1,())
|false=>
 ab v1.1 fun v2=>
 match ac eS (v1.1,[],v2.2.2.1,(v2.2.2.1.length:Int),(0:Int),())with
 |none=>none
 |some (.inl v9)=>
  some (v9.1,(0:Int),())
 |some (.inr v11)=>
  none
noncomputable def KK:ae:=⟨_,jz,.unit,rfl,oz⟩
noncomputable def oP:FuncId→Option ae:=bH [(127,xW),(128,HF),(129,kD)]
theorem EI:∀f s,oP f=some s→FnOK G0 Tryz.prog f s:=aK ⟨IZ,QF,nW,trivial⟩
def uD:aX:=⟨[4,6,24,25,26],nA,0,[6],bG,[],.unit⟩
def sH:aX:=⟨[4,6,9,24,25,26,32,33,34],me,2,[4,6,9,24,25,26],sG,[],.unit⟩
noncomputable def oQ:List aD:=[uD.spec eS,sH.spec ep]
theorem DQ:bi bm E0 oP (be Tryz.f76 oQ) Tryz.f76 0 uD eS:=fun x=>by kernel_rfl
theorem BC:bi bm E0 oP (be Tryz.f76 oQ) Tryz.f76 1 sH ep:=fun x=>by kernel_rfl
theorem I0:FnOK G0 Tryz.prog 76 KK:=aO ap EI Tryz.func76 oQ (by kernel_rfl) (by exact⟨(DQ).lok,(BC).lok,trivial⟩) fun x=>by kernel_rfl
noncomputable def ij(x:Ty.T fD):Option (Ty.T jz):=
match ov (x.1,())with
|none=>none
|some v1=>
match(v1.2.1 != (0:Int))with
|true=>
 some ([],v1.2.1,())
|false=>
 match oz (v1.1,())with
 |none=>none
 |some v2=>
 some (v2.1,v2.2.1,())
noncomputable def G2:ae:=⟨_,jz,.unit,rfl,ij⟩
theorem sI:FnOK G0 Tryz.prog 33 G2:=aq ap (sg IY (sg I0 (aU))) Tryz.func33
noncomputable def dv(x:Ty.T yV):Option (Ty.T Et):=
match mU (x.1.2.2.2.1,x.2.1.2.1,x.2.1.2.2.1,x.2.1.2.2.2.1,())with
|none=>none
|some v1=>
ab (av x.1.2.2.2.1 v1.1) fun v2=>
some ((v2.2.2.2.1.1,v2.2.2.2.1.2.1,v2.2.2.2.1.2.2.1,v2.2.2.2.1.2.2.2.1,v2.2.2.2.1.2.2.2.2.1,()),())
noncomputable def G3:ae:=⟨_,Et,.unit,rfl,dv⟩
theorem mf:FnOK G0 Tryz.prog 65 G3:=aq ap (sg Cq (aU)) Tryz.func65
noncomputable def wI(x:Ty.T Xn):Option (Ty.T ax):=
match(x.2.1.1==x.1.2.1)with
|true=>
 match((x.2.1.2.2.2.1.length:Int)==x.1.2.2.1)with
 |true=>
  match(x.2.1.2.1==(0:Int))with
  |true=>
   some (true,())
  |false=>
   some (x.1.2.2.2.2.1,())
 |false=>
  some (false,())
|false=>
 some (false,())
noncomputable def Xz:ae:=⟨_,ax,.unit,rfl,wI⟩
theorem Oo:FnOK G0 Tryz.prog 78 Xz:=aq ap aU Tryz.func78
noncomputable def kN(x:Ty.T fD):Option (Ty.T ax):=
match(decide ((x.1.length:Int)≤(1024:Int)))with
|true=>
 match kg (x.1,(0:Int),(255:Int),())with
 |none=>none
 |some v1=>
 some (v1.1,())
|false=>
 some (false,())
noncomputable def Sm:ae:=⟨_,ax,.unit,rfl,kN⟩
theorem EJ:FnOK G0 Tryz.prog 46 Sm:=aq ap (sg zF (aU)) Tryz.func46
abbrev kh:Ty:=(.pair (.list (.int .i64)) (.pair (.list (.int .i64)) bM))
noncomputable def c8(x:(Ty.T kh)):Option ((Ty.T kh) ⊕ ((Ty.T .unit) ⊕ (Ty.T ax))):=
match(decide (x.2.2.2.1<x.2.2.1))with
|true=>
 ab (av x.1 x.2.2.2.1) fun v1=>
 ab (av x.2.1 x.2.2.2.1) fun v2=>
 match(v1 != v2)with
 |true=>
  some (.inr (.inr (false,())))
 |false=>
  some (.inl (x.1,x.2.1,x.2.2.1,(IntKind.i64.wrap (x.2.2.2.1+(1:Int))),()))
|false=>
 some (.inr (.inl (())))
noncomputable def bC(x:Ty.T IH):Option (Ty.T ax):=
match((x.1.length:Int) != (x.2.1.length:Int))with
|true=>
 some (false,())
|false=>
 match ac c8 (x.1,x.2.1,(x.1.length:Int),(0:Int),())with
 |none=>none
 |some (.inl v3)=>
  some (true,())
 |some (.inr v4)=>
  some (v4.1,())
noncomputable def BD:ae:=⟨_,ax,.unit,rfl,bC⟩
noncomputable def pt:FuncId→Option ae:=bH []
theorem xF:∀f s,pt f=some s→FnOK G0 Tryz.prog f s:=aK trivial
def nX:aX:=⟨[0,1,12,13],kh,0,[],.unit,[4],ax⟩
noncomputable def pu:List aD:=[nX.spec c8]
theorem wJ:bi bm E0 pt (be Tryz.f104 pu) Tryz.f104 0 nX c8:=fun x=>by kernel_rfl
theorem kE:FnOK G0 Tryz.prog 104 BD:=aO ap xF Tryz.func104 pu (by kernel_rfl) (by exact⟨(wJ).lok,trivial⟩) fun x=>by kernel_rfl
noncomputable def kF(x:Ty.T aV):Option (Ty.T bG):=
some ([(Int.fdiv x.1 (2^min (16:Int).toNat IntKind.i64.bits)),(bits BinOp.and .i64 (Int.fdiv x.1 (2^min (8:Int).toNat IntKind.i64.bits)) (255:Int)),(bits BinOp.and .i64 x.1 (255:Int))],())
noncomputable def MM:ae:=⟨_,bG,.unit,rfl,kF⟩
theorem xY:FnOK G0 Tryz.prog 111 MM:=aq ap aU Tryz.func111
noncomputable def fG(x:(Ty.T Ut)):Option ((Ty.T Ut) ⊕ ((Ty.T bG) ⊕ (Ty.T .unit))):=
match(decide (x.2.2.1≥(0:Int)))with
|true=>
 if x.2.2.1<0 then none else
 aH (x.1.length+ [(bits BinOp.and .i64 (Int.fdiv x.2.1 (2^min x.2.2.1.toNat IntKind.i64.bits)) (1:Int))].length) (
  some (.inl ((x.1++ [(bits BinOp.and .i64 (Int.fdiv x.2.1 (2^min x.2.2.1.toNat IntKind.i64.bits)) (1:Int))]),x.2.1,(IntKind.i64.wrap (x.2.2.1-(1:Int))),())))
|false=>
 some (.inr (.inl (x.1,())))
noncomputable def ch(x:Ty.T Ut):Option (Ty.T bG):=
match ac fG (x.1,x.2.1,(IntKind.i64.wrap (x.2.2.1-(1:Int))),())with
|none=>none
|some (.inl v1)=>
 some (v1.1,())
|some (.inr v3)=>
 none
noncomputable def wK:ae:=⟨_,bG,.unit,rfl,ch⟩
noncomputable def uE:FuncId→Option ae:=bH []
theorem DR:∀f s,uE f=some s→FnOK G0 Tryz.prog f s:=aK trivial
def sJ:aX:=⟨[0,1,7],Ut,0,[0],bG,[],.unit⟩
noncomputable def uF:List aD:=[sJ.spec fG]
theorem BE:bi bm E0 uE (be Tryz.f103 uF) Tryz.f103 0 sJ fG:=fun x=>by kernel_rfl
theorem uG:FnOK G0 Tryz.prog 103 wK:=aO ap DR Tryz.func103 uF (by kernel_rfl) (by exact⟨(BE).lok,trivial⟩) fun x=>by kernel_rfl
noncomputable def ki(x:Ty.T yU):Option (Ty.T bG):=
match ch ([],x.1.1,(16:Int),())with
|none=>none
|some v1=>
match ch (v1.1,x.1.2.1,(4:Int),())with
|none=>none
|some v2=>
match ch (v2.1,x.1.2.2.1,(4:Int),())with
|none=>none
|some v3=>
match ch (v3.1,x.1.2.2.2.1,(8:Int),())with
|none=>none
|some v4=>
match ch (v4.1,x.1.2.2.2.2.1,(32:Int),())with
|none=>none
|some v5=>
some (v5.1,())
noncomputable def O4:ae:=⟨_,bG,.unit,rfl,ki⟩
theorem zG:FnOK G0 Tryz.prog 164 O4:=aq ap (sg uG (aU)) Tryz.func164
noncomputable def ln(x:Ty.T .unit):Option (Ty.T Uq):=
some (((24:Int),(6122955:Int),()),())
noncomputable def KL:ae:=⟨_,Uq,.unit,rfl,ln⟩
theorem I1:FnOK G0 Tryz.prog 166 KL:=aq ap aU Tryz.func166
abbrev qZ:Ty:=(.pair (.int .i64) (.pair (.box bM) (.pair (.list (.int .i64)) bM)))
noncomputable def eH(x:(Ty.T qZ)):Option ((Ty.T qZ) ⊕ ((Ty.T aV) ⊕ (Ty.T .unit))):=
match(decide (x.2.2.2.2.1<x.2.2.2.1))with
|true=>
 ab (av x.2.2.1 x.2.2.2.2.1) fun v1=>
 if(IntKind.i64.wrap (x.2.1.1-(1:Int)))<0 then none else
 if x.2.1.1<0 then none else
 match((bits BinOp.xor .i64 v1 (Int.fdiv x.1 (2^min (IntKind.i64.wrap (x.2.1.1-(1:Int))).toNat IntKind.i64.bits)))==(1:Int))with
 |true=>
  some (.inl ((bits BinOp.xor .i64 (bits BinOp.and .i64 (IntKind.i64.wrap (x.1*2^min (1:Int).toNat IntKind.i64.bits)) (IntKind.i64.wrap ((IntKind.i64.wrap ((1:Int)*2^min x.2.1.1.toNat IntKind.i64.bits))-(1:Int)))) x.2.1.2.1),(x.2.1.1,x.2.1.2.1,()),x.2.2.1,x.2.2.2.1,(IntKind.i64.wrap (x.2.2.2.2.1+(1:Int))),()))
 |false=>
  some (.inl ((bits BinOp.and .i64 (IntKind.i64.wrap (x.1*2^min (1:Int).toNat IntKind.i64.bits)) (IntKind.i64.wrap ((IntKind.i64.wrap ((1:Int)*2^min x.2.1.1.toNat IntKind.i64.bits))-(1:Int)))),(x.2.1.1,x.2.1.2.1,()),x.2.2.1,x.2.2.2.1,(IntKind.i64.wrap (x.2.2.2.2.1+(1:Int))),()))
|false=>
 some (.inr (.inl (x.1,())))
noncomputable def mX(x:Ty.T Z6):Option (Ty.T aV):=
match ac eH (x.2.1,(x.1.1,x.1.2.1,()),x.2.2.1,(x.2.2.1.length:Int),(0:Int),())with
|none=>none
|some (.inl v2)=>
 some (v2.1,())
|some (.inr v4)=>
 none
noncomputable def QG:ae:=⟨_,aV,.unit,rfl,mX⟩
noncomputable def CC:FuncId→Option ae:=bH []
theorem KM:∀f s,CC f=some s→FnOK G0 Tryz.prog f s:=aK trivial
def zH:aX:=⟨[1,3,10,11,12],qZ,0,[1],aV,[],.unit⟩
noncomputable def CD:List aD:=[zH.spec eH]
theorem I2:bi bm E0 CC (be Tryz.f167 CD) Tryz.f167 0 zH eH:=fun x=>by kernel_rfl
theorem O5:FnOK G0 Tryz.prog 167 QG:=aO ap KM Tryz.func167 CD (by kernel_rfl) (by exact⟨(I2).lok,trivial⟩) fun x=>by kernel_rfl
abbrev wL:Ty:=(.pair (.own 2 (.int .i64)) (.pair (.list (.int .i64)) bM))
noncomputable def jp(x:(Ty.T wL)):Option ((Ty.T wL) ⊕ ((Ty.T bG) ⊕ (Ty.T .unit))):=
match(decide (x.2.2.2.1<x.2.2.1))with
|true=>
 ab (av x.2.1 x.2.2.2.1) fun v1=>
 match ch (x.1,v1,(8:Int),())with
 |none=>none
 |some v2=>
 some (.inl (v2.1,x.2.1,x.2.2.1,(IntKind.i64.wrap (x.2.2.2.1+(1:Int))),()))
|false=>
 some (.inr (.inl (x.1,())))
noncomputable def oS(x:Ty.T fD):Option (Ty.T bG):=
match ac jp ([],x.1,(x.1.length:Int),(0:Int),())with
|none=>none
|some (.inl v3)=>
 some (v3.1,())
|some (.inr v5)=>
 none
noncomputable def UJ:ae:=⟨_,bG,.unit,rfl,oS⟩
noncomputable def HG:FuncId→Option ae:=bH [(103,wK)]
theorem O6:∀f s,HG f=some s→FnOK G0 Tryz.prog f s:=aK ⟨uG,trivial⟩
def EK:aX:=⟨[3,7,8,9],wL,0,[3],bG,[],.unit⟩
noncomputable def HH:List aD:=[EK.spec jp]
theorem MN:bi bm E0 HG (be Tryz.f168 HH) Tryz.f168 0 EK jp:=fun x=>by kernel_rfl
theorem HI:FnOK G0 Tryz.prog 168 UJ:=aO ap O6 Tryz.func168 HH (by kernel_rfl) (by exact⟨(MN).lok,trivial⟩) fun x=>by kernel_rfl
noncomputable def gq(x:Ty.T aab):Option (Ty.T aV):=
match(x.1==(0:Int))with
|true=>
 match ln (())with
 |none=>none
 |some v1=>
 match ki ((x.2.2.2.1.1,x.2.2.2.1.2.1,x.2.2.2.1.2.2.1,x.2.2.2.1.2.2.2.1,x.2.2.2.1.2.2.2.2.1,()),())with
 |none=>none
 |some v2=>
 match mX (v1.1,x.2.2.1,v2.1,())with
 |none=>none
 |some v3=>
 match ln (())with
 |none=>none
 |some v4=>
 match oS (x.2.1,())with
 |none=>none
 |some v5=>
 match mX (v4.1,v3.1,v5.1,())with
 |none=>none
 |some v6=>
 some (v6.1,())
|false=>
 match ln (())with
 |none=>none
 |some v7=>
 match oS (x.2.1,())with
 |none=>none
 |some v8=>
 match mX (v7.1,x.2.2.1,v8.1,())with
 |none=>none
 |some v9=>
 some (v9.1,())
noncomputable def KN:ae:=⟨_,aV,.unit,rfl,gq⟩
theorem wM:FnOK G0 Tryz.prog 112 KN:=aq ap (sg zG (sg I1 (sg O5 (sg HI (aU))))) Tryz.func112
noncomputable def zI(x:Ty.T aV):Option (Ty.T ax):=
match cn (x.1,(0:Int),(16777215:Int),())with
|none=>none
|some v1=>
some (v1.1,())
noncomputable def XA:ae:=⟨_,ax,.unit,rfl,zI⟩
theorem VV:FnOK G0 Tryz.prog 153 XA:=aq ap (sg du (aU)) Tryz.func153
noncomputable def cV(x:Ty.T Ms):Option (Ty.T ax):=
match wq (x.1.1,())with
|none=>none
|some v1=>
match(!v1.1)with
|true=>
 some (false,())
|false=>
 match cn (x.1.2.1,(0:Int),(7:Int),())with
 |none=>none
 |some v2=>
 match(!v2.1)with
 |true=>
  some (false,())
 |false=>
  match lU (x.1.1,(x.1.2.2.2.1.length:Int),())with
  |none=>none
  |some v3=>
  match(!v3.1)with
  |true=>
   some (false,())
  |false=>
   match kN (x.1.2.2.2.1,())with
   |none=>none
   |some v4=>
   match(!v4.1)with
   |true=>
    some (false,())
   |false=>
    match(x.1.1==(0:Int))with
    |true=>
     some ((cS ak (x.1.2.2.1.1,x.1.2.2.1.2.1,x.1.2.2.1.2.2.1,x.1.2.2.1.2.2.2.1,x.1.2.2.1.2.2.2.2.1,()) ((0:Int),(0:Int),(0:Int),(0:Int),(0:Int),())),())
    |false=>
     match(x.1.1==(3:Int))with
     |true=>
      match fF ((x.1.2.2.1.1,x.1.2.2.1.2.1,x.1.2.2.1.2.2.1,x.1.2.2.1.2.2.2.1,x.1.2.2.1.2.2.2.2.1,()),())with
      |none=>none
      |some v5=>
      match v5.1 with
      |true=>
       match(x.1.2.2.1.2.1==(0:Int))with
       |true=>
        match(x.1.2.2.1.2.2.2.2.1 != (0:Int))with
        |true=>
         match((bits BinOp.and .i64 x.1.2.2.1.2.2.2.2.1 (IntKind.i64.wrap (x.1.2.2.1.2.2.2.2.1-(1:Int))))==(0:Int))with
         |true=>
          some ((x.1.2.1==(0:Int)),())
         |false=>
          some (false,())
        |false=>
         some (false,())
       |false=>
        some (false,())
      |false=>
       some (false,())
     |false=>
      match fF ((x.1.2.2.1.1,x.1.2.2.1.2.1,x.1.2.2.1.2.2.1,x.1.2.2.1.2.2.2.1,x.1.2.2.1.2.2.2.2.1,()),())with
      |none=>none
      |some v6=>
      some (v6.1,())
noncomputable def Sn:ae:=⟨_,ax,.unit,rfl,cV⟩
theorem wN:FnOK G0 Tryz.prog 73 Sn:=aq ap (sg EJ (sg du (sg HD (sg xT (sg wD (aU)))))) Tryz.func73
abbrev q0:Ty:=Z1
noncomputable def gH(x:(Ty.T q0)):Option ((Ty.T q0) ⊕ ((Ty.T aV) ⊕ (Ty.T .unit))):=
match(decide (x.2.2.2.1<x.2.2.1))with
|true=>
 ab (av x.2.1 x.2.2.2.1) fun v1=>
 some (.inl ((IntKind.i64.wrap ((IntKind.i64.wrap ((2:Int)*x.1))+v1)),x.2.1,x.2.2.1,(IntKind.i64.wrap (x.2.2.2.1+(1:Int))),()))
|false=>
 some (.inr (.inl (x.1,())))
noncomputable def cW(x:Ty.T fD):Option (Ty.T aV):=
match ac gH ((0:Int),x.1,(x.1.length:Int),(0:Int),())with
|none=>none
|some (.inl v2)=>
 some (v2.1,())
|some (.inr v4)=>
 none
noncomputable def QH:ae:=⟨_,aV,.unit,rfl,cW⟩
noncomputable def CE:FuncId→Option ae:=bH []
theorem KO:∀f s,CE f=some s→FnOK G0 Tryz.prog f s:=aK trivial
def zJ:aX:=⟨[3,6,7,8],q0,0,[3],aV,[],.unit⟩
noncomputable def CF:List aD:=[zJ.spec gH]
theorem I3:bi bm E0 CE (be Tryz.f118 CF) Tryz.f118 0 zJ gH:=fun x=>by kernel_rfl
theorem CG:FnOK G0 Tryz.prog 118 QH:=aO ap KO Tryz.func118 CF (by kernel_rfl) (by exact⟨(I3).lok,trivial⟩) fun x=>by kernel_rfl
noncomputable def EL(x:Ty.T fD):Option (Ty.T bG):=ab (ke cW x.1) fun s=>some (s,())
noncomputable def So:ae:=⟨fD,bG,.unit,rfl,EL⟩
theorem QI:FnOK G0 Tryz.prog 163 So:=Uo (vo Tryz.func163 (by kernel_rfl) (show Tryz.f163.body=some (gA Tryz.f163) by kernel_rfl)) CG
noncomputable def fX(x:Ty.T Ms):Option (Ty.T bG):=
match fU (x.1.1,())with
|none=>none
|some v1=>
match v1.1 with
|true=>
 match ki ((x.1.2.2.1.1,x.1.2.2.1.2.1,x.1.2.2.1.2.2.1,x.1.2.2.1.2.2.2.1,x.1.2.2.1.2.2.2.2.1,()),())with
 |none=>none
 |some v2=>
 match EL (v2.1,())with
 |none=>none
 |some v3=>
 aH ([(IntKind.i64.wrap ((IntKind.i64.wrap (x.1.1*(64:Int)))+(IntKind.i64.wrap (x.1.2.1*(8:Int)))))].length+v3.1.length) (
  match jO (x.1.1,())with
  |none=>none
  |some v4=>
  match v4.1 with
  |true=>
   aH (([(IntKind.i64.wrap ((IntKind.i64.wrap (x.1.1*(64:Int)))+(IntKind.i64.wrap (x.1.2.1*(8:Int)))))]++v3.1).length+ [(x.1.2.2.2.1.length:Int)].length) (
    aH ((([(IntKind.i64.wrap ((IntKind.i64.wrap (x.1.1*(64:Int)))+(IntKind.i64.wrap (x.1.2.1*(8:Int)))))]++v3.1)++ [(x.1.2.2.2.1.length:Int)]).length+x.1.2.2.2.1.length) (
     some (((([(IntKind.i64.wrap ((IntKind.i64.wrap (x.1.1*(64:Int)))+(IntKind.i64.wrap (x.1.2.1*(8:Int)))))]++v3.1)++ [(x.1.2.2.2.1.length:Int)])++x.1.2.2.2.1),())))
  |false=>
   some (([(IntKind.i64.wrap ((IntKind.i64.wrap (x.1.1*(64:Int)))+(IntKind.i64.wrap (x.1.2.1*(8:Int)))))]++v3.1),()))
|false=>
 match jO (x.1.1,())with
 |none=>none
 |some v5=>
 match v5.1 with
 |true=>
  aH ([(IntKind.i64.wrap ((IntKind.i64.wrap (x.1.1*(64:Int)))+(IntKind.i64.wrap (x.1.2.1*(8:Int)))))].length+ [(x.1.2.2.2.1.length:Int)].length) (
   aH (([(IntKind.i64.wrap ((IntKind.i64.wrap (x.1.1*(64:Int)))+(IntKind.i64.wrap (x.1.2.1*(8:Int)))))]++ [(x.1.2.2.2.1.length:Int)]).length+x.1.2.2.2.1.length) (
    some ((([(IntKind.i64.wrap ((IntKind.i64.wrap (x.1.1*(64:Int)))+(IntKind.i64.wrap (x.1.2.1*(8:Int)))))]++ [(x.1.2.2.2.1.length:Int)])++x.1.2.2.2.1),())))
 |false=>
  some ([(IntKind.i64.wrap ((IntKind.i64.wrap (x.1.1*(64:Int)))+(IntKind.i64.wrap (x.1.2.1*(8:Int)))))],())
noncomputable def UK:ae:=⟨_,bG,.unit,rfl,fX⟩
theorem HJ:FnOK G0 Tryz.prog 110 UK:=aq ap (sg lj (sg QI (sg zG (sg ws (aU))))) Tryz.func110
noncomputable def et(x:Ty.T fD):Option (Ty.T bG):=
Iu x.1 fun v1=>
match v1 with
|true=>
 some ([],())
|false=>
 aH (([]:List (Ty.T (.int .i64))).length+x.1.length) (
  some ((([]:List (Ty.T (.int .i64)))++x.1),()))
noncomputable def BF:ae:=⟨_,bG,.unit,rfl,et⟩
theorem pv:FnOK G0 Tryz.prog 143 BF:=aq ap aU Tryz.func143
noncomputable def rY(x:Ty.T fD):Option (Ty.T yU):=
ab (aM x.1.length none (some (.dat (.int .i64) (16:Int)))) fun v1=>
ab (aM x.1.length (some (.dat (.int .i64) (16:Int))) (some (.dat (.int .i64) (20:Int)))) fun v2=>
ab (aM x.1.length (some (.dat (.int .i64) (20:Int))) (some (.dat (.int .i64) (24:Int)))) fun v3=>
ab (aM x.1.length (some (.dat (.int .i64) (24:Int))) (some (.dat (.int .i64) (32:Int)))) fun v4=>
ab (aM x.1.length (some (.dat (.int .i64) (32:Int))) (some (.dat (.int .i64) (64:Int)))) fun v5=>
match cW ((List.drop v1.1 (List.take v1.2 x.1)),())with
|none=>none
|some v6=>
match cW ((List.drop v2.1 (List.take v2.2 x.1)),())with
|none=>none
|some v7=>
match cW ((List.drop v3.1 (List.take v3.2 x.1)),())with
|none=>none
|some v8=>
match cW ((List.drop v4.1 (List.take v4.2 x.1)),())with
|none=>none
|some v9=>
match cW ((List.drop v5.1 (List.take v5.2 x.1)),())with
|none=>none
|some v10=>
some ((v6.1,v7.1,v8.1,v9.1,v10.1,()),())
noncomputable def O7:ae:=⟨_,yU,.unit,rfl,rY⟩
theorem MO:FnOK G0 Tryz.prog 199 O7:=aq ap (sg CG (aU)) Tryz.func199
noncomputable def rZ(x:Ty.T fD):Option (Ty.T UC):=
match((x.1.length:Int)==(0:Int))with
|true=>
 some (((0:Int),(0:Int),((0:Int),(0:Int),(0:Int),(0:Int),(0:Int),()),[],()),false,())
|false=>
 ab (av x.1 (0:Int)) fun v1=>
 ab (av x.1 (0:Int)) fun v2=>
 ab (aM x.1.length (some (.dat (.int .i64) (1:Int))) none) fun v3=>
 match fU ((IntKind.i64.wrap (Int.tdiv v1 (64:Int))),())with
 |none=>none
 |some v4=>
 match v4.1 with
 |true=>
  match(decide (((List.drop v3.1 (List.take v3.2 x.1)).length:Int)<(8:Int)))with
  |true=>
   some (((0:Int),(0:Int),((0:Int),(0:Int),(0:Int),(0:Int),(0:Int),()),[],()),false,())
  |false=>
   ab (aM (List.drop v3.1 (List.take v3.2 x.1)).length none (some (.dat (.int .i64) (8:Int)))) fun v5=>
   match oS ((List.drop v5.1 (List.take v5.2 (List.drop v3.1 (List.take v3.2 x.1)))),())with
   |none=>none
   |some v6=>
   match rY (v6.1,())with
   |none=>none
   |some v7=>
   ab (aM (List.drop v3.1 (List.take v3.2 x.1)).length (some (.dat (.int .i64) (8:Int))) none) fun v8=>
   match jO ((IntKind.i64.wrap (Int.tdiv v1 (64:Int))),())with
   |none=>none
   |some v9=>
   match v9.1 with
   |true=>
    match(decide (((List.drop v8.1 (List.take v8.2 (List.drop v3.1 (List.take v3.2 x.1)))).length:Int)>(0:Int)))with
    |true=>
     ab (aM (List.drop v8.1 (List.take v8.2 (List.drop v3.1 (List.take v3.2 x.1)))).length (some (.dat (.int .i64) (1:Int))) none) fun v10=>
     match et ((List.drop v10.1 (List.take v10.2 (List.drop v8.1 (List.take v8.2 (List.drop v3.1 (List.take v3.2 x.1)))))),())with
     |none=>none
     |some v11=>
     match cV (((IntKind.i64.wrap (Int.tdiv v1 (64:Int))),(Int.tmod (IntKind.i64.wrap (Int.tdiv v2 (8:Int))) (8:Int)),(v7.1.1,v7.1.2.1,v7.1.2.2.1,v7.1.2.2.2.1,v7.1.2.2.2.2.1,()),v11.1,()),())with
     |none=>none
     |some v12=>
     match(!v12.1)with
     |true=>
      some (((0:Int),(0:Int),((0:Int),(0:Int),(0:Int),(0:Int),(0:Int),()),[],()),false,())
     |false=>
      match fX (((IntKind.i64.wrap (Int.tdiv v1 (64:Int))),(Int.tmod (IntKind.i64.wrap (Int.tdiv v2 (8:Int))) (8:Int)),(v7.1.1,v7.1.2.1,v7.1.2.2.1,v7.1.2.2.2.1,v7.1.2.2.2.2.1,()),v11.1,()),())with
      |none=>none
      |some v13=>
      match bC (v13.1,x.1,())with
      |none=>none
      |some v14=>
      match(!v14.1)with
      |true=>
       some (((0:Int),(0:Int),((0:Int),(0:Int),(0:Int),(0:Int),(0:Int),()),[],()),false,())
      |false=>
       some (((IntKind.i64.wrap (Int.tdiv v1 (64:Int))),(Int.tmod (IntKind.i64.wrap (Int.tdiv v2 (8:Int))) (8:Int)),(v7.1.1,v7.1.2.1,v7.1.2.2.1,v7.1.2.2.2.1,v7.1.2.2.2.2.1,()),v11.1,()),true,())
    |false=>
     match cV (((IntKind.i64.wrap (Int.tdiv v1 (64:Int))),(Int.tmod (IntKind.i64.wrap (Int.tdiv v2 (8:Int))) (8:Int)),(v7.1.1,v7.1.2.1,v7.1.2.2.1,v7.1.2.2.2.1,v7.1.2.2.2.2.1,()),[],()),())with
     |none=>none
     |some v15=>
     match(!v15.1)with
     |true=>
      some (((0:Int),(0:Int),((0:Int),(0:Int),(0:Int),(0:Int),(0:Int),()),[],()),false,())
     |false=>
      match fX (((IntKind.i64.wrap (Int.tdiv v1 (64:Int))),(Int.tmod (IntKind.i64.wrap (Int.tdiv v2 (8:Int))) (8:Int)),(v7.1.1,v7.1.2.1,v7.1.2.2.1,v7.1.2.2.2.1,v7.1.2.2.2.2.1,()),[],()),())with
      |none=>none
      |some v16=>
      match bC (v16.1,x.1,())with
      |none=>none
      |some v17=>
      match(!v17.1)with
      |true=>
       some (((0:Int),(0:Int),((0:Int),(0:Int),(0:Int),(0:Int),(0:Int),()),[],()),false,())
      |false=>
       some (((IntKind.i64.wrap (Int.tdiv v1 (64:Int))),(Int.tmod (IntKind.i64.wrap (Int.tdiv v2 (8:Int))) (8:Int)),(v7.1.1,v7.1.2.1,v7.1.2.2.1,v7.1.2.2.2.1,v7.1.2.2.2.2.1,()),[],()),true,())
   |false=>
    match cV (((IntKind.i64.wrap (Int.tdiv v1 (64:Int))),(Int.tmod (IntKind.i64.wrap (Int.tdiv v2 (8:Int))) (8:Int)),(v7.1.1,v7.1.2.1,v7.1.2.2.1,v7.1.2.2.2.1,v7.1.2.2.2.2.1,()),[],()),())with
    |none=>none
    |some v18=>
    match(!v18.1)with
    |true=>
     some (((0:Int),(0:Int),((0:Int),(0:Int),(0:Int),(0:Int),(0:Int),()),[],()),false,())
    |false=>
     match fX (((IntKind.i64.wrap (Int.tdiv v1 (64:Int))),(Int.tmod (IntKind.i64.wrap (Int.tdiv v2 (8:Int))) (8:Int)),(v7.1.1,v7.1.2.1,v7.1.2.2.1,v7.1.2.2.2.1,v7.1.2.2.2.2.1,()),[],()),())with
     |none=>none
     |some v19=>
     match bC (v19.1,x.1,())with
     |none=>none
     |some v20=>
     match(!v20.1)with
     |true=>
      some (((0:Int),(0:Int),((0:Int),(0:Int),(0:Int),(0:Int),(0:Int),()),[],()),false,())
     |false=>
      some (((IntKind.i64.wrap (Int.tdiv v1 (64:Int))),(Int.tmod (IntKind.i64.wrap (Int.tdiv v2 (8:Int))) (8:Int)),(v7.1.1,v7.1.2.1,v7.1.2.2.1,v7.1.2.2.2.1,v7.1.2.2.2.2.1,()),[],()),true,())
 |false=>
  match jO ((IntKind.i64.wrap (Int.tdiv v1 (64:Int))),())with
  |none=>none
  |some v21=>
  match v21.1 with
  |true=>
   match(decide (((List.drop v3.1 (List.take v3.2 x.1)).length:Int)>(0:Int)))with
   |true=>
    ab (aM (List.drop v3.1 (List.take v3.2 x.1)).length (some (.dat (.int .i64) (1:Int))) none) fun v22=>
    match et ((List.drop v22.1 (List.take v22.2 (List.drop v3.1 (List.take v3.2 x.1)))),())with
    |none=>none
    |some v23=>
    match cV (((IntKind.i64.wrap (Int.tdiv v1 (64:Int))),(Int.tmod (IntKind.i64.wrap (Int.tdiv v2 (8:Int))) (8:Int)),((0:Int),(0:Int),(0:Int),(0:Int),(0:Int),()),v23.1,()),())with
    |none=>none
    |some v24=>
    match(!v24.1)with
    |true=>
     some (((0:Int),(0:Int),((0:Int),(0:Int),(0:Int),(0:Int),(0:Int),()),[],()),false,())
    |false=>
     match fX (((IntKind.i64.wrap (Int.tdiv v1 (64:Int))),(Int.tmod (IntKind.i64.wrap (Int.tdiv v2 (8:Int))) (8:Int)),((0:Int),(0:Int),(0:Int),(0:Int),(0:Int),()),v23.1,()),())with
     |none=>none
     |some v25=>
     match bC (v25.1,x.1,())with
     |none=>none
     |some v26=>
     match(!v26.1)with
     |true=>
      some (((0:Int),(0:Int),((0:Int),(0:Int),(0:Int),(0:Int),(0:Int),()),[],()),false,())
     |false=>
      some (((IntKind.i64.wrap (Int.tdiv v1 (64:Int))),(Int.tmod (IntKind.i64.wrap (Int.tdiv v2 (8:Int))) (8:Int)),((0:Int),(0:Int),(0:Int),(0:Int),(0:Int),()),v23.1,()),true,())
   |false=>
    match cV (((IntKind.i64.wrap (Int.tdiv v1 (64:Int))),(Int.tmod (IntKind.i64.wrap (Int.tdiv v2 (8:Int))) (8:Int)),((0:Int),(0:Int),(0:Int),(0:Int),(0:Int),()),[],()),())with
    |none=>none
    |some v27=>
    match(!v27.1)with
    |true=>
     some (((0:Int),(0:Int),((0:Int),(0:Int),(0:Int),(0:Int),(0:Int),()),[],()),false,())
    |false=>
     match fX (((IntKind.i64.wrap (Int.tdiv v1 (64:Int))),(Int.tmod (IntKind.i64.wrap (Int.tdiv v2 (8:Int))) (8:Int)),((0:Int),(0:Int),(0:Int),(0:Int),(0:Int),()),[],()),())with
     |none=>none
     |some v28=>
     match bC (v28.1,x.1,())with
     |none=>none
     |some v29=>
     match(!v29.1)with
     |true=>
      some (((0:Int),(0:Int),((0:Int),(0:Int),(0:Int),(0:Int),(0:Int),()),[],()),false,())
     |false=>
      some (((IntKind.i64.wrap (Int.tdiv v1 (64:Int))),(Int.tmod (IntKind.i64.wrap (Int.tdiv v2 (8:Int))) (8:Int)),((0:Int),(0:Int),(0:Int),(0:Int),(0:Int),()),[],()),true,())
  |false=>
   match cV (((IntKind.i64.wrap (Int.tdiv v1 (64:Int))),(Int.tmod (IntKind.i64.wrap (Int.tdiv v2 (8:Int))) (8:Int)),((0:Int),(0:Int),(0:Int),(0:Int),(0:Int),()),[],()),())with
   |none=>none
   |some v30=>
   match(!v30.1)with
   |true=>
    some (((0:Int),(0:Int),((0:Int),(0:Int),(0:Int),(0:Int),(0:Int),()),[],()),false,())
   |false=>
    match fX (((IntKind.i64.wrap (Int.tdiv v1 (64:Int))),(Int.tmod (IntKind.i64.wrap (Int.tdiv v2 (8:Int))) (8:Int)),((0:Int),(0:Int),(0:Int),(0:Int),(0:Int),()),[],()),())with
    |none=>none
    |some v31=>
    match bC (v31.1,x.1,())with
    |none=>none
    |some v32=>
    match(!v32.1)with
    |true=>
     some (((0:Int),(0:Int),((0:Int),(0:Int),(0:Int),(0:Int),(0:Int),()),[],()),false,())
    |false=>
     some (((IntKind.i64.wrap (Int.tdiv v1 (64:Int))),(Int.tmod (IntKind.i64.wrap (Int.tdiv v2 (8:Int))) (8:Int)),((0:Int),(0:Int),(0:Int),(0:Int),(0:Int),()),[],()),true,())
noncomputable def O8:ae:=⟨_,UC,.unit,rfl,rZ⟩
theorem MP:FnOK G0 Tryz.prog 154 O8:=aq ap (sg wN (sg kE (sg HJ (sg lj (sg pv (sg ws (sg HI (sg MO (aU))))))))) Tryz.func154
noncomputable def i8(x:Ty.T Z7):Option (Ty.T UD):=
match fF ((x.2.2.1.1,x.2.2.1.2.1,x.2.2.1.2.2.1,x.2.2.1.2.2.2.1,x.2.2.1.2.2.2.2.1,()),())with
|none=>none
|some v1=>
match(!v1.1)with
|true=>
 some (((0:Int),(0:Int),((0:Int),(0:Int),(0:Int),(0:Int),(0:Int),()),[],()),(1:Int),())
|false=>
 match zI (x.2.1,())with
 |none=>none
 |some v2=>
 match(!v2.1)with
 |true=>
  some (((0:Int),(0:Int),((0:Int),(0:Int),(0:Int),(0:Int),(0:Int),()),[],()),(2:Int),())
 |false=>
  match kN (x.1,())with
  |none=>none
  |some v3=>
  match(!v3.1)with
  |true=>
   some (((0:Int),(0:Int),((0:Int),(0:Int),(0:Int),(0:Int),(0:Int),()),[],()),(2:Int),())
  |false=>
   match(decide ((IntKind.i64.wrap ((x.1.length:Int)-(3:Int)))<(1:Int)))with
   |true=>
    some (((0:Int),(0:Int),((0:Int),(0:Int),(0:Int),(0:Int),(0:Int),()),[],()),(6:Int),())
   |false=>
    ab (av x.1 (0:Int)) fun v4=>
    ab (aM x.1.length none (some (.dat (.int .i64) (IntKind.i64.wrap ((x.1.length:Int)-(3:Int)))))) fun v5=>
    ab (aM x.1.length (some (.dat (.int .i64) (IntKind.i64.wrap ((x.1.length:Int)-(3:Int))))) none) fun v6=>
    match gq ((IntKind.i64.wrap (Int.tdiv v4 (64:Int))),(List.drop v5.1 (List.take v5.2 x.1)),x.2.1,(x.2.2.1.1,x.2.2.1.2.1,x.2.2.1.2.2.1,x.2.2.1.2.2.2.1,x.2.2.1.2.2.2.2.1,()),())with
    |none=>none
    |some v7=>
    match kF (v7.1,())with
    |none=>none
    |some v8=>
    match bC (v8.1,(List.drop v6.1 (List.take v6.2 x.1)),())with
    |none=>none
    |some v9=>
    match(!v9.1)with
    |true=>
     some (((0:Int),(0:Int),((0:Int),(0:Int),(0:Int),(0:Int),(0:Int),()),[],()),(7:Int),())
    |false=>
     ab (aM x.1.length none (some (.dat (.int .i64) (IntKind.i64.wrap ((x.1.length:Int)-(3:Int)))))) fun v10=>
     match rZ ((List.drop v10.1 (List.take v10.2 x.1)),())with
     |none=>none
     |some v11=>
     match(!v11.2.1)with
     |true=>
      some (((0:Int),(0:Int),((0:Int),(0:Int),(0:Int),(0:Int),(0:Int),()),[],()),(6:Int),())
     |false=>
      match fU (v11.1.1,())with
      |none=>none
      |some v12=>
      match v12.1 with
      |true=>
       match(!(cS ak (v11.1.2.2.1.1,v11.1.2.2.1.2.1,v11.1.2.2.1.2.2.1,v11.1.2.2.1.2.2.2.1,v11.1.2.2.1.2.2.2.2.1,()) (x.2.2.1.1,x.2.2.1.2.1,x.2.2.1.2.2.1,x.2.2.1.2.2.2.1,x.2.2.1.2.2.2.2.1,())))with
       |true=>
        some (((0:Int),(0:Int),((0:Int),(0:Int),(0:Int),(0:Int),(0:Int),()),[],()),(5:Int),())
       |false=>
        some ((v11.1.1,v11.1.2.1,(v11.1.2.2.1.1,v11.1.2.2.1.2.1,v11.1.2.2.1.2.2.1,v11.1.2.2.1.2.2.2.1,v11.1.2.2.1.2.2.2.2.1,()),v11.1.2.2.2.1,()),(0:Int),())
      |false=>
       some ((v11.1.1,v11.1.2.1,(v11.1.2.2.1.1,v11.1.2.2.1.2.1,v11.1.2.2.1.2.2.1,v11.1.2.2.1.2.2.2.1,v11.1.2.2.1.2.2.2.2.1,()),v11.1.2.2.2.1,()),(0:Int),())
noncomputable def O9:ae:=⟨_,UD,.unit,rfl,i8⟩
theorem MQ:FnOK G0 Tryz.prog 97 O9:=aq ap (sg EJ (sg kE (sg xY (sg wM (sg lj (sg wD (sg VV (sg MP (aU))))))))) Tryz.func97
noncomputable def pw(x:Ty.T tG):Option (Ty.T pU):=
match i8 (x.2.2.1,x.1.1,(x.2.1.1,x.2.1.2.1,x.2.1.2.2.1,x.2.1.2.2.2.1,x.2.1.2.2.2.2.1,()),())with
|none=>none
|some v1=>
match(v1.2.1==(0:Int))with
|true=>
 match dv ((x.1.1,x.1.2.1,x.1.2.2.1,x.1.2.2.2.1,()),(x.2.1.1,x.2.1.2.1,x.2.1.2.2.1,x.2.1.2.2.2.1,x.2.1.2.2.2.2.1,()),())with
 |none=>none
 |some v2=>
 match wI (v2.1,(v1.1.1,v1.1.2.1,(v1.1.2.2.1.1,v1.1.2.2.1.2.1,v1.1.2.2.1.2.2.1,v1.1.2.2.1.2.2.2.1,v1.1.2.2.1.2.2.2.2.1,()),v1.1.2.2.2.1,()),())with
 |none=>none
 |some v3=>
 match(!v3.1)with
 |true=>
  match((5:Int) != (0:Int))with
  |true=>
   some (((2:Int),((0:Int),(0:Int),((0:Int),(0:Int),(0:Int),(0:Int),(0:Int),()),[],()),()),(5:Int),())
  |false=>
   some (((3:Int),(v1.1.1,v1.1.2.1,(v1.1.2.2.1.1,v1.1.2.2.1.2.1,v1.1.2.2.1.2.2.1,v1.1.2.2.1.2.2.2.1,v1.1.2.2.1.2.2.2.2.1,()),v1.1.2.2.2.1,()),()),(0:Int),())
 |false=>
  match(v1.2.1 != (0:Int))with
  |true=>
   some (((2:Int),((0:Int),(0:Int),((0:Int),(0:Int),(0:Int),(0:Int),(0:Int),()),[],()),()),v1.2.1,())
  |false=>
   some (((3:Int),(v1.1.1,v1.1.2.1,(v1.1.2.2.1.1,v1.1.2.2.1.2.1,v1.1.2.2.1.2.2.1,v1.1.2.2.1.2.2.2.1,v1.1.2.2.1.2.2.2.2.1,()),v1.1.2.2.2.1,()),()),(0:Int),())
|false=>
 match(v1.2.1 != (0:Int))with
 |true=>
  some (((2:Int),((0:Int),(0:Int),((0:Int),(0:Int),(0:Int),(0:Int),(0:Int),()),[],()),()),v1.2.1,())
 |false=>
  some (((3:Int),(v1.1.1,v1.1.2.1,(v1.1.2.2.1.1,v1.1.2.2.1.2.1,v1.1.2.2.1.2.2.1,v1.1.2.2.1.2.2.2.1,v1.1.2.2.1.2.2.2.2.1,()),v1.1.2.2.2.1,()),()),(0:Int),())
noncomputable def VW:ae:=⟨_,pU,.unit,rfl,pw⟩
theorem UL:FnOK G0 Tryz.prog 47 VW:=aq ap (sg mf (sg Oo (sg MQ (aU)))) Tryz.func47
noncomputable def jP(x:Ty.T tG):Option (Ty.T pU):=
match ij (x.2.2.1,())with
|none=>none
|some v1=>
match(v1.2.1==(0:Int))with
|true=>
 match pw ((x.1.1,x.1.2.1,x.1.2.2.1,x.1.2.2.2.1,()),(x.2.1.1,x.2.1.2.1,x.2.1.2.2.1,x.2.1.2.2.2.1,x.2.1.2.2.2.2.1,()),v1.1,())with
 |none=>none
 |some v2=>
 some ((v2.1.1,(v2.1.2.1.1,v2.1.2.1.2.1,(v2.1.2.1.2.2.1.1,v2.1.2.1.2.2.1.2.1,v2.1.2.1.2.2.1.2.2.1,v2.1.2.1.2.2.1.2.2.2.1,v2.1.2.1.2.2.1.2.2.2.2.1,()),v2.1.2.1.2.2.2.1,()),()),v2.2.1,())
|false=>
 match(v1.2.1==(4:Int))with
 |true=>
  some (((0:Int),((0:Int),(0:Int),((0:Int),(0:Int),(0:Int),(0:Int),(0:Int),()),[],()),()),v1.2.1,())
 |false=>
  some (((1:Int),((0:Int),(0:Int),((0:Int),(0:Int),(0:Int),(0:Int),(0:Int),()),[],()),()),v1.2.1,())
noncomputable def Sq:ae:=⟨_,pU,.unit,rfl,jP⟩
theorem EM:FnOK G0 Tryz.prog 56 Sq:=aq ap (sg sI (sg UL (aU))) Tryz.func56
noncomputable def ci(x:Ty.T tG):Option (Ty.T pU):=
match oO (x.2.2.1,())with
|none=>none
|some v1=>
match lm ((x.1.1,x.1.2.1,x.1.2.2.1,x.1.2.2.2.1,()),(x.2.1.1,x.2.1.2.1,x.2.1.2.2.1,x.2.1.2.2.2.1,x.2.1.2.2.2.2.1,()),v1.1,())with
|none=>none
|some v2=>
match(v2.1 != (0:Int))with
|true=>
 some (((0:Int),((0:Int),(0:Int),((0:Int),(0:Int),(0:Int),(0:Int),(0:Int),()),[],()),()),v2.1,())
|false=>
 match jP ((x.1.1,x.1.2.1,x.1.2.2.1,x.1.2.2.2.1,()),(x.2.1.1,x.2.1.2.1,x.2.1.2.2.1,x.2.1.2.2.2.1,x.2.1.2.2.2.2.1,()),x.2.2.1,())with
 |none=>none
 |some v3=>
 some ((v3.1.1,(v3.1.2.1.1,v3.1.2.1.2.1,(v3.1.2.1.2.2.1.1,v3.1.2.1.2.2.1.2.1,v3.1.2.1.2.2.1.2.2.1,v3.1.2.1.2.2.1.2.2.2.1,v3.1.2.1.2.2.1.2.2.2.2.1,()),v3.1.2.1.2.2.2.1,()),()),(0:Int),())
noncomputable def EN:ae:=⟨_,pU,.unit,rfl,ci⟩
theorem lF:FnOK G0 Tryz.prog 14 EN:=aq ap (sg wE (sg rX (sg EM (aU)))) Tryz.func14
noncomputable def yX(x:Ty.T yV):Option (Ty.T ax):=
match iq ((x.1.1,x.1.2.1,x.1.2.2.1,x.1.2.2.2.1,()),())with
|none=>none
|some v1=>
match v1.1 with
|true=>
 match i7 ((x.1.1,x.1.2.1,x.1.2.2.1,x.1.2.2.2.1,()),(x.2.1.1,x.2.1.2.1,x.2.1.2.2.1,x.2.1.2.2.2.1,x.2.1.2.2.2.2.1,()),())with
 |none=>none
 |some v2=>
 some (v2.1,())
|false=>
 some (false,())
noncomputable def Pa:ae:=⟨_,ax,.unit,rfl,yX⟩
theorem MS:FnOK G0 Tryz.prog 66 Pa:=aq ap (sg HE (sg EF (aU))) Tryz.func66
noncomputable def fA(x:Ty.T Xn):Option (Ty.T ax):=
match fE ((x.1.1,x.1.2.1,x.1.2.2.1,x.1.2.2.2.1,x.1.2.2.2.2.1,()),())with
|none=>none
|some v1=>
match v1.1 with
|true=>
 match cV ((x.2.1.1,x.2.1.2.1,(x.2.1.2.2.1.1,x.2.1.2.2.1.2.1,x.2.1.2.2.1.2.2.1,x.2.1.2.2.1.2.2.2.1,x.2.1.2.2.1.2.2.2.2.1,()),x.2.1.2.2.2.1,()),())with
 |none=>none
 |some v2=>
 match v2.1 with
 |true=>
  match wI ((x.1.1,x.1.2.1,x.1.2.2.1,x.1.2.2.2.1,x.1.2.2.2.2.1,()),(x.2.1.1,x.2.1.2.1,(x.2.1.2.2.1.1,x.2.1.2.2.1.2.1,x.2.1.2.2.1.2.2.1,x.2.1.2.2.1.2.2.2.1,x.2.1.2.2.1.2.2.2.2.1,()),x.2.1.2.2.2.1,()),())with
  |none=>none
  |some v3=>
  some (v3.1,())
 |false=>
  some (false,())
|false=>
 some (false,())
noncomputable def EO:ae:=⟨_,ax,.unit,rfl,fA⟩
theorem qN:FnOK G0 Tryz.prog 34 EO:=aq ap (sg wN (sg uv (sg Oo (aU)))) Tryz.func34
noncomputable def jq(x:Ty.T Br):Option (Ty.T ax):=
match dv ((x.1.1,x.1.2.1,x.1.2.2.1,x.1.2.2.2.1,()),(x.2.1.1,x.2.1.2.1,x.2.1.2.2.1,x.2.1.2.2.2.1,x.2.1.2.2.2.2.1,()),())with
|none=>none
|some v1=>
match fA (v1.1,(x.2.2.1.1,x.2.2.1.2.1,(x.2.2.1.2.2.1.1,x.2.2.1.2.2.1.2.1,x.2.2.1.2.2.1.2.2.1,x.2.2.1.2.2.1.2.2.2.1,x.2.2.1.2.2.1.2.2.2.2.1,()),x.2.2.1.2.2.2.1,()),())with
|none=>none
|some v2=>
match v2.1 with
|true=>
 match fU (x.2.2.1.1,())with
 |none=>none
 |some v3=>
 match(!v3.1)with
 |true=>
  some (true,())
 |false=>
  some ((cS ak (x.2.2.1.2.2.1.1,x.2.2.1.2.2.1.2.1,x.2.2.1.2.2.1.2.2.1,x.2.2.1.2.2.1.2.2.2.1,x.2.2.1.2.2.1.2.2.2.2.1,()) (x.2.1.1,x.2.1.2.1,x.2.1.2.2.1,x.2.1.2.2.2.1,x.2.1.2.2.2.2.1,())),())
|false=>
 some (false,())
noncomputable def MU:ae:=⟨_,ax,.unit,rfl,jq⟩
theorem xZ:FnOK G0 Tryz.prog 67 MU:=aq ap (sg qN (sg mf (sg lj (aU)))) Tryz.func67
noncomputable def mg(x:Ty.T Br):Option (Ty.T ax):=
match yX ((x.1.1,x.1.2.1,x.1.2.2.1,x.1.2.2.2.1,()),(x.2.1.1,x.2.1.2.1,x.2.1.2.2.1,x.2.1.2.2.2.1,x.2.1.2.2.2.2.1,()),())with
|none=>none
|some v1=>
match v1.1 with
|true=>
 match jq ((x.1.1,x.1.2.1,x.1.2.2.1,x.1.2.2.2.1,()),(x.2.1.1,x.2.1.2.1,x.2.1.2.2.1,x.2.1.2.2.2.1,x.2.1.2.2.2.2.1,()),(x.2.2.1.1,x.2.2.1.2.1,(x.2.2.1.2.2.1.1,x.2.2.1.2.2.1.2.1,x.2.2.1.2.2.1.2.2.1,x.2.2.1.2.2.1.2.2.2.1,x.2.2.1.2.2.1.2.2.2.2.1,()),x.2.2.1.2.2.2.1,()),())with
 |none=>none
 |some v2=>
 some (v2.1,())
|false=>
 some (false,())
noncomputable def MV:ae:=⟨_,ax,.unit,rfl,mg⟩
theorem KP:FnOK G0 Tryz.prog 22 MV:=aq ap (sg MS (sg xZ (aU))) Tryz.func22
noncomputable def jQ(x:Ty.T yV):Option (Ty.T ZP):=
match fW ((x.1.1,x.1.2.1,x.1.2.2.1,x.1.2.2.2.1,()),(x.2.1.1,x.2.1.2.1,x.2.1.2.2.1,x.2.1.2.2.2.1,x.2.1.2.2.2.2.1,()),())with
|none=>none
|some v1=>
match(v1.1 != (0:Int))with
|true=>
 some (((0:Int),(0:Int),(0:Int),(0:Int),false,()),v1.1,())
|false=>
 match dv ((x.1.1,x.1.2.1,x.1.2.2.1,x.1.2.2.2.1,()),(x.2.1.1,x.2.1.2.1,x.2.1.2.2.1,x.2.1.2.2.2.1,x.2.1.2.2.2.2.1,()),())with
 |none=>none
 |some v2=>
 some ((v2.1.1,v2.1.2.1,v2.1.2.2.1,v2.1.2.2.2.1,v2.1.2.2.2.2.1,()),(0:Int),())
noncomputable def G4:ae:=⟨_,ZP,.unit,rfl,jQ⟩
theorem EP:FnOK G0 Tryz.prog 23 G4:=aq ap (sg mf (sg tK (aU))) Tryz.func23
noncomputable def qa(x:Ty.T Br):Option (Ty.T aV):=
match fW ((x.1.1,x.1.2.1,x.1.2.2.1,x.1.2.2.2.1,()),(x.2.1.1,x.2.1.2.1,x.2.1.2.2.1,x.2.1.2.2.2.1,x.2.1.2.2.2.2.1,()),())with
|none=>none
|some v1=>
match(v1.1 != (0:Int))with
|true=>
 some (v1.1,())
|false=>
 match jq ((x.1.1,x.1.2.1,x.1.2.2.1,x.1.2.2.2.1,()),(x.2.1.1,x.2.1.2.1,x.2.1.2.2.1,x.2.1.2.2.2.1,x.2.1.2.2.2.2.1,()),(x.2.2.1.1,x.2.2.1.2.1,(x.2.2.1.2.2.1.1,x.2.2.1.2.2.1.2.1,x.2.2.1.2.2.1.2.2.1,x.2.2.1.2.2.1.2.2.2.1,x.2.2.1.2.2.1.2.2.2.2.1,()),x.2.2.1.2.2.2.1,()),())with
 |none=>none
 |some v2=>
 match(!v2.1)with
 |true=>
  some ((5:Int),())
 |false=>
  some ((0:Int),())
noncomputable def QJ:ae:=⟨_,aV,.unit,rfl,qa⟩
theorem Pb:FnOK G0 Tryz.prog 61 QJ:=aq ap (sg xZ (sg tK (aU))) Tryz.func61
noncomputable def ER(x:Ty.T Z2):Option (Ty.T bG):=
match fX ((x.1.1,x.1.2.1,(x.1.2.2.1.1,x.1.2.2.1.2.1,x.1.2.2.1.2.2.1,x.1.2.2.1.2.2.2.1,x.1.2.2.1.2.2.2.2.1,()),x.1.2.2.2.1,()),())with
|none=>none
|some v1=>
match gq (x.1.1,v1.1,x.2.1,(x.2.2.1.1,x.2.2.1.2.1,x.2.2.1.2.2.1,x.2.2.1.2.2.2.1,x.2.2.1.2.2.2.2.1,()),())with
|none=>none
|some v2=>
match kF (v2.1,())with
|none=>none
|some v3=>
aH (v1.1.length+v3.1.length) (
 some ((v1.1++v3.1),()))
noncomputable def XB:ae:=⟨_,bG,.unit,rfl,ER⟩
theorem VX:FnOK G0 Tryz.prog 64 XB:=aq ap (sg HJ (sg xY (sg wM (aU)))) Tryz.func64
noncomputable def mh(x:Ty.T Br):Option (Ty.T jz):=
match qa ((x.1.1,x.1.2.1,x.1.2.2.1,x.1.2.2.2.1,()),(x.2.1.1,x.2.1.2.1,x.2.1.2.2.1,x.2.1.2.2.2.1,x.2.1.2.2.2.2.1,()),(x.2.2.1.1,x.2.2.1.2.1,(x.2.2.1.2.2.1.1,x.2.2.1.2.2.1.2.1,x.2.2.1.2.2.1.2.2.1,x.2.2.1.2.2.1.2.2.2.1,x.2.2.1.2.2.1.2.2.2.2.1,()),x.2.2.1.2.2.2.1,()),())with
|none=>none
|some v1=>
match(v1.1 != (0:Int))with
|true=>
 some ([],v1.1,())
|false=>
 match ER ((x.2.2.1.1,x.2.2.1.2.1,(x.2.2.1.2.2.1.1,x.2.2.1.2.2.1.2.1,x.2.2.1.2.2.1.2.2.1,x.2.2.1.2.2.1.2.2.2.1,x.2.2.1.2.2.1.2.2.2.2.1,()),x.2.2.1.2.2.2.1,()),x.1.1,(x.2.1.1,x.2.1.2.1,x.2.1.2.2.1,x.2.1.2.2.2.1,x.2.1.2.2.2.2.1,()),())with
 |none=>none
 |some v2=>
 some (v2.1,(0:Int),())
noncomputable def MW:ae:=⟨_,jz,.unit,rfl,mh⟩
theorem KQ:FnOK G0 Tryz.prog 25 MW:=aq ap (sg Pb (sg VX (aU))) Tryz.func25
abbrev tO:Ty:=(.pair (.list (.int .u8)) (.pair (.box ah) (.pair (.int .i64) .unit)))
noncomputable def ir(x:(Ty.T tO)):Option ((Ty.T tO) ⊕ ((Ty.T dY) ⊕ (Ty.T .unit))):=
match(decide (x.2.2.1<(x.1.length:Int)))with
|true=>
 match(decide (x.2.2.1<(64:Int)))with
 |true=>
  ab (av x.1 x.2.2.1) fun v1=>
  some (.inl (x.1,(x.2.1.1,x.2.1.2.1,(Int.tmod (IntKind.i64.wrap ((IntKind.i64.wrap (x.2.1.2.2.1*(53:Int)))+(IntKind.i64.wrap v1))) (2147483647:Int)),()),(IntKind.i64.wrap (x.2.2.1+(1:Int))),()))
 |false=>
  some (.inr (.inl ((x.2.1.1,x.2.1.2.1,x.2.1.2.2.1,()),())))
|false=>
 some (.inr (.inl ((x.2.1.1,x.2.1.2.1,x.2.1.2.2.1,()),())))
noncomputable def sK(x:Ty.T Mx):Option (Ty.T dY):=
match ac ir (x.1,(x.1,(0:Int),(40009:Int),()),(0:Int),())with
|none=>none
|some (.inl v2)=>
 some ((v2.1.1,v2.1.2.1,v2.1.2.2.1,()),())
|some (.inr v4)=>
 none
noncomputable def Sr:ae:=⟨_,dY,.unit,rfl,sK⟩
noncomputable def ES:FuncId→Option ae:=bH []
theorem MX:∀f s,ES f=some s→FnOK G0 Tryz.prog f s:=aK trivial
def CH:aX:=⟨[0,3,4],tO,0,[3],dY,[],.unit⟩
noncomputable def ET:List aD:=[CH.spec ir]
theorem KR:bi bm E0 ES (be Tryz.f39 ET) Tryz.f39 0 CH ir:=fun x=>by kernel_rfl
theorem EU:FnOK G0 Tryz.prog 39 Sr:=aO ap MX Tryz.func39 ET (by kernel_rfl) (by exact⟨(KR).lok,trivial⟩) fun x=>by kernel_rfl
noncomputable def bp(x:Ty.T (.pair (.int .i64) bM)):Option (Ty.T ax):=
match(decide (x.1≥x.2.1))with
|true=>
 some ((decide (x.1≤x.2.2.1)),())
|false=>
 some (false,())
noncomputable def i9:ae:=⟨_,ax,.unit,rfl,bp⟩
theorem cu:FnOK G0 Tryz.prog 158 i9:=aq ap aU Tryz.func158
noncomputable def sL(x:Ty.T aV):Option (Ty.T ax):=
match bp (x.1,(0:Int),(31:Int),())with
|none=>none
|some v1=>
some (v1.1,())
noncomputable def Ss:ae:=⟨_,ax,.unit,rfl,sL⟩
theorem EV:FnOK G0 Tryz.prog 209 Ss:=aq ap (sg cu (aU)) Tryz.func209
noncomputable def iu(x:(Ty.T Xm)):Option ((Ty.T Xm) ⊕ ((Ty.T xS) ⊕ (Ty.T ax))):=
match(decide (x.2.1<(x.1.length:Int)))with
|true=>
 ab (av x.1 x.2.1) fun v1=>
 match(decide ((v1.toNat:Int)<(97:Int)))with
 |true=>
  ab (av x.1 x.2.1) fun v2=>
  match(decide ((v2.toNat:Int)<(48:Int)))with
  |true=>
   some (.inr (.inr (false,())))
  |false=>
   ab (av x.1 x.2.1) fun v3=>
   match(decide ((v3.toNat:Int)>(57:Int)))with
   |true=>
    some (.inr (.inr (false,())))
   |false=>
    some (.inl (x.1,(IntKind.i64.wrap (x.2.1+(1:Int))),()))
 |false=>
  ab (av x.1 x.2.1) fun v4=>
  match(decide ((v4.toNat:Int)>(122:Int)))with
  |true=>
   ab (av x.1 x.2.1) fun v5=>
   match(decide ((v5.toNat:Int)<(48:Int)))with
   |true=>
    some (.inr (.inr (false,())))
   |false=>
    ab (av x.1 x.2.1) fun v6=>
    match(decide ((v6.toNat:Int)>(57:Int)))with
    |true=>
     some (.inr (.inr (false,())))
    |false=>
     some (.inl (x.1,(IntKind.i64.wrap (x.2.1+(1:Int))),()))
  |false=>
   some (.inl (x.1,(IntKind.i64.wrap (x.2.1+(1:Int))),()))
|false=>
 some (.inr (.inl (x.1,())))
noncomputable def x5(x:Ty.T xS):Option (Ty.T ax):=
match ac iu (x.1,(0:Int),())with
|none=>none
|some (.inl v7)=>
 match(decide ((v7.1.length:Int)≥(1:Int)))with
 |true=>
  some ((decide ((v7.1.length:Int)≤(6:Int))),())
 |false=>
  some (false,())
|some (.inr v8)=>
 some (v8.1,())
noncomputable def Su:ae:=⟨_,ax,.unit,rfl,x5⟩
noncomputable def EW:FuncId→Option ae:=bH []
theorem MY:∀f s,EW f=some s→FnOK G0 Tryz.prog f s:=aK trivial
def CI:aX:=⟨[0,3],Xm,0,[0],xS,[2],ax⟩
noncomputable def EX:List aD:=[CI.spec iu]
theorem KS:bi bm E0 EW (be Tryz.f257 EX) Tryz.f257 0 CI iu:=fun x=>by kernel_rfl
theorem QK:FnOK G0 Tryz.prog 257 Su:=aO ap MY Tryz.func257 EX (by kernel_rfl) (by exact⟨(KS).lok,trivial⟩) fun x=>by kernel_rfl
noncomputable def qb(x:Ty.T (.pair aA .unit)):Option (Ty.T ax):=
match sL (x.1.1,())with
|none=>none
|some v1=>
match v1.1 with
|true=>
 match x5 (x.1.2.1,())with
 |none=>none
 |some v2=>
 match v2.1 with
 |true=>
  match bp (x.1.2.2.1,(0:Int),(1000:Int),())with
  |none=>none
  |some v3=>
  some (v3.1,())
 |false=>
  some (false,())
|false=>
 some (false,())
noncomputable def zK:ae:=⟨_,ax,.unit,rfl,qb⟩
theorem KT:FnOK G0 Tryz.prog 239 zK:=aq ap (sg cu (sg EV (sg QK (aU)))) Tryz.func239
abbrev uH:Ty:=ZX
noncomputable def di(x:(Ty.T Mv)):Option ((Ty.T Mv) ⊕ ((Ty.T uH) ⊕ (Ty.T ax))):=
match(decide (x.2.2.1<x.2.1))with
|true=>
 ab (av x.1 x.2.2.1) fun v6=>
 ab (av x.1 x.2.1) fun v7=>
 match(v6.2.1==v7.2.1)with
 |true=>
  some (.inr (.inr (false,())))
 |false=>
  some (.inl (x.1,x.2.1,(IntKind.i64.wrap (x.2.2.1+(1:Int))),()))
|false=>
 some (.inr (.inl (x.1,x.2.1,())))
abbrev nB:Ty:=ZX
noncomputable def eU(x:(Ty.T nB)):Option ((Ty.T nB) ⊕ ((Ty.T .unit) ⊕ (Ty.T ax))):=
match(decide (x.2.1<(x.1.length:Int)))with
|true=>
 ab (av x.1 x.2.1) fun v2=>
 match qb (v2,())with
 |none=>none
 |some v3=>
 match(!v3.1)with
 |true=>
  some (.inr (.inr (false,())))
 |false=>
  match(decide (x.2.1>(0:Int)))with
  |true=>
   ab (av x.1 x.2.1) fun v4=>
   ab (av x.1 (IntKind.i64.wrap (x.2.1-(1:Int)))) fun v5=>
   match(decide (v4.1≤v5.1))with
   |true=>
    some (.inr (.inr (false,())))
   |false=>
    match ac di (x.1,x.2.1,(0:Int),())with
    |none=>none
    |some (.inl v6)=>
     some (.inl (v6.1,(IntKind.i64.wrap (v6.2.1+(1:Int))),()))
    |some (.inr v7)=>
     some (.inr (.inr (v7.1,())))
  |false=>
   match ac di (x.1,x.2.1,(0:Int),())with
   |none=>none
   |some (.inl v8)=>
    some (.inl (v8.1,(IntKind.i64.wrap (v8.2.1+(1:Int))),()))
   |some (.inr v9)=>
    some (.inr (.inr (v9.1,())))
|false=>
 some (.inr (.inl (())))
noncomputable def oA(x:Ty.T Mw):Option (Ty.T ax):=
match bp ((x.1.length:Int),(1:Int),(32:Int),())with
|none=>none
|some v1=>
match(!v1.1)with
|true=>
 some (false,())
|false=>
 match ac eU (x.1,(0:Int),())with
 |none=>none
 |some (.inl v10)=>
  some (true,())
 |some (.inr v11)=>
  some (v11.1,())
noncomputable def x6:ae:=⟨_,ax,.unit,rfl,oA⟩
noncomputable def oT:FuncId→Option ae:=bH [(158,i9),(239,zK)]
theorem EY:∀f s,oT f=some s→FnOK G0 Tryz.prog f s:=aK ⟨cu,KT,trivial⟩
def uI:aX:=⟨[0,3],nB,0,[],.unit,[2],ax⟩
def uJ:aX:=⟨[0,3,4],Mv,2,[0,3],uH,[2],ax⟩
noncomputable def oU:List aD:=[uI.spec eU,uJ.spec di]
theorem DS:bi bm E0 oT (be Tryz.f200 oU) Tryz.f200 0 uI eU:=fun x=>by kernel_rfl
theorem DT:bi bm E0 oT (be Tryz.f200 oU) Tryz.f200 1 uJ di:=fun x=>by kernel_rfl
theorem I4:FnOK G0 Tryz.prog 200 x6:=aO ap EY Tryz.func200 oU (by kernel_rfl) (by exact⟨(DS).lok,(DT).lok,trivial⟩) fun x=>by kernel_rfl
noncomputable def gI(x:(Ty.T qM)):Option ((Ty.T qM) ⊕ ((Ty.T .unit) ⊕ (Ty.T ax))):=
match(decide (x.2.2.1<(x.1.length:Int)))with
|true=>
 ab (av x.1 x.2.2.1) fun v1=>
 match bp (v1,(0:Int),(IntKind.i64.wrap (x.2.1-(1:Int))),())with
 |none=>none
 |some v2=>
 match(!v2.1)with
 |true=>
  some (.inr (.inr (false,())))
 |false=>
  match(decide (x.2.2.1>(0:Int)))with
  |true=>
   ab (av x.1 x.2.2.1) fun v3=>
   ab (av x.1 (IntKind.i64.wrap (x.2.2.1-(1:Int)))) fun v4=>
   match(decide (v3≤v4))with
   |true=>
    some (.inr (.inr (false,())))
   |false=>
    some (.inl (x.1,x.2.1,(IntKind.i64.wrap (x.2.2.1+(1:Int))),()))
  |false=>
   some (.inl (x.1,x.2.1,(IntKind.i64.wrap (x.2.2.1+(1:Int))),()))
|false=>
 some (.inr (.inl (())))
noncomputable def mY(x:Ty.T vZ):Option (Ty.T ax):=
match ac gI (x.1,x.2.1,(0:Int),())with
|none=>none
|some (.inl v5)=>
 some (true,())
|some (.inr v6)=>
 some (v6.1,())
noncomputable def EZ:ae:=⟨_,ax,.unit,rfl,mY⟩
noncomputable def CJ:FuncId→Option ae:=bH [(158,i9)]
theorem KU:∀f s,CJ f=some s→FnOK G0 Tryz.prog f s:=aK ⟨cu,trivial⟩
def zL:aX:=⟨[0,1,5],qM,0,[],.unit,[4],ax⟩
noncomputable def CK:List aD:=[zL.spec gI]
theorem I5:bi bm E0 CJ (be Tryz.f189 CK) Tryz.f189 0 zL gI:=fun x=>by kernel_rfl
theorem CL:FnOK G0 Tryz.prog 189 EZ:=aO ap KU Tryz.func189 CK (by kernel_rfl) (by exact⟨(I5).lok,trivial⟩) fun x=>by kernel_rfl
noncomputable def jr(x:(Ty.T qM)):Option ((Ty.T qM) ⊕ ((Ty.T .unit) ⊕ (Ty.T ax))):=
match(decide (x.2.2.1<(x.1.length:Int)))with
|true=>
 ab (av x.1 x.2.2.1) fun v1=>
 match(v1==x.2.1)with
 |true=>
  some (.inr (.inr (true,())))
 |false=>
  some (.inl (x.1,x.2.1,(IntKind.i64.wrap (x.2.2.1+(1:Int))),()))
|false=>
 some (.inr (.inl (())))
noncomputable def BG(x:Ty.T vZ):Option (Ty.T ax):=
match ac jr (x.1,x.2.1,(0:Int),())with
|none=>none
|some (.inl v2)=>
 some (false,())
|some (.inr v3)=>
 some (v3.1,())
noncomputable def KV:ae:=⟨_,ax,.unit,rfl,BG⟩
noncomputable def HK:FuncId→Option ae:=bH []
theorem Pc:∀f s,HK f=some s→FnOK G0 Tryz.prog f s:=aK trivial
def E4:aX:=⟨[0,1,5],qM,0,[],.unit,[4],ax⟩
noncomputable def HL:List aD:=[E4.spec jr]
theorem MZ:bi bm E0 HK (be Tryz.f240 HL) Tryz.f240 0 E4 jr:=fun x=>by kernel_rfl
theorem Sv:FnOK G0 Tryz.prog 240 KV:=aO ap Pc Tryz.func240 HL (by kernel_rfl) (by exact⟨(MZ).lok,trivial⟩) fun x=>by kernel_rfl
abbrev nC:Ty:=ZY
noncomputable def eV(x:(Ty.T nC)):Option ((Ty.T nC) ⊕ ((Ty.T .unit) ⊕ (Ty.T ax))):=
match(decide (x.2.1<(x.1.length:Int)))with
|true=>
 ab (av x.1 x.2.1) fun v2=>
 match bp (v2.1,(1:Int),(8:Int),())with
 |none=>none
 |some v3=>
 match(!v3.1)with
 |true=>
  some (.inr (.inr (false,())))
 |false=>
  match bp (v2.2.1,(1:Int),(16:Int),())with
  |none=>none
  |some v4=>
  match(!v4.1)with
  |true=>
   some (.inr (.inr (false,())))
  |false=>
   match mY (v2.2.2.1,(x.1.length:Int),())with
   |none=>none
   |some v5=>
   match(!v5.1)with
   |true=>
    some (.inr (.inr (false,())))
   |false=>
    match BG (v2.2.2.1,x.2.1,())with
    |none=>none
    |some v6=>
    match v6.1 with
    |true=>
     some (.inr (.inr (false,())))
    |false=>
     some (.inl (x.1,(IntKind.i64.wrap (x.2.1+(1:Int))),()))
|false=>
 some (.inr (.inl (())))
noncomputable def oB(x:Ty.T Us):Option (Ty.T ax):=
match bp ((x.1.length:Int),(1:Int),(16:Int),())with
|none=>none
|some v1=>
match(!v1.1)with
|true=>
 some (false,())
|false=>
 match ac eV (x.1,(0:Int),())with
 |none=>none
 |some (.inl v7)=>
  some (true,())
 |some (.inr v8)=>
  some (v8.1,())
noncomputable def x7:ae:=⟨_,ax,.unit,rfl,oB⟩
noncomputable def wO:FuncId→Option ae:=bH [(158,i9),(189,EZ),(240,KV)]
theorem E5:∀f s,wO f=some s→FnOK G0 Tryz.prog f s:=aK ⟨cu,CL,Sv,trivial⟩
def uK:aX:=⟨[0,3],nC,0,[],.unit,[2],ax⟩
noncomputable def wP:List aD:=[uK.spec eV]
theorem DU:bi bm E0 wO (be Tryz.f201 wP) Tryz.f201 0 uK eV:=fun x=>by kernel_rfl
theorem I6:FnOK G0 Tryz.prog 201 x7:=aO ap E5 Tryz.func201 wP (by kernel_rfl) (by exact⟨(DU).lok,trivial⟩) fun x=>by kernel_rfl
noncomputable def sM(x:Ty.T aV):Option (Ty.T ax):=
match bp (x.1,(0:Int),(3:Int),())with
|none=>none
|some v1=>
some (v1.1,())
noncomputable def Sw:ae:=⟨_,ax,.unit,rfl,sM⟩
theorem E6:FnOK G0 Tryz.prog 210 Sw:=aq ap (sg cu (aU)) Tryz.func210
noncomputable def sN(x:Ty.T bM):Option (Ty.T ax):=
match(x.1==(0:Int))with
|true=>
 match bp (x.2.1,(0:Int),(32:Int),())with
 |none=>none
 |some v1=>
 some (v1.1,())
|false=>
 match(x.1==(2:Int))with
 |true=>
  match bp (x.2.1,(1:Int),(32:Int),())with
  |none=>none
  |some v2=>
  some (v2.1,())
 |false=>
  some ((x.2.1==(0:Int)),())
noncomputable def Sx:ae:=⟨_,ax,.unit,rfl,sN⟩
theorem E7:FnOK G0 Tryz.prog 211 Sx:=aq ap (sg cu (aU)) Tryz.func211
noncomputable def dj(x:Ty.T aV):Option (Ty.T ax):=
some ((x.1 != (0:Int)),())
noncomputable def E8:ae:=⟨_,ax,.unit,rfl,dj⟩
theorem iv:FnOK G0 Tryz.prog 94 E8:=aq ap aU Tryz.func94
noncomputable def fH(x:Ty.T aV):Option (Ty.T ax):=
match(x.1==(0:Int))with
|true=>
 some (true,())
|false=>
 some ((x.1==(2:Int)),())
noncomputable def HM:ae:=⟨_,ax,.unit,rfl,fH⟩
theorem mi:FnOK G0 Tryz.prog 95 HM:=aq ap aU Tryz.func95
noncomputable def jE(x:Ty.T bM):Option (Ty.T aV):=
match dj (x.1,())with
|none=>none
|some v1=>
match v1.1 with
|true=>
 match fH (x.1,())with
 |none=>none
 |some v2=>
 match v2.1 with
 |true=>
  some ((IntKind.i64.wrap ((IntKind.i64.wrap ((IntKind.i64.wrap ((1:Int)+(8:Int)))+(1:Int)))+x.2.1)),())
 |false=>
  some ((IntKind.i64.wrap ((1:Int)+(8:Int))),())
|false=>
 match fH (x.1,())with
 |none=>none
 |some v3=>
 match v3.1 with
 |true=>
  some ((IntKind.i64.wrap ((IntKind.i64.wrap ((1:Int)+(1:Int)))+x.2.1)),())
 |false=>
  some ((1:Int),())
noncomputable def KW:ae:=⟨_,aV,.unit,rfl,jE⟩
theorem I7:FnOK G0 Tryz.prog 243 KW:=aq ap (sg iv (sg mi (aU))) Tryz.func243
noncomputable def dU(x:Ty.T bM):Option (Ty.T aV):=
match jE (x.1,x.2.1,())with
|none=>none
|some v1=>
some ((IntKind.i64.wrap ((11:Int)+(IntKind.i64.wrap ((10:Int)*(IntKind.i64.wrap (v1.1+(3:Int))))))),())
noncomputable def QL:ae:=⟨_,aV,.unit,rfl,dU⟩
theorem tP:FnOK G0 Tryz.prog 212 QL:=aq ap (sg I7 (aU)) Tryz.func212
noncomputable def eI(x:Ty.T Et):Option (Ty.T ax):=
match sL (x.1.1,())with
|none=>none
|some v1=>
match(!v1.1)with
|true=>
 some (false,())
|false=>
 match sM (x.1.2.1,())with
 |none=>none
 |some v2=>
 match(!v2.1)with
 |true=>
  some (false,())
 |false=>
  match sN (x.1.2.1,x.1.2.2.1,())with
  |none=>none
  |some v3=>
  match(!v3.1)with
  |true=>
   some (false,())
  |false=>
   match(x.1.2.1==(3:Int))with
   |true=>
    match x.1.2.2.2.2.1 with
    |true=>
     some (false,())
    |false=>
     match dU (x.1.2.1,x.1.2.2.1,())with
     |none=>none
     |some v4=>
     match bp (x.1.2.2.2.1,(IntKind.i64.wrap (v4.1+(20:Int))),(1000:Int),())with
     |none=>none
     |some v5=>
     some (v5.1,())
   |false=>
    match dU (x.1.2.1,x.1.2.2.1,())with
    |none=>none
    |some v6=>
    match bp (x.1.2.2.2.1,(IntKind.i64.wrap (v6.1+(20:Int))),(1000:Int),())with
    |none=>none
    |some v7=>
    some (v7.1,())
noncomputable def I8:ae:=⟨_,ax,.unit,rfl,eI⟩
theorem uL:FnOK G0 Tryz.prog 160 I8:=aq ap (sg cu (sg EV (sg E6 (sg E7 (sg tP (aU)))))) Tryz.func160
noncomputable def GA(x:Ty.T Xf):Option (Ty.T ax):=
match bp (x.1.1,(0:Int),(15:Int),())with
|none=>none
|some v1=>
match v1.1 with
|true=>
 match bp (x.1.2.1,(0:Int),(7:Int),())with
 |none=>none
 |some v2=>
 match v2.1 with
 |true=>
  match bp (x.1.2.2.1,(0:Int),(15:Int),())with
  |none=>none
  |some v3=>
  match v3.1 with
  |true=>
   match eI ((x.1.2.2.2.1.1,x.1.2.2.2.1.2.1,x.1.2.2.2.1.2.2.1,x.1.2.2.2.1.2.2.2.1,x.1.2.2.2.1.2.2.2.2.1,()),())with
   |none=>none
   |some v4=>
   some (v4.1,())
  |false=>
   some (false,())
 |false=>
  some (false,())
|false=>
 some (false,())
noncomputable def Oq:ae:=⟨_,ax,.unit,rfl,GA⟩
theorem UM:FnOK G0 Tryz.prog 241 Oq:=aq ap (sg cu (sg uL (aU))) Tryz.func241
abbrev mj:Ty:=(.pair (.own 2 (.int .i64)) (.pair (.own 2 (.int .i64)) (.pair (.int .i64) .unit)))
noncomputable def cp(x:(Ty.T mj)):Option ((Ty.T mj) ⊕ ((Ty.T .unit) ⊕ (Ty.T aV))):=
match(decide (x.2.2.1<(3:Int)))with
|true=>
 ab (av x.1 x.2.2.1) fun _=>
 match x.1[x.2.2.1.toNat]? with
 |none=>none
 |some v2=>
 ab (av x.2.1 x.2.2.1) fun _=>
 match x.2.1[x.2.2.1.toNat]? with
 |none=>none
 |some v4=>
 match(decide (v2<v4))with
 |true=>
  some (.inr (.inr ((-1:Int),())))
 |false=>
  ab (av x.1 x.2.2.1) fun _=>
  match x.1[x.2.2.1.toNat]? with
  |none=>none
  |some v6=>
  ab (av x.2.1 x.2.2.1) fun _=>
  match x.2.1[x.2.2.1.toNat]? with
  |none=>none
  |some v8=>
  match(decide (v6>v8))with
  |true=>
   some (.inr (.inr ((1:Int),())))
  |false=>
   some (.inl (x.1,x.2.1,(IntKind.i64.wrap (x.2.2.1+(1:Int))),()))
|false=>
 some (.inr (.inl (())))
noncomputable def mZ(x:Ty.T ZO):Option (Ty.T aV):=
al (
 match ac cp ([x.1.1,x.1.2.1,x.1.2.2.1],[x.2.1.1,x.2.1.2.1,x.2.1.2.2.1],(0:Int),())with
 |none=>none
 |some (.inl v9)=>
  some ((0:Int),())
 |some (.inr v10)=>
  some (v10.1,())) (
 match ac cp ([x.1.1,x.1.2.1,x.1.2.2.1],[x.2.1.1,x.2.1.2.1,x.2.1.2.2.1],(0:Int),())with
 |none=>none
 |some (.inl v1)=>
  some ((0:Int),())
 |some (.inr v2)=>
  some (v2.1,()))
noncomputable def wQ:ae:=⟨_,aV,.unit,rfl,mZ⟩
noncomputable def uM:FuncId→Option ae:=bH []
theorem DV:∀f s,uM f=some s→FnOK G0 Tryz.prog f s:=aK trivial
def sO:aX:=⟨[5,6,7],mj,0,[],.unit,[4],aV⟩
noncomputable def uN:List aD:=[sO.spec cp]
theorem BH:bi bm E0 uM (be Tryz.f242 uN) Tryz.f242 0 sO cp:=fun x=>by kernel_rfl
theorem G5:FnOK G0 Tryz.prog 242 wQ:=aO ap DV Tryz.func242 uN (by kernel_rfl) (by exact⟨(BH).lok,trivial⟩) fun x=>by kernel_rfl
abbrev nD:Ty:=(.pair (.list ao) (.pair (.int .i64) .unit))
noncomputable def eW(x:(Ty.T nD)):Option ((Ty.T nD) ⊕ ((Ty.T .unit) ⊕ (Ty.T ax))):=
match(decide (x.2.1<(x.1.length:Int)))with
|true=>
 ab (av x.1 x.2.1) fun v1=>
 match GA (v1,())with
 |none=>none
 |some v2=>
 match(!v2.1)with
 |true=>
  some (.inr (.inr (false,())))
 |false=>
  match(decide (x.2.1>(0:Int)))with
  |true=>
   ab (av x.1 (IntKind.i64.wrap (x.2.1-(1:Int)))) fun v3=>
   ab (av x.1 x.2.1) fun v4=>
   match mZ (v3,v4,())with
   |none=>none
   |some v5=>
   match(decide (v5.1≥(0:Int)))with
   |true=>
    some (.inr (.inr (false,())))
   |false=>
    some (.inl (x.1,(IntKind.i64.wrap (x.2.1+(1:Int))),()))
  |false=>
   some (.inl (x.1,(IntKind.i64.wrap (x.2.1+(1:Int))),()))
|false=>
 some (.inr (.inl (())))
noncomputable def oC(x:Ty.T Qq):Option (Ty.T ax):=
match(decide ((x.1.length:Int)>(120:Int)))with
|true=>
 some (false,())
|false=>
 match ac eW (x.1,(0:Int),())with
 |none=>none
 |some (.inl v6)=>
  some (true,())
 |some (.inr v7)=>
  some (v7.1,())
noncomputable def x8:ae:=⟨_,ax,.unit,rfl,oC⟩
noncomputable def wR:FuncId→Option ae:=bH [(241,Oq),(242,wQ)]
theorem E9:∀f s,wR f=some s→FnOK G0 Tryz.prog f s:=aK ⟨UM,G5,trivial⟩
def uO:aX:=⟨[0,3],nD,0,[],.unit,[2],ax⟩
noncomputable def wS:List aD:=[uO.spec eW]
theorem DW:bi bm E0 wR (be Tryz.f202 wS) Tryz.f202 0 uO eW:=fun x=>by kernel_rfl
theorem I9:FnOK G0 Tryz.prog 202 x8:=aO ap E9 Tryz.func202 wS (by kernel_rfl) (by exact⟨(DW).lok,trivial⟩) fun x=>by kernel_rfl
noncomputable def iw(x:(Ty.T Xj)):Option ((Ty.T Xj) ⊕ ((Ty.T .unit) ⊕ (Ty.T aV))):=
match(decide (x.2.2.2.2.1<(x.1.length:Int)))with
|true=>
 ab (av x.1 x.2.2.2.2.1) fun v1=>
 match(v1.1==x.2.1)with
 |true=>
  ab (av x.1 x.2.2.2.2.1) fun v2=>
  match(v2.2.1==x.2.2.1)with
  |true=>
   ab (av x.1 x.2.2.2.2.1) fun v3=>
   match(v3.2.2.1==x.2.2.2.1)with
   |true=>
    some (.inr (.inr (x.2.2.2.2.1,())))
   |false=>
    some (.inl (x.1,x.2.1,x.2.2.1,x.2.2.2.1,(IntKind.i64.wrap (x.2.2.2.2.1+(1:Int))),()))
  |false=>
   some (.inl (x.1,x.2.1,x.2.2.1,x.2.2.2.1,(IntKind.i64.wrap (x.2.2.2.2.1+(1:Int))),()))
 |false=>
  some (.inl (x.1,x.2.1,x.2.2.1,x.2.2.2.1,(IntKind.i64.wrap (x.2.2.2.2.1+(1:Int))),()))
|false=>
 some (.inr (.inl (())))
noncomputable def sP(x:Ty.T ZV):Option (Ty.T aV):=
match ac iw (x.1,x.2.1,x.2.2.1,x.2.2.2.1,(0:Int),())with
|none=>none
|some (.inl v4)=>
 some ((-1:Int),())
|some (.inr v5)=>
 some (v5.1,())
noncomputable def HN:ae:=⟨_,aV,.unit,rfl,sP⟩
noncomputable def Fa:FuncId→Option ae:=bH []
theorem M0:∀f s,Fa f=some s→FnOK G0 Tryz.prog f s:=aK trivial
def CM:aX:=⟨[0,1,2,3,9],Xj,0,[],.unit,[8],aV⟩
noncomputable def Fb:List aD:=[CM.spec iw]
theorem KX:bi bm E0 Fa (be Tryz.f147 Fb) Tryz.f147 0 CM iw:=fun x=>by kernel_rfl
theorem Fc:FnOK G0 Tryz.prog 147 HN:=aO ap M0 Tryz.func147 Fb (by kernel_rfl) (by exact⟨(KX).lok,trivial⟩) fun x=>by kernel_rfl
abbrev uP:Ty:=Xo
noncomputable def eZ(x:(Ty.T Qp)):Option ((Ty.T Qp) ⊕ ((Ty.T uP) ⊕ (Ty.T ax))):=
ab (av x.1.2.2.1 x.2.2.1) fun v2=>
match(decide (x.2.2.2.2.1<v2.2.1))with
|true=>
 match sP (x.1.2.2.2.1,x.2.2.1,x.2.2.2.1,x.2.2.2.2.1,())with
 |none=>none
 |some v3=>
 match(decide (v3.1<(0:Int)))with
 |true=>
  some (.inr (.inr (false,())))
 |false=>
  some (.inl ((x.1.1,x.1.2.1,x.1.2.2.1,x.1.2.2.2.1,()),(IntKind.i64.wrap (x.2.1+(1:Int))),x.2.2.1,x.2.2.2.1,(IntKind.i64.wrap (x.2.2.2.2.1+(1:Int))),()))
|false=>
 some (.inr (.inl ((x.1.1,x.1.2.1,x.1.2.2.1,x.1.2.2.2.1,()),x.2.1,x.2.2.1,x.2.2.2.1,())))
abbrev nF:Ty:=Xo
noncomputable def fb(x:(Ty.T nF)):Option ((Ty.T nF) ⊕ ((Ty.T un) ⊕ (Ty.T ax))):=
ab (av x.1.2.2.1 x.2.2.1) fun v1=>
match(decide (x.2.2.2.1<v1.1))with
|true=>
 match ac eZ ((x.1.1,x.1.2.1,x.1.2.2.1,x.1.2.2.2.1,()),x.2.1,x.2.2.1,x.2.2.2.1,(0:Int),())with
 |none=>none
 |some (.inl v2)=>
  some (.inl ((v2.1.1,v2.1.2.1,v2.1.2.2.1,v2.1.2.2.2.1,()),v2.2.1,v2.2.2.1,(IntKind.i64.wrap (v2.2.2.2.1+(1:Int))),()))
 |some (.inr v3)=>
  some (.inr (.inr (v3.1,())))
|false=>
 some (.inr (.inl ((x.1.1,x.1.2.1,x.1.2.2.1,x.1.2.2.2.1,()),x.2.1,x.2.2.1,())))
abbrev uQ:Ty:=Uw
noncomputable def dk(x:(Ty.T un)):Option ((Ty.T un) ⊕ ((Ty.T uQ) ⊕ (Ty.T ax))):=
match(decide (x.2.2.1<(x.1.2.2.1.length:Int)))with
|true=>
 match ac fb ((x.1.1,x.1.2.1,x.1.2.2.1,x.1.2.2.2.1,()),x.2.1,x.2.2.1,(0:Int),())with
 |none=>none
 |some (.inl v1)=>
  some (.inl ((v1.1.1,v1.1.2.1,v1.1.2.2.1,v1.1.2.2.2.1,()),v1.2.1,(IntKind.i64.wrap (v1.2.2.1+(1:Int))),()))
 |some (.inr v2)=>
  some (.inr (.inr (v2.1,())))
|false=>
 some (.inr (.inl ((x.1.1,x.1.2.1,x.1.2.2.1,x.1.2.2.2.1,()),x.2.1,())))
noncomputable def lp(x:Ty.T qU):Option (Ty.T ax):=
match ac dk ((x.1.1,x.1.2.1,x.1.2.2.1,x.1.2.2.2.1,()),(0:Int),(0:Int),())with
|none=>none
|some (.inl v3)=>
 some ((v3.2.1==(v3.1.2.2.2.1.length:Int)),())
|some (.inr v4)=>
 some (v4.1,())
noncomputable def x9:ae:=⟨_,ax,.unit,rfl,lp⟩
noncomputable def kW:FuncId→Option ae:=bH [(147,HN)]
theorem Fd:∀f s,kW f=some s→FnOK G0 Tryz.prog f s:=aK ⟨Fc,trivial⟩
def uR:aX:=⟨[1,3,4],un,0,[1,3],uQ,[2],ax⟩
def uS:aX:=⟨[1,3,4,5],nF,2,[1,3,4],un,[2],ax⟩
def uT:aX:=⟨[1,3,4,5,6],Qp,4,[1,3,4,5],uP,[2],ax⟩
noncomputable def kX:List aD:=[uR.spec dk,uS.spec fb,uT.spec eZ]
theorem DX:bi bm E0 kW (be Tryz.f203 kX) Tryz.f203 0 uR dk:=fun x=>by kernel_rfl
theorem DY:bi bm E0 kW (be Tryz.f203 kX) Tryz.f203 1 uS fb:=fun x=>by kernel_rfl
theorem DZ:bi bm E0 kW (be Tryz.f203 kX) Tryz.f203 2 uT eZ:=fun x=>by kernel_rfl
theorem Ja:FnOK G0 Tryz.prog 203 x9:=aO ap Fd Tryz.func203 kX (by kernel_rfl) (by exact⟨(DX).lok,(DY).lok,(DZ).lok,trivial⟩) fun x=>by kernel_rfl
noncomputable def oV(x:Ty.T bM):Option (Ty.T ax):=
if(IntKind.u64.wrap x.2.1)<0 then none else
some (((bits BinOp.and .i64 (Int.fdiv x.1 (2^min (IntKind.u64.wrap x.2.1).toNat IntKind.i64.bits)) (1:Int))==(1:Int)),())
noncomputable def BI:ae:=⟨_,ax,.unit,rfl,oV⟩
theorem yY:FnOK G0 Tryz.prog 238 BI:=aq ap aU Tryz.func238
noncomputable def wT(x:Ty.T (.pair (.int .i64) (.pair (.int .i64) (.pair .bool .unit)))):Option (Ty.T aV):=
match oV (x.1,x.2.1,())with
|none=>none
|some v1=>
match(v1.1==x.2.2.1)with
|true=>
 some (x.1,())
|false=>
 if(IntKind.u64.wrap x.2.1)<0 then none else
 some ((bits BinOp.xor .i64 x.1 (IntKind.i64.wrap ((1:Int)*2^min (IntKind.u64.wrap x.2.1).toNat IntKind.i64.bits))),())
noncomputable def BJ:ae:=⟨_,aV,.unit,rfl,wT⟩
theorem HO:FnOK G0 Tryz.prog 196 BJ:=aq ap (sg yY (aU)) Tryz.func196
noncomputable def cX(x:(Ty.T Mv)):Option ((Ty.T Mv) ⊕ ((Ty.T aV) ⊕ (Ty.T .unit))):=
match(decide (x.2.2.1<(x.1.length:Int)))with
|true=>
 ab (av x.1 x.2.2.1) fun v1=>
 match(!v1.2.2.2.1)with
 |true=>
  ab (av x.1 x.2.2.1) fun v2=>
  match wT (x.2.1,v2.1,true,())with
  |none=>none
  |some v3=>
  some (.inl (x.1,v3.1,(IntKind.i64.wrap (x.2.2.1+(1:Int))),()))
 |false=>
  some (.inl (x.1,x.2.1,(IntKind.i64.wrap (x.2.2.1+(1:Int))),()))
|false=>
 some (.inr (.inl (x.2.1,())))
noncomputable def cQ(x:Ty.T Mw):Option (Ty.T aV):=
match ac cX (x.1,(0:Int),(0:Int),())with
|none=>none
|some (.inl v4)=>
 some (v4.1,())
|some (.inr v6)=>
 none
noncomputable def oD:ae:=⟨_,aV,.unit,rfl,cQ⟩
noncomputable def zM:FuncId→Option ae:=bH [(196,BJ)]
theorem Jb:∀f s,zM f=some s→FnOK G0 Tryz.prog f s:=aK ⟨HO,trivial⟩
def ya:aX:=⟨[0,3,4],Mv,0,[3],aV,[],.unit⟩
noncomputable def zN:List aD:=[ya.spec cX]
theorem G6:bi bm E0 zM (be Tryz.f146 zN) Tryz.f146 0 ya cX:=fun x=>by kernel_rfl
theorem kG:FnOK G0 Tryz.prog 146 oD:=aO ap Jb Tryz.func146 zN (by kernel_rfl) (by exact⟨(G6).lok,trivial⟩) fun x=>by kernel_rfl
noncomputable def fB(x:(Ty.T un)):Option ((Ty.T un) ⊕ ((Ty.T .unit) ⊕ (Ty.T ax))):=
match(decide (x.2.2.1<(x.1.2.2.2.1.length:Int)))with
|true=>
 ab (av x.1.2.2.2.1 x.2.2.1) fun v2=>
 match oV (x.2.1,v2.2.2.2.1.1,())with
 |none=>none
 |some v3=>
 match(!v3.1)with
 |true=>
  some (.inr (.inr (false,())))
 |false=>
  some (.inl ((x.1.1,x.1.2.1,x.1.2.2.1,x.1.2.2.2.1,()),x.2.1,(IntKind.i64.wrap (x.2.2.1+(1:Int))),()))
|false=>
 some (.inr (.inl (())))
noncomputable def mk(x:Ty.T qU):Option (Ty.T ax):=
match cQ (x.1.2.1,())with
|none=>none
|some v1=>
match ac fB ((x.1.1,x.1.2.1,x.1.2.2.1,x.1.2.2.2.1,()),v1.1,(0:Int),())with
|none=>none
|some (.inl v4)=>
 some (true,())
|some (.inr v5)=>
 some (v5.1,())
noncomputable def zO:ae:=⟨_,ax,.unit,rfl,mk⟩
noncomputable def yb:FuncId→Option ae:=bH [(146,oD),(238,BI)]
theorem G7:∀f s,yb f=some s→FnOK G0 Tryz.prog f s:=aK ⟨kG,yY,trivial⟩
def wU:aX:=⟨[1,3,4],un,0,[],.unit,[2],ax⟩
noncomputable def yc:List aD:=[wU.spec fB]
theorem Fe:bi bm E0 yb (be Tryz.f204 yc) Tryz.f204 0 wU fB:=fun x=>by kernel_rfl
theorem KY:FnOK G0 Tryz.prog 204 zO:=aO ap G7 Tryz.func204 yc (by kernel_rfl) (by exact⟨(Fe).lok,trivial⟩) fun x=>by kernel_rfl
abbrev sQ:Ty:=ZQ
noncomputable def eu(x:(Ty.T Xg)):Option ((Ty.T Xg) ⊕ ((Ty.T sQ) ⊕ (Ty.T ax))):=
match(decide (x.2.2.1<x.2.1))with
|true=>
 ab (av x.1.2.2.2.1 x.2.1) fun v1=>
 ab (av x.1.2.2.2.1 x.2.2.1) fun v2=>
 an (
  match(v1.1==v2.1)with
  |true=>
   match(v1.2.2.1==v2.2.2.1)with
   |true=>
    match(v1.2.2.2.1.2.2.2.1 != v2.2.2.2.1.2.2.2.1)with
    |true=>
     some (.inr (.inr (false,())))
    |false=>
     some (.inl (x.1,x.2.1,(IntKind.i64.wrap (x.2.2.1+(1:Int))),()))
   |false=>
    some (.inl (x.1,x.2.1,(IntKind.i64.wrap (x.2.2.1+(1:Int))),()))
  |false=>
   some (.inl (x.1,x.2.1,(IntKind.i64.wrap (x.2.2.1+(1:Int))),())))
|false=>
 some (.inr (.inl (x.1,x.2.1,())))
abbrev ml:Ty:=ZQ
noncomputable def ex(x:(Ty.T ml)):Option ((Ty.T ml) ⊕ ((Ty.T .unit) ⊕ (Ty.T ax))):=
match(decide (x.2.1<(x.1.2.2.2.1.length:Int)))with
|true=>
 match ac eu (x.1,x.2.1,(0:Int),())with
 |none=>none
 |some (.inl v1)=>
  some (.inl (v1.1,(IntKind.i64.wrap (v1.2.1+(1:Int))),()))
 |some (.inr v2)=>
  some (.inr (.inr (v2.1,())))
|false=>
 some (.inr (.inl (())))
noncomputable def kH(x:Ty.T qU):Option (Ty.T ax):=
match ac ex ((x.1.1,x.1.2.1,x.1.2.2.1,x.1.2.2.2.1,()),(0:Int),())with
|none=>none
|some (.inl v3)=>
 some (true,())
|some (.inr v4)=>
 some (v4.1,())
noncomputable def wV:ae:=⟨_,ax,.unit,rfl,kH⟩
noncomputable def nG:FuncId→Option ae:=bH []
theorem D0:∀f s,nG f=some s→FnOK G0 Tryz.prog f s:=aK trivial
def sR:aX:=⟨[1,3],ml,0,[],.unit,[2],ax⟩
def sS:aX:=⟨[1,3,4],Xg,2,[1,3],sQ,[2],ax⟩
noncomputable def nH:List aD:=[sR.spec ex,sS.spec eu]
theorem BK:bi bm E0 nG (be Tryz.f205 nH) Tryz.f205 0 sR ex:=fun x=>by kernel_rfl
theorem BL:bi bm E0 nG (be Tryz.f205 nH) Tryz.f205 1 sS eu:=fun x=>by kernel_rfl
theorem G8:FnOK G0 Tryz.prog 205 wV:=aO ap D0 Tryz.func205 nH (by kernel_rfl) (by exact⟨(BK).lok,(BL).lok,trivial⟩) fun x=>by kernel_rfl
abbrev rc:Ty:=(.pair (.int .i64) (.pair (.box ar) bM))
noncomputable def gJ(x:(Ty.T rc)):Option ((Ty.T rc) ⊕ ((Ty.T aV) ⊕ (Ty.T .unit))):=
match(decide (x.2.2.2.1<(x.2.1.2.2.2.1.length:Int)))with
|true=>
 ab (av x.2.1.2.2.2.1 x.2.2.2.1) fun v1=>
 match(v1.1==x.1)with
 |true=>
  ab (av x.2.1.2.2.2.1 x.2.2.2.1) fun v2=>
  some (.inl (x.1,(x.2.1.1,x.2.1.2.1,x.2.1.2.2.1,x.2.1.2.2.2.1,()),(IntKind.i64.wrap (x.2.2.1+v2.2.2.2.1.2.2.2.1)),(IntKind.i64.wrap (x.2.2.2.1+(1:Int))),()))
 |false=>
  some (.inl (x.1,(x.2.1.1,x.2.1.2.1,x.2.1.2.2.1,x.2.1.2.2.2.1,()),x.2.2.1,(IntKind.i64.wrap (x.2.2.2.1+(1:Int))),()))
|false=>
 some (.inr (.inl (x.2.2.1,())))
noncomputable def qc(x:Ty.T ZN):Option (Ty.T aV):=
match ac gJ (x.2.1,(x.1.1,x.1.2.1,x.1.2.2.1,x.1.2.2.2.1,()),(0:Int),(0:Int),())with
|none=>none
|some (.inl v3)=>
 some (v3.1,())
|some (.inr v5)=>
 none
noncomputable def Ff:ae:=⟨_,aV,.unit,rfl,qc⟩
noncomputable def CN:FuncId→Option ae:=bH []
theorem KZ:∀f s,CN f=some s→FnOK G0 Tryz.prog f s:=aK trivial
def zP:aX:=⟨[1,2,5,6],rc,0,[5],aV,[],.unit⟩
noncomputable def CO:List aD:=[zP.spec gJ]
theorem Jc:bi bm E0 CN (be Tryz.f206 CO) Tryz.f206 0 zP gJ:=fun x=>by kernel_rfl
theorem Pd:FnOK G0 Tryz.prog 206 Ff:=aO ap KZ Tryz.func206 CO (by kernel_rfl) (by exact⟨(Jc).lok,trivial⟩) fun x=>by kernel_rfl
noncomputable def dE(x:(Ty.T Xh)):Option ((Ty.T Xh) ⊕ ((Ty.T Qp) ⊕ (Ty.T .unit))):=
match(decide (x.2.2.2.2.2.1<(x.1.2.2.2.1.length:Int)))with
|true=>
 ab (av x.1.2.2.2.1 x.2.2.2.2.2.1) fun v3=>
 match(v3.1==x.2.2.1)with
 |true=>
  ab (av x.1.2.2.2.1 x.2.2.2.2.2.1) fun v4=>
  match(v4.2.1==x.2.2.2.1)with
  |true=>
   ab (av x.1.2.2.2.1 x.2.2.2.2.2.1) fun v5=>
   match wT (x.2.2.2.2.1,v5.2.2.2.1.1,true,())with
   |none=>none
   |some v6=>
   some (.inl ((x.1.1,x.1.2.1,x.1.2.2.1,x.1.2.2.2.1,()),x.2.1,x.2.2.1,x.2.2.2.1,v6.1,(IntKind.i64.wrap (x.2.2.2.2.2.1+(1:Int))),()))
  |false=>
   some (.inl ((x.1.1,x.1.2.1,x.1.2.2.1,x.1.2.2.2.1,()),x.2.1,x.2.2.1,x.2.2.2.1,x.2.2.2.2.1,(IntKind.i64.wrap (x.2.2.2.2.2.1+(1:Int))),()))
 |false=>
  some (.inl ((x.1.1,x.1.2.1,x.1.2.2.1,x.1.2.2.2.1,()),x.2.1,x.2.2.1,x.2.2.2.1,x.2.2.2.2.1,(IntKind.i64.wrap (x.2.2.2.2.2.1+(1:Int))),()))
|false=>
 some (.inr (.inl ((x.1.1,x.1.2.1,x.1.2.2.1,x.1.2.2.2.1,()),x.2.1,x.2.2.1,x.2.2.2.1,x.2.2.2.2.1,())))
abbrev qd:Ty:=Xo
noncomputable def fj(x:(Ty.T qd)):Option ((Ty.T qd) ⊕ ((Ty.T un) ⊕ (Ty.T ax))):=
ab (av x.1.2.2.1 x.2.2.1) fun v2=>
match(decide (x.2.2.2.1<v2.1))with
|true=>
 match ac dE ((x.1.1,x.1.2.1,x.1.2.2.1,x.1.2.2.2.1,()),x.2.1,x.2.2.1,x.2.2.2.1,(0:Int),(0:Int),())with
 |none=>none
 |some (.inl v3)=>
  match(v3.2.2.2.2.1 != v3.2.1)with
  |true=>
   some (.inr (.inr (false,())))
  |false=>
   some (.inl ((v3.1.1,v3.1.2.1,v3.1.2.2.1,v3.1.2.2.2.1,()),v3.2.1,v3.2.2.1,(IntKind.i64.wrap (v3.2.2.2.1+(1:Int))),()))
 |some (.inr v5)=>
  none
|false=>
 some (.inr (.inl ((x.1.1,x.1.2.1,x.1.2.2.1,x.1.2.2.2.1,()),x.2.1,x.2.2.1,())))
noncomputable def fY(x:(Ty.T un)):Option ((Ty.T un) ⊕ ((Ty.T .unit) ⊕ (Ty.T ax))):=
match(decide (x.2.2.1<(x.1.2.2.1.length:Int)))with
|true=>
 match ac fj ((x.1.1,x.1.2.1,x.1.2.2.1,x.1.2.2.2.1,()),x.2.1,x.2.2.1,(0:Int),())with
 |none=>none
 |some (.inl v2)=>
  some (.inl ((v2.1.1,v2.1.2.1,v2.1.2.2.1,v2.1.2.2.2.1,()),v2.2.1,(IntKind.i64.wrap (v2.2.2.1+(1:Int))),()))
 |some (.inr v3)=>
  some (.inr (.inr (v3.1,())))
|false=>
 some (.inr (.inl (())))
noncomputable def nY(x:Ty.T qU):Option (Ty.T ax):=
match cQ (x.1.2.1,())with
|none=>none
|some v1=>
match ac fY ((x.1.1,x.1.2.1,x.1.2.2.1,x.1.2.2.2.1,()),v1.1,(0:Int),())with
|none=>none
|some (.inl v4)=>
 some (true,())
|some (.inr v5)=>
 some (v5.1,())
noncomputable def CP:ae:=⟨_,ax,.unit,rfl,nY⟩
noncomputable def na:FuncId→Option ae:=bH [(146,oD),(196,BJ)]
theorem Jd:∀f s,na f=some s→FnOK G0 Tryz.prog f s:=aK ⟨kG,HO,trivial⟩
def yd:aX:=⟨[1,3,4],un,0,[],.unit,[2],ax⟩
def ye:aX:=⟨[1,3,4,5],qd,2,[1,3,4],un,[2],ax⟩
def wW:aX:=⟨[1,3,4,5,6,7],Xh,4,[1,3,4,5,6],Qp,[],.unit⟩
noncomputable def nb:List aD:=[yd.spec fY,ye.spec fj,wW.spec dE]
theorem G9:bi bm E0 na (be Tryz.f207 nb) Tryz.f207 0 yd fY:=fun x=>by kernel_rfl
theorem Ha:bi bm E0 na (be Tryz.f207 nb) Tryz.f207 1 ye fj:=fun x=>by kernel_rfl
theorem Fg:bi bm E0 na (be Tryz.f207 nb) Tryz.f207 2 wW dE:=fun x=>by kernel_rfl
theorem M1:FnOK G0 Tryz.prog 207 CP:=aO ap Jd Tryz.func207 nb (by kernel_rfl) (by exact⟨(G9).lok,(Ha).lok,(Fg).lok,trivial⟩) fun x=>by kernel_rfl
abbrev nI:Ty:=Uw
noncomputable def dQ(x:(Ty.T nI)):Option ((Ty.T nI) ⊕ ((Ty.T (.pair (.box ar) .unit)) ⊕ (Ty.T aV))):=
match(decide (x.2.1<(x.1.2.2.1.length:Int)))with
|true=>
 match qc ((x.1.1,x.1.2.1,x.1.2.2.1,x.1.2.2.2.1,()),x.2.1,())with
 |none=>none
 |some v8=>
 match(decide (v8.1>(32000:Int)))with
 |true=>
  some (.inr (.inr ((8:Int),())))
 |false=>
  some (.inl ((x.1.1,x.1.2.1,x.1.2.2.1,x.1.2.2.2.1,()),(IntKind.i64.wrap (x.2.1+(1:Int))),()))
|false=>
 some (.inr (.inl ((x.1.1,x.1.2.1,x.1.2.2.1,x.1.2.2.2.1,()),())))
abbrev nJ:Ty:=Uw
noncomputable def dl(x:(Ty.T nJ)):Option ((Ty.T nJ) ⊕ ((Ty.T .unit) ⊕ (Ty.T aV))):=
match(decide (x.2.1<(x.1.2.2.2.1.length:Int)))with
|true=>
 ab (av x.1.2.2.2.1 x.2.1) fun v12=>
 match(v12.2.2.2.1.2.1==(3:Int))with
 |true=>
  ab (av x.1.2.2.2.1 x.2.1) fun v13=>
  match(v13.1 != (0:Int))with
  |true=>
   some (.inr (.inr ((10:Int),())))
  |false=>
   some (.inl ((x.1.1,x.1.2.1,x.1.2.2.1,x.1.2.2.2.1,()),(IntKind.i64.wrap (x.2.1+(1:Int))),()))
 |false=>
  some (.inl ((x.1.1,x.1.2.1,x.1.2.2.1,x.1.2.2.2.1,()),(IntKind.i64.wrap (x.2.1+(1:Int))),()))
|false=>
 some (.inr (.inl (())))
noncomputable def mm(x:Ty.T qU):Option (Ty.T aV):=
match bp (x.1.1,(1:Int),(16777215:Int),())with
|none=>none
|some v1=>
match(!v1.1)with
|true=>
 some ((1:Int),())
|false=>
 match oA (x.1.2.1,())with
 |none=>none
 |some v2=>
 match(!v2.1)with
 |true=>
  some ((2:Int),())
 |false=>
  match oB (x.1.2.2.1,())with
  |none=>none
  |some v3=>
  match(!v3.1)with
  |true=>
   some ((3:Int),())
  |false=>
   match oC (x.1.2.2.2.1,())with
   |none=>none
   |some v4=>
   match(!v4.1)with
   |true=>
    some ((4:Int),())
   |false=>
    match lp ((x.1.1,x.1.2.1,x.1.2.2.1,x.1.2.2.2.1,()),())with
    |none=>none
    |some v5=>
    match(!v5.1)with
    |true=>
     some ((5:Int),())
    |false=>
     match mk ((x.1.1,x.1.2.1,x.1.2.2.1,x.1.2.2.2.1,()),())with
     |none=>none
     |some v6=>
     match(!v6.1)with
     |true=>
      some ((6:Int),())
     |false=>
      match kH ((x.1.1,x.1.2.1,x.1.2.2.1,x.1.2.2.2.1,()),())with
      |none=>none
      |some v7=>
      match(!v7.1)with
      |true=>
       some ((7:Int),())
      |false=>
       match ac dQ ((x.1.1,x.1.2.1,x.1.2.2.1,x.1.2.2.2.1,()),(0:Int),())with
       |none=>none
       |some (.inl v9)=>
        match nY ((v9.1.1,v9.1.2.1,v9.1.2.2.1,v9.1.2.2.2.1,()),())with
        |none=>none
        |some v11=>
        match(!v11.1)with
        |true=>
         some ((9:Int),())
        |false=>
         match ac dl ((v9.1.1,v9.1.2.1,v9.1.2.2.1,v9.1.2.2.2.1,()),(0:Int),())with
         |none=>none
         |some (.inl v14)=>
          some ((0:Int),())
         |some (.inr v15)=>
          some (v15.1,())
       |some (.inr v10)=>
        some (v10.1,())
noncomputable def M2:ae:=⟨_,aV,.unit,rfl,mm⟩
noncomputable def qe:FuncId→Option ae:=bH [(158,i9),(200,x6),(201,x7),(202,x8),(203,x9),(204,zO),(205,wV),(206,Ff),(207,CP)]
theorem Hb:∀f s,qe f=some s→FnOK G0 Tryz.prog f s:=aK ⟨cu,I4,I6,I9,Ja,KY,G8,Pd,M1,trivial⟩
def uU:aX:=⟨[1,3],nI,1,[1],(.pair (.box ar) .unit),[2],aV⟩
def uV:aX:=⟨[1,4],nJ,3,[],.unit,[2],aV⟩
noncomputable def qf:List aD:=[uU.spec dQ,uV.spec dl]
theorem D1:bi bm E0 qe (be Tryz.f155 qf) Tryz.f155 0 uU dQ:=fun x=>by kernel_rfl
theorem D2:bi bm E0 qe (be Tryz.f155 qf) Tryz.f155 1 uV dl:=fun x=>by kernel_rfl
theorem K0:FnOK G0 Tryz.prog 155 M2:=aO ap Hb Tryz.func155 qf (by kernel_rfl) (by exact⟨(D1).lok,(D2).lok,trivial⟩) fun x=>by kernel_rfl
noncomputable def ix(x:Ty.T qU):Option (Ty.T ax):=
match mm ((x.1.1,x.1.2.1,x.1.2.2.1,x.1.2.2.2.1,()),())with
|none=>none
|some v1=>
some ((v1.1==(0:Int)),())
noncomputable def UN:ae:=⟨_,ax,.unit,rfl,ix⟩
theorem yZ:FnOK G0 Tryz.prog 98 UN:=aq ap (sg K0 (aU)) Tryz.func98
noncomputable def kO(x:Ty.T yU):Option (Ty.T ax):=
match bp (x.1.1,(0:Int),(65535:Int),())with
|none=>none
|some v1=>
match v1.1 with
|true=>
 match bp (x.1.2.1,(0:Int),(15:Int),())with
 |none=>none
 |some v2=>
 match v2.1 with
 |true=>
  match bp (x.1.2.2.1,(0:Int),(15:Int),())with
  |none=>none
  |some v3=>
  match v3.1 with
  |true=>
   match bp (x.1.2.2.2.1,(0:Int),(255:Int),())with
   |none=>none
   |some v4=>
   match v4.1 with
   |true=>
    match bp (x.1.2.2.2.2.1,(0:Int),(4294967295:Int),())with
    |none=>none
    |some v5=>
    some (v5.1,())
   |false=>
    some (false,())
  |false=>
   some (false,())
 |false=>
  some (false,())
|false=>
 some (false,())
noncomputable def Sy:ae:=⟨_,ax,.unit,rfl,kO⟩
theorem Fh:FnOK G0 Tryz.prog 156 Sy:=aq ap (sg cu (aU)) Tryz.func156
noncomputable def Fi(x:Ty.T ZY):Option (Ty.T ax):=
match bp (x.2.1,(0:Int),(IntKind.i64.wrap ((x.1.length:Int)-(1:Int))),())with
|none=>none
|some v1=>
some (v1.1,())
noncomputable def Sz:ae:=⟨_,ax,.unit,rfl,Fi⟩
theorem QM:FnOK G0 Tryz.prog 157 Sz:=aq ap (sg cu (aU)) Tryz.func157
noncomputable def fZ(x:Ty.T yV):Option (Ty.T ax):=
match kO ((x.2.1.1,x.2.1.2.1,x.2.1.2.2.1,x.2.1.2.2.2.1,x.2.1.2.2.2.2.1,()),())with
|none=>none
|some v1=>
match(!v1.1)with
|true=>
 some (false,())
|false=>
 match Fi (x.1.2.2.1,x.2.1.2.1,())with
 |none=>none
 |some v2=>
 match(!v2.1)with
 |true=>
  some (false,())
 |false=>
  ab (av x.1.2.2.1 x.2.1.2.1) fun v3=>
  match(decide (x.2.1.2.2.1≥v3.1))with
  |true=>
   some (false,())
  |false=>
   ab (av x.1.2.2.1 x.2.1.2.1) fun v4=>
   match(decide (x.2.1.2.2.2.1≥v4.2.1))with
   |true=>
    some (false,())
   |false=>
    match cQ (x.1.2.1,())with
    |none=>none
    |some v5=>
    some (((bits BinOp.and .i64 x.2.1.2.2.2.2.1 v5.1)==x.2.1.2.2.2.2.1),())
noncomputable def M3:ae:=⟨_,ax,.unit,rfl,fZ⟩
theorem yf:FnOK G0 Tryz.prog 99 M3:=aq ap (sg kG (sg Fh (sg QM (aU)))) Tryz.func99
noncomputable def mn(x:Ty.T yV):Option (Ty.T aV):=
match ix ((x.1.1,x.1.2.1,x.1.2.2.1,x.1.2.2.2.1,()),())with
|none=>none
|some v1=>
match(!v1.1)with
|true=>
 some ((1:Int),())
|false=>
 match fZ ((x.1.1,x.1.2.1,x.1.2.2.1,x.1.2.2.2.1,()),(x.2.1.1,x.2.1.2.1,x.2.1.2.2.1,x.2.1.2.2.2.1,x.2.1.2.2.2.2.1,()),())with
 |none=>none
 |some v2=>
 match(!v2.1)with
 |true=>
  some ((2:Int),())
 |false=>
  some ((0:Int),())
noncomputable def SA:ae:=⟨_,aV,.unit,rfl,mn⟩
theorem Fj:FnOK G0 Tryz.prog 48 SA:=aq ap (sg yZ (sg yf (aU))) Tryz.func48
noncomputable def gr(x:Ty.T yV):Option (Ty.T Et):=
match sP (x.1.2.2.2.1,x.2.1.2.1,x.2.1.2.2.1,x.2.1.2.2.2.1,())with
|none=>none
|some v1=>
ab (av x.1.2.2.2.1 v1.1) fun v2=>
some ((v2.2.2.2.1.1,v2.2.2.2.1.2.1,v2.2.2.2.1.2.2.1,v2.2.2.2.1.2.2.2.1,v2.2.2.2.1.2.2.2.2.1,()),())
noncomputable def HP:ae:=⟨_,Et,.unit,rfl,gr⟩
theorem mp:FnOK G0 Tryz.prog 89 HP:=aq ap (sg Fc (aU)) Tryz.func89
noncomputable def ez(x:(Ty.T qM)):Option ((Ty.T qM) ⊕ ((Ty.T .unit) ⊕ (Ty.T ax))):=
match(decide (x.2.2.1<(x.1.length:Int)))with
|true=>
 ab (av x.1 x.2.2.1) fun v1=>
 match bp (v1,(0:Int),x.2.1,())with
 |none=>none
 |some v2=>
 match(!v2.1)with
 |true=>
  some (.inr (.inr (false,())))
 |false=>
  some (.inl (x.1,x.2.1,(IntKind.i64.wrap (x.2.2.1+(1:Int))),()))
|false=>
 some (.inr (.inl (())))
noncomputable def re(x:Ty.T qM):Option (Ty.T ax):=
match(decide ((x.1.length:Int)>x.2.1))with
|true=>
 some (false,())
|false=>
 match ac ez (x.1,x.2.2.1,(0:Int),())with
 |none=>none
 |some (.inl v3)=>
  some (true,())
 |some (.inr v4)=>
  some (v4.1,())
noncomputable def UO:ae:=⟨_,ax,.unit,rfl,re⟩
noncomputable def HQ:FuncId→Option ae:=bH [(158,i9)]
theorem Pe:∀f s,HQ f=some s→FnOK G0 Tryz.prog f s:=aK ⟨cu,trivial⟩
def Fk:aX:=⟨[0,2,7],qM,0,[],.unit,[6],ax⟩
noncomputable def HR:List aD:=[Fk.spec ez]
theorem M4:bi bm E0 HQ (be Tryz.f100 HR) Tryz.f100 0 Fk ez:=fun x=>by kernel_rfl
theorem HS:FnOK G0 Tryz.prog 100 UO:=aO ap Pe Tryz.func100 HR (by kernel_rfl) (by exact⟨(M4).lok,trivial⟩) fun x=>by kernel_rfl
noncomputable def mq(x:Ty.T fD):Option (Ty.T ax):=
match re (x.1,(1024:Int),(255:Int),())with
|none=>none
|some v1=>
some (v1.1,())
noncomputable def SB:ae:=⟨_,ax,.unit,rfl,mq⟩
theorem Fl:FnOK G0 Tryz.prog 49 SB:=aq ap (sg HS (aU)) Tryz.func49
abbrev qg:Ty:=vZ
noncomputable def f3(x:(Ty.T qg)):Option ((Ty.T qg) ⊕ ((Ty.T .unit) ⊕ (Ty.T ax))):=
match(decide (x.2.1<(x.1.length:Int)))with
|true=>
 ab (av x.1 x.2.1) fun v1=>
 match bp (v1,(0:Int),(4294967295:Int),())with
 |none=>none
 |some v2=>
 match(!v2.1)with
 |true=>
  some (.inr (.inr (false,())))
 |false=>
  some (.inl (x.1,(IntKind.i64.wrap (x.2.1+(1:Int))),()))
|false=>
 some (.inr (.inl (())))
noncomputable def nZ(x:Ty.T fD):Option (Ty.T ax):=
match ac f3 (x.1,(0:Int),())with
|none=>none
|some (.inl v3)=>
 some (true,())
|some (.inr v4)=>
 some (v4.1,())
noncomputable def CQ:ae:=⟨_,ax,.unit,rfl,nZ⟩
noncomputable def zQ:FuncId→Option ae:=bH [(158,i9)]
theorem Je:∀f s,zQ f=some s→FnOK G0 Tryz.prog f s:=aK ⟨cu,trivial⟩
def yg:aX:=⟨[0,3],qg,0,[],.unit,[2],ax⟩
noncomputable def zR:List aD:=[yg.spec f3]
theorem Hd:bi bm E0 zQ (be Tryz.f244 zR) Tryz.f244 0 yg f3:=fun x=>by kernel_rfl
theorem M5:FnOK G0 Tryz.prog 244 CQ:=aO ap Je Tryz.func244 zR (by kernel_rfl) (by exact⟨(Hd).lok,trivial⟩) fun x=>by kernel_rfl
abbrev qh:Ty:=Uz
noncomputable def f4(x:(Ty.T qh)):Option ((Ty.T qh) ⊕ ((Ty.T bG) ⊕ (Ty.T .unit))):=
match(decide (x.2.2.1<(32:Int)))with
|true=>
 match oV (x.1,x.2.2.1,())with
 |none=>none
 |some v2=>
 match v2.1 with
 |true=>
  aH (x.2.1.length+ [x.2.2.1].length) (
   some (.inl (x.1,(x.2.1++ [x.2.2.1]),(IntKind.i64.wrap (x.2.2.1+(1:Int))),())))
 |false=>
  some (.inl (x.1,x.2.1,(IntKind.i64.wrap (x.2.2.1+(1:Int))),()))
|false=>
 some (.inr (.inl (x.2.1,())))
noncomputable def ja(x:Ty.T aV):Option (Ty.T jz):=
match nZ ([x.1],())with
|none=>none
|some v1=>
match(!v1.1)with
|true=>
 some ([],(2:Int),())
|false=>
 match ac f4 (x.1,[],(0:Int),())with
 |none=>none
 |some (.inl v3)=>
  some (v3.1,(0:Int),())
 |some (.inr v5)=>
  none
noncomputable def CS:ae:=⟨_,jz,.unit,rfl,ja⟩
noncomputable def zS:FuncId→Option ae:=bH [(238,BI),(244,CQ)]
theorem Jf:∀f s,zS f=some s→FnOK G0 Tryz.prog f s:=aK ⟨yY,M5,trivial⟩
def yh:aX:=⟨[0,4,5],qh,0,[4],bG,[],.unit⟩
noncomputable def zT:List aD:=[yh.spec f4]
theorem He:bi bm E0 zS (be Tryz.f213 zT) Tryz.f213 0 yh f4:=fun x=>by kernel_rfl
theorem zU:FnOK G0 Tryz.prog 213 CS:=aO ap Jf Tryz.func213 zT (by kernel_rfl) (by exact⟨(He).lok,trivial⟩) fun x=>by kernel_rfl
noncomputable def cO(x:Ty.T Ms):Option (Ty.T ax):=
match sM (x.1.1,())with
|none=>none
|some v1=>
match(!v1.1)with
|true=>
 some (false,())
|false=>
 match bp (x.1.2.1,(0:Int),(7:Int),())with
 |none=>none
 |some v2=>
 match(!v2.1)with
 |true=>
  some (false,())
 |false=>
  match sN (x.1.1,(x.1.2.2.2.1.length:Int),())with
  |none=>none
  |some v3=>
  match(!v3.1)with
  |true=>
   some (false,())
  |false=>
   match mq (x.1.2.2.2.1,())with
   |none=>none
   |some v4=>
   match(!v4.1)with
   |true=>
    some (false,())
   |false=>
    match(x.1.1==(0:Int))with
    |true=>
     some ((cS ak (x.1.2.2.1.1,x.1.2.2.1.2.1,x.1.2.2.1.2.2.1,x.1.2.2.1.2.2.2.1,x.1.2.2.1.2.2.2.2.1,()) ((0:Int),(0:Int),(0:Int),(0:Int),(0:Int),())),())
    |false=>
     match(x.1.1==(3:Int))with
     |true=>
      match ja (x.1.2.2.1.2.2.2.2.1,())with
      |none=>none
      |some v5=>
      match kO ((x.1.2.2.1.1,x.1.2.2.1.2.1,x.1.2.2.1.2.2.1,x.1.2.2.1.2.2.2.1,x.1.2.2.1.2.2.2.2.1,()),())with
      |none=>none
      |some v6=>
      match v6.1 with
      |true=>
       match(x.1.2.2.1.2.1==(0:Int))with
       |true=>
        match((v5.1.length:Int)==(1:Int))with
        |true=>
         some ((x.1.2.1==(0:Int)),())
        |false=>
         some (false,())
       |false=>
        some (false,())
      |false=>
       some (false,())
     |false=>
      match kO ((x.1.2.2.1.1,x.1.2.2.1.2.1,x.1.2.2.1.2.2.1,x.1.2.2.1.2.2.2.1,x.1.2.2.1.2.2.2.2.1,()),())with
      |none=>none
      |some v7=>
      some (v7.1,())
noncomputable def SC:ae:=⟨_,ax,.unit,rfl,cO⟩
theorem Fm:FnOK G0 Tryz.prog 161 SC:=aq ap (sg Fl (sg Fh (sg cu (sg E6 (sg E7 (sg zU (aU))))))) Tryz.func161
noncomputable def c9(x:Ty.T Xn):Option (Ty.T ax):=
match eI ((x.1.1,x.1.2.1,x.1.2.2.1,x.1.2.2.2.1,x.1.2.2.2.2.1,()),())with
|none=>none
|some v1=>
match v1.1 with
|true=>
 match cO ((x.2.1.1,x.2.1.2.1,(x.2.1.2.2.1.1,x.2.1.2.2.1.2.1,x.2.1.2.2.1.2.2.1,x.2.1.2.2.1.2.2.2.1,x.2.1.2.2.1.2.2.2.2.1,()),x.2.1.2.2.2.1,()),())with
 |none=>none
 |some v2=>
 match v2.1 with
 |true=>
  match(x.2.1.1==x.1.2.1)with
  |true=>
   match((x.2.1.2.2.2.1.length:Int)==x.1.2.2.1)with
   |true=>
    match x.1.2.2.2.2.1 with
    |true=>
     some (true,())
    |false=>
     some ((x.2.1.2.1==(0:Int)),())
   |false=>
    some (false,())
  |false=>
   some (false,())
 |false=>
  some (false,())
|false=>
 some (false,())
noncomputable def Fn:ae:=⟨_,ax,.unit,rfl,c9⟩
theorem qO:FnOK G0 Tryz.prog 102 Fn:=aq ap (sg uL (sg Fm (aU))) Tryz.func102
noncomputable def lq(x:Ty.T Br):Option (Ty.T ax):=
match gr ((x.1.1,x.1.2.1,x.1.2.2.1,x.1.2.2.2.1,()),(x.2.1.1,x.2.1.2.1,x.2.1.2.2.1,x.2.1.2.2.2.1,x.2.1.2.2.2.2.1,()),())with
|none=>none
|some v1=>
match c9 (v1.1,(x.2.2.1.1,x.2.2.1.2.1,(x.2.2.1.2.2.1.1,x.2.2.1.2.2.1.2.1,x.2.2.1.2.2.1.2.2.1,x.2.2.1.2.2.1.2.2.2.1,x.2.2.1.2.2.1.2.2.2.2.1,()),x.2.2.1.2.2.2.1,()),())with
|none=>none
|some v2=>
match v2.1 with
|true=>
 match dj (x.2.2.1.1,())with
 |none=>none
 |some v3=>
 match(!v3.1)with
 |true=>
  some (true,())
 |false=>
  some ((cS ak (x.2.2.1.2.2.1.1,x.2.2.1.2.2.1.2.1,x.2.2.1.2.2.1.2.2.1,x.2.2.1.2.2.1.2.2.2.1,x.2.2.1.2.2.1.2.2.2.2.1,()) (x.2.1.1,x.2.1.2.1,x.2.1.2.2.1,x.2.1.2.2.2.1,x.2.1.2.2.2.2.1,())),())
|false=>
 some (false,())
noncomputable def K1:ae:=⟨_,ax,.unit,rfl,lq⟩
theorem Jg:FnOK G0 Tryz.prog 105 K1:=aq ap (sg mp (sg iv (sg qO (aU)))) Tryz.func105
noncomputable def sT(x:Ty.T Br):Option (Ty.T aV):=
match mn ((x.1.1,x.1.2.1,x.1.2.2.1,x.1.2.2.2.1,()),(x.2.1.1,x.2.1.2.1,x.2.1.2.2.1,x.2.1.2.2.2.1,x.2.1.2.2.2.2.1,()),())with
|none=>none
|some v1=>
match(v1.1==(0:Int))with
|true=>
 match lq ((x.1.1,x.1.2.1,x.1.2.2.1,x.1.2.2.2.1,()),(x.2.1.1,x.2.1.2.1,x.2.1.2.2.1,x.2.1.2.2.2.1,x.2.1.2.2.2.2.1,()),(x.2.2.1.1,x.2.2.1.2.1,(x.2.2.1.2.2.1.1,x.2.2.1.2.2.1.2.1,x.2.2.1.2.2.1.2.2.1,x.2.2.1.2.2.1.2.2.2.1,x.2.2.1.2.2.1.2.2.2.2.1,()),x.2.2.1.2.2.2.1,()),())with
 |none=>none
 |some v2=>
 match(!v2.1)with
 |true=>
  some ((5:Int),())
 |false=>
  some (v1.1,())
|false=>
 some (v1.1,())
noncomputable def SD:ae:=⟨_,aV,.unit,rfl,sT⟩
theorem QN:FnOK G0 Tryz.prog 58 SD:=aq ap (sg Fj (sg Jg (aU))) Tryz.func58
abbrev rg:Ty:=Z9
noncomputable def jg(x:(Ty.T rg)):Option ((Ty.T rg) ⊕ ((Ty.T bG) ⊕ (Ty.T .unit))):=
match(decide (x.1>(0:Int)))with
|true=>
 aH (x.2.2.1.length+ [x.2.1].length) (
  some (.inl ((IntKind.i64.wrap (x.1-(1:Int))),x.2.1,(x.2.2.1++ [x.2.1]),())))
|false=>
 some (.inr (.inl (x.2.2.1,())))
noncomputable def cB(x:Ty.T bM):Option (Ty.T bG):=
match ac jg (x.1,x.2.1,[],())with
|none=>none
|some (.inl v1)=>
 some (v1.1,())
|some (.inr v3)=>
 none
noncomputable def mr:ae:=⟨_,bG,.unit,rfl,cB⟩
noncomputable def CT:FuncId→Option ae:=bH []
theorem K2:∀f s,CT f=some s→FnOK G0 Tryz.prog f s:=aK trivial
def zV:aX:=⟨[0,1,5],rg,0,[5],bG,[],.unit⟩
noncomputable def CU:List aD:=[zV.spec jg]
theorem Jh:bi bm E0 CT (be Tryz.f79 CU) Tryz.f79 0 zV jg:=fun x=>by kernel_rfl
theorem gt:FnOK G0 Tryz.prog 79 mr:=aO ap K2 Tryz.func79 CU (by kernel_rfl) (by exact⟨(Jh).lok,trivial⟩) fun x=>by kernel_rfl
abbrev oW:Ty:=aae
abbrev wX:Ty:=Xu
noncomputable def cI(x:(Ty.T oW)):Option ((Ty.T oW) ⊕ ((Ty.T wX) ⊕ (Ty.T .unit))):=
ab (av x.2.1 x.2.2.2.1) fun v1=>
match(decide (x.2.2.2.2.1<v1))with
|true=>
 ab (av x.1 x.2.2.2.1) fun v2=>
 aH (x.2.2.1.length+ [v2].length) (
  some (.inl (x.1,x.2.1,(x.2.2.1++ [v2]),x.2.2.2.1,(IntKind.i64.wrap (x.2.2.2.2.1+(1:Int))),())))
|false=>
 some (.inr (.inl (x.1,x.2.1,x.2.2.1,x.2.2.2.1,())))
abbrev oX:Ty:=Xu
noncomputable def cJ(x:(Ty.T oX)):Option ((Ty.T oX) ⊕ ((Ty.T bG) ⊕ (Ty.T .unit))):=
match(decide (x.2.2.2.1<(x.1.length:Int)))with
|true=>
 match ac cI (x.1,x.2.1,x.2.2.1,x.2.2.2.1,(0:Int),())with
 |none=>none
 |some (.inl v1)=>
  some (.inl (v1.1,v1.2.1,v1.2.2.1,(IntKind.i64.wrap (v1.2.2.2.1+(1:Int))),()))
 |some (.inr v3)=>
  some (.inr (.inr (())))
|false=>
 some (.inr (.inl (x.2.2.1,())))
noncomputable def js(x:Ty.T IH):Option (Ty.T bG):=
match ac cJ (x.1,x.2.1,[],(0:Int),())with
|none=>none
|some (.inl v4)=>
 some (v4.1,())
|some (.inr v6)=>
 none
noncomputable def zW:ae:=⟨_,bG,.unit,rfl,js⟩
noncomputable def qi:FuncId→Option ae:=bH []
theorem Hf:∀f s,qi f=some s→FnOK G0 Tryz.prog f s:=aK trivial
def wY:aX:=⟨[0,1,5,6],oX,0,[5],bG,[],.unit⟩
def wZ:aX:=⟨[0,1,5,6,7],oW,2,[0,1,5,6],wX,[],.unit⟩
noncomputable def qj:List aD:=[wY.spec cJ,wZ.spec cI]
theorem Fo:bi bm E0 qi (be Tryz.f106 qj) Tryz.f106 0 wY cJ:=fun x=>by kernel_rfl
theorem Fp:bi bm E0 qi (be Tryz.f106 qj) Tryz.f106 1 wZ cI:=fun x=>by kernel_rfl
theorem yi:FnOK G0 Tryz.prog 106 zW:=aO ap Hf Tryz.func106 qj (by kernel_rfl) (by exact⟨(Fo).lok,(Fp).lok,trivial⟩) fun x=>by kernel_rfl
noncomputable def dI(x:Ty.T fD):Option (Ty.T bG):=
match cB ((x.1.length:Int),(8:Int),())with
|none=>none
|some v1=>
match js (x.1,v1.1,())with
|none=>none
|some v2=>
some (v2.1,())
noncomputable def rh:ae:=⟨_,bG,.unit,rfl,dI⟩
theorem qk:FnOK G0 Tryz.prog 59 rh:=aq ap (sg gt (sg yi (aU))) Tryz.func59
noncomputable def ga(x:(Ty.T Xk)):Option ((Ty.T Xk) ⊕ ((Ty.T aV) ⊕ (Ty.T .unit))):=
match(decide (x.2.2.2.2.1<x.2.2.1))with
|true=>
 ab (av x.1 (IntKind.i64.wrap (x.2.1+x.2.2.2.2.1))) fun v1=>
 some (.inl (x.1,x.2.1,x.2.2.1,(IntKind.i64.wrap ((IntKind.i64.wrap ((2:Int)*x.2.2.2.1))+v1)),(IntKind.i64.wrap (x.2.2.2.2.1+(1:Int))),()))
|false=>
 some (.inr (.inl (x.2.2.2.1,())))
noncomputable def dc(x:Ty.T qM):Option (Ty.T aV):=
match ac ga (x.1,x.2.1,x.2.2.1,(0:Int),(0:Int),())with
|none=>none
|some (.inl v2)=>
 some (v2.1,())
|some (.inr v4)=>
 none
noncomputable def CV:ae:=⟨_,aV,.unit,rfl,dc⟩
noncomputable def zX:FuncId→Option ae:=bH []
theorem Ji:∀f s,zX f=some s→FnOK G0 Tryz.prog f s:=aK trivial
def yj:aX:=⟨[0,1,2,7,8],Xk,0,[7],aV,[],.unit⟩
noncomputable def zY:List aD:=[yj.spec ga]
theorem Hg:bi bm E0 zX (be Tryz.f197 zY) Tryz.f197 0 yj ga:=fun x=>by kernel_rfl
theorem zZ:FnOK G0 Tryz.prog 197 CV:=aO ap Ji Tryz.func197 zY (by kernel_rfl) (by exact⟨(Hg).lok,trivial⟩) fun x=>by kernel_rfl
abbrev ri:Ty:=My
noncomputable def gK(x:(Ty.T ri)):Option ((Ty.T ri) ⊕ ((Ty.T bG) ⊕ (Ty.T .unit))):=
match(decide ((IntKind.i64.wrap (x.2.2.1+(8:Int)))≤(x.1.length:Int)))with
|true=>
 match dc (x.1,x.2.2.1,(8:Int),())with
 |none=>none
 |some v1=>
 aH (x.2.1.length+ [v1.1].length) (
  some (.inl (x.1,(x.2.1++ [v1.1]),(IntKind.i64.wrap (x.2.2.1+(8:Int))),())))
|false=>
 some (.inr (.inl (x.2.1,())))
noncomputable def vw(x:Ty.T fD):Option (Ty.T bG):=
match ac gK (x.1,[],(0:Int),())with
|none=>none
|some (.inl v2)=>
 some (v2.1,())
|some (.inr v4)=>
 none
noncomputable def QO:ae:=⟨_,bG,.unit,rfl,vw⟩
noncomputable def CW:FuncId→Option ae:=bH [(197,CV)]
theorem K3:∀f s,CW f=some s→FnOK G0 Tryz.prog f s:=aK ⟨zZ,trivial⟩
def z6:aX:=⟨[0,3,4],ri,0,[3],bG,[],.unit⟩
noncomputable def CX:List aD:=[z6.spec gK]
theorem Jj:bi bm E0 CW (be Tryz.f148 CX) Tryz.f148 0 z6 gK:=fun x=>by kernel_rfl
theorem Pf:FnOK G0 Tryz.prog 148 QO:=aO ap K3 Tryz.func148 CX (by kernel_rfl) (by exact⟨(Jj).lok,trivial⟩) fun x=>by kernel_rfl
abbrev ql:Ty:=Uz
noncomputable def ik(x:(Ty.T ql)):Option ((Ty.T ql) ⊕ ((Ty.T bG) ⊕ (Ty.T .unit))):=
match(decide (x.2.2.1≥(0:Int)))with
|true=>
 if(IntKind.u64.wrap x.2.2.1)<0 then none else
 aH (x.2.1.length+ [(bits BinOp.and .i64 (Int.fdiv x.1 (2^min (IntKind.u64.wrap x.2.2.1).toNat IntKind.i64.bits)) (1:Int))].length) (
  some (.inl (x.1,(x.2.1++ [(bits BinOp.and .i64 (Int.fdiv x.1 (2^min (IntKind.u64.wrap x.2.2.1).toNat IntKind.i64.bits)) (1:Int))]),(IntKind.i64.wrap (x.2.2.1-(1:Int))),())))
|false=>
 some (.inr (.inl (x.2.1,())))
noncomputable def dN(x:Ty.T qM):Option (Ty.T bG):=
aH (([]:List (Ty.T (.int .i64))).length+x.1.length) (
 match ac ik (x.2.1,(([]:List (Ty.T (.int .i64)))++x.1),(IntKind.i64.wrap (x.2.2.1-(1:Int))),())with
 |none=>none
 |some (.inl v1)=>
  some (v1.1,())
 |some (.inr v3)=>
  none)
noncomputable def Pg:ae:=⟨_,bG,.unit,rfl,dN⟩
noncomputable def z7:FuncId→Option ae:=bH []
theorem Jk:∀f s,z7 f=some s→FnOK G0 Tryz.prog f s:=aK trivial
def yk:aX:=⟨[1,7,8],ql,0,[7],bG,[],.unit⟩
noncomputable def z8:List aD:=[yk.spec ik]
theorem Hh:bi bm E0 z7 (be Tryz.f198 z8) Tryz.f198 0 yk ik:=fun x=>by kernel_rfl
theorem M6:FnOK G0 Tryz.prog 198 Pg:=aO ap Jk Tryz.func198 z8 (by kernel_rfl) (by exact⟨(Hh).lok,trivial⟩) fun x=>by kernel_rfl
noncomputable def mu(x:Ty.T yU):Option (Ty.T bG):=
match dN ([],x.1.1,(16:Int),())with
|none=>none
|some v1=>
match dN (v1.1,x.1.2.1,(4:Int),())with
|none=>none
|some v2=>
match dN (v2.1,x.1.2.2.1,(4:Int),())with
|none=>none
|some v3=>
match dN (v3.1,x.1.2.2.2.1,(8:Int),())with
|none=>none
|some v4=>
match dN (v4.1,x.1.2.2.2.2.1,(32:Int),())with
|none=>none
|some v5=>
some (v5.1,())
noncomputable def SE:ae:=⟨_,bG,.unit,rfl,mu⟩
theorem Fq:FnOK G0 Tryz.prog 149 SE:=aq ap (sg M6 (aU)) Tryz.func149
noncomputable def bR(x:Ty.T Ms):Option (Ty.T bG):=
match dj (x.1.1,())with
|none=>none
|some v1=>
match v1.1 with
|true=>
 match mu ((x.1.2.2.1.1,x.1.2.2.1.2.1,x.1.2.2.1.2.2.1,x.1.2.2.1.2.2.2.1,x.1.2.2.1.2.2.2.2.1,()),())with
 |none=>none
 |some v2=>
 match vw (v2.1,())with
 |none=>none
 |some v3=>
 aH ([(IntKind.i64.wrap ((IntKind.i64.wrap (x.1.1*(64:Int)))+(IntKind.i64.wrap (x.1.2.1*(8:Int)))))].length+v3.1.length) (
  match fH (x.1.1,())with
  |none=>none
  |some v4=>
  match v4.1 with
  |true=>
   aH (([(IntKind.i64.wrap ((IntKind.i64.wrap (x.1.1*(64:Int)))+(IntKind.i64.wrap (x.1.2.1*(8:Int)))))]++v3.1).length+ [(x.1.2.2.2.1.length:Int)].length) (
    aH ((([(IntKind.i64.wrap ((IntKind.i64.wrap (x.1.1*(64:Int)))+(IntKind.i64.wrap (x.1.2.1*(8:Int)))))]++v3.1)++ [(x.1.2.2.2.1.length:Int)]).length+x.1.2.2.2.1.length) (
     some (((([(IntKind.i64.wrap ((IntKind.i64.wrap (x.1.1*(64:Int)))+(IntKind.i64.wrap (x.1.2.1*(8:Int)))))]++v3.1)++ [(x.1.2.2.2.1.length:Int)])++x.1.2.2.2.1),())))
  |false=>
   some (([(IntKind.i64.wrap ((IntKind.i64.wrap (x.1.1*(64:Int)))+(IntKind.i64.wrap (x.1.2.1*(8:Int)))))]++v3.1),()))
|false=>
 match fH (x.1.1,())with
 |none=>none
 |some v5=>
 match v5.1 with
 |true=>
  aH ([(IntKind.i64.wrap ((IntKind.i64.wrap (x.1.1*(64:Int)))+(IntKind.i64.wrap (x.1.2.1*(8:Int)))))].length+ [(x.1.2.2.2.1.length:Int)].length) (
   aH (([(IntKind.i64.wrap ((IntKind.i64.wrap (x.1.1*(64:Int)))+(IntKind.i64.wrap (x.1.2.1*(8:Int)))))]++ [(x.1.2.2.2.1.length:Int)]).length+x.1.2.2.2.1.length) (
    some ((([(IntKind.i64.wrap ((IntKind.i64.wrap (x.1.1*(64:Int)))+(IntKind.i64.wrap (x.1.2.1*(8:Int)))))]++ [(x.1.2.2.2.1.length:Int)])++x.1.2.2.2.1),())))
 |false=>
  some ([(IntKind.i64.wrap ((IntKind.i64.wrap (x.1.1*(64:Int)))+(IntKind.i64.wrap (x.1.2.1*(8:Int)))))],())
noncomputable def SF:ae:=⟨_,bG,.unit,rfl,bR⟩
theorem Fr:FnOK G0 Tryz.prog 92 SF:=aq ap (sg iv (sg mi (sg Pf (sg Fq (aU))))) Tryz.func92
abbrev tQ:Ty:=(.pair (.int .i64) (.pair (.list (.int .i64)) (.pair (.box bM) bM)))
noncomputable def fw(x:(Ty.T tQ)):Option ((Ty.T tQ) ⊕ ((Ty.T aV) ⊕ (Ty.T .unit))):=
match(decide (x.2.2.2.2.1<(x.2.1.length:Int)))with
|true=>
 if x.2.2.2.1=0 then none else
 ab (av x.2.1 x.2.2.2.2.1) fun v1=>
 if x.2.2.2.1=0 then none else
 match((bits BinOp.xor .i64 (IntKind.i64.wrap (Int.tdiv x.1 x.2.2.2.1)) v1)==(1:Int))with
 |true=>
  some (.inl ((bits BinOp.xor .i64 (IntKind.i64.wrap ((Int.tmod x.1 x.2.2.2.1)*(2:Int))) x.2.2.1.2.1),x.2.1,(x.2.2.1.1,x.2.2.1.2.1,()),x.2.2.2.1,(IntKind.i64.wrap (x.2.2.2.2.1+(1:Int))),()))
 |false=>
  some (.inl ((IntKind.i64.wrap ((Int.tmod x.1 x.2.2.2.1)*(2:Int))),x.2.1,(x.2.2.1.1,x.2.2.1.2.1,()),x.2.2.2.1,(IntKind.i64.wrap (x.2.2.2.2.1+(1:Int))),()))
|false=>
 some (.inr (.inl (x.1,())))
noncomputable def pz(x:Ty.T Z6):Option (Ty.T aV):=
if(IntKind.u64.wrap (IntKind.i64.wrap (x.1.1-(1:Int))))<0 then none else
match ac fw (x.2.1,x.2.2.1,(x.1.1,x.1.2.1,()),(IntKind.i64.wrap ((1:Int)*2^min (IntKind.u64.wrap (IntKind.i64.wrap (x.1.1-(1:Int)))).toNat IntKind.i64.bits)),(0:Int),())with
|none=>none
|some (.inl v2)=>
 some (v2.1,())
|some (.inr v4)=>
 none
noncomputable def SG:ae:=⟨_,aV,.unit,rfl,pz⟩
noncomputable def Fs:FuncId→Option ae:=bH []
theorem M7:∀f s,Fs f=some s→FnOK G0 Tryz.prog f s:=aK trivial
def CY:aX:=⟨[1,2,3,7,8],tQ,0,[1],aV,[],.unit⟩
noncomputable def Ft:List aD:=[CY.spec fw]
theorem K4:bi bm E0 Fs (be Tryz.f150 Ft) Tryz.f150 0 CY fw:=fun x=>by kernel_rfl
theorem QP:FnOK G0 Tryz.prog 150 SG:=aO ap M7 Tryz.func150 Ft (by kernel_rfl) (by exact⟨(K4).lok,trivial⟩) fun x=>by kernel_rfl
noncomputable def lr(x:Ty.T .unit):Option (Ty.T Uq):=
some (((24:Int),(6122955:Int),()),())
noncomputable def K5:ae:=⟨_,Uq,.unit,rfl,lr⟩
theorem Jl:FnOK G0 Tryz.prog 151 K5:=aq ap aU Tryz.func151
abbrev tR:Ty:=Z5
abbrev CZ:Ty:=My
noncomputable def iy(x:(Ty.T tR)):Option ((Ty.T tR) ⊕ ((Ty.T CZ) ⊕ (Ty.T .unit))):=
match(decide (x.2.2.2.1≥(0:Int)))with
|true=>
 ab (av x.1 x.2.2.1) fun v1=>
 if(IntKind.u64.wrap x.2.2.2.1)<0 then none else
 aH (x.2.1.length+ [(bits BinOp.and .i64 (Int.fdiv v1 (2^min (IntKind.u64.wrap x.2.2.2.1).toNat IntKind.i64.bits)) (1:Int))].length) (
  some (.inl (x.1,(x.2.1++ [(bits BinOp.and .i64 (Int.fdiv v1 (2^min (IntKind.u64.wrap x.2.2.2.1).toNat IntKind.i64.bits)) (1:Int))]),x.2.2.1,(IntKind.i64.wrap (x.2.2.2.1-(1:Int))),())))
|false=>
 some (.inr (.inl (x.1,x.2.1,x.2.2.1,())))
abbrev tS:Ty:=My
noncomputable def iz(x:(Ty.T tS)):Option ((Ty.T tS) ⊕ ((Ty.T bG) ⊕ (Ty.T .unit))):=
match(decide (x.2.2.1<(x.1.length:Int)))with
|true=>
 match ac iy (x.1,x.2.1,x.2.2.1,(7:Int),())with
 |none=>none
 |some (.inl v1)=>
  some (.inl (v1.1,v1.2.1,(IntKind.i64.wrap (v1.2.2.1+(1:Int))),()))
 |some (.inr v3)=>
  some (.inr (.inr (())))
|false=>
 some (.inr (.inl (x.2.1,())))
noncomputable def kP(x:Ty.T fD):Option (Ty.T bG):=
match ac iz (x.1,[],(0:Int),())with
|none=>none
|some (.inl v4)=>
 some (v4.1,())
|some (.inr v6)=>
 none
noncomputable def HT:ae:=⟨_,bG,.unit,rfl,kP⟩
noncomputable def w6:FuncId→Option ae:=bH []
theorem M8:∀f s,w6 f=some s→FnOK G0 Tryz.prog f s:=aK trivial
def C0:aX:=⟨[0,3,4],tS,0,[3],bG,[],.unit⟩
def C1:aX:=⟨[0,3,4,5],tR,2,[0,3,4],CZ,[],.unit⟩
noncomputable def w9:List aD:=[C0.spec iz,C1.spec iy]
theorem K6:bi bm E0 w6 (be Tryz.f152 w9) Tryz.f152 0 C0 iz:=fun x=>by kernel_rfl
theorem K7:bi bm E0 w6 (be Tryz.f152 w9) Tryz.f152 1 C1 iy:=fun x=>by kernel_rfl
theorem xa:FnOK G0 Tryz.prog 152 HT:=aO ap M8 Tryz.func152 w9 (by kernel_rfl) (by exact⟨(K6).lok,(K7).lok,trivial⟩) fun x=>by kernel_rfl
noncomputable def jb(x:Ty.T aab):Option (Ty.T aV):=
match(x.1==(0:Int))with
|true=>
 match lr (())with
 |none=>none
 |some v1=>
 match mu ((x.2.2.2.1.1,x.2.2.2.1.2.1,x.2.2.2.1.2.2.1,x.2.2.2.1.2.2.2.1,x.2.2.2.1.2.2.2.2.1,()),())with
 |none=>none
 |some v2=>
 match pz (v1.1,x.2.2.1,v2.1,())with
 |none=>none
 |some v3=>
 match lr (())with
 |none=>none
 |some v4=>
 match kP (x.2.1,())with
 |none=>none
 |some v5=>
 match pz (v4.1,v3.1,v5.1,())with
 |none=>none
 |some v6=>
 some (v6.1,())
|false=>
 match lr (())with
 |none=>none
 |some v7=>
 match kP (x.2.1,())with
 |none=>none
 |some v8=>
 match pz (v7.1,x.2.2.1,v8.1,())with
 |none=>none
 |some v9=>
 some (v9.1,())
noncomputable def Ph:ae:=⟨_,aV,.unit,rfl,jb⟩
theorem Aa:FnOK G0 Tryz.prog 93 Ph:=aq ap (sg Fq (sg QP (sg Jl (sg xa (aU))))) Tryz.func93
noncomputable def pA(x:Ty.T Z2):Option (Ty.T bG):=
match bR ((x.1.1,x.1.2.1,(x.1.2.2.1.1,x.1.2.2.1.2.1,x.1.2.2.1.2.2.1,x.1.2.2.1.2.2.2.1,x.1.2.2.1.2.2.2.2.1,()),x.1.2.2.2.1,()),())with
|none=>none
|some v1=>
match jb (x.1.1,v1.1,x.2.1,(x.2.2.1.1,x.2.2.1.2.1,x.2.2.1.2.2.1,x.2.2.1.2.2.2.1,x.2.2.1.2.2.2.2.1,()),())with
|none=>none
|some v2=>
aH (v1.1.length+ [(IntKind.i64.wrap (Int.tdiv v2.1 (65536:Int))),(Int.tmod (IntKind.i64.wrap (Int.tdiv v2.1 (256:Int))) (256:Int)),(Int.tmod v2.1 (256:Int))].length) (
 some ((v1.1++ [(IntKind.i64.wrap (Int.tdiv v2.1 (65536:Int))),(Int.tmod (IntKind.i64.wrap (Int.tdiv v2.1 (256:Int))) (256:Int)),(Int.tmod v2.1 (256:Int))]),()))
noncomputable def SH:ae:=⟨_,bG,.unit,rfl,pA⟩
theorem QQ:FnOK G0 Tryz.prog 43 SH:=aq ap (sg Fr (sg Aa (aU))) Tryz.func43
abbrev rj:Ty:=My
noncomputable def dr(x:(Ty.T rj)):Option ((Ty.T rj) ⊕ ((Ty.T bG) ⊕ (Ty.T .unit))):=
match(decide (x.2.2.1<(x.1.length:Int)))with
|true=>
 aH (x.2.1.length+ [(1:Int),(0:Int)].length) (
  ab (aM x.1.length (some (.dat (.int .i64) x.2.2.1)) (some (.dat (.int .i64) (IntKind.i64.wrap (x.2.2.1+(1:Int)))))) fun v1=>
  match kP ((List.drop v1.1 (List.take v1.2 x.1)),())with
  |none=>none
  |some v2=>
  aH ((x.2.1++ [(1:Int),(0:Int)]).length+v2.1.length) (
   some (.inl (x.1,((x.2.1++ [(1:Int),(0:Int)])++v2.1),(IntKind.i64.wrap (x.2.2.1+(1:Int))),()))))
|false=>
 some (.inr (.inl (x.2.1,())))
noncomputable def iW(x:Ty.T vZ):Option (Ty.T bG):=
if 0≤x.2.1∧x.2.1≤x.2.1 then
 aH (x.2.1.toNat) (
  aH ((List.replicate x.2.1.toNat (0:Int)).length+ [(1:Int)].length) (
   match ac dr (x.1,((List.replicate x.2.1.toNat (0:Int))++ [(1:Int)]),(0:Int),())with
   |none=>none
   |some (.inl v3)=>
    aH (v3.1.length+ [(0:Int),(1:Int)].length) (
     some ((v3.1++ [(0:Int),(1:Int)]),()))
   |some (.inr v5)=>
    none))
else none
noncomputable def QR:ae:=⟨_,bG,.unit,rfl,iW⟩
noncomputable def C2:FuncId→Option ae:=bH [(152,HT)]
theorem K8:∀f s,C2 f=some s→FnOK G0 Tryz.prog f s:=aK ⟨xa,trivial⟩
def Ab:aX:=⟨[0,5,6],rj,0,[5],bG,[],.unit⟩
noncomputable def C3:List aD:=[Ab.spec dr]
theorem Jm:bi bm E0 C2 (be Tryz.f107 C3) Tryz.f107 0 Ab dr:=fun x=>by kernel_rfl
theorem C4:FnOK G0 Tryz.prog 107 QR:=aO ap K8 Tryz.func107 C3 (by kernel_rfl) (by exact⟨(Jm).lok,trivial⟩) fun x=>by kernel_rfl
noncomputable def kY(x:Ty.T Br):Option (Ty.T bG):=
an (
 match cB ((8:Int),(1:Int),())with
 |none=>none
 |some v1=>
 match pA ((x.2.2.1.1,x.2.2.1.2.1,(x.2.2.1.2.2.1.1,x.2.2.1.2.2.1.2.1,x.2.2.1.2.2.1.2.2.1,x.2.2.1.2.2.1.2.2.2.1,x.2.2.1.2.2.1.2.2.2.2.1,()),x.2.2.1.2.2.2.1,()),x.1.1,(x.2.1.1,x.2.1.2.1,x.2.1.2.2.1,x.2.1.2.2.2.1,x.2.1.2.2.2.2.1,()),())with
 |none=>none
 |some v2=>
 match iW (v2.1,(8:Int),())with
 |none=>none
 |some v3=>
 aH (v1.1.length+v3.1.length) (
  match gr ((x.1.1,x.1.2.1,x.1.2.2.1,x.1.2.2.2.1,()),(x.2.1.1,x.2.1.2.1,x.2.1.2.2.1,x.2.1.2.2.2.1,x.2.1.2.2.2.2.1,()),())with
  |none=>none
  |some v4=>
  match cB ((IntKind.i64.wrap (v4.1.2.2.2.1-((v1.1++v3.1).length:Int))),(1:Int),())with
  |none=>none
  |some v5=>
  aH ((v1.1++v3.1).length+v5.1.length) (
   some (((v1.1++v3.1)++v5.1),()))))
noncomputable def Fu:ae:=⟨_,bG,.unit,rfl,kY⟩
theorem C5:FnOK G0 Tryz.prog 60 Fu:=aq ap (sg QQ (sg gt (sg mp (sg C4 (aU))))) Tryz.func60
noncomputable def lu(x:Ty.T Br):Option (Ty.T jz):=
match sT ((x.1.1,x.1.2.1,x.1.2.2.1,x.1.2.2.2.1,()),(x.2.1.1,x.2.1.2.1,x.2.1.2.2.1,x.2.1.2.2.2.1,x.2.1.2.2.2.2.1,()),(x.2.2.1.1,x.2.2.1.2.1,(x.2.2.1.2.2.1.1,x.2.2.1.2.2.1.2.1,x.2.2.1.2.2.1.2.2.1,x.2.2.1.2.2.1.2.2.2.1,x.2.2.1.2.2.1.2.2.2.2.1,()),x.2.2.1.2.2.2.1,()),())with
|none=>none
|some v1=>
match(v1.1 != (0:Int))with
|true=>
 some ([],v1.1,())
|false=>
 match kY ((x.1.1,x.1.2.1,x.1.2.2.1,x.1.2.2.2.1,()),(x.2.1.1,x.2.1.2.1,x.2.1.2.2.1,x.2.1.2.2.2.1,x.2.1.2.2.2.2.1,()),(x.2.2.1.1,x.2.2.1.2.1,(x.2.2.1.2.2.1.1,x.2.2.1.2.2.1.2.1,x.2.2.1.2.2.1.2.2.1,x.2.2.1.2.2.1.2.2.2.1,x.2.2.1.2.2.1.2.2.2.2.1,()),x.2.2.1.2.2.2.1,()),())with
 |none=>none
 |some v2=>
 match dI (v2.1,())with
 |none=>none
 |some v3=>
 some (v3.1,(0:Int),())
noncomputable def yl:ae:=⟨_,jz,.unit,rfl,lu⟩
theorem Jn:FnOK G0 Tryz.prog 18 yl:=aq ap (sg QN (sg qk (sg C5 (aU)))) Tryz.func18
noncomputable def aa(x:Ty.T IG):Option (Ty.T ZZ):=
match(decide (x.2.1≤(1:Int)))with
|true=>
 some ((0:Int),(x.1.1,x.1.2.1,x.1.2.2.1,()),())
|false=>
 match(decide (x.1.2.1<(x.1.1.length:Int)))with
 |true=>
  ab (av x.1.1 x.1.2.1) fun v1=>
  match(decide (x.2.1≤(256:Int)))with
  |true=>
   match((Int.tmod (IntKind.i64.wrap (x.1.2.1+(1:Int))) (2:Int))==(0:Int))with
   |true=>
    ab (av x.1.1 (IntKind.i64.wrap ((IntKind.i64.wrap (x.1.2.1+(1:Int)))-(1:Int)))) fun v2=>
    if x.2.1=0 then none else
    some ((Int.tmod (IntKind.i64.wrap v2) x.2.1),(x.1.1,(IntKind.i64.wrap (x.1.2.1+(1:Int))),(Int.tmod (IntKind.i64.wrap ((IntKind.i64.wrap (x.1.2.2.1*(48271:Int)))+(17:Int))) (2147483647:Int)),()),())
   |false=>
    if x.2.1=0 then none else
    some ((Int.tmod (IntKind.i64.wrap ((IntKind.i64.wrap (Int.tdiv (Int.tmod (IntKind.i64.wrap ((IntKind.i64.wrap (x.1.2.2.1*(48271:Int)))+(17:Int))) (2147483647:Int)) (23:Int)))+(IntKind.i64.wrap v1))) x.2.1),(x.1.1,(IntKind.i64.wrap (x.1.2.1+(1:Int))),(Int.tmod (IntKind.i64.wrap ((IntKind.i64.wrap (x.1.2.2.1*(48271:Int)))+(17:Int))) (2147483647:Int)),()),())
  |false=>
   if x.2.1=0 then none else
   some ((Int.tmod (IntKind.i64.wrap ((IntKind.i64.wrap (Int.tdiv (Int.tmod (IntKind.i64.wrap ((IntKind.i64.wrap (x.1.2.2.1*(48271:Int)))+(17:Int))) (2147483647:Int)) (23:Int)))+(IntKind.i64.wrap v1))) x.2.1),(x.1.1,(IntKind.i64.wrap (x.1.2.1+(1:Int))),(Int.tmod (IntKind.i64.wrap ((IntKind.i64.wrap (x.1.2.2.1*(48271:Int)))+(17:Int))) (2147483647:Int)),()),())
 |false=>
  if x.2.1=0 then none else
  some ((Int.tmod (IntKind.i64.wrap (Int.tdiv (Int.tmod (IntKind.i64.wrap ((IntKind.i64.wrap (x.1.2.2.1*(48271:Int)))+(17:Int))) (2147483647:Int)) (23:Int))) x.2.1),(x.1.1,x.1.2.1,(Int.tmod (IntKind.i64.wrap ((IntKind.i64.wrap (x.1.2.2.1*(48271:Int)))+(17:Int))) (2147483647:Int)),()),())
noncomputable def de:ae:=⟨_,aV,dY,rfl,aa⟩
theorem bh:FnOK G0 Tryz.prog 42 de:=aq ap aU Tryz.func42
noncomputable def y7(x:Ty.T .unit):Option (Ty.T Xv):=
some (((77:Int),[((0:Int),([97]:List UInt8),(100:Int),false,()),((1:Int),([98]:List UInt8),(50:Int),false,())],[((2:Int),(2:Int),[(1:Int)],()),((1:Int),(2:Int),[(0:Int)],())],[((0:Int),(0:Int),(0:Int),((0:Int),(3:Int),(0:Int),(200:Int),false,()),()),((0:Int),(0:Int),(1:Int),((1:Int),(1:Int),(0:Int),(200:Int),false,()),()),((0:Int),(1:Int),(0:Int),((0:Int),(0:Int),(4:Int),(200:Int),true,()),()),((0:Int),(1:Int),(1:Int),((1:Int),(0:Int),(2:Int),(200:Int),false,()),()),((1:Int),(0:Int),(0:Int),((1:Int),(2:Int),(3:Int),(300:Int),true,()),()),((1:Int),(0:Int),(1:Int),((0:Int),(0:Int),(0:Int),(150:Int),false,()),())],()),())
noncomputable def C6:ae:=⟨_,Xv,.unit,rfl,y7⟩
theorem M9:FnOK G0 Tryz.prog 234 C6:=aq ap aU Tryz.func234
noncomputable def jR(rec:Ty.T aV→Option (Ty.T xS))(x:Ty.T aV):Option (Ty.T xS):=
match(decide (x.1<(10:Int)))with
|true=>
 some ((List.map (fun n=>UInt8.ofNat (Int.toNat n)) ([(IntKind.u8.wrap (IntKind.i64.wrap ((48:Int)+x.1)))]:List Int)),())
|false=>
 al (
  match rec ((IntKind.i64.wrap (Int.tdiv x.1 (10:Int))),())with
  |none=>none
  |some v1=>
  aH (v1.1.length+(List.map (fun n=>UInt8.ofNat (Int.toNat n)) ([(IntKind.u8.wrap (IntKind.i64.wrap ((48:Int)+(Int.tmod x.1 (10:Int)))))]:List Int)).length) (
   some ((v1.1++(List.map (fun n=>UInt8.ofNat (Int.toNat n)) ([(IntKind.u8.wrap (IntKind.i64.wrap ((48:Int)+(Int.tmod x.1 (10:Int)))))]:List Int))),()))) (
  an (
   match rec ((IntKind.i64.wrap (Int.tdiv x.1 (10:Int))),())with
   |none=>none
   |some v1=>
   aH (v1.1.length+(List.map (fun n=>UInt8.ofNat (Int.toNat n)) ([(IntKind.u8.wrap (IntKind.i64.wrap ((48:Int)+(Int.tmod x.1 (10:Int)))))]:List Int)).length) (
    some ((v1.1++(List.map (fun n=>UInt8.ofNat (Int.toNat n)) ([(IntKind.u8.wrap (IntKind.i64.wrap ((48:Int)+(Int.tmod x.1 (10:Int)))))]:List Int))),()))))
noncomputable def kj(i:Nat):Ty.T aV→Option (Ty.T xS):=Nat.rec (fun _=>none) (fun _ f=>jR f) i
noncomputable def kZ(rec:Ty.T aV→Option (Ty.T xS)):ae:=⟨aV,xS,.unit,rfl,rec⟩
noncomputable def K9:ae:=kZ (kj 100)
noncomputable def HU(rec:Ty.T aV→Option (Ty.T xS)):FuncId→Option ae:=bH [(256,kZ rec)]
theorem Pi(rec:Ty.T aV→Option (Ty.T xS))(hr:FnOK G0 Tryz.prog 256 (kZ rec)):∀f s,(HU rec) f=some s→FnOK G0 Tryz.prog f s:=aK ⟨hr,trivial⟩
noncomputable def HV(rec:Ty.T aV→Option (Ty.T xS)):Nat→Option aD:=zr (b8 (gA Tryz.f256)) []
theorem Pj(rec:Ty.T aV→Option (Ty.T xS))(hr:FnOK G0 Tryz.prog 256 (kZ rec)):FnOK G0 Tryz.prog 256 (kZ (jR rec)):=Yf (Λ:=(HV rec)) ap (Pi rec hr) Tryz.func256 (by kernel_rfl) (show Tryz.f256.body=some (gA Tryz.f256) by kernel_rfl) [] rfl (by kernel_rfl) (by exact trivial) (by kernel_rfl)
 fun x y h=>(show sn bm E0 (HU rec) (HV rec) Tryz.f256 (kZ (jR rec)) x=jR rec x by kernel_rfl).trans h
theorem C7:∀i,FnOK G0 Tryz.prog 256 (kZ (kj i))
 |0=>YF Tryz.func256 (by kernel_rfl) (show Tryz.f256.body=some (gA Tryz.f256) by kernel_rfl)
 |i+1=>Pj _ (C7 i)
theorem SI:FnOK G0 Tryz.prog 256 K9:=C7 100
end Go.Proofs.YtckljdhdadiphaaGreatDoor
