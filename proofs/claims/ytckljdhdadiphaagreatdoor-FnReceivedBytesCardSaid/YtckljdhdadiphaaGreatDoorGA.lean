import Derived.Test.YtckljdhdadiphaaGreatDoorSho
import Derived.Test.YtckljdhdadiphaaGreatDoorLibS
import Derived.Test.YtckljdhdadiphaaGreatDoorRepW
import Derived.Test.YtckljdhdadiphaaGreatDoorSh
import Derived.Test.YtckljdhdadiphaaGreatDoorTdW
import Derived.Test.YtckljdhdadiphaaGreatDoorTrW
import Derived.Test.YtckljdhdadiphaaGreatDoorProg
import Derived.KernelRfl
namespace Go.Proofs.YtckljdhdadiphaaGreatDoor
open Go.RowKit
set_option linter.unusedVariables false
abbrev ap:Ty:=(.pair (.int .i64) (.pair (.list (.pair (.int .i64) (.pair .str (.pair (.int .i64) (.pair .bool .unit))))) (.pair (.list (.pair (.int .i64) (.pair (.int .i64) (.pair (.list (.int .i64)) .unit)))) (.pair (.list (.pair (.int .i64) (.pair (.int .i64) (.pair (.int .i64) (.pair (.pair (.int .i64) (.pair (.int .i64) (.pair (.int .i64) (.pair (.int .i64) (.pair .bool .unit))))) .unit))))) .unit))))
abbrev ak:Ty:=(.pair (.int .i64) (.pair (.int .i64) (.pair (.int .i64) (.pair (.int .i64) (.pair (.int .i64) .unit)))))
abbrev aL:Ty:=(.pair (.int .i64) (.pair (.int .i64) (.pair ak (.pair (.list (.int .i64)) .unit))))
abbrev gy:Ty:=(.pair (.int .i64) (.pair aL .unit))
abbrev cE:Ty:=(.pair (.int .i64) (.pair (.int .i64) (.pair (.int .i64) (.pair (.int .i64) (.pair .bool .unit)))))
abbrev al:Ty:=(.pair (.list (.int .u8)) (.pair (.int .i64) (.pair (.int .i64) .unit)))
abbrev aw:Ty:=(.pair (.int .i64) (.pair .str (.pair (.int .i64) (.pair .bool .unit))))
abbrev aj:Ty:=(.pair (.int .i64) (.pair (.int .i64) (.pair (.int .i64) (.pair cE .unit))))
abbrev nQ:Ty:=(.pair (.list (.int .i64)) (.pair (.int .i64) (.pair (.list (.int .i64)) .unit)))
abbrev qw:Ty:=(.pair (.int .i64) (.pair (.int .i64) (.pair (.int .i64) (.pair (.int .i64) .unit))))
abbrev aA:Ty:=(.pair (.int .i64) (.pair (.int .i64) (.pair (.list (.int .i64)) .unit)))
abbrev bE:Ty:=(.pair (.int .i64) (.pair (.int .i64) .unit))
abbrev Gi:Ty:=(.pair (.int .i64) (.pair (.list (.int .i64)) (.pair (.int .i64) .unit)))
abbrev vf:Ty:=(.pair .str .unit)
abbrev Pz:Ty:=(.pair bE .unit)
abbrev ax:Ty:=(.pair .bool .unit)
abbrev pE:Ty:=(.pair ap .unit)
abbrev vU:Ty:=(.pair ak .unit)
abbrev Ij:Ty:=(.pair aL .unit)
abbrev R2:Ty:=(.pair aj .unit)
abbrev aO:Ty:=(.pair (.int .i64) .unit)
abbrev rY:Ty:=(.pair (.box ap) bE)
abbrev Ba:Ty:=(.pair cE .unit)
abbrev R3:Ty:=(.pair (.ptr ap) bE)
abbrev LX:Ty:=(.pair (.box ap) qw)
abbrev R4:Ty:=(.pair (.box ap) ak)
abbrev PA:Ty:=(.pair (.ptr nQ) bE)
abbrev Ik:Ty:=(.pair (.list aw) bE)
abbrev gq:Ty:=(.pair (.box al) .unit)
abbrev Il:Ty:=(.pair (.list aw) .unit)
abbrev LY:Ty:=(.pair (.list aj) .unit)
abbrev PB:Ty:=(.pair (.list aA) .unit)
abbrev Ui:Ty:=(.pair .str (.pair .str .unit))
abbrev qx:Ty:=(.pair (.list (.int .i64)) bE)
abbrev Im:Ty:=(.pair (.list (.int .u8)) .unit)
abbrev R5:Ty:=(.pair (.list aj) qw)
abbrev kh:Ty:=(.pair (.list (.int .i64)) .unit)
abbrev LZ:Ty:=(.pair (.own 2 (.int .i64)) bE)
abbrev br:Ty:=(.pair (.own 2 (.int .i64)) .unit)
abbrev vV:Ty:=(.pair ap (.pair ak .unit))
abbrev PC:Ty:=(.pair (.own 116 aj) .unit)
abbrev R6:Ty:=(.pair (.list (.int .i64)) qw)
abbrev Uj:Ty:=(.pair (.own 103 aw) .unit)
abbrev Uk:Ty:=(.pair aL (.pair aL .unit))
abbrev R7:Ty:=(.pair .str (.pair (.int .i64) .unit))
abbrev Ul:Ty:=(.pair ap (.pair (.int .i64) .unit))
abbrev Um:Ty:=(.pair gy (.pair gy .unit))
abbrev R8:Ty:=(.pair cE (.pair aL .unit))
abbrev Un:Ty:=(.pair aj (.pair aj .unit))
abbrev PD:Ty:=(.pair gy (.pair (.int .i64) .unit))
abbrev R9:Ty:=(.pair (.box ap) (.pair (.int .i64) bE))
abbrev Uo:Ty:=(.pair cE (.pair (.int .i64) .unit))
abbrev PE:Ty:=(.pair (.box ap) (.pair (.int .i64) .unit))
abbrev Up:Ty:=(.pair (.ptr ap) (.pair (.int .i64) .unit))
abbrev Uq:Ty:=(.pair ak (.pair (.box al) .unit))
abbrev Ur:Ty:=(.pair aL (.pair (.box al) .unit))
abbrev tM:Ty:=(.pair ap (.pair ak (.pair aL .unit)))
abbrev Us:Ty:=(.pair (.list aj) (.pair (.int .i64) bE))
abbrev Sa:Ty:=(.pair (.nptr nQ) (.pair (.int .i64) .unit))
abbrev Ut:Ty:=(.pair (.list aw) (.pair (.int .i64) .unit))
abbrev Uu:Ty:=(.pair (.list aA) (.pair (.int .i64) .unit))
abbrev Uv:Ty:=(.pair (.box al) (.pair (.int .i64) .unit))
abbrev Uw:Ty:=(.pair cE (.pair (.box al) .unit))
abbrev Ux:Ty:=(.pair (.box ap) (.pair (.list aA) bE))
abbrev Sb:Ty:=(.pair (.list (.int .i64)) (.pair (.int .i64) bE))
abbrev oE:Ty:=(.pair (.list (.int .i64)) (.pair (.int .i64) .unit))
abbrev jt:Ty:=(.pair (.own 2 (.int .i64)) (.pair (.int .i64) .unit))
abbrev Uy:Ty:=(.pair aL (.pair (.int .i64) (.pair ak .unit)))
abbrev Uz:Ty:=(.pair (.own 103 aw) (.pair (.box al) .unit))
abbrev PF:Ty:=(.pair (.list (.int .i64)) (.pair (.list (.int .i64)) .unit))
abbrev Sc:Ty:=(.pair (.own 2 (.int .i64)) (.pair (.list (.int .i64)) bE))
abbrev UA:Ty:=(.pair (.list (.int .i64)) (.pair (.own 2 (.int .i64)) bE))
abbrev Io:Ty:=(.pair ap (.pair ak (.pair (.list (.int .i64)) .unit)))
abbrev UB:Ty:=(.pair ap (.pair ak (.pair (.own 2 (.int .i64)) .unit)))
abbrev UC:Ty:=(.pair bE (.pair (.int .i64) (.pair (.list (.int .i64)) .unit)))
abbrev UD:Ty:=(.pair (.list (.int .i64)) (.pair (.int .i64) (.pair ak .unit)))
abbrev UE:Ty:=(.pair (.box ap) (.pair (.int .i64) (.pair (.list aA) bE)))
abbrev Sd:Ty:=(.pair (.int .i64) (.pair (.own 2 (.int .i64)) (.pair (.int .i64) .unit)))
abbrev UF:Ty:=(.pair (.int .i64) (.pair (.int .i64) (.pair (.own 2 (.int .i64)) .unit)))
abbrev UG:Ty:=(.pair (.list (.int .i64)) (.pair (.list (.int .i64)) (.pair (.int .i64) .unit)))
abbrev PG:Ty:=(.pair (.list (.int .i64)) (.pair (.own 2 (.int .i64)) (.pair (.int .i64) .unit)))
abbrev UH:Ty:=(.pair (.int .i64) (.pair (.list (.int .i64)) (.pair (.int .i64) (.pair ak .unit))))
abbrev UI:Ty:=(.pair (.own 2 (.int .i64)) (.pair (.int .i64) (.pair (.int .i64) (.pair .bool .unit))))
abbrev UJ:Ty:=(.pair (.list aw) (.pair (.fn (.pair aw .unit) (.pair .bool .unit)) .unit))
abbrev UK:Ty:=(.pair (.list aj) (.pair (.fn (.pair aj .unit) (.pair .bool .unit)) .unit))
abbrev UL:Ty:=(.pair (.own 141 (.pair (.int .i64) (.pair (.int .i64) (.pair (.own 2 (.int .i64)) .unit)))) .unit)
abbrev Se:Ty:=(.pair (.box (.pair (.list (.int .i64)) (.pair (.int .i64) (.pair (.own 2 (.int .i64)) .unit)))) .unit)
abbrev UM:Ty:=(.pair (.pair (.int .i64) (.pair (.int .i64) (.pair ak (.pair (.own 2 (.int .i64)) .unit)))) .unit)
abbrev UN:Ty:=(.pair (.list (.int .i64)) (.pair (.list (.int .i64)) (.pair (.own 2 (.int .i64)) (.pair (.int .i64) .unit))))
abbrev PH:Ty:=(.pair (.pair (.int .i64) (.pair (.int .i64) (.pair ak (.pair (.own 2 (.int .i64)) .unit)))) (.pair .bool .unit))
abbrev PI:Ty:=(.pair (.pair (.int .i64) (.pair (.int .i64) (.pair ak (.pair (.own 2 (.int .i64)) .unit)))) (.pair (.int .i64) .unit))
abbrev UO:Ty:=(.pair (.box (.pair (.list (.int .i64)) (.pair (.int .i64) (.pair (.own 2 (.int .i64)) .unit)))) (.pair (.int .i64) .unit))
abbrev UP:Ty:=(.pair (.int .i64) (.pair (.box (.pair (.list (.int .i64)) (.pair (.int .i64) (.pair (.own 2 (.int .i64)) .unit)))) .unit))
abbrev UQ:Ty:=(.pair (.own 141 (.pair (.int .i64) (.pair (.int .i64) (.pair (.own 2 (.int .i64)) .unit)))) (.pair (.box al) .unit))
abbrev Sf:Ty:=(.pair (.pair (.int .i64) (.pair (.own 103 aw) (.pair (.own 141 aA) (.pair (.own 116 aj) .unit)))) .unit)
abbrev Bb:Ty:=(.pair (.pair (.int .i64) (.pair (.pair (.int .i64) (.pair (.int .i64) (.pair ak (.pair (.own 2 (.int .i64)) .unit)))) .unit)) (.pair (.int .i64) .unit))
abbrev UR:Ty:=(.pair (.box al) (.pair (.box ap) (.pair (.own 103 aw) (.pair (.own 2 (.int .i64)) (.pair (.own 141 aA) (.pair (.own 116 aj) bE))))))
abbrev Sg:Ty:=(.pair (.box al) (.pair (.box ap) (.pair (.own 103 aw) (.pair (.own 2 (.int .i64)) (.pair (.own 141 aA) (.pair (.own 116 aj) (.pair (.int .i64) (.pair (.int .i64) (.pair (.box aA) (.pair (.own 2 (.int .i64)) (.pair (.int .i64) .unit)))))))))))
def bI:b7:=[(2,(.int .i64)),(3,(.int .i64)),(4,.bool),(5,(.int .u8)),(9,.str),(22,(.list (.int .u8))),(24,(.list aw)),(25,(.list aA)),(26,(.list aj)),(28,ap),(30,ak),(31,(.list (.int .i64))),(35,aL),(37,gy),(50,cE),(92,(.list qw)),(98,al),(101,(.int .u64)),(103,aw),(113,(.list (.list (.int .i64)))),(116,aj),(128,nQ),(133,qw),(141,aA),(147,bE),(189,Gi),(194,(.list .str))]
def E0:bA:=[(22,5),(24,103),(25,141),(26,116),(31,2),(92,133),(113,31),(194,9)]
theorem ao:bZ Tryz.prog bI E0=true:=by kernel_rfl
def QS:b7:=[(2,(.int .i64)),(2,(.int .i64)),(4,.bool),(24,(.list aw)),(25,(.list aA)),(26,(.list aj)),(28,ap),(31,(.list (.int .i64))),(50,cE),(103,aw),(116,aj),(141,aA)]
def E1:bA:=[(24,103),(25,141),(26,116),(31,2)]
theorem VV:bZ Tryz.prog QS E1=true:=by kernel_rfl
def US:b7:=[(2,(.int .i64)),(25,(.list UF)),(31,(.list (.int .i64))),(141,aA)]
def E2:bA:=[(25,141),(31,2)]
theorem UT:bZ Tryz.prog US E2=true:=by kernel_rfl
def VS:b7:=[(2,(.int .i64)),(4,.bool),(4,.bool),(24,(.list aw)),(28,ap),(30,ak),(31,(.list (.int .i64))),(35,aL),(50,cE),(101,(.int .u64)),(103,aw)]
def E3:bA:=[(24,103),(31,2)]
theorem VW:bZ Tryz.prog VS E3=true:=by kernel_rfl
abbrev G0:Gl:=Gl.none
noncomputable def qg(x:Ty.T Im):Option (Ty.T ax):=
some ((decide ((x.1.length:Int)>(4096:Int))),())
noncomputable def Tl:ae:=⟨_,ax,.unit,rfl,qg⟩
theorem L0:FnOK G0 Tryz.prog 7 Tl:=an ao aR Tryz.func7
noncomputable def cU(x:Ty.T aO):Option (Ty.T ax):=
some ((x.1 != (0:Int)),())
noncomputable def Bc:ae:=⟨_,ax,.unit,rfl,cU⟩
theorem gz:FnOK G0 Tryz.prog 94 Bc:=an ao aR Tryz.func94
noncomputable def eP(x:Ty.T aO):Option (Ty.T ax):=
match(x.1==(0:Int))with
|true=>
 some (true,())
|false=>
 some ((x.1==(2:Int)),())
noncomputable def DS:ae:=⟨_,ax,.unit,rfl,eP⟩
theorem kL:FnOK G0 Tryz.prog 95 DS:=an ao aR Tryz.func95
noncomputable def fi(x:(Ty.T R6)):Option ((Ty.T R6) ⊕ ((Ty.T aO) ⊕ (Ty.T .unit))):=
match(decide (x.2.2.2.2.1<x.2.2.1))with
|true=>
 ab (au x.1 (IntKind.i64.wrap (x.2.1+x.2.2.2.2.1))) fun v1=>
 some (.inl (x.1,x.2.1,x.2.2.1,(IntKind.i64.wrap ((IntKind.i64.wrap ((2:Int)*x.2.2.2.1))+v1)),(IntKind.i64.wrap (x.2.2.2.2.1+(1:Int))),()))
|false=>
 some (.inr (.inl (x.2.2.2.1,())))
noncomputable def cM(x:Ty.T qx):Option (Ty.T aO):=
match ac fi (x.1,x.2.1,x.2.2.1,(0:Int),(0:Int),())with
|none=>none
|some (.inl v2)=>
 some (v2.1,())
|some (.inr v4)=>
 none
noncomputable def zf:ae:=⟨_,aO,.unit,rfl,cM⟩
noncomputable def wF:FuncId→Option ae:=bU []
theorem EJ:∀f s,wF f=some s→FnOK G0 Tryz.prog f s:=aM trivial
def vg:aX:=⟨[0,1,2,7,8],R6,0,[7],aO,[],.unit⟩
noncomputable def wG:List aJ:=[vg.spec fi]
theorem Dd:bq bI E0 wF (bo Tryz.f197 wG) Tryz.f197 0 vg fi:=fun x=>by kernel_rfl
theorem wH:FnOK G0 Tryz.prog 197 zf:=aP ao EJ Tryz.func197 wG (by kernel_rfl) (by exact⟨(Dd).lok,trivial⟩) fun x=>by kernel_rfl
abbrev pF:Ty:=PG
noncomputable def fM(x:(Ty.T pF)):Option ((Ty.T pF) ⊕ ((Ty.T br) ⊕ (Ty.T .unit))):=
match(decide ((IntKind.i64.wrap (x.2.2.1+(8:Int)))≤(x.1.length:Int)))with
|true=>
 match cM (x.1,x.2.2.1,(8:Int),())with
 |none=>none
 |some v1=>
 aD (x.2.1.length+ [v1.1].length) (
  some (.inl (x.1,(x.2.1++ [v1.1]),(IntKind.i64.wrap (x.2.2.1+(8:Int))),())))
|false=>
 some (.inr (.inl (x.2.1,())))
noncomputable def sZ(x:Ty.T kh):Option (Ty.T br):=
match ac fM (x.1,[],(0:Int),())with
|none=>none
|some (.inl v2)=>
 some (v2.1,())
|some (.inr v4)=>
 none
noncomputable def L1:ae:=⟨_,br,.unit,rfl,sZ⟩
noncomputable def zg:FuncId→Option ae:=bU [(197,zf)]
theorem Gj:∀f s,zg f=some s→FnOK G0 Tryz.prog f s:=aM ⟨wH,trivial⟩
def wI:aX:=⟨[0,3,4],pF,0,[3],br,[],.unit⟩
noncomputable def zh:List aJ:=[wI.spec fM]
theorem EK:bq bI E0 zg (bo Tryz.f148 zh) Tryz.f148 0 wI fM:=fun x=>by kernel_rfl
theorem KC:FnOK G0 Tryz.prog 148 L1:=aP ao Gj Tryz.func148 zh (by kernel_rfl) (by exact⟨(EK).lok,trivial⟩) fun x=>by kernel_rfl
abbrev oG:Ty:=Sd
noncomputable def gr(x:(Ty.T oG)):Option ((Ty.T oG) ⊕ ((Ty.T br) ⊕ (Ty.T .unit))):=
match(decide (x.2.2.1≥(0:Int)))with
|true=>
 if(IntKind.u64.wrap x.2.2.1)<0 then none else
 aD (x.2.1.length+ [(bits BinOp.and .i64 (Int.fdiv x.1 (2^min (IntKind.u64.wrap x.2.2.1).toNat IntKind.i64.bits)) (1:Int))].length) (
  some (.inl (x.1,(x.2.1++ [(bits BinOp.and .i64 (Int.fdiv x.1 (2^min (IntKind.u64.wrap x.2.2.1).toNat IntKind.i64.bits)) (1:Int))]),(IntKind.i64.wrap (x.2.2.1-(1:Int))),())))
|false=>
 some (.inr (.inl (x.2.1,())))
noncomputable def dq(x:Ty.T qx):Option (Ty.T br):=
aD (([]:List (Ty.T (.int .i64))).length+x.1.length) (
 match ac gr (x.2.1,(([]:List (Ty.T (.int .i64)))++x.1),(IntKind.i64.wrap (x.2.2.1-(1:Int))),())with
 |none=>none
 |some (.inl v1)=>
  some (v1.1,())
 |some (.inr v3)=>
  none)
noncomputable def KD:ae:=⟨_,br,.unit,rfl,dq⟩
noncomputable def wJ:FuncId→Option ae:=bU []
theorem EL:∀f s,wJ f=some s→FnOK G0 Tryz.prog f s:=aM trivial
def vh:aX:=⟨[1,7,8],oG,0,[7],br,[],.unit⟩
noncomputable def wK:List aJ:=[vh.spec gr]
theorem De:bq bI E0 wJ (bo Tryz.f198 wK) Tryz.f198 0 vh gr:=fun x=>by kernel_rfl
theorem Ip:FnOK G0 Tryz.prog 198 KD:=aP ao EL Tryz.func198 wK (by kernel_rfl) (by exact⟨(De).lok,trivial⟩) fun x=>by kernel_rfl
noncomputable def kM(x:Ty.T vU):Option (Ty.T br):=
match dq ([],x.1.1,(16:Int),())with
|none=>none
|some v1=>
match dq (v1.1,x.1.2.1,(4:Int),())with
|none=>none
|some v2=>
match dq (v2.1,x.1.2.2.1,(4:Int),())with
|none=>none
|some v3=>
match dq (v3.1,x.1.2.2.2.1,(8:Int),())with
|none=>none
|some v4=>
match dq (v4.1,x.1.2.2.2.2.1,(32:Int),())with
|none=>none
|some v5=>
some (v5.1,())
noncomputable def Nn:ae:=⟨_,br,.unit,rfl,kM⟩
theorem Bd:FnOK G0 Tryz.prog 149 Nn:=an ao (sg Ip (aR)) Tryz.func149
noncomputable def bG(x:Ty.T Ij):Option (Ty.T br):=
match cU (x.1.1,())with
|none=>none
|some v1=>
match v1.1 with
|true=>
 match kM ((x.1.2.2.1.1,x.1.2.2.1.2.1,x.1.2.2.1.2.2.1,x.1.2.2.1.2.2.2.1,x.1.2.2.1.2.2.2.2.1,()),())with
 |none=>none
 |some v2=>
 match sZ (v2.1,())with
 |none=>none
 |some v3=>
 aD ([(IntKind.i64.wrap ((IntKind.i64.wrap (x.1.1*(64:Int)))+(IntKind.i64.wrap (x.1.2.1*(8:Int)))))].length+v3.1.length) (
  match eP (x.1.1,())with
  |none=>none
  |some v4=>
  match v4.1 with
  |true=>
   aD (([(IntKind.i64.wrap ((IntKind.i64.wrap (x.1.1*(64:Int)))+(IntKind.i64.wrap (x.1.2.1*(8:Int)))))]++v3.1).length+ [(x.1.2.2.2.1.length:Int)].length) (
    aD ((([(IntKind.i64.wrap ((IntKind.i64.wrap (x.1.1*(64:Int)))+(IntKind.i64.wrap (x.1.2.1*(8:Int)))))]++v3.1)++ [(x.1.2.2.2.1.length:Int)]).length+x.1.2.2.2.1.length) (
     some (((([(IntKind.i64.wrap ((IntKind.i64.wrap (x.1.1*(64:Int)))+(IntKind.i64.wrap (x.1.2.1*(8:Int)))))]++v3.1)++ [(x.1.2.2.2.1.length:Int)])++x.1.2.2.2.1),())))
  |false=>
   some (([(IntKind.i64.wrap ((IntKind.i64.wrap (x.1.1*(64:Int)))+(IntKind.i64.wrap (x.1.2.1*(8:Int)))))]++v3.1),()))
|false=>
 match eP (x.1.1,())with
 |none=>none
 |some v5=>
 match v5.1 with
 |true=>
  aD ([(IntKind.i64.wrap ((IntKind.i64.wrap (x.1.1*(64:Int)))+(IntKind.i64.wrap (x.1.2.1*(8:Int)))))].length+ [(x.1.2.2.2.1.length:Int)].length) (
   aD (([(IntKind.i64.wrap ((IntKind.i64.wrap (x.1.1*(64:Int)))+(IntKind.i64.wrap (x.1.2.1*(8:Int)))))]++ [(x.1.2.2.2.1.length:Int)]).length+x.1.2.2.2.1.length) (
    some ((([(IntKind.i64.wrap ((IntKind.i64.wrap (x.1.1*(64:Int)))+(IntKind.i64.wrap (x.1.2.1*(8:Int)))))]++ [(x.1.2.2.2.1.length:Int)])++x.1.2.2.2.1),())))
 |false=>
  some ([(IntKind.i64.wrap ((IntKind.i64.wrap (x.1.1*(64:Int)))+(IntKind.i64.wrap (x.1.2.1*(8:Int)))))],())
noncomputable def Np:ae:=⟨_,br,.unit,rfl,bG⟩
theorem Be:FnOK G0 Tryz.prog 92 Np:=an ao (sg gz (sg kL (sg KC (sg Bd (aR))))) Tryz.func92
abbrev ru:Ty:=(.pair (.int .i64) (.pair (.list (.int .i64)) (.pair (.box bE) bE)))
noncomputable def eE(x:(Ty.T ru)):Option ((Ty.T ru) ⊕ ((Ty.T aO) ⊕ (Ty.T .unit))):=
match(decide (x.2.2.2.2.1<(x.2.1.length:Int)))with
|true=>
 if x.2.2.2.1=0 then none else
 ab (au x.2.1 x.2.2.2.2.1) fun v1=>
 if x.2.2.2.1=0 then none else
 match((bits BinOp.xor .i64 (IntKind.i64.wrap (Int.tdiv x.1 x.2.2.2.1)) v1)==(1:Int))with
 |true=>
  some (.inl ((bits BinOp.xor .i64 (IntKind.i64.wrap ((Int.tmod x.1 x.2.2.2.1)*(2:Int))) x.2.2.1.2.1),x.2.1,(x.2.2.1.1,x.2.2.1.2.1,()),x.2.2.2.1,(IntKind.i64.wrap (x.2.2.2.2.1+(1:Int))),()))
 |false=>
  some (.inl ((IntKind.i64.wrap ((Int.tmod x.1 x.2.2.2.1)*(2:Int))),x.2.1,(x.2.2.1.1,x.2.2.1.2.1,()),x.2.2.2.1,(IntKind.i64.wrap (x.2.2.2.2.1+(1:Int))),()))
|false=>
 some (.inr (.inl (x.1,())))
noncomputable def nR(x:Ty.T UC):Option (Ty.T aO):=
if(IntKind.u64.wrap (IntKind.i64.wrap (x.1.1-(1:Int))))<0 then none else
match ac eE (x.2.1,x.2.2.1,(x.1.1,x.1.2.1,()),(IntKind.i64.wrap ((1:Int)*2^min (IntKind.u64.wrap (IntKind.i64.wrap (x.1.1-(1:Int)))).toNat IntKind.i64.bits)),(0:Int),())with
|none=>none
|some (.inl v2)=>
 some (v2.1,())
|some (.inr v4)=>
 none
noncomputable def Nq:ae:=⟨_,aO,.unit,rfl,nR⟩
noncomputable def Bf:FuncId→Option ae:=bU []
theorem Iq:∀f s,Bf f=some s→FnOK G0 Tryz.prog f s:=aM trivial
def zi:aX:=⟨[1,2,3,7,8],ru,0,[1],aO,[],.unit⟩
noncomputable def Bg:List aJ:=[zi.spec eE]
theorem Gk:bq bI E0 Bf (bo Tryz.f150 Bg) Tryz.f150 0 zi eE:=fun x=>by kernel_rfl
theorem L2:FnOK G0 Tryz.prog 150 Nq:=aP ao Iq Tryz.func150 Bg (by kernel_rfl) (by exact⟨(Gk).lok,trivial⟩) fun x=>by kernel_rfl
noncomputable def ki(x:Ty.T .unit):Option (Ty.T Pz):=
some (((24:Int),(6122955:Int),()),())
noncomputable def Gm:ae:=⟨_,Pz,.unit,rfl,ki⟩
theorem EM:FnOK G0 Tryz.prog 151 Gm:=an ao aR Tryz.func151
abbrev rv:Ty:=UA
abbrev zj:Ty:=PG
noncomputable def gA(x:(Ty.T rv)):Option ((Ty.T rv) ⊕ ((Ty.T zj) ⊕ (Ty.T .unit))):=
match(decide (x.2.2.2.1≥(0:Int)))with
|true=>
 ab (au x.1 x.2.2.1) fun v1=>
 if(IntKind.u64.wrap x.2.2.2.1)<0 then none else
 aD (x.2.1.length+ [(bits BinOp.and .i64 (Int.fdiv v1 (2^min (IntKind.u64.wrap x.2.2.2.1).toNat IntKind.i64.bits)) (1:Int))].length) (
  some (.inl (x.1,(x.2.1++ [(bits BinOp.and .i64 (Int.fdiv v1 (2^min (IntKind.u64.wrap x.2.2.2.1).toNat IntKind.i64.bits)) (1:Int))]),x.2.2.1,(IntKind.i64.wrap (x.2.2.2.1-(1:Int))),())))
|false=>
 some (.inr (.inl (x.1,x.2.1,x.2.2.1,())))
abbrev rz:Ty:=PG
noncomputable def gB(x:(Ty.T rz)):Option ((Ty.T rz) ⊕ ((Ty.T br) ⊕ (Ty.T .unit))):=
match(decide (x.2.2.1<(x.1.length:Int)))with
|true=>
 match ac gA (x.1,x.2.1,x.2.2.1,(7:Int),())with
 |none=>none
 |some (.inl v1)=>
  some (.inl (v1.1,v1.2.1,(IntKind.i64.wrap (v1.2.2.1+(1:Int))),()))
 |some (.inr v3)=>
  some (.inr (.inr (())))
|false=>
 some (.inr (.inl (x.2.1,())))
noncomputable def jL(x:Ty.T kh):Option (Ty.T br):=
match ac gB (x.1,[],(0:Int),())with
|none=>none
|some (.inl v4)=>
 some (v4.1,())
|some (.inr v6)=>
 none
noncomputable def DT:ae:=⟨_,br,.unit,rfl,jL⟩
noncomputable def tN:FuncId→Option ae:=bU []
theorem Ir:∀f s,tN f=some s→FnOK G0 Tryz.prog f s:=aM trivial
def zk:aX:=⟨[0,3,4],rz,0,[3],br,[],.unit⟩
def zl:aX:=⟨[0,3,4,5],rv,2,[0,3,4],zj,[],.unit⟩
noncomputable def tO:List aJ:=[zk.spec gB,zl.spec gA]
theorem Gn:bq bI E0 tN (bo Tryz.f152 tO) Tryz.f152 0 zk gB:=fun x=>by kernel_rfl
theorem Gp:bq bI E0 tN (bo Tryz.f152 tO) Tryz.f152 1 zl gA:=fun x=>by kernel_rfl
theorem tP:FnOK G0 Tryz.prog 152 DT:=aP ao Ir Tryz.func152 tO (by kernel_rfl) (by exact⟨(Gn).lok,(Gp).lok,trivial⟩) fun x=>by kernel_rfl
noncomputable def i9(x:Ty.T UH):Option (Ty.T aO):=
match(x.1==(0:Int))with
|true=>
 match ki (())with
 |none=>none
 |some v1=>
 match kM ((x.2.2.2.1.1,x.2.2.2.1.2.1,x.2.2.2.1.2.2.1,x.2.2.2.1.2.2.2.1,x.2.2.2.1.2.2.2.2.1,()),())with
 |none=>none
 |some v2=>
 match nR (v1.1,x.2.2.1,v2.1,())with
 |none=>none
 |some v3=>
 match ki (())with
 |none=>none
 |some v4=>
 match jL (x.2.1,())with
 |none=>none
 |some v5=>
 match nR (v4.1,v3.1,v5.1,())with
 |none=>none
 |some v6=>
 some (v6.1,())
|false=>
 match ki (())with
 |none=>none
 |some v7=>
 match jL (x.2.1,())with
 |none=>none
 |some v8=>
 match nR (v7.1,x.2.2.1,v8.1,())with
 |none=>none
 |some v9=>
 some (v9.1,())
noncomputable def KE:ae:=⟨_,aO,.unit,rfl,i9⟩
theorem wL:FnOK G0 Tryz.prog 93 KE:=an ao (sg Bd (sg L2 (sg EM (sg tP (aR))))) Tryz.func93
noncomputable def gY(x:Ty.T Uy):Option (Ty.T br):=
match bG ((x.1.1,x.1.2.1,(x.1.2.2.1.1,x.1.2.2.1.2.1,x.1.2.2.1.2.2.1,x.1.2.2.1.2.2.2.1,x.1.2.2.1.2.2.2.2.1,()),x.1.2.2.2.1,()),())with
|none=>none
|some v1=>
match i9 (x.1.1,v1.1,x.2.1,(x.2.2.1.1,x.2.2.1.2.1,x.2.2.1.2.2.1,x.2.2.1.2.2.2.1,x.2.2.1.2.2.2.2.1,()),())with
|none=>none
|some v2=>
aD (v1.1.length+ [(IntKind.i64.wrap (Int.tdiv v2.1 (65536:Int))),(Int.tmod (IntKind.i64.wrap (Int.tdiv v2.1 (256:Int))) (256:Int)),(Int.tmod v2.1 (256:Int))].length) (
 some ((v1.1++ [(IntKind.i64.wrap (Int.tdiv v2.1 (65536:Int))),(Int.tmod (IntKind.i64.wrap (Int.tdiv v2.1 (256:Int))) (256:Int)),(Int.tmod v2.1 (256:Int))]),()))
noncomputable def Nr:ae:=⟨_,br,.unit,rfl,gY⟩
theorem tQ:FnOK G0 Tryz.prog 43 Nr:=an ao (sg Be (sg wL (aR))) Tryz.func43
noncomputable def cp(x:Ty.T (.pair (.int .i64) bE)):Option (Ty.T ax):=
match(decide (x.1≥x.2.1))with
|true=>
 some ((decide (x.1≤x.2.2.1)),())
|false=>
 some (false,())
noncomputable def kN:ae:=⟨_,ax,.unit,rfl,cp⟩
theorem de:FnOK G0 Tryz.prog 158 kN:=an ao aR Tryz.func158
noncomputable def qy(x:Ty.T aO):Option (Ty.T ax):=
match cp (x.1,(0:Int),(31:Int),())with
|none=>none
|some v1=>
some (v1.1,())
noncomputable def Ns:ae:=⟨_,ax,.unit,rfl,qy⟩
theorem Bh:FnOK G0 Tryz.prog 209 Ns:=an ao (sg de (aR)) Tryz.func209
noncomputable def gC(x:(Ty.T R7)):Option ((Ty.T R7) ⊕ ((Ty.T vf) ⊕ (Ty.T ax))):=
match(decide (x.2.1<(x.1.length:Int)))with
|true=>
 ab (au x.1 x.2.1) fun v1=>
 match(decide ((v1.toNat:Int)<(97:Int)))with
 |true=>
  ab (au x.1 x.2.1) fun v2=>
  match(decide ((v2.toNat:Int)<(48:Int)))with
  |true=>
   some (.inr (.inr (false,())))
  |false=>
   ab (au x.1 x.2.1) fun v3=>
   match(decide ((v3.toNat:Int)>(57:Int)))with
   |true=>
    some (.inr (.inr (false,())))
   |false=>
    some (.inl (x.1,(IntKind.i64.wrap (x.2.1+(1:Int))),()))
 |false=>
  ab (au x.1 x.2.1) fun v4=>
  match(decide ((v4.toNat:Int)>(122:Int)))with
  |true=>
   ab (au x.1 x.2.1) fun v5=>
   match(decide ((v5.toNat:Int)<(48:Int)))with
   |true=>
    some (.inr (.inr (false,())))
   |false=>
    ab (au x.1 x.2.1) fun v6=>
    match(decide ((v6.toNat:Int)>(57:Int)))with
    |true=>
     some (.inr (.inr (false,())))
    |false=>
     some (.inl (x.1,(IntKind.i64.wrap (x.2.1+(1:Int))),()))
  |false=>
   some (.inl (x.1,(IntKind.i64.wrap (x.2.1+(1:Int))),()))
|false=>
 some (.inr (.inl (x.1,())))
noncomputable def vi(x:Ty.T vf):Option (Ty.T ax):=
match ac gC (x.1,(0:Int),())with
|none=>none
|some (.inl v7)=>
 match(decide ((v7.1.length:Int)≥(1:Int)))with
 |true=>
  some ((decide ((v7.1.length:Int)≤(6:Int))),())
 |false=>
  some (false,())
|some (.inr v8)=>
 some (v8.1,())
noncomputable def Nt:ae:=⟨_,ax,.unit,rfl,vi⟩
noncomputable def Bi:FuncId→Option ae:=bU []
theorem Iu:∀f s,Bi f=some s→FnOK G0 Tryz.prog f s:=aM trivial
def zm:aX:=⟨[0,3],R7,0,[0],vf,[2],ax⟩
noncomputable def Bj:List aJ:=[zm.spec gC]
theorem Gq:bq bI E0 Bi (bo Tryz.f257 Bj) Tryz.f257 0 zm gC:=fun x=>by kernel_rfl
theorem L3:FnOK G0 Tryz.prog 257 Nt:=aP ao Iu Tryz.func257 Bj (by kernel_rfl) (by exact⟨(Gq).lok,trivial⟩) fun x=>by kernel_rfl
noncomputable def oH(x:Ty.T (.pair aw .unit)):Option (Ty.T ax):=
match qy (x.1.1,())with
|none=>none
|some v1=>
match v1.1 with
|true=>
 match vi (x.1.2.1,())with
 |none=>none
 |some v2=>
 match v2.1 with
 |true=>
  match cp (x.1.2.2.1,(0:Int),(1000:Int),())with
  |none=>none
  |some v3=>
  some (v3.1,())
 |false=>
  some (false,())
|false=>
 some (false,())
noncomputable def wM:ae:=⟨_,ax,.unit,rfl,oH⟩
theorem Gr:FnOK G0 Tryz.prog 239 wM:=an ao (sg de (sg Bh (sg L3 (aR)))) Tryz.func239
abbrev rZ:Ty:=Ut
noncomputable def cV(x:(Ty.T Ik)):Option ((Ty.T Ik) ⊕ ((Ty.T rZ) ⊕ (Ty.T ax))):=
match(decide (x.2.2.1<x.2.1))with
|true=>
 ab (au x.1 x.2.2.1) fun v6=>
 ab (au x.1 x.2.1) fun v7=>
 match(v6.2.1==v7.2.1)with
 |true=>
  some (.inr (.inr (false,())))
 |false=>
  some (.inl (x.1,x.2.1,(IntKind.i64.wrap (x.2.2.1+(1:Int))),()))
|false=>
 some (.inr (.inl (x.1,x.2.1,())))
abbrev mb:Ty:=Ut
noncomputable def dX(x:(Ty.T mb)):Option ((Ty.T mb) ⊕ ((Ty.T .unit) ⊕ (Ty.T ax))):=
match(decide (x.2.1<(x.1.length:Int)))with
|true=>
 ab (au x.1 x.2.1) fun v2=>
 match oH (v2,())with
 |none=>none
 |some v3=>
 match(!v3.1)with
 |true=>
  some (.inr (.inr (false,())))
 |false=>
  match(decide (x.2.1>(0:Int)))with
  |true=>
   ab (au x.1 x.2.1) fun v4=>
   ab (au x.1 (IntKind.i64.wrap (x.2.1-(1:Int)))) fun v5=>
   match(decide (v4.1≤v5.1))with
   |true=>
    some (.inr (.inr (false,())))
   |false=>
    match ac cV (x.1,x.2.1,(0:Int),())with
    |none=>none
    |some (.inl v6)=>
     some (.inl (v6.1,(IntKind.i64.wrap (v6.2.1+(1:Int))),()))
    |some (.inr v7)=>
     some (.inr (.inr (v7.1,())))
  |false=>
   match ac cV (x.1,x.2.1,(0:Int),())with
   |none=>none
   |some (.inl v8)=>
    some (.inl (v8.1,(IntKind.i64.wrap (v8.2.1+(1:Int))),()))
   |some (.inr v9)=>
    some (.inr (.inr (v9.1,())))
|false=>
 some (.inr (.inl (())))
noncomputable def mV(x:Ty.T Il):Option (Ty.T ax):=
match cp ((x.1.length:Int),(1:Int),(32:Int),())with
|none=>none
|some v1=>
match(!v1.1)with
|true=>
 some (false,())
|false=>
 match ac dX (x.1,(0:Int),())with
 |none=>none
 |some (.inl v10)=>
  some (true,())
 |some (.inr v11)=>
  some (v11.1,())
noncomputable def vj:ae:=⟨_,ax,.unit,rfl,mV⟩
noncomputable def nj:FuncId→Option ae:=bU [(158,kN),(239,wM)]
theorem Bk:∀f s,nj f=some s→FnOK G0 Tryz.prog f s:=aM ⟨de,Gr,trivial⟩
def r5:aX:=⟨[0,3],mb,0,[],.unit,[2],ax⟩
def r6:aX:=⟨[0,3,4],Ik,2,[0,3],rZ,[2],ax⟩
noncomputable def nk:List aJ:=[r5.spec dX,r6.spec cV]
theorem Ak:bq bI E0 nj (bo Tryz.f200 nk) Tryz.f200 0 r5 dX:=fun x=>by kernel_rfl
theorem Al:bq bI E0 nj (bo Tryz.f200 nk) Tryz.f200 1 r6 cV:=fun x=>by kernel_rfl
theorem EN:FnOK G0 Tryz.prog 200 vj:=aP ao Bk Tryz.func200 nk (by kernel_rfl) (by exact⟨(Ak).lok,(Al).lok,trivial⟩) fun x=>by kernel_rfl
noncomputable def fN(x:(Ty.T qx)):Option ((Ty.T qx) ⊕ ((Ty.T .unit) ⊕ (Ty.T ax))):=
match(decide (x.2.2.1<(x.1.length:Int)))with
|true=>
 ab (au x.1 x.2.2.1) fun v1=>
 match cp (v1,(0:Int),(IntKind.i64.wrap (x.2.1-(1:Int))),())with
 |none=>none
 |some v2=>
 match(!v2.1)with
 |true=>
  some (.inr (.inr (false,())))
 |false=>
  match(decide (x.2.2.1>(0:Int)))with
  |true=>
   ab (au x.1 x.2.2.1) fun v3=>
   ab (au x.1 (IntKind.i64.wrap (x.2.2.1-(1:Int)))) fun v4=>
   match(decide (v3≤v4))with
   |true=>
    some (.inr (.inr (false,())))
   |false=>
    some (.inl (x.1,x.2.1,(IntKind.i64.wrap (x.2.2.1+(1:Int))),()))
  |false=>
   some (.inl (x.1,x.2.1,(IntKind.i64.wrap (x.2.2.1+(1:Int))),()))
|false=>
 some (.inr (.inl (())))
noncomputable def s5(x:Ty.T oE):Option (Ty.T ax):=
match ac fN (x.1,x.2.1,(0:Int),())with
|none=>none
|some (.inl v5)=>
 some (true,())
|some (.inr v6)=>
 some (v6.1,())
noncomputable def Bl:ae:=⟨_,ax,.unit,rfl,s5⟩
noncomputable def zn:FuncId→Option ae:=bU [(158,kN)]
theorem Gs:∀f s,zn f=some s→FnOK G0 Tryz.prog f s:=aM ⟨de,trivial⟩
def wN:aX:=⟨[0,1,5],qx,0,[],.unit,[4],ax⟩
noncomputable def zo:List aJ:=[wN.spec fN]
theorem EO:bq bI E0 zn (bo Tryz.f189 zo) Tryz.f189 0 wN fN:=fun x=>by kernel_rfl
theorem KF:FnOK G0 Tryz.prog 189 Bl:=aP ao Gs Tryz.func189 zo (by kernel_rfl) (by exact⟨(EO).lok,trivial⟩) fun x=>by kernel_rfl
noncomputable def ie(x:(Ty.T qx)):Option ((Ty.T qx) ⊕ ((Ty.T .unit) ⊕ (Ty.T ax))):=
match(decide (x.2.2.1<(x.1.length:Int)))with
|true=>
 ab (au x.1 x.2.2.1) fun v1=>
 match(v1==x.2.1)with
 |true=>
  some (.inr (.inr (true,())))
 |false=>
  some (.inl (x.1,x.2.1,(IntKind.i64.wrap (x.2.2.1+(1:Int))),()))
|false=>
 some (.inr (.inl (())))
noncomputable def yo(x:Ty.T oE):Option (Ty.T ax):=
match ac ie (x.1,x.2.1,(0:Int),())with
|none=>none
|some (.inl v2)=>
 some (false,())
|some (.inr v3)=>
 some (v3.1,())
noncomputable def Gt:ae:=⟨_,ax,.unit,rfl,yo⟩
noncomputable def DU:FuncId→Option ae:=bU []
theorem KG:∀f s,DU f=some s→FnOK G0 Tryz.prog f s:=aM trivial
def Bm:aX:=⟨[0,1,5],qx,0,[],.unit,[4],ax⟩
noncomputable def DV:List aJ:=[Bm.spec ie]
theorem Iv:bq bI E0 DU (bo Tryz.f240 DV) Tryz.f240 0 Bm ie:=fun x=>by kernel_rfl
theorem Nu:FnOK G0 Tryz.prog 240 Gt:=aP ao KG Tryz.func240 DV (by kernel_rfl) (by exact⟨(Iv).lok,trivial⟩) fun x=>by kernel_rfl
abbrev mc:Ty:=Uu
noncomputable def dY(x:(Ty.T mc)):Option ((Ty.T mc) ⊕ ((Ty.T .unit) ⊕ (Ty.T ax))):=
match(decide (x.2.1<(x.1.length:Int)))with
|true=>
 ab (au x.1 x.2.1) fun v2=>
 match cp (v2.1,(1:Int),(8:Int),())with
 |none=>none
 |some v3=>
 match(!v3.1)with
 |true=>
  some (.inr (.inr (false,())))
 |false=>
  match cp (v2.2.1,(1:Int),(16:Int),())with
  |none=>none
  |some v4=>
  match(!v4.1)with
  |true=>
   some (.inr (.inr (false,())))
  |false=>
   match s5 (v2.2.2.1,(x.1.length:Int),())with
   |none=>none
   |some v5=>
   match(!v5.1)with
   |true=>
    some (.inr (.inr (false,())))
   |false=>
    match yo (v2.2.2.1,x.2.1,())with
    |none=>none
    |some v6=>
    match v6.1 with
    |true=>
     some (.inr (.inr (false,())))
    |false=>
     some (.inl (x.1,(IntKind.i64.wrap (x.2.1+(1:Int))),()))
|false=>
 some (.inr (.inl (())))
noncomputable def mW(x:Ty.T PB):Option (Ty.T ax):=
match cp ((x.1.length:Int),(1:Int),(16:Int),())with
|none=>none
|some v1=>
match(!v1.1)with
|true=>
 some (false,())
|false=>
 match ac dY (x.1,(0:Int),())with
 |none=>none
 |some (.inl v7)=>
  some (true,())
 |some (.inr v8)=>
  some (v8.1,())
noncomputable def vk:ae:=⟨_,ax,.unit,rfl,mW⟩
noncomputable def tR:FuncId→Option ae:=bU [(158,kN),(189,Bl),(240,Gt)]
theorem Bo:∀f s,tR f=some s→FnOK G0 Tryz.prog f s:=aM ⟨de,KF,Nu,trivial⟩
def r7:aX:=⟨[0,3],mc,0,[],.unit,[2],ax⟩
noncomputable def tS:List aJ:=[r7.spec dY]
theorem Am:bq bI E0 tR (bo Tryz.f201 tS) Tryz.f201 0 r7 dY:=fun x=>by kernel_rfl
theorem EP:FnOK G0 Tryz.prog 201 vk:=aP ao Bo Tryz.func201 tS (by kernel_rfl) (by exact⟨(Am).lok,trivial⟩) fun x=>by kernel_rfl
noncomputable def qz(x:Ty.T aO):Option (Ty.T ax):=
match cp (x.1,(0:Int),(3:Int),())with
|none=>none
|some v1=>
some (v1.1,())
noncomputable def Nv:ae:=⟨_,ax,.unit,rfl,qz⟩
theorem Bp:FnOK G0 Tryz.prog 210 Nv:=an ao (sg de (aR)) Tryz.func210
noncomputable def qA(x:Ty.T bE):Option (Ty.T ax):=
match(x.1==(0:Int))with
|true=>
 match cp (x.2.1,(0:Int),(32:Int),())with
 |none=>none
 |some v1=>
 some (v1.1,())
|false=>
 match(x.1==(2:Int))with
 |true=>
  match cp (x.2.1,(1:Int),(32:Int),())with
  |none=>none
  |some v2=>
  some (v2.1,())
 |false=>
  some ((x.2.1==(0:Int)),())
noncomputable def Nw:ae:=⟨_,ax,.unit,rfl,qA⟩
theorem Bq:FnOK G0 Tryz.prog 211 Nw:=an ao (sg de (aR)) Tryz.func211
noncomputable def iB(x:Ty.T bE):Option (Ty.T aO):=
match cU (x.1,())with
|none=>none
|some v1=>
match v1.1 with
|true=>
 match eP (x.1,())with
 |none=>none
 |some v2=>
 match v2.1 with
 |true=>
  some ((IntKind.i64.wrap ((IntKind.i64.wrap ((IntKind.i64.wrap ((1:Int)+(8:Int)))+(1:Int)))+x.2.1)),())
 |false=>
  some ((IntKind.i64.wrap ((1:Int)+(8:Int))),())
|false=>
 match eP (x.1,())with
 |none=>none
 |some v3=>
 match v3.1 with
 |true=>
  some ((IntKind.i64.wrap ((IntKind.i64.wrap ((1:Int)+(1:Int)))+x.2.1)),())
 |false=>
  some ((1:Int),())
noncomputable def Gu:ae:=⟨_,aO,.unit,rfl,iB⟩
theorem ER:FnOK G0 Tryz.prog 243 Gu:=an ao (sg gz (sg kL (aR))) Tryz.func243
noncomputable def dA(x:Ty.T bE):Option (Ty.T aO):=
match iB (x.1,x.2.1,())with
|none=>none
|some v1=>
some ((IntKind.i64.wrap ((11:Int)+(IntKind.i64.wrap ((10:Int)*(IntKind.i64.wrap (v1.1+(3:Int))))))),())
noncomputable def L4:ae:=⟨_,aO,.unit,rfl,dA⟩
theorem rA:FnOK G0 Tryz.prog 212 L4:=an ao (sg ER (aR)) Tryz.func212
noncomputable def dR(x:Ty.T Ba):Option (Ty.T ax):=
match qy (x.1.1,())with
|none=>none
|some v1=>
match(!v1.1)with
|true=>
 some (false,())
|false=>
 match qz (x.1.2.1,())with
 |none=>none
 |some v2=>
 match(!v2.1)with
 |true=>
  some (false,())
 |false=>
  match qA (x.1.2.1,x.1.2.2.1,())with
  |none=>none
  |some v3=>
  match(!v3.1)with
  |true=>
   some (false,())
  |false=>
   match(x.1.2.1==(3:Int))with
   |true=>
    match x.1.2.2.2.2.1 with
    |true=>
     some (false,())
    |false=>
     match dA (x.1.2.1,x.1.2.2.1,())with
     |none=>none
     |some v4=>
     match cp (x.1.2.2.2.1,(IntKind.i64.wrap (v4.1+(20:Int))),(1000:Int),())with
     |none=>none
     |some v5=>
     some (v5.1,())
   |false=>
    match dA (x.1.2.1,x.1.2.2.1,())with
    |none=>none
    |some v6=>
    match cp (x.1.2.2.2.1,(IntKind.i64.wrap (v6.1+(20:Int))),(1000:Int),())with
    |none=>none
    |some v7=>
    some (v7.1,())
noncomputable def ES:ae:=⟨_,ax,.unit,rfl,dR⟩
theorem sb:FnOK G0 Tryz.prog 160 ES:=an ao (sg de (sg Bh (sg Bp (sg Bq (sg rA (aR)))))) Tryz.func160
noncomputable def CV(x:Ty.T R2):Option (Ty.T ax):=
match cp (x.1.1,(0:Int),(15:Int),())with
|none=>none
|some v1=>
match v1.1 with
|true=>
 match cp (x.1.2.1,(0:Int),(7:Int),())with
 |none=>none
 |some v2=>
 match v2.1 with
 |true=>
  match cp (x.1.2.2.1,(0:Int),(15:Int),())with
  |none=>none
  |some v3=>
  match v3.1 with
  |true=>
   match dR ((x.1.2.2.2.1.1,x.1.2.2.2.1.2.1,x.1.2.2.2.1.2.2.1,x.1.2.2.2.1.2.2.2.1,x.1.2.2.2.1.2.2.2.2.1,()),())with
   |none=>none
   |some v4=>
   some (v4.1,())
  |false=>
   some (false,())
 |false=>
  some (false,())
|false=>
 some (false,())
noncomputable def J0:ae:=⟨_,ax,.unit,rfl,CV⟩
theorem PJ:FnOK G0 Tryz.prog 241 J0:=an ao (sg de (sg sb (aR))) Tryz.func241
abbrev kO:Ty:=(.pair (.own 2 (.int .i64)) (.pair (.own 2 (.int .i64)) (.pair (.int .i64) .unit)))
noncomputable def ca(x:(Ty.T kO)):Option ((Ty.T kO) ⊕ ((Ty.T .unit) ⊕ (Ty.T aO))):=
match(decide (x.2.2.1<(3:Int)))with
|true=>
 ab (au x.1 x.2.2.1) fun _=>
 match x.1[x.2.2.1.toNat]? with
 |none=>none
 |some v2=>
 ab (au x.2.1 x.2.2.1) fun _=>
 match x.2.1[x.2.2.1.toNat]? with
 |none=>none
 |some v4=>
 match(decide (v2<v4))with
 |true=>
  some (.inr (.inr ((-1:Int),())))
 |false=>
  ab (au x.1 x.2.2.1) fun _=>
  match x.1[x.2.2.1.toNat]? with
  |none=>none
  |some v6=>
  ab (au x.2.1 x.2.2.1) fun _=>
  match x.2.1[x.2.2.1.toNat]? with
  |none=>none
  |some v8=>
  match(decide (v6>v8))with
  |true=>
   some (.inr (.inr ((1:Int),())))
  |false=>
   some (.inl (x.1,x.2.1,(IntKind.i64.wrap (x.2.2.1+(1:Int))),()))
|false=>
 some (.inr (.inl (())))
noncomputable def lG(x:Ty.T Un):Option (Ty.T aO):=
ag (
 match ac ca ([x.1.1,x.1.2.1,x.1.2.2.1],[x.2.1.1,x.2.1.2.1,x.2.1.2.2.1],(0:Int),())with
 |none=>none
 |some (.inl v9)=>
  some ((0:Int),())
 |some (.inr v10)=>
  some (v10.1,())) (
 match ac ca ([x.1.1,x.1.2.1,x.1.2.2.1],[x.2.1.1,x.2.1.2.1,x.2.1.2.2.1],(0:Int),())with
 |none=>none
 |some (.inl v1)=>
  some ((0:Int),())
 |some (.inr v2)=>
  some (v2.1,()))
noncomputable def tT:ae:=⟨_,aO,.unit,rfl,lG⟩
noncomputable def sd:FuncId→Option ae:=bU []
theorem An:∀f s,sd f=some s→FnOK G0 Tryz.prog f s:=aM trivial
def qB:aX:=⟨[5,6,7],kO,0,[],.unit,[4],aO⟩
noncomputable def se:List aJ:=[qB.spec ca]
theorem yp:bq bI E0 sd (bo Tryz.f242 se) Tryz.f242 0 qB ca:=fun x=>by kernel_rfl
theorem Df:FnOK G0 Tryz.prog 242 tT:=aP ao An Tryz.func242 se (by kernel_rfl) (by exact⟨(yp).lok,trivial⟩) fun x=>by kernel_rfl
abbrev me:Ty:=(.pair (.list aj) (.pair (.int .i64) .unit))
noncomputable def dZ(x:(Ty.T me)):Option ((Ty.T me) ⊕ ((Ty.T .unit) ⊕ (Ty.T ax))):=
match(decide (x.2.1<(x.1.length:Int)))with
|true=>
 ab (au x.1 x.2.1) fun v1=>
 match CV (v1,())with
 |none=>none
 |some v2=>
 match(!v2.1)with
 |true=>
  some (.inr (.inr (false,())))
 |false=>
  match(decide (x.2.1>(0:Int)))with
  |true=>
   ab (au x.1 (IntKind.i64.wrap (x.2.1-(1:Int)))) fun v3=>
   ab (au x.1 x.2.1) fun v4=>
   match lG (v3,v4,())with
   |none=>none
   |some v5=>
   match(decide (v5.1≥(0:Int)))with
   |true=>
    some (.inr (.inr (false,())))
   |false=>
    some (.inl (x.1,(IntKind.i64.wrap (x.2.1+(1:Int))),()))
  |false=>
   some (.inl (x.1,(IntKind.i64.wrap (x.2.1+(1:Int))),()))
|false=>
 some (.inr (.inl (())))
noncomputable def mX(x:Ty.T LY):Option (Ty.T ax):=
match(decide ((x.1.length:Int)>(120:Int)))with
|true=>
 some (false,())
|false=>
 match ac dZ (x.1,(0:Int),())with
 |none=>none
 |some (.inl v6)=>
  some (true,())
 |some (.inr v7)=>
  some (v7.1,())
noncomputable def vl:ae:=⟨_,ax,.unit,rfl,mX⟩
noncomputable def tU:FuncId→Option ae:=bU [(241,J0),(242,tT)]
theorem Br:∀f s,tU f=some s→FnOK G0 Tryz.prog f s:=aM ⟨PJ,Df,trivial⟩
def sf:aX:=⟨[0,3],me,0,[],.unit,[2],ax⟩
noncomputable def tV:List aJ:=[sf.spec dZ]
theorem Ao:bq bI E0 tU (bo Tryz.f202 tV) Tryz.f202 0 sf dZ:=fun x=>by kernel_rfl
theorem ET:FnOK G0 Tryz.prog 202 vl:=aP ao Br Tryz.func202 tV (by kernel_rfl) (by exact⟨(Ao).lok,trivial⟩) fun x=>by kernel_rfl
noncomputable def gD(x:(Ty.T R5)):Option ((Ty.T R5) ⊕ ((Ty.T .unit) ⊕ (Ty.T aO))):=
match(decide (x.2.2.2.2.1<(x.1.length:Int)))with
|true=>
 ab (au x.1 x.2.2.2.2.1) fun v1=>
 match(v1.1==x.2.1)with
 |true=>
  ab (au x.1 x.2.2.2.2.1) fun v2=>
  match(v2.2.1==x.2.2.1)with
  |true=>
   ab (au x.1 x.2.2.2.2.1) fun v3=>
   match(v3.2.2.1==x.2.2.2.1)with
   |true=>
    some (.inr (.inr (x.2.2.2.2.1,())))
   |false=>
    some (.inl (x.1,x.2.1,x.2.2.1,x.2.2.2.1,(IntKind.i64.wrap (x.2.2.2.2.1+(1:Int))),()))
  |false=>
   some (.inl (x.1,x.2.1,x.2.2.1,x.2.2.2.1,(IntKind.i64.wrap (x.2.2.2.2.1+(1:Int))),()))
 |false=>
  some (.inl (x.1,x.2.1,x.2.2.1,x.2.2.2.1,(IntKind.i64.wrap (x.2.2.2.2.1+(1:Int))),()))
|false=>
 some (.inr (.inl (())))
noncomputable def qC(x:Ty.T Us):Option (Ty.T aO):=
match ac gD (x.1,x.2.1,x.2.2.1,x.2.2.2.1,(0:Int),())with
|none=>none
|some (.inl v4)=>
 some ((-1:Int),())
|some (.inr v5)=>
 some (v5.1,())
noncomputable def DW:ae:=⟨_,aO,.unit,rfl,qC⟩
noncomputable def Bt:FuncId→Option ae:=bU []
theorem Iw:∀f s,Bt f=some s→FnOK G0 Tryz.prog f s:=aM trivial
def zp:aX:=⟨[0,1,2,3,9],R5,0,[],.unit,[8],aO⟩
noncomputable def Bu:List aJ:=[zp.spec gD]
theorem Gv:bq bI E0 Bt (bo Tryz.f147 Bu) Tryz.f147 0 zp gD:=fun x=>by kernel_rfl
theorem Bv:FnOK G0 Tryz.prog 147 DW:=aP ao Iw Tryz.func147 Bu (by kernel_rfl) (by exact⟨(Gv).lok,trivial⟩) fun x=>by kernel_rfl
abbrev sh:Ty:=R9
noncomputable def ef(x:(Ty.T LX)):Option ((Ty.T LX) ⊕ ((Ty.T sh) ⊕ (Ty.T ax))):=
ab (au x.1.2.2.1 x.2.2.1) fun v2=>
match(decide (x.2.2.2.2.1<v2.2.1))with
|true=>
 match qC (x.1.2.2.2.1,x.2.2.1,x.2.2.2.1,x.2.2.2.2.1,())with
 |none=>none
 |some v3=>
 match(decide (v3.1<(0:Int)))with
 |true=>
  some (.inr (.inr (false,())))
 |false=>
  some (.inl ((x.1.1,x.1.2.1,x.1.2.2.1,x.1.2.2.2.1,()),(IntKind.i64.wrap (x.2.1+(1:Int))),x.2.2.1,x.2.2.2.1,(IntKind.i64.wrap (x.2.2.2.2.1+(1:Int))),()))
|false=>
 some (.inr (.inl ((x.1.1,x.1.2.1,x.1.2.2.1,x.1.2.2.2.1,()),x.2.1,x.2.2.1,x.2.2.2.1,())))
abbrev mf:Ty:=R9
noncomputable def eh(x:(Ty.T mf)):Option ((Ty.T mf) ⊕ ((Ty.T rY) ⊕ (Ty.T ax))):=
ab (au x.1.2.2.1 x.2.2.1) fun v1=>
match(decide (x.2.2.2.1<v1.1))with
|true=>
 match ac ef ((x.1.1,x.1.2.1,x.1.2.2.1,x.1.2.2.2.1,()),x.2.1,x.2.2.1,x.2.2.2.1,(0:Int),())with
 |none=>none
 |some (.inl v2)=>
  some (.inl ((v2.1.1,v2.1.2.1,v2.1.2.2.1,v2.1.2.2.2.1,()),v2.2.1,v2.2.2.1,(IntKind.i64.wrap (v2.2.2.2.1+(1:Int))),()))
 |some (.inr v3)=>
  some (.inr (.inr (v3.1,())))
|false=>
 some (.inr (.inl ((x.1.1,x.1.2.1,x.1.2.2.1,x.1.2.2.2.1,()),x.2.1,x.2.2.1,())))
abbrev si:Ty:=PE
noncomputable def cW(x:(Ty.T rY)):Option ((Ty.T rY) ⊕ ((Ty.T si) ⊕ (Ty.T ax))):=
match(decide (x.2.2.1<(x.1.2.2.1.length:Int)))with
|true=>
 match ac eh ((x.1.1,x.1.2.1,x.1.2.2.1,x.1.2.2.2.1,()),x.2.1,x.2.2.1,(0:Int),())with
 |none=>none
 |some (.inl v1)=>
  some (.inl ((v1.1.1,v1.1.2.1,v1.1.2.2.1,v1.1.2.2.2.1,()),v1.2.1,(IntKind.i64.wrap (v1.2.2.1+(1:Int))),()))
 |some (.inr v2)=>
  some (.inr (.inr (v2.1,())))
|false=>
 some (.inr (.inl ((x.1.1,x.1.2.1,x.1.2.2.1,x.1.2.2.2.1,()),x.2.1,())))
noncomputable def kj(x:Ty.T pE):Option (Ty.T ax):=
match ac cW ((x.1.1,x.1.2.1,x.1.2.2.1,x.1.2.2.2.1,()),(0:Int),(0:Int),())with
|none=>none
|some (.inl v3)=>
 some ((v3.2.1==(v3.1.2.2.2.1.length:Int)),())
|some (.inr v4)=>
 some (v4.1,())
noncomputable def vm:ae:=⟨_,ax,.unit,rfl,kj⟩
noncomputable def jS:FuncId→Option ae:=bU [(147,DW)]
theorem Bw:∀f s,jS f=some s→FnOK G0 Tryz.prog f s:=aM ⟨Bv,trivial⟩
def sj:aX:=⟨[1,3,4],rY,0,[1,3],si,[2],ax⟩
def sk:aX:=⟨[1,3,4,5],mf,2,[1,3,4],rY,[2],ax⟩
def sn:aX:=⟨[1,3,4,5,6],LX,4,[1,3,4,5],sh,[2],ax⟩
noncomputable def jT:List aJ:=[sj.spec cW,sk.spec eh,sn.spec ef]
theorem Ap:bq bI E0 jS (bo Tryz.f203 jT) Tryz.f203 0 sj cW:=fun x=>by kernel_rfl
theorem Aq:bq bI E0 jS (bo Tryz.f203 jT) Tryz.f203 1 sk eh:=fun x=>by kernel_rfl
theorem Ar:bq bI E0 jS (bo Tryz.f203 jT) Tryz.f203 2 sn ef:=fun x=>by kernel_rfl
theorem EU:FnOK G0 Tryz.prog 203 vm:=aP ao Bw Tryz.func203 jT (by kernel_rfl) (by exact⟨(Ap).lok,(Aq).lok,(Ar).lok,trivial⟩) fun x=>by kernel_rfl
noncomputable def nl(x:Ty.T bE):Option (Ty.T ax):=
if(IntKind.u64.wrap x.2.1)<0 then none else
some (((bits BinOp.and .i64 (Int.fdiv x.1 (2^min (IntKind.u64.wrap x.2.1).toNat IntKind.i64.bits)) (1:Int))==(1:Int)),())
noncomputable def yq:ae:=⟨_,ax,.unit,rfl,nl⟩
theorem vW:FnOK G0 Tryz.prog 238 yq:=an ao aR Tryz.func238
noncomputable def tW(x:Ty.T (.pair (.int .i64) (.pair (.int .i64) (.pair .bool .unit)))):Option (Ty.T aO):=
match nl (x.1,x.2.1,())with
|none=>none
|some v1=>
match(v1.1==x.2.2.1)with
|true=>
 some (x.1,())
|false=>
 if(IntKind.u64.wrap x.2.1)<0 then none else
 some ((bits BinOp.xor .i64 x.1 (IntKind.i64.wrap ((1:Int)*2^min (IntKind.u64.wrap x.2.1).toNat IntKind.i64.bits))),())
noncomputable def yt:ae:=⟨_,aO,.unit,rfl,tW⟩
theorem DX:FnOK G0 Tryz.prog 196 yt:=an ao (sg vW (aR)) Tryz.func196
noncomputable def cI(x:(Ty.T Ik)):Option ((Ty.T Ik) ⊕ ((Ty.T aO) ⊕ (Ty.T .unit))):=
match(decide (x.2.2.1<(x.1.length:Int)))with
|true=>
 ab (au x.1 x.2.2.1) fun v1=>
 match(!v1.2.2.2.1)with
 |true=>
  ab (au x.1 x.2.2.1) fun v2=>
  match tW (x.2.1,v2.1,true,())with
  |none=>none
  |some v3=>
  some (.inl (x.1,v3.1,(IntKind.i64.wrap (x.2.2.1+(1:Int))),()))
 |false=>
  some (.inl (x.1,x.2.1,(IntKind.i64.wrap (x.2.2.1+(1:Int))),()))
|false=>
 some (.inr (.inl (x.2.1,())))
noncomputable def cG(x:Ty.T Il):Option (Ty.T aO):=
match ac cI (x.1,(0:Int),(0:Int),())with
|none=>none
|some (.inl v4)=>
 some (v4.1,())
|some (.inr v6)=>
 none
noncomputable def mY:ae:=⟨_,aO,.unit,rfl,cG⟩
noncomputable def wO:FuncId→Option ae:=bU [(196,yt)]
theorem EV:∀f s,wO f=some s→FnOK G0 Tryz.prog f s:=aM ⟨DX,trivial⟩
def vn:aX:=⟨[0,3,4],Ik,0,[3],aO,[],.unit⟩
noncomputable def wP:List aJ:=[vn.spec cI]
theorem Dg:bq bI E0 wO (bo Tryz.f146 wP) Tryz.f146 0 vn cI:=fun x=>by kernel_rfl
theorem ju:FnOK G0 Tryz.prog 146 mY:=aP ao EV Tryz.func146 wP (by kernel_rfl) (by exact⟨(Dg).lok,trivial⟩) fun x=>by kernel_rfl
noncomputable def eI(x:(Ty.T rY)):Option ((Ty.T rY) ⊕ ((Ty.T .unit) ⊕ (Ty.T ax))):=
match(decide (x.2.2.1<(x.1.2.2.2.1.length:Int)))with
|true=>
 ab (au x.1.2.2.2.1 x.2.2.1) fun v2=>
 match nl (x.2.1,v2.2.2.2.1.1,())with
 |none=>none
 |some v3=>
 match(!v3.1)with
 |true=>
  some (.inr (.inr (false,())))
 |false=>
  some (.inl ((x.1.1,x.1.2.1,x.1.2.2.1,x.1.2.2.2.1,()),x.2.1,(IntKind.i64.wrap (x.2.2.1+(1:Int))),()))
|false=>
 some (.inr (.inl (())))
noncomputable def kP(x:Ty.T pE):Option (Ty.T ax):=
match cG (x.1.2.1,())with
|none=>none
|some v1=>
match ac eI ((x.1.1,x.1.2.1,x.1.2.2.1,x.1.2.2.2.1,()),v1.1,(0:Int),())with
|none=>none
|some (.inl v4)=>
 some (true,())
|some (.inr v5)=>
 some (v5.1,())
noncomputable def wQ:ae:=⟨_,ax,.unit,rfl,kP⟩
noncomputable def vo:FuncId→Option ae:=bU [(146,mY),(238,yq)]
theorem Dh:∀f s,vo f=some s→FnOK G0 Tryz.prog f s:=aM ⟨ju,vW,trivial⟩
def tX:aX:=⟨[1,3,4],rY,0,[],.unit,[2],ax⟩
noncomputable def vp:List aJ:=[tX.spec eI]
theorem Bx:bq bI E0 vo (bo Tryz.f204 vp) Tryz.f204 0 tX eI:=fun x=>by kernel_rfl
theorem Gw:FnOK G0 Tryz.prog 204 wQ:=aP ao Dh Tryz.func204 vp (by kernel_rfl) (by exact⟨(Bx).lok,trivial⟩) fun x=>by kernel_rfl
abbrev qD:Ty:=Up
noncomputable def dF(x:(Ty.T R3)):Option ((Ty.T R3) ⊕ ((Ty.T qD) ⊕ (Ty.T ax))):=
match(decide (x.2.2.1<x.2.1))with
|true=>
 ab (au x.1.2.2.2.1 x.2.1) fun v1=>
 ab (au x.1.2.2.2.1 x.2.2.1) fun v2=>
 ai (
  match(v1.1==v2.1)with
  |true=>
   match(v1.2.2.1==v2.2.2.1)with
   |true=>
    match(v1.2.2.2.1.2.2.2.1 != v2.2.2.2.1.2.2.2.1)with
    |true=>
     some (.inr (.inr (false,())))
    |false=>
     some (.inl (x.1,x.2.1,(IntKind.i64.wrap (x.2.2.1+(1:Int))),()))
   |false=>
    some (.inl (x.1,x.2.1,(IntKind.i64.wrap (x.2.2.1+(1:Int))),()))
  |false=>
   some (.inl (x.1,x.2.1,(IntKind.i64.wrap (x.2.2.1+(1:Int))),())))
|false=>
 some (.inr (.inl (x.1,x.2.1,())))
abbrev kQ:Ty:=Up
noncomputable def dG(x:(Ty.T kQ)):Option ((Ty.T kQ) ⊕ ((Ty.T .unit) ⊕ (Ty.T ax))):=
match(decide (x.2.1<(x.1.2.2.2.1.length:Int)))with
|true=>
 match ac dF (x.1,x.2.1,(0:Int),())with
 |none=>none
 |some (.inl v1)=>
  some (.inl (v1.1,(IntKind.i64.wrap (v1.2.1+(1:Int))),()))
 |some (.inr v2)=>
  some (.inr (.inr (v2.1,())))
|false=>
 some (.inr (.inl (())))
noncomputable def jv(x:Ty.T pE):Option (Ty.T ax):=
match ac dG ((x.1.1,x.1.2.1,x.1.2.2.1,x.1.2.2.2.1,()),(0:Int),())with
|none=>none
|some (.inl v3)=>
 some (true,())
|some (.inr v4)=>
 some (v4.1,())
noncomputable def tY:ae:=⟨_,ax,.unit,rfl,jv⟩
noncomputable def mg:FuncId→Option ae:=bU []
theorem As:∀f s,mg f=some s→FnOK G0 Tryz.prog f s:=aM trivial
def qE:aX:=⟨[1,3],kQ,0,[],.unit,[2],ax⟩
def qF:aX:=⟨[1,3,4],R3,2,[1,3],qD,[2],ax⟩
noncomputable def mh:List aJ:=[qE.spec dG,qF.spec dF]
theorem yu:bq bI E0 mg (bo Tryz.f205 mh) Tryz.f205 0 qE dG:=fun x=>by kernel_rfl
theorem yv:bq bI E0 mg (bo Tryz.f205 mh) Tryz.f205 1 qF dF:=fun x=>by kernel_rfl
theorem Di:FnOK G0 Tryz.prog 205 tY:=aP ao As Tryz.func205 mh (by kernel_rfl) (by exact⟨(yu).lok,(yv).lok,trivial⟩) fun x=>by kernel_rfl
abbrev pG:Ty:=(.pair (.int .i64) (.pair (.box ap) bE))
noncomputable def fO(x:(Ty.T pG)):Option ((Ty.T pG) ⊕ ((Ty.T aO) ⊕ (Ty.T .unit))):=
match(decide (x.2.2.2.1<(x.2.1.2.2.2.1.length:Int)))with
|true=>
 ab (au x.2.1.2.2.2.1 x.2.2.2.1) fun v1=>
 match(v1.1==x.1)with
 |true=>
  ab (au x.2.1.2.2.2.1 x.2.2.2.1) fun v2=>
  some (.inl (x.1,(x.2.1.1,x.2.1.2.1,x.2.1.2.2.1,x.2.1.2.2.2.1,()),(IntKind.i64.wrap (x.2.2.1+v2.2.2.2.1.2.2.2.1)),(IntKind.i64.wrap (x.2.2.2.1+(1:Int))),()))
 |false=>
  some (.inl (x.1,(x.2.1.1,x.2.1.2.1,x.2.1.2.2.1,x.2.1.2.2.2.1,()),x.2.2.1,(IntKind.i64.wrap (x.2.2.2.1+(1:Int))),()))
|false=>
 some (.inr (.inl (x.2.2.1,())))
noncomputable def oI(x:Ty.T Ul):Option (Ty.T aO):=
match ac fO (x.2.1,(x.1.1,x.1.2.1,x.1.2.2.1,x.1.2.2.2.1,()),(0:Int),(0:Int),())with
|none=>none
|some (.inl v3)=>
 some (v3.1,())
|some (.inr v5)=>
 none
noncomputable def Bz:ae:=⟨_,aO,.unit,rfl,oI⟩
noncomputable def zq:FuncId→Option ae:=bU []
theorem Gx:∀f s,zq f=some s→FnOK G0 Tryz.prog f s:=aM trivial
def wR:aX:=⟨[1,2,5,6],pG,0,[5],aO,[],.unit⟩
noncomputable def zr:List aJ:=[wR.spec fO]
theorem EW:bq bI E0 zq (bo Tryz.f206 zr) Tryz.f206 0 wR fO:=fun x=>by kernel_rfl
theorem KH:FnOK G0 Tryz.prog 206 Bz:=aP ao Gx Tryz.func206 zr (by kernel_rfl) (by exact⟨(EW).lok,trivial⟩) fun x=>by kernel_rfl
noncomputable def df(x:(Ty.T R4)):Option ((Ty.T R4) ⊕ ((Ty.T LX) ⊕ (Ty.T .unit))):=
match(decide (x.2.2.2.2.2.1<(x.1.2.2.2.1.length:Int)))with
|true=>
 ab (au x.1.2.2.2.1 x.2.2.2.2.2.1) fun v3=>
 match(v3.1==x.2.2.1)with
 |true=>
  ab (au x.1.2.2.2.1 x.2.2.2.2.2.1) fun v4=>
  match(v4.2.1==x.2.2.2.1)with
  |true=>
   ab (au x.1.2.2.2.1 x.2.2.2.2.2.1) fun v5=>
   match tW (x.2.2.2.2.1,v5.2.2.2.1.1,true,())with
   |none=>none
   |some v6=>
   some (.inl ((x.1.1,x.1.2.1,x.1.2.2.1,x.1.2.2.2.1,()),x.2.1,x.2.2.1,x.2.2.2.1,v6.1,(IntKind.i64.wrap (x.2.2.2.2.2.1+(1:Int))),()))
  |false=>
   some (.inl ((x.1.1,x.1.2.1,x.1.2.2.1,x.1.2.2.2.1,()),x.2.1,x.2.2.1,x.2.2.2.1,x.2.2.2.2.1,(IntKind.i64.wrap (x.2.2.2.2.2.1+(1:Int))),()))
 |false=>
  some (.inl ((x.1.1,x.1.2.1,x.1.2.2.1,x.1.2.2.2.1,()),x.2.1,x.2.2.1,x.2.2.2.1,x.2.2.2.2.1,(IntKind.i64.wrap (x.2.2.2.2.2.1+(1:Int))),()))
|false=>
 some (.inr (.inl ((x.1.1,x.1.2.1,x.1.2.2.1,x.1.2.2.2.1,()),x.2.1,x.2.2.1,x.2.2.2.1,x.2.2.2.2.1,())))
abbrev oJ:Ty:=R9
noncomputable def eu(x:(Ty.T oJ)):Option ((Ty.T oJ) ⊕ ((Ty.T rY) ⊕ (Ty.T ax))):=
ab (au x.1.2.2.1 x.2.2.1) fun v2=>
match(decide (x.2.2.2.1<v2.1))with
|true=>
 match ac df ((x.1.1,x.1.2.1,x.1.2.2.1,x.1.2.2.2.1,()),x.2.1,x.2.2.1,x.2.2.2.1,(0:Int),(0:Int),())with
 |none=>none
 |some (.inl v3)=>
  match(v3.2.2.2.2.1 != v3.2.1)with
  |true=>
   some (.inr (.inr (false,())))
  |false=>
   some (.inl ((v3.1.1,v3.1.2.1,v3.1.2.2.1,v3.1.2.2.2.1,()),v3.2.1,v3.2.2.1,(IntKind.i64.wrap (v3.2.2.2.1+(1:Int))),()))
 |some (.inr v5)=>
  none
|false=>
 some (.inr (.inl ((x.1.1,x.1.2.1,x.1.2.2.1,x.1.2.2.2.1,()),x.2.1,x.2.2.1,())))
noncomputable def fj(x:(Ty.T rY)):Option ((Ty.T rY) ⊕ ((Ty.T .unit) ⊕ (Ty.T ax))):=
match(decide (x.2.2.1<(x.1.2.2.1.length:Int)))with
|true=>
 match ac eu ((x.1.1,x.1.2.1,x.1.2.2.1,x.1.2.2.2.1,()),x.2.1,x.2.2.1,(0:Int),())with
 |none=>none
 |some (.inl v2)=>
  some (.inl ((v2.1.1,v2.1.2.1,v2.1.2.2.1,v2.1.2.2.2.1,()),v2.2.1,(IntKind.i64.wrap (v2.2.2.1+(1:Int))),()))
 |some (.inr v3)=>
  some (.inr (.inr (v3.1,())))
|false=>
 some (.inr (.inl (())))
noncomputable def mC(x:Ty.T pE):Option (Ty.T ax):=
match cG (x.1.2.1,())with
|none=>none
|some v1=>
match ac fj ((x.1.1,x.1.2.1,x.1.2.2.1,x.1.2.2.2.1,()),v1.1,(0:Int),())with
|none=>none
|some (.inl v4)=>
 some (true,())
|some (.inr v5)=>
 some (v5.1,())
noncomputable def zt:ae:=⟨_,ax,.unit,rfl,mC⟩
noncomputable def lH:FuncId→Option ae:=bU [(146,mY),(196,yt)]
theorem EX:∀f s,lH f=some s→FnOK G0 Tryz.prog f s:=aM ⟨ju,DX,trivial⟩
def vq:aX:=⟨[1,3,4],rY,0,[],.unit,[2],ax⟩
def vr:aX:=⟨[1,3,4,5],oJ,2,[1,3,4],rY,[2],ax⟩
def tZ:aX:=⟨[1,3,4,5,6,7],R4,4,[1,3,4,5,6],LX,[],.unit⟩
noncomputable def lI:List aJ:=[vq.spec fj,vr.spec eu,tZ.spec df]
theorem Dj:bq bI E0 lH (bo Tryz.f207 lI) Tryz.f207 0 vq fj:=fun x=>by kernel_rfl
theorem Dk:bq bI E0 lH (bo Tryz.f207 lI) Tryz.f207 1 vr eu:=fun x=>by kernel_rfl
theorem BA:bq bI E0 lH (bo Tryz.f207 lI) Tryz.f207 2 tZ df:=fun x=>by kernel_rfl
theorem Ix:FnOK G0 Tryz.prog 207 zt:=aP ao EX Tryz.func207 lI (by kernel_rfl) (by exact⟨(Dj).lok,(Dk).lok,(BA).lok,trivial⟩) fun x=>by kernel_rfl
abbrev mi:Ty:=PE
noncomputable def dv(x:(Ty.T mi)):Option ((Ty.T mi) ⊕ ((Ty.T (.pair (.box ap) .unit)) ⊕ (Ty.T aO))):=
match(decide (x.2.1<(x.1.2.2.1.length:Int)))with
|true=>
 match oI ((x.1.1,x.1.2.1,x.1.2.2.1,x.1.2.2.2.1,()),x.2.1,())with
 |none=>none
 |some v8=>
 match(decide (v8.1>(32000:Int)))with
 |true=>
  some (.inr (.inr ((8:Int),())))
 |false=>
  some (.inl ((x.1.1,x.1.2.1,x.1.2.2.1,x.1.2.2.2.1,()),(IntKind.i64.wrap (x.2.1+(1:Int))),()))
|false=>
 some (.inr (.inl ((x.1.1,x.1.2.1,x.1.2.2.1,x.1.2.2.2.1,()),())))
abbrev mj:Ty:=PE
noncomputable def cX(x:(Ty.T mj)):Option ((Ty.T mj) ⊕ ((Ty.T .unit) ⊕ (Ty.T aO))):=
match(decide (x.2.1<(x.1.2.2.2.1.length:Int)))with
|true=>
 ab (au x.1.2.2.2.1 x.2.1) fun v12=>
 match(v12.2.2.2.1.2.1==(3:Int))with
 |true=>
  ab (au x.1.2.2.2.1 x.2.1) fun v13=>
  match(v13.1 != (0:Int))with
  |true=>
   some (.inr (.inr ((10:Int),())))
  |false=>
   some (.inl ((x.1.1,x.1.2.1,x.1.2.2.1,x.1.2.2.2.1,()),(IntKind.i64.wrap (x.2.1+(1:Int))),()))
 |false=>
  some (.inl ((x.1.1,x.1.2.1,x.1.2.2.1,x.1.2.2.2.1,()),(IntKind.i64.wrap (x.2.1+(1:Int))),()))
|false=>
 some (.inr (.inl (())))
noncomputable def kR(x:Ty.T pE):Option (Ty.T aO):=
match cp (x.1.1,(1:Int),(16777215:Int),())with
|none=>none
|some v1=>
match(!v1.1)with
|true=>
 some ((1:Int),())
|false=>
 match mV (x.1.2.1,())with
 |none=>none
 |some v2=>
 match(!v2.1)with
 |true=>
  some ((2:Int),())
 |false=>
  match mW (x.1.2.2.1,())with
  |none=>none
  |some v3=>
  match(!v3.1)with
  |true=>
   some ((3:Int),())
  |false=>
   match mX (x.1.2.2.2.1,())with
   |none=>none
   |some v4=>
   match(!v4.1)with
   |true=>
    some ((4:Int),())
   |false=>
    match kj ((x.1.1,x.1.2.1,x.1.2.2.1,x.1.2.2.2.1,()),())with
    |none=>none
    |some v5=>
    match(!v5.1)with
    |true=>
     some ((5:Int),())
    |false=>
     match kP ((x.1.1,x.1.2.1,x.1.2.2.1,x.1.2.2.2.1,()),())with
     |none=>none
     |some v6=>
     match(!v6.1)with
     |true=>
      some ((6:Int),())
     |false=>
      match jv ((x.1.1,x.1.2.1,x.1.2.2.1,x.1.2.2.2.1,()),())with
      |none=>none
      |some v7=>
      match(!v7.1)with
      |true=>
       some ((7:Int),())
      |false=>
       match ac dv ((x.1.1,x.1.2.1,x.1.2.2.1,x.1.2.2.2.1,()),(0:Int),())with
       |none=>none
       |some (.inl v9)=>
        match mC ((v9.1.1,v9.1.2.1,v9.1.2.2.1,v9.1.2.2.2.1,()),())with
        |none=>none
        |some v11=>
        match(!v11.1)with
        |true=>
         some ((9:Int),())
        |false=>
         match ac cX ((v9.1.1,v9.1.2.1,v9.1.2.2.1,v9.1.2.2.2.1,()),(0:Int),())with
         |none=>none
         |some (.inl v14)=>
          some ((0:Int),())
         |some (.inr v15)=>
          some (v15.1,())
       |some (.inr v10)=>
        some (v10.1,())
noncomputable def Iy:ae:=⟨_,aO,.unit,rfl,kR⟩
noncomputable def oK:FuncId→Option ae:=bU [(158,kN),(200,vj),(201,vk),(202,vl),(203,vm),(204,wQ),(205,tY),(206,Bz),(207,zt)]
theorem Dl:∀f s,oK f=some s→FnOK G0 Tryz.prog f s:=aM ⟨de,EN,EP,ET,EU,Gw,Di,KH,Ix,trivial⟩
def so:aX:=⟨[1,3],mi,1,[1],(.pair (.box ap) .unit),[2],aO⟩
def sp:aX:=⟨[1,4],mj,3,[],.unit,[2],aO⟩
noncomputable def oL:List aJ:=[so.spec dv,sp.spec cX]
theorem Au:bq bI E0 oK (bo Tryz.f155 oL) Tryz.f155 0 so dv:=fun x=>by kernel_rfl
theorem Av:bq bI E0 oK (bo Tryz.f155 oL) Tryz.f155 1 sp cX:=fun x=>by kernel_rfl
theorem Gy:FnOK G0 Tryz.prog 155 Iy:=aP ao Dl Tryz.func155 oL (by kernel_rfl) (by exact⟨(Au).lok,(Av).lok,trivial⟩) fun x=>by kernel_rfl
noncomputable def gE(x:Ty.T pE):Option (Ty.T ax):=
match kR ((x.1.1,x.1.2.1,x.1.2.2.1,x.1.2.2.2.1,()),())with
|none=>none
|some v1=>
some ((v1.1==(0:Int)),())
noncomputable def PL:ae:=⟨_,ax,.unit,rfl,gE⟩
theorem vX:FnOK G0 Tryz.prog 98 PL:=an ao (sg Gy (aR)) Tryz.func98
noncomputable def jM(x:Ty.T vU):Option (Ty.T ax):=
match cp (x.1.1,(0:Int),(65535:Int),())with
|none=>none
|some v1=>
match v1.1 with
|true=>
 match cp (x.1.2.1,(0:Int),(15:Int),())with
 |none=>none
 |some v2=>
 match v2.1 with
 |true=>
  match cp (x.1.2.2.1,(0:Int),(15:Int),())with
  |none=>none
  |some v3=>
  match v3.1 with
  |true=>
   match cp (x.1.2.2.2.1,(0:Int),(255:Int),())with
   |none=>none
   |some v4=>
   match v4.1 with
   |true=>
    match cp (x.1.2.2.2.2.1,(0:Int),(4294967295:Int),())with
    |none=>none
    |some v5=>
    some (v5.1,())
   |false=>
    some (false,())
  |false=>
   some (false,())
 |false=>
  some (false,())
|false=>
 some (false,())
noncomputable def Nx:ae:=⟨_,ax,.unit,rfl,jM⟩
theorem BC:FnOK G0 Tryz.prog 156 Nx:=an ao (sg de (aR)) Tryz.func156
noncomputable def BD(x:Ty.T Uu):Option (Ty.T ax):=
match cp (x.2.1,(0:Int),(IntKind.i64.wrap ((x.1.length:Int)-(1:Int))),())with
|none=>none
|some v1=>
some (v1.1,())
noncomputable def Ny:ae:=⟨_,ax,.unit,rfl,BD⟩
theorem L5:FnOK G0 Tryz.prog 157 Ny:=an ao (sg de (aR)) Tryz.func157
noncomputable def gd(x:Ty.T vV):Option (Ty.T ax):=
match jM ((x.2.1.1,x.2.1.2.1,x.2.1.2.2.1,x.2.1.2.2.2.1,x.2.1.2.2.2.2.1,()),())with
|none=>none
|some v1=>
match(!v1.1)with
|true=>
 some (false,())
|false=>
 match BD (x.1.2.2.1,x.2.1.2.1,())with
 |none=>none
 |some v2=>
 match(!v2.1)with
 |true=>
  some (false,())
 |false=>
  ab (au x.1.2.2.1 x.2.1.2.1) fun v3=>
  match(decide (x.2.1.2.2.1≥v3.1))with
  |true=>
   some (false,())
  |false=>
   ab (au x.1.2.2.1 x.2.1.2.1) fun v4=>
   match(decide (x.2.1.2.2.2.1≥v4.2.1))with
   |true=>
    some (false,())
   |false=>
    match cG (x.1.2.1,())with
    |none=>none
    |some v5=>
    some (((bits BinOp.and .i64 x.2.1.2.2.2.2.1 v5.1)==x.2.1.2.2.2.2.1),())
noncomputable def Iz:ae:=⟨_,ax,.unit,rfl,gd⟩
theorem vt:FnOK G0 Tryz.prog 99 Iz:=an ao (sg ju (sg BC (sg L5 (aR)))) Tryz.func99
noncomputable def jN(x:Ty.T vV):Option (Ty.T aO):=
match gE ((x.1.1,x.1.2.1,x.1.2.2.1,x.1.2.2.2.1,()),())with
|none=>none
|some v1=>
match(!v1.1)with
|true=>
 some ((1:Int),())
|false=>
 match gd ((x.1.1,x.1.2.1,x.1.2.2.1,x.1.2.2.2.1,()),(x.2.1.1,x.2.1.2.1,x.2.1.2.2.1,x.2.1.2.2.2.1,x.2.1.2.2.2.2.1,()),())with
 |none=>none
 |some v2=>
 match(!v2.1)with
 |true=>
  some ((2:Int),())
 |false=>
  some ((0:Int),())
noncomputable def Nz:ae:=⟨_,aO,.unit,rfl,jN⟩
theorem BE:FnOK G0 Tryz.prog 48 Nz:=an ao (sg vX (sg vt (aR))) Tryz.func48
noncomputable def ge(x:Ty.T vV):Option (Ty.T Ba):=
match qC (x.1.2.2.2.1,x.2.1.2.1,x.2.1.2.2.1,x.2.1.2.2.2.1,())with
|none=>none
|some v1=>
ab (au x.1.2.2.2.1 v1.1) fun v2=>
some ((v2.2.2.2.1.1,v2.2.2.2.1.2.1,v2.2.2.2.1.2.2.1,v2.2.2.2.1.2.2.2.1,v2.2.2.2.1.2.2.2.2.1,()),())
noncomputable def DY:ae:=⟨_,Ba,.unit,rfl,ge⟩
theorem kS:FnOK G0 Tryz.prog 89 DY:=an ao (sg Bv (aR)) Tryz.func89
noncomputable def ig(x:(Ty.T qx)):Option ((Ty.T qx) ⊕ ((Ty.T .unit) ⊕ (Ty.T ax))):=
match(decide (x.2.2.1<(x.1.length:Int)))with
|true=>
 ab (au x.1 x.2.2.1) fun v1=>
 match cp (v1,(0:Int),x.2.1,())with
 |none=>none
 |some v2=>
 match(!v2.1)with
 |true=>
  some (.inr (.inr (false,())))
 |false=>
  some (.inl (x.1,x.2.1,(IntKind.i64.wrap (x.2.2.1+(1:Int))),()))
|false=>
 some (.inr (.inl (())))
noncomputable def EY(x:Ty.T qx):Option (Ty.T ax):=
match(decide ((x.1.length:Int)>x.2.1))with
|true=>
 some (false,())
|false=>
 match ac ig (x.1,x.2.2.1,(0:Int),())with
 |none=>none
 |some (.inl v3)=>
  some (true,())
 |some (.inr v4)=>
  some (v4.1,())
noncomputable def PM:ae:=⟨_,ax,.unit,rfl,EY⟩
noncomputable def DZ:FuncId→Option ae:=bU [(158,kN)]
theorem KI:∀f s,DZ f=some s→FnOK G0 Tryz.prog f s:=aM ⟨de,trivial⟩
def BF:aX:=⟨[0,2,7],qx,0,[],.unit,[6],ax⟩
noncomputable def D0:List aJ:=[BF.spec ig]
theorem IA:bq bI E0 DZ (bo Tryz.f100 D0) Tryz.f100 0 BF ig:=fun x=>by kernel_rfl
theorem NA:FnOK G0 Tryz.prog 100 PM:=aP ao KI Tryz.func100 D0 (by kernel_rfl) (by exact⟨(IA).lok,trivial⟩) fun x=>by kernel_rfl
noncomputable def kT(x:Ty.T kh):Option (Ty.T ax):=
match EY (x.1,(1024:Int),(255:Int),())with
|none=>none
|some v1=>
some (v1.1,())
noncomputable def NB:ae:=⟨_,ax,.unit,rfl,kT⟩
theorem BG:FnOK G0 Tryz.prog 49 NB:=an ao (sg NA (aR)) Tryz.func49
abbrev oM:Ty:=oE
noncomputable def fk(x:(Ty.T oM)):Option ((Ty.T oM) ⊕ ((Ty.T .unit) ⊕ (Ty.T ax))):=
match(decide (x.2.1<(x.1.length:Int)))with
|true=>
 ab (au x.1 x.2.1) fun v1=>
 match cp (v1,(0:Int),(4294967295:Int),())with
 |none=>none
 |some v2=>
 match(!v2.1)with
 |true=>
  some (.inr (.inr (false,())))
 |false=>
  some (.inl (x.1,(IntKind.i64.wrap (x.2.1+(1:Int))),()))
|false=>
 some (.inr (.inl (())))
noncomputable def mD(x:Ty.T kh):Option (Ty.T ax):=
match ac fk (x.1,(0:Int),())with
|none=>none
|some (.inl v3)=>
 some (true,())
|some (.inr v4)=>
 some (v4.1,())
noncomputable def zu:ae:=⟨_,ax,.unit,rfl,mD⟩
noncomputable def wS:FuncId→Option ae:=bU [(158,kN)]
theorem EZ:∀f s,wS f=some s→FnOK G0 Tryz.prog f s:=aM ⟨de,trivial⟩
def vu:aX:=⟨[0,3],oM,0,[],.unit,[2],ax⟩
noncomputable def wT:List aJ:=[vu.spec fk]
theorem Dm:bq bI E0 wS (bo Tryz.f244 wT) Tryz.f244 0 vu fk:=fun x=>by kernel_rfl
theorem IB:FnOK G0 Tryz.prog 244 zu:=aP ao EZ Tryz.func244 wT (by kernel_rfl) (by exact⟨(Dm).lok,trivial⟩) fun x=>by kernel_rfl
abbrev oN:Ty:=Sd
noncomputable def fm(x:(Ty.T oN)):Option ((Ty.T oN) ⊕ ((Ty.T br) ⊕ (Ty.T .unit))):=
match(decide (x.2.2.1<(32:Int)))with
|true=>
 match nl (x.1,x.2.2.1,())with
 |none=>none
 |some v2=>
 match v2.1 with
 |true=>
  aD (x.2.1.length+ [x.2.2.1].length) (
   some (.inl (x.1,(x.2.1++ [x.2.2.1]),(IntKind.i64.wrap (x.2.2.1+(1:Int))),())))
 |false=>
  some (.inl (x.1,x.2.1,(IntKind.i64.wrap (x.2.2.1+(1:Int))),()))
|false=>
 some (.inr (.inl (x.2.1,())))
noncomputable def gZ(x:Ty.T aO):Option (Ty.T jt):=
match mD ([x.1],())with
|none=>none
|some v1=>
match(!v1.1)with
|true=>
 some ([],(2:Int),())
|false=>
 match ac fm (x.1,[],(0:Int),())with
 |none=>none
 |some (.inl v3)=>
  some (v3.1,(0:Int),())
 |some (.inr v5)=>
  none
noncomputable def zw:ae:=⟨_,jt,.unit,rfl,gZ⟩
noncomputable def wU:FuncId→Option ae:=bU [(238,yq),(244,zu)]
theorem E4:∀f s,wU f=some s→FnOK G0 Tryz.prog f s:=aM ⟨vW,IB,trivial⟩
def vv:aX:=⟨[0,4,5],oN,0,[4],br,[],.unit⟩
noncomputable def wV:List aJ:=[vv.spec fm]
theorem Dn:bq bI E0 wU (bo Tryz.f213 wV) Tryz.f213 0 vv fm:=fun x=>by kernel_rfl
theorem wW:FnOK G0 Tryz.prog 213 zw:=aP ao E4 Tryz.func213 wV (by kernel_rfl) (by exact⟨(Dn).lok,trivial⟩) fun x=>by kernel_rfl
noncomputable def cD(x:Ty.T Ij):Option (Ty.T ax):=
match qz (x.1.1,())with
|none=>none
|some v1=>
match(!v1.1)with
|true=>
 some (false,())
|false=>
 match cp (x.1.2.1,(0:Int),(7:Int),())with
 |none=>none
 |some v2=>
 match(!v2.1)with
 |true=>
  some (false,())
 |false=>
  match qA (x.1.1,(x.1.2.2.2.1.length:Int),())with
  |none=>none
  |some v3=>
  match(!v3.1)with
  |true=>
   some (false,())
  |false=>
   match kT (x.1.2.2.2.1,())with
   |none=>none
   |some v4=>
   match(!v4.1)with
   |true=>
    some (false,())
   |false=>
    match(x.1.1==(0:Int))with
    |true=>
     some ((dE ak (x.1.2.2.1.1,x.1.2.2.1.2.1,x.1.2.2.1.2.2.1,x.1.2.2.1.2.2.2.1,x.1.2.2.1.2.2.2.2.1,()) ((0:Int),(0:Int),(0:Int),(0:Int),(0:Int),())),())
    |false=>
     match(x.1.1==(3:Int))with
     |true=>
      match gZ (x.1.2.2.1.2.2.2.2.1,())with
      |none=>none
      |some v5=>
      match jM ((x.1.2.2.1.1,x.1.2.2.1.2.1,x.1.2.2.1.2.2.1,x.1.2.2.1.2.2.2.1,x.1.2.2.1.2.2.2.2.1,()),())with
      |none=>none
      |some v6=>
      match v6.1 with
      |true=>
       match(x.1.2.2.1.2.1==(0:Int))with
       |true=>
        match((v5.1.length:Int)==(1:Int))with
        |true=>
         some ((x.1.2.1==(0:Int)),())
        |false=>
         some (false,())
       |false=>
        some (false,())
      |false=>
       some (false,())
     |false=>
      match jM ((x.1.2.2.1.1,x.1.2.2.1.2.1,x.1.2.2.1.2.2.1,x.1.2.2.1.2.2.2.1,x.1.2.2.1.2.2.2.2.1,()),())with
      |none=>none
      |some v7=>
      some (v7.1,())
noncomputable def NC:ae:=⟨_,ax,.unit,rfl,cD⟩
theorem BH:FnOK G0 Tryz.prog 161 NC:=an ao (sg BG (sg BC (sg de (sg Bp (sg Bq (sg wW (aR))))))) Tryz.func161
noncomputable def dg(x:Ty.T R8):Option (Ty.T ax):=
match dR ((x.1.1,x.1.2.1,x.1.2.2.1,x.1.2.2.2.1,x.1.2.2.2.2.1,()),())with
|none=>none
|some v1=>
match v1.1 with
|true=>
 match cD ((x.2.1.1,x.2.1.2.1,(x.2.1.2.2.1.1,x.2.1.2.2.1.2.1,x.2.1.2.2.1.2.2.1,x.2.1.2.2.1.2.2.2.1,x.2.1.2.2.1.2.2.2.2.1,()),x.2.1.2.2.2.1,()),())with
 |none=>none
 |some v2=>
 match v2.1 with
 |true=>
  match(x.2.1.1==x.1.2.1)with
  |true=>
   match((x.2.1.2.2.2.1.length:Int)==x.1.2.2.1)with
   |true=>
    match x.1.2.2.2.2.1 with
    |true=>
     some (true,())
    |false=>
     some ((x.2.1.2.1==(0:Int)),())
   |false=>
    some (false,())
  |false=>
   some (false,())
 |false=>
  some (false,())
|false=>
 some (false,())
noncomputable def BI:ae:=⟨_,ax,.unit,rfl,dg⟩
theorem pt:FnOK G0 Tryz.prog 102 BI:=an ao (sg sb (sg BH (aR))) Tryz.func102
noncomputable def kk(x:Ty.T tM):Option (Ty.T ax):=
match ge ((x.1.1,x.1.2.1,x.1.2.2.1,x.1.2.2.2.1,()),(x.2.1.1,x.2.1.2.1,x.2.1.2.2.1,x.2.1.2.2.2.1,x.2.1.2.2.2.2.1,()),())with
|none=>none
|some v1=>
match dg (v1.1,(x.2.2.1.1,x.2.2.1.2.1,(x.2.2.1.2.2.1.1,x.2.2.1.2.2.1.2.1,x.2.2.1.2.2.1.2.2.1,x.2.2.1.2.2.1.2.2.2.1,x.2.2.1.2.2.1.2.2.2.2.1,()),x.2.2.1.2.2.2.1,()),())with
|none=>none
|some v2=>
match v2.1 with
|true=>
 match cU (x.2.2.1.1,())with
 |none=>none
 |some v3=>
 match(!v3.1)with
 |true=>
  some (true,())
 |false=>
  some ((dE ak (x.2.2.1.2.2.1.1,x.2.2.1.2.2.1.2.1,x.2.2.1.2.2.1.2.2.1,x.2.2.1.2.2.1.2.2.2.1,x.2.2.1.2.2.1.2.2.2.2.1,()) (x.2.1.1,x.2.1.2.1,x.2.1.2.2.1,x.2.1.2.2.2.1,x.2.1.2.2.2.2.1,())),())
|false=>
 some (false,())
noncomputable def Gz:ae:=⟨_,ax,.unit,rfl,kk⟩
theorem E5:FnOK G0 Tryz.prog 105 Gz:=an ao (sg kS (sg gz (sg pt (aR)))) Tryz.func105
noncomputable def iI(x:Ty.T tM):Option (Ty.T aO):=
match jN ((x.1.1,x.1.2.1,x.1.2.2.1,x.1.2.2.2.1,()),(x.2.1.1,x.2.1.2.1,x.2.1.2.2.1,x.2.1.2.2.2.1,x.2.1.2.2.2.2.1,()),())with
|none=>none
|some v1=>
match(v1.1==(0:Int))with
|true=>
 match kk ((x.1.1,x.1.2.1,x.1.2.2.1,x.1.2.2.2.1,()),(x.2.1.1,x.2.1.2.1,x.2.1.2.2.1,x.2.1.2.2.2.1,x.2.1.2.2.2.2.1,()),(x.2.2.1.1,x.2.2.1.2.1,(x.2.2.1.2.2.1.1,x.2.2.1.2.2.1.2.1,x.2.2.1.2.2.1.2.2.1,x.2.2.1.2.2.1.2.2.2.1,x.2.2.1.2.2.1.2.2.2.2.1,()),x.2.2.1.2.2.2.1,()),())with
 |none=>none
 |some v2=>
 match(!v2.1)with
 |true=>
  some ((5:Int),())
 |false=>
  some (v1.1,())
|false=>
 some (v1.1,())
noncomputable def ND:ae:=⟨_,aO,.unit,rfl,iI⟩
theorem t6:FnOK G0 Tryz.prog 58 ND:=an ao (sg BE (sg E5 (aR))) Tryz.func58
noncomputable def ii(x:Ty.T tM):Option (Ty.T jt):=
match iI ((x.1.1,x.1.2.1,x.1.2.2.1,x.1.2.2.2.1,()),(x.2.1.1,x.2.1.2.1,x.2.1.2.2.1,x.2.1.2.2.2.1,x.2.1.2.2.2.2.1,()),(x.2.2.1.1,x.2.2.1.2.1,(x.2.2.1.2.2.1.1,x.2.2.1.2.2.1.2.1,x.2.2.1.2.2.1.2.2.1,x.2.2.1.2.2.1.2.2.2.1,x.2.2.1.2.2.1.2.2.2.2.1,()),x.2.2.1.2.2.2.1,()),())with
|none=>none
|some v1=>
match(v1.1 != (0:Int))with
|true=>
 some ([],v1.1,())
|false=>
 match gY ((x.2.2.1.1,x.2.2.1.2.1,(x.2.2.1.2.2.1.1,x.2.2.1.2.2.1.2.1,x.2.2.1.2.2.1.2.2.1,x.2.2.1.2.2.1.2.2.2.1,x.2.2.1.2.2.1.2.2.2.2.1,()),x.2.2.1.2.2.2.1,()),x.1.1,(x.2.1.1,x.2.1.2.1,x.2.1.2.2.1,x.2.1.2.2.2.1,x.2.1.2.2.2.2.1,()),())with
 |none=>none
 |some v2=>
 some (v2.1,(0:Int),())
noncomputable def IC:ae:=⟨_,jt,.unit,rfl,ii⟩
theorem vw:FnOK G0 Tryz.prog 26 IC:=an ao (sg tQ (sg t6 (aR))) Tryz.func26
abbrev rB:Ty:=(.pair (.list (.int .u8)) (.pair (.box al) (.pair (.int .i64) .unit)))
noncomputable def gF(x:(Ty.T rB)):Option ((Ty.T rB) ⊕ ((Ty.T gq) ⊕ (Ty.T .unit))):=
match(decide (x.2.2.1<(x.1.length:Int)))with
|true=>
 match(decide (x.2.2.1<(64:Int)))with
 |true=>
  ab (au x.1 x.2.2.1) fun v1=>
  some (.inl (x.1,(x.2.1.1,x.2.1.2.1,(Int.tmod (IntKind.i64.wrap ((IntKind.i64.wrap (x.2.1.2.2.1*(53:Int)))+(IntKind.i64.wrap v1))) (2147483647:Int)),()),(IntKind.i64.wrap (x.2.2.1+(1:Int))),()))
 |false=>
  some (.inr (.inl ((x.2.1.1,x.2.1.2.1,x.2.1.2.2.1,()),())))
|false=>
 some (.inr (.inl ((x.2.1.1,x.2.1.2.1,x.2.1.2.2.1,()),())))
noncomputable def qG(x:Ty.T Im):Option (Ty.T gq):=
match ac gF (x.1,(x.1,(0:Int),(40009:Int),()),(0:Int),())with
|none=>none
|some (.inl v2)=>
 some ((v2.1.1,v2.1.2.1,v2.1.2.2.1,()),())
|some (.inr v4)=>
 none
noncomputable def NF:ae:=⟨_,gq,.unit,rfl,qG⟩
noncomputable def BJ:FuncId→Option ae:=bU []
theorem IE:∀f s,BJ f=some s→FnOK G0 Tryz.prog f s:=aM trivial
def zx:aX:=⟨[0,3,4],rB,0,[3],gq,[],.unit⟩
noncomputable def BK:List aJ:=[zx.spec gF]
theorem GA:bq bI E0 BJ (bo Tryz.f39 BK) Tryz.f39 0 zx gF:=fun x=>by kernel_rfl
theorem BL:FnOK G0 Tryz.prog 39 NF:=aP ao IE Tryz.func39 BK (by kernel_rfl) (by exact⟨(GA).lok,trivial⟩) fun x=>by kernel_rfl
noncomputable def aa(x:Ty.T Uv):Option (Ty.T (.pair (.int .i64) (.pair (.box al) .unit))):=
match(decide (x.2.1≤(1:Int)))with
|true=>
 some ((0:Int),(x.1.1,x.1.2.1,x.1.2.2.1,()),())
|false=>
 match(decide (x.1.2.1<(x.1.1.length:Int)))with
 |true=>
  ab (au x.1.1 x.1.2.1) fun v1=>
  match(decide (x.2.1≤(256:Int)))with
  |true=>
   match((Int.tmod (IntKind.i64.wrap (x.1.2.1+(1:Int))) (2:Int))==(0:Int))with
   |true=>
    ab (au x.1.1 (IntKind.i64.wrap ((IntKind.i64.wrap (x.1.2.1+(1:Int)))-(1:Int)))) fun v2=>
    if x.2.1=0 then none else
    some ((Int.tmod (IntKind.i64.wrap v2) x.2.1),(x.1.1,(IntKind.i64.wrap (x.1.2.1+(1:Int))),(Int.tmod (IntKind.i64.wrap ((IntKind.i64.wrap (x.1.2.2.1*(48271:Int)))+(17:Int))) (2147483647:Int)),()),())
   |false=>
    if x.2.1=0 then none else
    some ((Int.tmod (IntKind.i64.wrap ((IntKind.i64.wrap (Int.tdiv (Int.tmod (IntKind.i64.wrap ((IntKind.i64.wrap (x.1.2.2.1*(48271:Int)))+(17:Int))) (2147483647:Int)) (23:Int)))+(IntKind.i64.wrap v1))) x.2.1),(x.1.1,(IntKind.i64.wrap (x.1.2.1+(1:Int))),(Int.tmod (IntKind.i64.wrap ((IntKind.i64.wrap (x.1.2.2.1*(48271:Int)))+(17:Int))) (2147483647:Int)),()),())
  |false=>
   if x.2.1=0 then none else
   some ((Int.tmod (IntKind.i64.wrap ((IntKind.i64.wrap (Int.tdiv (Int.tmod (IntKind.i64.wrap ((IntKind.i64.wrap (x.1.2.2.1*(48271:Int)))+(17:Int))) (2147483647:Int)) (23:Int)))+(IntKind.i64.wrap v1))) x.2.1),(x.1.1,(IntKind.i64.wrap (x.1.2.1+(1:Int))),(Int.tmod (IntKind.i64.wrap ((IntKind.i64.wrap (x.1.2.2.1*(48271:Int)))+(17:Int))) (2147483647:Int)),()),())
 |false=>
  if x.2.1=0 then none else
  some ((Int.tmod (IntKind.i64.wrap (Int.tdiv (Int.tmod (IntKind.i64.wrap ((IntKind.i64.wrap (x.1.2.2.1*(48271:Int)))+(17:Int))) (2147483647:Int)) (23:Int))) x.2.1),(x.1.1,x.1.2.1,(Int.tmod (IntKind.i64.wrap ((IntKind.i64.wrap (x.1.2.2.1*(48271:Int)))+(17:Int))) (2147483647:Int)),()),())
noncomputable def g0:ae:=⟨_,aO,gq,rfl,aa⟩
theorem cn:FnOK G0 Tryz.prog 42 g0:=an ao aR Tryz.func42
noncomputable def vY(x:Ty.T .unit):Option (Ty.T Sf):=
some (((77:Int),[((0:Int),([97]:List UInt8),(100:Int),false,()),((1:Int),([98]:List UInt8),(50:Int),false,())],[((2:Int),(2:Int),[(1:Int)],()),((1:Int),(2:Int),[(0:Int)],())],[((0:Int),(0:Int),(0:Int),((0:Int),(3:Int),(0:Int),(200:Int),false,()),()),((0:Int),(0:Int),(1:Int),((1:Int),(1:Int),(0:Int),(200:Int),false,()),()),((0:Int),(1:Int),(0:Int),((0:Int),(0:Int),(4:Int),(200:Int),true,()),()),((0:Int),(1:Int),(1:Int),((1:Int),(0:Int),(2:Int),(200:Int),false,()),()),((1:Int),(0:Int),(0:Int),((1:Int),(2:Int),(3:Int),(300:Int),true,()),()),((1:Int),(0:Int),(1:Int),((0:Int),(0:Int),(0:Int),(150:Int),false,()),())],()),())
noncomputable def zy:ae:=⟨_,Sf,.unit,rfl,vY⟩
theorem IG:FnOK G0 Tryz.prog 234 zy:=an ao aR Tryz.func234
noncomputable def iJ(rec:Ty.T aO→Option (Ty.T vf))(x:Ty.T aO):Option (Ty.T vf):=
match(decide (x.1<(10:Int)))with
|true=>
 some ((List.map (fun n=>UInt8.ofNat (Int.toNat n)) ([(IntKind.u8.wrap (IntKind.i64.wrap ((48:Int)+x.1)))]:List Int)),())
|false=>
 ag (
  match rec ((IntKind.i64.wrap (Int.tdiv x.1 (10:Int))),())with
  |none=>none
  |some v1=>
  aD (v1.1.length+(List.map (fun n=>UInt8.ofNat (Int.toNat n)) ([(IntKind.u8.wrap (IntKind.i64.wrap ((48:Int)+(Int.tmod x.1 (10:Int)))))]:List Int)).length) (
   some ((v1.1++(List.map (fun n=>UInt8.ofNat (Int.toNat n)) ([(IntKind.u8.wrap (IntKind.i64.wrap ((48:Int)+(Int.tmod x.1 (10:Int)))))]:List Int))),()))) (
  ai (
   match rec ((IntKind.i64.wrap (Int.tdiv x.1 (10:Int))),())with
   |none=>none
   |some v1=>
   aD (v1.1.length+(List.map (fun n=>UInt8.ofNat (Int.toNat n)) ([(IntKind.u8.wrap (IntKind.i64.wrap ((48:Int)+(Int.tmod x.1 (10:Int)))))]:List Int)).length) (
    some ((v1.1++(List.map (fun n=>UInt8.ofNat (Int.toNat n)) ([(IntKind.u8.wrap (IntKind.i64.wrap ((48:Int)+(Int.tmod x.1 (10:Int)))))]:List Int))),()))))
noncomputable def ja(i:Nat):Ty.T aO→Option (Ty.T vf):=Nat.rec (fun _=>none) (fun _ f=>iJ f) i
noncomputable def jU(rec:Ty.T aO→Option (Ty.T vf)):ae:=⟨aO,vf,.unit,rfl,rec⟩
noncomputable def GB:ae:=jU (ja 100)
noncomputable def D1(rec:Ty.T aO→Option (Ty.T vf)):FuncId→Option ae:=bU [(256,jU rec)]
theorem KJ(rec:Ty.T aO→Option (Ty.T vf))(hr:FnOK G0 Tryz.prog 256 (jU rec)):∀f s,(D1 rec) f=some s→FnOK G0 Tryz.prog f s:=aM ⟨hr,trivial⟩
noncomputable def D2(rec:Ty.T aO→Option (Ty.T vf)):Nat→Option aJ:=A6 (cz (gQ Tryz.f256)) []
theorem KK(rec:Ty.T aO→Option (Ty.T vf))(hr:FnOK G0 Tryz.prog 256 (jU rec)):FnOK G0 Tryz.prog 256 (jU (iJ rec)):=S3 (Λ:=(D2 rec)) ao (KJ rec hr) Tryz.func256 (by kernel_rfl) (show Tryz.f256.body=some (gQ Tryz.f256) by kernel_rfl) [] rfl (by kernel_rfl) (by exact trivial) (by kernel_rfl)
 fun x y h=>(show wu bI E0 (D1 rec) (D2 rec) Tryz.f256 (jU (iJ rec)) x=iJ rec x by kernel_rfl).trans h
theorem zz:∀i,FnOK G0 Tryz.prog 256 (jU (ja i))
 |0=>Tj Tryz.func256 (by kernel_rfl) (show Tryz.f256.body=some (gQ Tryz.f256) by kernel_rfl)
 |i+1=>KK _ (zz i)
theorem NG:FnOK G0 Tryz.prog 256 GB:=zz 100
abbrev rC:Ty:=(.pair (.box al) (.pair (.own 103 aw) bE))
abbrev zA:Ty:=(.pair (.box al) (.pair (.own 103 aw) .unit))
noncomputable def gG(x:(Ty.T rC)):Option ((Ty.T rC) ⊕ ((Ty.T zA) ⊕ (Ty.T .unit))):=
match(decide (x.2.2.2.1>(0:Int)))with
|true=>
 match ja 100 (x.2.2.1,())with
 |none=>none
 |some v3=>
 aD (([110]:List UInt8).length+v3.1.length) (
  match aa ((x.1.1,x.1.2.1,x.1.2.2.1,()),(200:Int),())with
  |none=>none
  |some v4=>
  match aa ((v4.2.1.1,v4.2.1.2.1,v4.2.1.2.2.1,()),(5:Int),())with
  |none=>none
  |some v5=>
  aD (x.2.1.length+ [(x.2.2.1,(([110]:List UInt8)++v3.1),v4.1,(v5.1==(0:Int)),())].length) (
   match aa ((v5.2.1.1,v5.2.1.2.1,v5.2.1.2.2.1,()),(3:Int),())with
   |none=>none
   |some v6=>
   some (.inl ((v6.2.1.1,v6.2.1.2.1,v6.2.1.2.2.1,()),(x.2.1++ [(x.2.2.1,(([110]:List UInt8)++v3.1),v4.1,(v5.1==(0:Int)),())]),(IntKind.i64.wrap ((IntKind.i64.wrap (x.2.2.1+(1:Int)))+v6.1)),(IntKind.i64.wrap (x.2.2.2.1-(1:Int))),()))))
|false=>
 some (.inr (.inl ((x.1.1,x.1.2.1,x.1.2.2.1,()),x.2.1,())))
noncomputable def qH(x:Ty.T gq):Option (Ty.T Uz):=
match aa ((x.1.1,x.1.2.1,x.1.2.2.1,()),(2:Int),())with
|none=>none
|some v1=>
match aa ((v1.2.1.1,v1.2.1.2.1,v1.2.1.2.2.1,()),(4:Int),())with
|none=>none
|some v2=>
match ac gG ((v2.2.1.1,v2.2.1.2.1,v2.2.1.2.2.1,()),[],v1.1,(IntKind.i64.wrap ((1:Int)+v2.1)),())with
|none=>none
|some (.inl v7)=>
 some (v7.2.1,(v7.1.1,v7.1.2.1,v7.1.2.2.1,()),())
|some (.inr v9)=>
 none
noncomputable def D3:ae:=⟨_,Uj,gq,rfl,qH⟩
noncomputable def BM:FuncId→Option ae:=bU [(42,g0),(256,GB)]
theorem IH:∀f s,BM f=some s→FnOK G0 Tryz.prog f s:=aM ⟨cn,NG,trivial⟩
def zB:aX:=⟨[0,3,4,5],rC,0,[0,3],zA,[],.unit⟩
noncomputable def BN:List aJ:=[zB.spec gG]
theorem GC:bq bI E0 BM (bo Tryz.f235 BN) Tryz.f235 0 zB gG:=fun x=>by kernel_rfl
theorem BO:FnOK G0 Tryz.prog 235 D3:=aP ao IH Tryz.func235 BN (by kernel_rfl) (by exact⟨(GC).lok,trivial⟩) fun x=>by kernel_rfl
noncomputable def nS(x:Ty.T gq):Option (Ty.T Uw):=
match aa ((x.1.1,x.1.2.1,x.1.2.2.1,()),(4:Int),())with
|none=>none
|some v1=>
match aa ((v1.2.1.1,v1.2.1.2.1,v1.2.1.2.2.1,()),(4:Int),())with
|none=>none
|some v2=>
match aa ((v2.2.1.1,v2.2.1.2.1,v2.2.1.2.2.1,()),(2:Int),())with
|none=>none
|some v3=>
match eP (v2.1,())with
|none=>none
|some v4=>
match v4.1 with
|true=>
 match aa ((v3.2.1.1,v3.2.1.2.1,v3.2.1.2.2.1,()),(5:Int),())with
 |none=>none
 |some v5=>
 match(v2.1==(3:Int))with
 |true=>
  match dA (v2.1,(IntKind.i64.wrap ((1:Int)+v5.1)),())with
  |none=>none
  |some v6=>
  match aa ((v5.2.1.1,v5.2.1.2.1,v5.2.1.2.2.1,()),(200:Int),())with
  |none=>none
  |some v7=>
  some ((v1.1,v2.1,(IntKind.i64.wrap ((1:Int)+v5.1)),(IntKind.i64.wrap ((IntKind.i64.wrap (v6.1+(20:Int)))+v7.1)),false,()),(v7.2.1.1,v7.2.1.2.1,v7.2.1.2.2.1,()),())
 |false=>
  match dA (v2.1,(IntKind.i64.wrap ((1:Int)+v5.1)),())with
  |none=>none
  |some v8=>
  match aa ((v5.2.1.1,v5.2.1.2.1,v5.2.1.2.2.1,()),(200:Int),())with
  |none=>none
  |some v9=>
  some ((v1.1,v2.1,(IntKind.i64.wrap ((1:Int)+v5.1)),(IntKind.i64.wrap ((IntKind.i64.wrap (v8.1+(20:Int)))+v9.1)),(v3.1==(0:Int)),()),(v9.2.1.1,v9.2.1.2.1,v9.2.1.2.2.1,()),())
|false=>
 match(v2.1==(3:Int))with
 |true=>
  match dA (v2.1,(0:Int),())with
  |none=>none
  |some v10=>
  match aa ((v3.2.1.1,v3.2.1.2.1,v3.2.1.2.2.1,()),(200:Int),())with
  |none=>none
  |some v11=>
  some ((v1.1,v2.1,(0:Int),(IntKind.i64.wrap ((IntKind.i64.wrap (v10.1+(20:Int)))+v11.1)),false,()),(v11.2.1.1,v11.2.1.2.1,v11.2.1.2.2.1,()),())
 |false=>
  match dA (v2.1,(0:Int),())with
  |none=>none
  |some v12=>
  match aa ((v3.2.1.1,v3.2.1.2.1,v3.2.1.2.2.1,()),(200:Int),())with
  |none=>none
  |some v13=>
  some ((v1.1,v2.1,(0:Int),(IntKind.i64.wrap ((IntKind.i64.wrap (v12.1+(20:Int)))+v13.1)),(v3.1==(0:Int)),()),(v13.2.1.1,v13.2.1.2.1,v13.2.1.2.2.1,()),())
noncomputable def D4:ae:=⟨_,Ba,gq,rfl,nS⟩
theorem BP:FnOK G0 Tryz.prog 236 D4:=an ao (sg cn (sg kL (sg rA (aR)))) Tryz.func236
abbrev pH:Ty:=Sg
abbrev wX:Ty:=(.pair (.box al) (.pair (.box ap) (.pair (.own 103 aw) (.pair (.own 2 (.int .i64)) (.pair (.own 141 aA) (.pair (.own 116 aj) (.pair (.int .i64) (.pair (.int .i64) (.pair (.box aA) (.pair (.own 2 (.int .i64)) .unit))))))))))
noncomputable def eR(x:(Ty.T pH)):Option ((Ty.T pH) ⊕ ((Ty.T wX) ⊕ (Ty.T .unit))):=
match(decide (x.2.2.2.2.2.2.2.2.2.2.1<x.2.2.2.2.2.2.2.2.1.2.1))with
|true=>
 match aa ((x.1.1,x.1.2.1,x.1.2.2.1,()),(100:Int),())with
 |none=>none
 |some v12=>
 aD (x.2.2.2.2.2.2.2.2.2.1.length+ [(IntKind.i64.wrap ((260:Int)+v12.1))].length) (
  some (.inl ((v12.2.1.1,v12.2.1.2.1,v12.2.1.2.2.1,()),(x.2.1.1,x.2.1.2.1,x.2.1.2.2.1,x.2.1.2.2.2.1,()),x.2.2.1,x.2.2.2.1,x.2.2.2.2.1,x.2.2.2.2.2.1,x.2.2.2.2.2.2.1,x.2.2.2.2.2.2.2.1,(x.2.2.2.2.2.2.2.2.1.1,x.2.2.2.2.2.2.2.2.1.2.1,x.2.2.2.2.2.2.2.2.1.2.2.1,()),(x.2.2.2.2.2.2.2.2.2.1++ [(IntKind.i64.wrap ((260:Int)+v12.1))]),(IntKind.i64.wrap (x.2.2.2.2.2.2.2.2.2.2.1+(1:Int))),())))
|false=>
 some (.inr (.inl ((x.1.1,x.1.2.1,x.1.2.2.1,()),(x.2.1.1,x.2.1.2.1,x.2.1.2.2.1,x.2.1.2.2.2.1,()),x.2.2.1,x.2.2.2.1,x.2.2.2.2.1,x.2.2.2.2.2.1,x.2.2.2.2.2.2.1,x.2.2.2.2.2.2.2.1,(x.2.2.2.2.2.2.2.2.1.1,x.2.2.2.2.2.2.2.2.1.2.1,x.2.2.2.2.2.2.2.2.1.2.2.1,()),x.2.2.2.2.2.2.2.2.2.1,())))
abbrev pI:Ty:=(.pair (.box al) (.pair (.box ap) (.pair (.own 103 aw) (.pair (.own 2 (.int .i64)) (.pair (.own 141 aA) (.pair (.own 116 aj) (.pair (.int .i64) (.pair (.int .i64) (.pair (.box aA) (.pair (.own 2 (.int .i64)) bE))))))))))
abbrev wY:Ty:=Sg
noncomputable def dS(x:(Ty.T pI)):Option ((Ty.T pI) ⊕ ((Ty.T wY) ⊕ (Ty.T .unit))):=
match(decide (x.2.2.2.2.2.2.2.2.2.2.2.1<x.2.2.2.2.2.2.2.2.1.2.1))with
|true=>
 match nS ((x.1.1,x.1.2.1,x.1.2.2.1,()),())with
 |none=>none
 |some v15=>
 if(x.2.2.2.1.length:Int)=0 then none else
 ab (au x.2.2.2.1 (Int.tmod x.2.2.2.2.2.2.2.2.2.2.2.1 (x.2.2.2.1.length:Int))) fun _=>
 match x.2.2.2.1[(Int.tmod x.2.2.2.2.2.2.2.2.2.2.2.1 (x.2.2.2.1.length:Int)).toNat]? with
 |none=>none
 |some v17=>
 match(v15.1.2.1==(3:Int))with
 |true=>
  match(decide (x.2.2.2.2.2.2.2.1>(0:Int)))with
  |true=>
   ab (au x.2.2.2.2.2.2.2.2.2.1 x.2.2.2.2.2.2.2.2.2.2.2.1) fun _=>
   match x.2.2.2.2.2.2.2.2.2.1[x.2.2.2.2.2.2.2.2.2.2.2.1.toNat]? with
   |none=>none
   |some v19=>
   aD (x.2.2.2.2.2.1.length+ [(x.2.2.2.2.2.2.2.1,x.2.2.2.2.2.2.2.2.2.2.1,x.2.2.2.2.2.2.2.2.2.2.2.1,(v17,(1:Int),v15.1.2.2.1,v19,v15.1.2.2.2.2.1,()),())].length) (
    some (.inl ((v15.2.1.1,v15.2.1.2.1,v15.2.1.2.2.1,()),(x.2.1.1,x.2.1.2.1,x.2.1.2.2.1,x.2.1.2.2.2.1,()),x.2.2.1,x.2.2.2.1,x.2.2.2.2.1,(x.2.2.2.2.2.1++ [(x.2.2.2.2.2.2.2.1,x.2.2.2.2.2.2.2.2.2.2.1,x.2.2.2.2.2.2.2.2.2.2.2.1,(v17,(1:Int),v15.1.2.2.1,v19,v15.1.2.2.2.2.1,()),())]),x.2.2.2.2.2.2.1,x.2.2.2.2.2.2.2.1,(x.2.2.2.2.2.2.2.2.1.1,x.2.2.2.2.2.2.2.2.1.2.1,x.2.2.2.2.2.2.2.2.1.2.2.1,()),x.2.2.2.2.2.2.2.2.2.1,x.2.2.2.2.2.2.2.2.2.2.1,(IntKind.i64.wrap (x.2.2.2.2.2.2.2.2.2.2.2.1+(1:Int))),())))
  |false=>
   ab (au x.2.2.2.2.2.2.2.2.2.1 x.2.2.2.2.2.2.2.2.2.2.2.1) fun _=>
   match x.2.2.2.2.2.2.2.2.2.1[x.2.2.2.2.2.2.2.2.2.2.2.1.toNat]? with
   |none=>none
   |some v21=>
   aD (x.2.2.2.2.2.1.length+ [(x.2.2.2.2.2.2.2.1,x.2.2.2.2.2.2.2.2.2.2.1,x.2.2.2.2.2.2.2.2.2.2.2.1,(v17,v15.1.2.1,v15.1.2.2.1,v21,v15.1.2.2.2.2.1,()),())].length) (
    some (.inl ((v15.2.1.1,v15.2.1.2.1,v15.2.1.2.2.1,()),(x.2.1.1,x.2.1.2.1,x.2.1.2.2.1,x.2.1.2.2.2.1,()),x.2.2.1,x.2.2.2.1,x.2.2.2.2.1,(x.2.2.2.2.2.1++ [(x.2.2.2.2.2.2.2.1,x.2.2.2.2.2.2.2.2.2.2.1,x.2.2.2.2.2.2.2.2.2.2.2.1,(v17,v15.1.2.1,v15.1.2.2.1,v21,v15.1.2.2.2.2.1,()),())]),x.2.2.2.2.2.2.1,x.2.2.2.2.2.2.2.1,(x.2.2.2.2.2.2.2.2.1.1,x.2.2.2.2.2.2.2.2.1.2.1,x.2.2.2.2.2.2.2.2.1.2.2.1,()),x.2.2.2.2.2.2.2.2.2.1,x.2.2.2.2.2.2.2.2.2.2.1,(IntKind.i64.wrap (x.2.2.2.2.2.2.2.2.2.2.2.1+(1:Int))),())))
 |false=>
  ab (au x.2.2.2.2.2.2.2.2.2.1 x.2.2.2.2.2.2.2.2.2.2.2.1) fun _=>
  match x.2.2.2.2.2.2.2.2.2.1[x.2.2.2.2.2.2.2.2.2.2.2.1.toNat]? with
  |none=>none
  |some v23=>
  aD (x.2.2.2.2.2.1.length+ [(x.2.2.2.2.2.2.2.1,x.2.2.2.2.2.2.2.2.2.2.1,x.2.2.2.2.2.2.2.2.2.2.2.1,(v17,v15.1.2.1,v15.1.2.2.1,v23,v15.1.2.2.2.2.1,()),())].length) (
   some (.inl ((v15.2.1.1,v15.2.1.2.1,v15.2.1.2.2.1,()),(x.2.1.1,x.2.1.2.1,x.2.1.2.2.1,x.2.1.2.2.2.1,()),x.2.2.1,x.2.2.2.1,x.2.2.2.2.1,(x.2.2.2.2.2.1++ [(x.2.2.2.2.2.2.2.1,x.2.2.2.2.2.2.2.2.2.2.1,x.2.2.2.2.2.2.2.2.2.2.2.1,(v17,v15.1.2.1,v15.1.2.2.1,v23,v15.1.2.2.2.2.1,()),())]),x.2.2.2.2.2.2.1,x.2.2.2.2.2.2.2.1,(x.2.2.2.2.2.2.2.2.1.1,x.2.2.2.2.2.2.2.2.1.2.1,x.2.2.2.2.2.2.2.2.1.2.2.1,()),x.2.2.2.2.2.2.2.2.2.1,x.2.2.2.2.2.2.2.2.2.2.1,(IntKind.i64.wrap (x.2.2.2.2.2.2.2.2.2.2.2.1+(1:Int))),())))
|false=>
 some (.inr (.inl ((x.1.1,x.1.2.1,x.1.2.2.1,()),(x.2.1.1,x.2.1.2.1,x.2.1.2.2.1,x.2.1.2.2.2.1,()),x.2.2.1,x.2.2.2.1,x.2.2.2.2.1,x.2.2.2.2.2.1,x.2.2.2.2.2.2.1,x.2.2.2.2.2.2.2.1,(x.2.2.2.2.2.2.2.2.1.1,x.2.2.2.2.2.2.2.2.1.2.1,x.2.2.2.2.2.2.2.2.1.2.2.1,()),x.2.2.2.2.2.2.2.2.2.1,x.2.2.2.2.2.2.2.2.2.2.1,())))
abbrev pJ:Ty:=Sg
abbrev wZ:Ty:=UR
noncomputable def eS(x:(Ty.T pJ)):Option ((Ty.T pJ) ⊕ ((Ty.T wZ) ⊕ (Ty.T .unit))):=
match(decide (x.2.2.2.2.2.2.2.2.2.2.1<x.2.2.2.2.2.2.2.2.1.1))with
|true=>
 match ac dS ((x.1.1,x.1.2.1,x.1.2.2.1,()),(x.2.1.1,x.2.1.2.1,x.2.1.2.2.1,x.2.1.2.2.2.1,()),x.2.2.1,x.2.2.2.1,x.2.2.2.2.1,x.2.2.2.2.2.1,x.2.2.2.2.2.2.1,x.2.2.2.2.2.2.2.1,(x.2.2.2.2.2.2.2.2.1.1,x.2.2.2.2.2.2.2.2.1.2.1,x.2.2.2.2.2.2.2.2.1.2.2.1,()),x.2.2.2.2.2.2.2.2.2.1,x.2.2.2.2.2.2.2.2.2.2.1,(0:Int),())with
 |none=>none
 |some (.inl v15)=>
  some (.inl ((v15.1.1,v15.1.2.1,v15.1.2.2.1,()),(v15.2.1.1,v15.2.1.2.1,v15.2.1.2.2.1,v15.2.1.2.2.2.1,()),v15.2.2.1,v15.2.2.2.1,v15.2.2.2.2.1,v15.2.2.2.2.2.1,v15.2.2.2.2.2.2.1,v15.2.2.2.2.2.2.2.1,(v15.2.2.2.2.2.2.2.2.1.1,v15.2.2.2.2.2.2.2.2.1.2.1,v15.2.2.2.2.2.2.2.2.1.2.2.1,()),v15.2.2.2.2.2.2.2.2.2.1,(IntKind.i64.wrap (v15.2.2.2.2.2.2.2.2.2.2.1+(1:Int))),()))
 |some (.inr v17)=>
  some (.inr (.inr (())))
|false=>
 some (.inr (.inl ((x.1.1,x.1.2.1,x.1.2.2.1,()),(x.2.1.1,x.2.1.2.1,x.2.1.2.2.1,x.2.1.2.2.2.1,()),x.2.2.1,x.2.2.2.1,x.2.2.2.2.1,x.2.2.2.2.2.1,x.2.2.2.2.2.2.1,x.2.2.2.2.2.2.2.1,())))
abbrev pK:Ty:=UR
abbrev w6:Ty:=(.pair (.box al) (.pair (.box ap) (.pair (.own 103 aw) (.pair (.own 141 aA) (.pair (.own 116 aj) .unit)))))
noncomputable def dr(x:(Ty.T pK)):Option ((Ty.T pK) ⊕ ((Ty.T w6) ⊕ (Ty.T .unit))):=
match(decide (x.2.2.2.2.2.2.2.1<x.2.2.2.2.2.2.1))with
|true=>
 match aa ((x.1.1,x.1.2.1,x.1.2.2.1,()),(2:Int),())with
 |none=>none
 |some v10=>
 match aa ((v10.2.1.1,v10.2.1.2.1,v10.2.1.2.2.1,()),(2:Int),())with
 |none=>none
 |some v11=>
 match(decide (x.2.2.2.2.2.2.1>(1:Int)))with
 |true=>
  aD (x.2.2.2.2.1.length+ [((IntKind.i64.wrap ((1:Int)+v10.1)),(IntKind.i64.wrap ((x.2.2.2.1.length:Int)+v11.1)),[(IntKind.i64.wrap ((1:Int)-x.2.2.2.2.2.2.2.1))],())].length) (
   match ac eR ((v11.2.1.1,v11.2.1.2.1,v11.2.1.2.2.1,()),(x.2.1.1,x.2.1.2.1,x.2.1.2.2.1,x.2.1.2.2.2.1,()),x.2.2.1,x.2.2.2.1,(x.2.2.2.2.1++ [((IntKind.i64.wrap ((1:Int)+v10.1)),(IntKind.i64.wrap ((x.2.2.2.1.length:Int)+v11.1)),[(IntKind.i64.wrap ((1:Int)-x.2.2.2.2.2.2.2.1))],())]),x.2.2.2.2.2.1,x.2.2.2.2.2.2.1,x.2.2.2.2.2.2.2.1,((IntKind.i64.wrap ((1:Int)+v10.1)),(IntKind.i64.wrap ((x.2.2.2.1.length:Int)+v11.1)),[(IntKind.i64.wrap ((1:Int)-x.2.2.2.2.2.2.2.1))],()),[],(0:Int),())with
   |none=>none
   |some (.inl v12)=>
    match ac eS ((v12.1.1,v12.1.2.1,v12.1.2.2.1,()),(v12.2.1.1,v12.2.1.2.1,v12.2.1.2.2.1,v12.2.1.2.2.2.1,()),v12.2.2.1,v12.2.2.2.1,v12.2.2.2.2.1,v12.2.2.2.2.2.1,v12.2.2.2.2.2.2.1,v12.2.2.2.2.2.2.2.1,(v12.2.2.2.2.2.2.2.2.1.1,v12.2.2.2.2.2.2.2.2.1.2.1,v12.2.2.2.2.2.2.2.2.1.2.2.1,()),v12.2.2.2.2.2.2.2.2.2.1,(0:Int),())with
    |none=>none
    |some (.inl v14)=>
     some (.inl ((v14.1.1,v14.1.2.1,v14.1.2.2.1,()),(v14.2.1.1,v14.2.1.2.1,v14.2.1.2.2.1,v14.2.1.2.2.2.1,()),v14.2.2.1,v14.2.2.2.1,v14.2.2.2.2.1,v14.2.2.2.2.2.1,v14.2.2.2.2.2.2.1,(IntKind.i64.wrap (v14.2.2.2.2.2.2.2.1+(1:Int))),()))
    |some (.inr v16)=>
     some (.inr (.inr (())))
   |some (.inr v17)=>
    some (.inr (.inr (()))))
 |false=>
  aD (x.2.2.2.2.1.length+([((IntKind.i64.wrap ((1:Int)+v10.1)),(IntKind.i64.wrap ((x.2.2.2.1.length:Int)+v11.1)),[],())]:List (Ty.T aA)).length) (
   match ac eR ((v11.2.1.1,v11.2.1.2.1,v11.2.1.2.2.1,()),(x.2.1.1,x.2.1.2.1,x.2.1.2.2.1,x.2.1.2.2.2.1,()),x.2.2.1,x.2.2.2.1,(x.2.2.2.2.1++([((IntKind.i64.wrap ((1:Int)+v10.1)),(IntKind.i64.wrap ((x.2.2.2.1.length:Int)+v11.1)),[],())]:List (Ty.T aA))),x.2.2.2.2.2.1,x.2.2.2.2.2.2.1,x.2.2.2.2.2.2.2.1,((IntKind.i64.wrap ((1:Int)+v10.1)),(IntKind.i64.wrap ((x.2.2.2.1.length:Int)+v11.1)),[],()),[],(0:Int),())with
   |none=>none
   |some (.inl v18)=>
    match ac eS ((v18.1.1,v18.1.2.1,v18.1.2.2.1,()),(v18.2.1.1,v18.2.1.2.1,v18.2.1.2.2.1,v18.2.1.2.2.2.1,()),v18.2.2.1,v18.2.2.2.1,v18.2.2.2.2.1,v18.2.2.2.2.2.1,v18.2.2.2.2.2.2.1,v18.2.2.2.2.2.2.2.1,(v18.2.2.2.2.2.2.2.2.1.1,v18.2.2.2.2.2.2.2.2.1.2.1,v18.2.2.2.2.2.2.2.2.1.2.2.1,()),v18.2.2.2.2.2.2.2.2.2.1,(0:Int),())with
    |none=>none
    |some (.inl v20)=>
     some (.inl ((v20.1.1,v20.1.2.1,v20.1.2.2.1,()),(v20.2.1.1,v20.2.1.2.1,v20.2.1.2.2.1,v20.2.1.2.2.2.1,()),v20.2.2.1,v20.2.2.2.1,v20.2.2.2.2.1,v20.2.2.2.2.2.1,v20.2.2.2.2.2.2.1,(IntKind.i64.wrap (v20.2.2.2.2.2.2.2.1+(1:Int))),()))
    |some (.inr v22)=>
     some (.inr (.inr (())))
   |some (.inr v23)=>
    some (.inr (.inr (()))))
|false=>
 some (.inr (.inl ((x.1.1,x.1.2.1,x.1.2.2.1,()),(x.2.1.1,x.2.1.2.1,x.2.1.2.2.1,x.2.1.2.2.2.1,()),x.2.2.1,x.2.2.2.2.1,x.2.2.2.2.2.1,())))
noncomputable def vx(x:Ty.T gq):Option (Ty.T (.pair (.pair (.int .i64) (.pair (.own 103 aw) (.pair (.own 141 aA) (.pair (.own 116 aj) .unit)))) (.pair (.box al) .unit))):=
match aa ((x.1.1,x.1.2.1,x.1.2.2.1,()),(4:Int),())with
|none=>none
|some v1=>
match(v1.1==(0:Int))with
|true=>
 match vY (())with
 |none=>none
 |some v2=>
 some ((v2.1.1,v2.1.2.1,v2.1.2.2.1,v2.1.2.2.2.1,()),(v1.2.1.1,v1.2.1.2.1,v1.2.1.2.2.1,()),())
|false=>
 match qH ((v1.2.1.1,v1.2.1.2.1,v1.2.1.2.2.1,()),())with
 |none=>none
 |some v3=>
 ab (au v3.1 (0:Int)) fun _=>
 match v3.1[(0:Int).toNat]? with
 |none=>none
 |some v5=>
 match(decide (((v3.1.set ((0:Int).toNat) (v5.1,v5.2.1,v5.2.2.1,false,())).length:Int)>(3:Int)))with
 |true=>
  ab (aK (v3.1.set ((0:Int).toNat) (v5.1,v5.2.1,v5.2.2.1,false,())).length none (some (.dat (.int .i64) (3:Int)))) fun v6=>
  match cG ((List.take v6.2 (v3.1.set ((0:Int).toNat) (v5.1,v5.2.1,v5.2.2.1,false,()))),())with
  |none=>none
  |some v7=>
  match gZ (v7.1,())with
  |none=>none
  |some v8=>
  match aa ((v3.2.1.1,v3.2.1.2.1,v3.2.1.2.2.1,()),(2:Int),())with
  |none=>none
  |some v9=>
  match ac dr ((v9.2.1.1,v9.2.1.2.1,v9.2.1.2.2.1,()),((0:Int),[],[],[],()),(List.take v6.2 (v3.1.set ((0:Int).toNat) (v5.1,v5.2.1,v5.2.2.1,false,()))),v8.1,[],[],(IntKind.i64.wrap ((1:Int)+v9.1)),(0:Int),())with
  |none=>none
  |some (.inl v24)=>
   match aa ((v24.1.1,v24.1.2.1,v24.1.2.2.1,()),(5000:Int),())with
   |none=>none
   |some v26=>
   some (((IntKind.i64.wrap ((1:Int)+v26.1)),v24.2.2.1,v24.2.2.2.1,v24.2.2.2.2.1,()),(v26.2.1.1,v26.2.1.2.1,v26.2.1.2.2.1,()),())
  |some (.inr v27)=>
   none
 |false=>
  match cG ((v3.1.set ((0:Int).toNat) (v5.1,v5.2.1,v5.2.2.1,false,())),())with
  |none=>none
  |some v28=>
  match gZ (v28.1,())with
  |none=>none
  |some v29=>
  match aa ((v3.2.1.1,v3.2.1.2.1,v3.2.1.2.2.1,()),(2:Int),())with
  |none=>none
  |some v30=>
  match ac dr ((v30.2.1.1,v30.2.1.2.1,v30.2.1.2.2.1,()),((0:Int),[],[],[],()),(v3.1.set ((0:Int).toNat) (v5.1,v5.2.1,v5.2.2.1,false,())),v29.1,[],[],(IntKind.i64.wrap ((1:Int)+v30.1)),(0:Int),())with
  |none=>none
  |some (.inl v31)=>
   match aa ((v31.1.1,v31.1.2.1,v31.1.2.2.1,()),(5000:Int),())with
   |none=>none
   |some v33=>
   some (((IntKind.i64.wrap ((1:Int)+v33.1)),v31.2.2.1,v31.2.2.2.1,v31.2.2.2.2.1,()),(v33.2.1.1,v33.2.1.2.1,v33.2.1.2.2.1,()),())
  |some (.inr v34)=>
   none
noncomputable def D5:ae:=⟨_,Sf,gq,rfl,vx⟩
noncomputable def kU:FuncId→Option ae:=bU [(42,g0),(146,mY),(213,zw),(234,zy),(235,D3),(236,D4)]
theorem II:∀f s,kU f=some s→FnOK G0 Tryz.prog f s:=aM ⟨cn,ju,wW,IG,BO,BP,trivial⟩
def w9:aX:=⟨[0,2,3,4,6,7,8,9],pK,0,[0,2,3,6,7],w6,[],.unit⟩
def xa:aX:=⟨[0,2,3,4,6,7,8,9,10,11,12],pH,2,[0,2,3,4,6,7,8,9,10,11],wX,[],.unit⟩
def xb:aX:=⟨[0,2,3,4,6,7,8,9,10,11,13],pJ,4,[0,2,3,4,6,7,8,9],wZ,[],.unit⟩
def xd:aX:=⟨[0,2,3,4,6,7,8,9,10,11,13,14],pI,6,[0,2,3,4,6,7,8,9,10,11,13],wY,[],.unit⟩
noncomputable def kV:List aJ:=[w9.spec dr,xa.spec eR,xb.spec eS,xd.spec dS]
theorem E6:bq QS E1 kU (bo Tryz.f192 kV) Tryz.f192 0 w9 dr:=fun x=>by kernel_rfl
theorem E7:bq QS E1 kU (bo Tryz.f192 kV) Tryz.f192 1 xa eR:=fun x=>by kernel_rfl
theorem E8:bq QS E1 kU (bo Tryz.f192 kV) Tryz.f192 2 xb eS:=fun x=>by kernel_rfl
theorem E9:bq QS E1 kU (bo Tryz.f192 kV) Tryz.f192 3 xd dS:=fun x=>by kernel_rfl
theorem L6:FnOK G0 Tryz.prog 192 D5:=aP VV II Tryz.func192 kV (by kernel_rfl) (by exact⟨(E6).lok,(E7).lok,(E8).lok,(E9).lok,trivial⟩) fun x=>by kernel_rfl
noncomputable def oO(x:Ty.T gq):Option (Ty.T Uz):=
match qH ((x.1.1,x.1.2.1,x.1.2.2.1,()),())with
|none=>none
|some v1=>
match aa ((v1.2.1.1,v1.2.1.2.1,v1.2.1.2.2.1,()),(v1.1.length:Int),())with
|none=>none
|some v2=>
match aa ((v2.2.1.1,v2.2.1.2.1,v2.2.1.2.2.1,()),(24:Int),())with
|none=>none
|some v3=>
match(v3.1==(0:Int))with
|true=>
 match aa ((v3.2.1.1,v3.2.1.2.1,v3.2.1.2.2.1,()),(3:Int),())with
 |none=>none
 |some v4=>
 ab (au [(-1:Int),(31:Int),(32:Int)] v4.1) fun _=>
 match [(-1:Int),(31:Int),(32:Int)][v4.1.toNat]? with
 |none=>none
 |some v6=>
 ab (au v1.1 v2.1) fun _=>
 match v1.1[v2.1.toNat]? with
 |none=>none
 |some v8=>
 some ((v1.1.set v2.1.toNat (v6,v8.2.1,v8.2.2.1,v8.2.2.2.1,())),(v4.2.1.1,v4.2.1.2.1,v4.2.1.2.2.1,()),())
|false=>
 match(v3.1==(1:Int))with
 |true=>
  match aa ((v3.2.1.1,v3.2.1.2.1,v3.2.1.2.2.1,()),(5:Int),())with
  |none=>none
  |some v9=>
  ab (au [[],([115,101,118,101,110,110,55]:List UInt8),([115,105,120,120,120,54]:List UInt8),([78,49]:List UInt8),([110,48]:List UInt8)] v9.1) fun _=>
  match [[],([115,101,118,101,110,110,55]:List UInt8),([115,105,120,120,120,54]:List UInt8),([78,49]:List UInt8),([110,48]:List UInt8)][v9.1.toNat]? with
  |none=>none
  |some v11=>
  ab (au v1.1 v2.1) fun _=>
  match v1.1[v2.1.toNat]? with
  |none=>none
  |some v13=>
  some ((v1.1.set v2.1.toNat (v13.1,v11,v13.2.2.1,v13.2.2.2.1,())),(v9.2.1.1,v9.2.1.2.1,v9.2.1.2.2.1,()),())
 |false=>
  match(v3.1==(2:Int))with
  |true=>
   match aa ((v3.2.1.1,v3.2.1.2.1,v3.2.1.2.2.1,()),(3:Int),())with
   |none=>none
   |some v14=>
   ab (au [(-1:Int),(1000:Int),(1001:Int)] v14.1) fun _=>
   match [(-1:Int),(1000:Int),(1001:Int)][v14.1.toNat]? with
   |none=>none
   |some v16=>
   ab (au v1.1 v2.1) fun _=>
   match v1.1[v2.1.toNat]? with
   |none=>none
   |some v18=>
   some ((v1.1.set v2.1.toNat (v18.1,v18.2.1,v16,v18.2.2.2.1,())),(v14.2.1.1,v14.2.1.2.1,v14.2.1.2.2.1,()),())
  |false=>
   match(v3.1==(3:Int))with
   |true=>
    ab (au v1.1 v2.1) fun _=>
    match v1.1[v2.1.toNat]? with
    |none=>none
    |some v20=>
    aD (v1.1.length+ [v20].length) (
     some ((v1.1++ [v20]),(v3.2.1.1,v3.2.1.2.1,v3.2.1.2.2.1,()),()))
   |false=>
    match(v3.1==(4:Int))with
    |true=>
     some ([],(v3.2.1.1,v3.2.1.2.1,v3.2.1.2.2.1,()),())
    |false=>
     some (v1.1,(v3.2.1.1,v3.2.1.2.1,v3.2.1.2.2.1,()),())
noncomputable def xe:ae:=⟨_,Uj,gq,rfl,oO⟩
theorem GD:FnOK G0 Tryz.prog 193 xe:=an ao (sg cn (sg BO (aR))) Tryz.func193
abbrev rD:Ty:=(.pair (.box al) (.pair (.own 141 (.pair (.int .i64) (.pair (.int .i64) (.pair (.own 2 (.int .i64)) .unit)))) (.pair (.int .i64) (.pair (.int .i64) (.pair (.own 2 (.int .i64)) (.pair (.int .i64) .unit))))))
abbrev zC:Ty:=(.pair (.box al) (.pair (.own 141 (.pair (.int .i64) (.pair (.int .i64) (.pair (.own 2 (.int .i64)) .unit)))) (.pair (.int .i64) (.pair (.int .i64) (.pair (.own 2 (.int .i64)) .unit)))))
noncomputable def fE(x:(Ty.T rD)):Option ((Ty.T rD) ⊕ ((Ty.T zC) ⊕ (Ty.T .unit))):=
match(decide (x.2.2.2.2.2.1<x.2.2.1))with
|true=>
 match(x.2.2.2.2.2.1 != x.2.2.2.1)with
 |true=>
  match aa ((x.1.1,x.1.2.1,x.1.2.2.1,()),(2:Int),())with
  |none=>none
  |some v2=>
  match(v2.1==(0:Int))with
  |true=>
   aD (x.2.2.2.2.1.length+ [x.2.2.2.2.2.1].length) (
    some (.inl ((v2.2.1.1,v2.2.1.2.1,v2.2.1.2.2.1,()),x.2.1,x.2.2.1,x.2.2.2.1,(x.2.2.2.2.1++ [x.2.2.2.2.2.1]),(IntKind.i64.wrap (x.2.2.2.2.2.1+(1:Int))),())))
  |false=>
   some (.inl ((v2.2.1.1,v2.2.1.2.1,v2.2.1.2.2.1,()),x.2.1,x.2.2.1,x.2.2.2.1,x.2.2.2.2.1,(IntKind.i64.wrap (x.2.2.2.2.2.1+(1:Int))),()))
 |false=>
  some (.inl ((x.1.1,x.1.2.1,x.1.2.2.1,()),x.2.1,x.2.2.1,x.2.2.2.1,x.2.2.2.2.1,(IntKind.i64.wrap (x.2.2.2.2.2.1+(1:Int))),()))
|false=>
 some (.inr (.inl ((x.1.1,x.1.2.1,x.1.2.2.1,()),x.2.1,x.2.2.1,x.2.2.2.1,x.2.2.2.2.1,())))
abbrev rE:Ty:=(.pair (.box al) (.pair (.own 141 (.pair (.int .i64) (.pair (.int .i64) (.pair (.own 2 (.int .i64)) .unit)))) bE))
abbrev zD:Ty:=(.pair (.box al) (.pair (.own 141 (.pair (.int .i64) (.pair (.int .i64) (.pair (.own 2 (.int .i64)) .unit)))) .unit))
noncomputable def iC(x:(Ty.T rE)):Option ((Ty.T rE) ⊕ ((Ty.T zD) ⊕ (Ty.T .unit))):=
match(decide (x.2.2.2.1<x.2.2.1))with
|true=>
 match ac fE ((x.1.1,x.1.2.1,x.1.2.2.1,()),x.2.1,x.2.2.1,x.2.2.2.1,[],(0:Int),())with
 |none=>none
 |some (.inl v2)=>
  match aa ((v2.1.1,v2.1.2.1,v2.1.2.2.1,()),(3:Int),())with
  |none=>none
  |some v4=>
  match aa ((v4.2.1.1,v4.2.1.2.1,v4.2.1.2.2.1,()),(4:Int),())with
  |none=>none
  |some v5=>
  aD (v2.2.1.length+ [((IntKind.i64.wrap ((1:Int)+v4.1)),(IntKind.i64.wrap ((1:Int)+v5.1)),v2.2.2.2.2.1,())].length) (
   some (.inl ((v5.2.1.1,v5.2.1.2.1,v5.2.1.2.2.1,()),(v2.2.1++ [((IntKind.i64.wrap ((1:Int)+v4.1)),(IntKind.i64.wrap ((1:Int)+v5.1)),v2.2.2.2.2.1,())]),v2.2.2.1,(IntKind.i64.wrap (v2.2.2.2.1+(1:Int))),())))
 |some (.inr v6)=>
  some (.inr (.inr (())))
|false=>
 some (.inr (.inl ((x.1.1,x.1.2.1,x.1.2.2.1,()),x.2.1,())))
noncomputable def vy(x:Ty.T gq):Option (Ty.T UQ):=
match aa ((x.1.1,x.1.2.1,x.1.2.2.1,()),(4:Int),())with
|none=>none
|some v1=>
match ac iC ((v1.2.1.1,v1.2.1.2.1,v1.2.1.2.2.1,()),[],(IntKind.i64.wrap ((1:Int)+v1.1)),(0:Int),())with
|none=>none
|some (.inl v7)=>
 some (v7.2.1,(v7.1.1,v7.1.2.1,v7.1.2.2.1,()),())
|some (.inr v9)=>
 none
noncomputable def NH:ae:=⟨_,UL,gq,rfl,vy⟩
noncomputable def t7:FuncId→Option ae:=bU [(42,g0)]
theorem IJ:∀f s,t7 f=some s→FnOK G0 Tryz.prog f s:=aM ⟨cn,trivial⟩
def zE:aX:=⟨[0,3,4,5],rE,0,[0,3],zD,[],.unit⟩
def zF:aX:=⟨[0,3,4,5,6,7],rD,2,[0,3,4,5,6],zC,[],.unit⟩
noncomputable def ua:List aJ:=[zE.spec iC,zF.spec fE]
theorem GE:bq US E2 t7 (bo Tryz.f237 ua) Tryz.f237 0 zE iC:=fun x=>by kernel_rfl
theorem GF:bq US E2 t7 (bo Tryz.f237 ua) Tryz.f237 1 zF fE:=fun x=>by kernel_rfl
theorem L7:FnOK G0 Tryz.prog 237 NH:=aP UT IJ Tryz.func237 ua (by kernel_rfl) (by exact⟨(GE).lok,(GF).lok,trivial⟩) fun x=>by kernel_rfl
noncomputable def oP(x:Ty.T gq):Option (Ty.T UQ):=
match vy ((x.1.1,x.1.2.1,x.1.2.2.1,()),())with
|none=>none
|some v1=>
match aa ((v1.2.1.1,v1.2.1.2.1,v1.2.1.2.2.1,()),(v1.1.length:Int),())with
|none=>none
|some v2=>
match aa ((v2.2.1.1,v2.2.1.2.1,v2.2.1.2.2.1,()),(24:Int),())with
|none=>none
|some v3=>
match(v3.1==(0:Int))with
|true=>
 match aa ((v3.2.1.1,v3.2.1.2.1,v3.2.1.2.2.1,()),(3:Int),())with
 |none=>none
 |some v4=>
 ab (au [(0:Int),(8:Int),(9:Int)] v4.1) fun _=>
 match [(0:Int),(8:Int),(9:Int)][v4.1.toNat]? with
 |none=>none
 |some v6=>
 ab (au v1.1 v2.1) fun _=>
 match v1.1[v2.1.toNat]? with
 |none=>none
 |some v8=>
 some ((v1.1.set v2.1.toNat (v6,v8.2)),(v4.2.1.1,v4.2.1.2.1,v4.2.1.2.2.1,()),())
|false=>
 match(v3.1==(1:Int))with
 |true=>
  match aa ((v3.2.1.1,v3.2.1.2.1,v3.2.1.2.2.1,()),(3:Int),())with
  |none=>none
  |some v9=>
  ab (au [(0:Int),(16:Int),(17:Int)] v9.1) fun _=>
  match [(0:Int),(16:Int),(17:Int)][v9.1.toNat]? with
  |none=>none
  |some v11=>
  ab (au v1.1 v2.1) fun _=>
  match v1.1[v2.1.toNat]? with
  |none=>none
  |some v13=>
  some ((v1.1.set v2.1.toNat (v13.1,(v11,v13.2.2))),(v9.2.1.1,v9.2.1.2.1,v9.2.1.2.2.1,()),())
 |false=>
  match(v3.1==(2:Int))with
  |true=>
   ab (au v1.1 v2.1) fun _=>
   ag (
    match v1.1[v2.1.toNat]? with
    |none=>none
    |some v15=>
    ag (
     ai (
      match aa ((v3.2.1.1,v3.2.1.2.1,v3.2.1.2.2.1,()),(3:Int),())with
      |none=>none
      |some v16=>
      ab (au [v2.1,(v1.1.length:Int),(0:Int)] v16.1) fun _=>
      match [v2.1,(v1.1.length:Int),(0:Int)][v16.1.toNat]? with
      |none=>none
      |some v18=>
      aD (v15.2.2.1.length+ [v18].length) (
       ab (au v1.1 v2.1) fun _=>
       if v2.1.toNat=v2.1.toNat then
        some ((v1.1.set v2.1.toNat (v15.1,(v15.2.1,((v15.2.2.1++ [v18]),v15.2.2.2)))),(v16.2.1.1,v16.2.1.2.1,v16.2.1.2.2.1,()),())
       else none))) (
     match aa ((v3.2.1.1,v3.2.1.2.1,v3.2.1.2.2.1,()),(3:Int),())with
     |none=>none
     |some v16=>
     ab (au [v2.1,(v1.1.length:Int),(0:Int)] v16.1) fun _=>
     match [v2.1,(v1.1.length:Int),(0:Int)][v16.1.toNat]? with
     |none=>none
     |some v18=>
     aD (v15.2.2.1.length+ [v18].length) (
      ab (au v1.1 v2.1) fun _=>
      if v2.1.toNat=v2.1.toNat then
       some ((v1.1.set v2.1.toNat (v15.1,(v15.2.1,((v15.2.2.1++ [v18]),v15.2.2.2)))),(v16.2.1.1,v16.2.1.2.1,v16.2.1.2.2.1,()),())
      else none))) (
    ag (
     ag (
      match v1.1[v2.1.toNat]? with
      |none=>none
      |some v15=>
      ai (
       match aa ((v3.2.1.1,v3.2.1.2.1,v3.2.1.2.2.1,()),(3:Int),())with
       |none=>none
       |some v16=>
       ab (au [v2.1,(v1.1.length:Int),(0:Int)] v16.1) fun _=>
       match [v2.1,(v1.1.length:Int),(0:Int)][v16.1.toNat]? with
       |none=>none
       |some v18=>
       aD (v15.2.2.1.length+ [v18].length) (
        ab (au v1.1 v2.1) fun _=>
        if v2.1.toNat=v2.1.toNat then
         some ((v1.1.set v2.1.toNat (v15.1,(v15.2.1,((v15.2.2.1++ [v18]),v15.2.2.2)))),(v16.2.1.1,v16.2.1.2.1,v16.2.1.2.2.1,()),())
        else none))) (
      ag (
       ag (
        match v1.1[v2.1.toNat]? with
        |none=>none
        |some v15=>
        match aa ((v3.2.1.1,v3.2.1.2.1,v3.2.1.2.2.1,()),(3:Int),())with
        |none=>none
        |some v16=>
        ab (au [v2.1,(v1.1.length:Int),(0:Int)] v16.1) fun _=>
        match [v2.1,(v1.1.length:Int),(0:Int)][v16.1.toNat]? with
        |none=>none
        |some v18=>
        aD (v15.2.2.1.length+ [v18].length) (
         ab (au v1.1 v2.1) fun _=>
         if v2.1.toNat=v2.1.toNat then
          some ((v1.1.set v2.1.toNat (v15.1,(v15.2.1,((v15.2.2.1++ [v18]),v15.2.2.2)))),(v16.2.1.1,v16.2.1.2.1,v16.2.1.2.2.1,()),())
         else none)) (
        match aa ((v3.2.1.1,v3.2.1.2.1,v3.2.1.2.2.1,()),(3:Int),())with
        |none=>none
        |some v15=>
        ab (au [v2.1,(v1.1.length:Int),(0:Int)] v15.1) fun _=>
        ag (
         match v1.1[v2.1.toNat]? with
         |none=>none
         |some v17=>
         match [v2.1,(v1.1.length:Int),(0:Int)][v15.1.toNat]? with
         |none=>none
         |some v18=>
         aD (v17.2.2.1.length+ [v18].length) (
          ab (au v1.1 v2.1) fun _=>
          if v2.1.toNat=v2.1.toNat then
           some ((v1.1.set v2.1.toNat (v17.1,(v17.2.1,((v17.2.2.1++ [v18]),v17.2.2.2)))),(v15.2.1.1,v15.2.1.2.1,v15.2.1.2.2.1,()),())
          else none)) (
         match [v2.1,(v1.1.length:Int),(0:Int)][v15.1.toNat]? with
         |none=>none
         |some v17=>
         ai (
          match v1.1[v2.1.toNat]? with
          |none=>none
          |some v18=>
          aD (v18.2.2.1.length+ [v17].length) (
           ab (au v1.1 v2.1) fun _=>
           if v2.1.toNat=v2.1.toNat then
            some ((v1.1.set v2.1.toNat (v18.1,(v18.2.1,((v18.2.2.1++ [v17]),v18.2.2.2)))),(v15.2.1.1,v15.2.1.2.1,v15.2.1.2.2.1,()),())
           else none))))) (
       match aa ((v3.2.1.1,v3.2.1.2.1,v3.2.1.2.2.1,()),(3:Int),())with
       |none=>none
       |some v15=>
       ag (
        match v1.1[v2.1.toNat]? with
        |none=>none
        |some v16=>
        ab (au [v2.1,(v1.1.length:Int),(0:Int)] v15.1) fun _=>
        match [v2.1,(v1.1.length:Int),(0:Int)][v15.1.toNat]? with
        |none=>none
        |some v18=>
        aD (v16.2.2.1.length+ [v18].length) (
         ab (au v1.1 v2.1) fun _=>
         if v2.1.toNat=v2.1.toNat then
          some ((v1.1.set v2.1.toNat (v16.1,(v16.2.1,((v16.2.2.1++ [v18]),v16.2.2.2)))),(v15.2.1.1,v15.2.1.2.1,v15.2.1.2.2.1,()),())
         else none)) (
        ab (au [v2.1,(v1.1.length:Int),(0:Int)] v15.1) fun _=>
        ag (
         match v1.1[v2.1.toNat]? with
         |none=>none
         |some v17=>
         match [v2.1,(v1.1.length:Int),(0:Int)][v15.1.toNat]? with
         |none=>none
         |some v18=>
         aD (v17.2.2.1.length+ [v18].length) (
          ab (au v1.1 v2.1) fun _=>
          if v2.1.toNat=v2.1.toNat then
           some ((v1.1.set v2.1.toNat (v17.1,(v17.2.1,((v17.2.2.1++ [v18]),v17.2.2.2)))),(v15.2.1.1,v15.2.1.2.1,v15.2.1.2.2.1,()),())
          else none)) (
         match [v2.1,(v1.1.length:Int),(0:Int)][v15.1.toNat]? with
         |none=>none
         |some v17=>
         ai (
          match v1.1[v2.1.toNat]? with
          |none=>none
          |some v18=>
          aD (v18.2.2.1.length+ [v17].length) (
           ab (au v1.1 v2.1) fun _=>
           if v2.1.toNat=v2.1.toNat then
            some ((v1.1.set v2.1.toNat (v18.1,(v18.2.1,((v18.2.2.1++ [v17]),v18.2.2.2)))),(v15.2.1.1,v15.2.1.2.1,v15.2.1.2.2.1,()),())
           else none))))))) (
     match aa ((v3.2.1.1,v3.2.1.2.1,v3.2.1.2.2.1,()),(3:Int),())with
     |none=>none
     |some v15=>
     ag (
      match v1.1[v2.1.toNat]? with
      |none=>none
      |some v16=>
      ab (au [v2.1,(v1.1.length:Int),(0:Int)] v15.1) fun _=>
      match [v2.1,(v1.1.length:Int),(0:Int)][v15.1.toNat]? with
      |none=>none
      |some v18=>
      aD (v16.2.2.1.length+ [v18].length) (
       ab (au v1.1 v2.1) fun _=>
       if v2.1.toNat=v2.1.toNat then
        some ((v1.1.set v2.1.toNat (v16.1,(v16.2.1,((v16.2.2.1++ [v18]),v16.2.2.2)))),(v15.2.1.1,v15.2.1.2.1,v15.2.1.2.2.1,()),())
       else none)) (
      ag (
       match v1.1[v2.1.toNat]? with
       |none=>none
       |some v16=>
       ab (au [v2.1,(v1.1.length:Int),(0:Int)] v15.1) fun _=>
       match [v2.1,(v1.1.length:Int),(0:Int)][v15.1.toNat]? with
       |none=>none
       |some v18=>
       aD (v16.2.2.1.length+ [v18].length) (
        ab (au v1.1 v2.1) fun _=>
        if v2.1.toNat=v2.1.toNat then
         some ((v1.1.set v2.1.toNat (v16.1,(v16.2.1,((v16.2.2.1++ [v18]),v16.2.2.2)))),(v15.2.1.1,v15.2.1.2.1,v15.2.1.2.2.1,()),())
        else none)) (
       ab (au [v2.1,(v1.1.length:Int),(0:Int)] v15.1) fun _=>
       ag (
        match v1.1[v2.1.toNat]? with
        |none=>none
        |some v17=>
        match [v2.1,(v1.1.length:Int),(0:Int)][v15.1.toNat]? with
        |none=>none
        |some v18=>
        aD (v17.2.2.1.length+ [v18].length) (
         ab (au v1.1 v2.1) fun _=>
         if v2.1.toNat=v2.1.toNat then
          some ((v1.1.set v2.1.toNat (v17.1,(v17.2.1,((v17.2.2.1++ [v18]),v17.2.2.2)))),(v15.2.1.1,v15.2.1.2.1,v15.2.1.2.2.1,()),())
         else none)) (
        match [v2.1,(v1.1.length:Int),(0:Int)][v15.1.toNat]? with
        |none=>none
        |some v17=>
        ai (
         match v1.1[v2.1.toNat]? with
         |none=>none
         |some v18=>
         aD (v18.2.2.1.length+ [v17].length) (
          ab (au v1.1 v2.1) fun _=>
          if v2.1.toNat=v2.1.toNat then
           some ((v1.1.set v2.1.toNat (v18.1,(v18.2.1,((v18.2.2.1++ [v17]),v18.2.2.2)))),(v15.2.1.1,v15.2.1.2.1,v15.2.1.2.2.1,()),())
          else none)))))))
  |false=>
   match(v3.1==(3:Int))with
   |true=>
    some ([],(v3.2.1.1,v3.2.1.2.1,v3.2.1.2.2.1,()),())
   |false=>
    match(v3.1==(4:Int))with
    |true=>
     if 0≤(17:Int)∧(17:Int)≤(17:Int)then
      aD ((17:Int).toNat) (
       some ((List.replicate (17:Int).toNat ((0:Int),(0:Int),[],())),(v3.2.1.1,v3.2.1.2.1,v3.2.1.2.2.1,()),()))
     else none
    |false=>
     some (v1.1,(v3.2.1.1,v3.2.1.2.1,v3.2.1.2.2.1,()),())
noncomputable def xf:ae:=⟨_,UL,gq,rfl,oP⟩
theorem GG:FnOK G0 Tryz.prog 194 xf:=an UT (sg cn (sg L7 (aR))) Tryz.func194
noncomputable def oQ(x:Ty.T gq):Option (Ty.T Uw):=
match nS ((x.1.1,x.1.2.1,x.1.2.2.1,()),())with
|none=>none
|some v1=>
match aa ((v1.2.1.1,v1.2.1.2.1,v1.2.1.2.2.1,()),(30:Int),())with
|none=>none
|some v2=>
match(v2.1==(0:Int))with
|true=>
 match aa ((v2.2.1.1,v2.2.1.2.1,v2.2.1.2.2.1,()),(3:Int),())with
 |none=>none
 |some v3=>
 ab (au [(-1:Int),(31:Int),(32:Int)] v3.1) fun _=>
 match [(-1:Int),(31:Int),(32:Int)][v3.1.toNat]? with
 |none=>none
 |some v5=>
 some ((v5,v1.1.2.1,v1.1.2.2.1,v1.1.2.2.2.1,v1.1.2.2.2.2.1,()),(v3.2.1.1,v3.2.1.2.1,v3.2.1.2.2.1,()),())
|false=>
 match(v2.1==(1:Int))with
 |true=>
  match aa ((v2.2.1.1,v2.2.1.2.1,v2.2.1.2.2.1,()),(6:Int),())with
  |none=>none
  |some v6=>
  some ((v1.1.1,(IntKind.i64.wrap (v6.1-(1:Int))),v1.1.2.2.1,v1.1.2.2.2.1,v1.1.2.2.2.2.1,()),(v6.2.1.1,v6.2.1.2.1,v6.2.1.2.2.1,()),())
 |false=>
  match(v2.1==(2:Int))with
  |true=>
   match aa ((v2.2.1.1,v2.2.1.2.1,v2.2.1.2.2.1,()),(4:Int),())with
   |none=>none
   |some v7=>
   ab (au [(-1:Int),(0:Int),(32:Int),(33:Int)] v7.1) fun _=>
   match [(-1:Int),(0:Int),(32:Int),(33:Int)][v7.1.toNat]? with
   |none=>none
   |some v9=>
   some ((v1.1.1,v1.1.2.1,v9,v1.1.2.2.2.1,v1.1.2.2.2.2.1,()),(v7.2.1.1,v7.2.1.2.1,v7.2.1.2.2.1,()),())
  |false=>
   match(v2.1==(3:Int))with
   |true=>
    match dA (v1.1.2.1,v1.1.2.2.1,())with
    |none=>none
    |some v10=>
    match aa ((v2.2.1.1,v2.2.1.2.1,v2.2.1.2.2.1,()),(4:Int),())with
    |none=>none
    |some v11=>
    ab (au [(0:Int),(IntKind.i64.wrap ((IntKind.i64.wrap (v10.1+(20:Int)))-(1:Int))),(1000:Int),(1001:Int)] v11.1) fun _=>
    match [(0:Int),(IntKind.i64.wrap ((IntKind.i64.wrap (v10.1+(20:Int)))-(1:Int))),(1000:Int),(1001:Int)][v11.1.toNat]? with
    |none=>none
    |some v13=>
    some ((v1.1.1,v1.1.2.1,v1.1.2.2.1,v13,v1.1.2.2.2.2.1,()),(v11.2.1.1,v11.2.1.2.1,v11.2.1.2.2.1,()),())
   |false=>
    match(v2.1==(4:Int))with
    |true=>
     some ((v1.1.1,v1.1.2.1,v1.1.2.2.1,v1.1.2.2.2.1,(!v1.1.2.2.2.2.1),()),(v2.2.1.1,v2.2.1.2.1,v2.2.1.2.2.1,()),())
    |false=>
     some ((v1.1.1,v1.1.2.1,v1.1.2.2.1,v1.1.2.2.2.1,v1.1.2.2.2.2.1,()),(v2.2.1.1,v2.2.1.2.1,v2.2.1.2.2.1,()),())
noncomputable def xg:ae:=⟨_,Ba,gq,rfl,oQ⟩
theorem GH:FnOK G0 Tryz.prog 195 xg:=an ao (sg cn (sg rA (sg BP (aR)))) Tryz.func195
abbrev mk:Ty:=(.pair (.box al) (.pair (.box ap) (.pair (.box (.pair (.int .i64) (.pair (.own 103 aw) (.pair (.own 141 aA) (.pair (.own 116 aj) .unit))))) (.pair (.int .i64) .unit))))
abbrev sq:Ty:=(.pair (.box al) (.pair (.box ap) (.pair (.box (.pair (.int .i64) (.pair (.own 103 aw) (.pair (.own 141 aA) (.pair (.own 116 aj) .unit))))) .unit)))
noncomputable def dw(x:(Ty.T mk)):Option ((Ty.T mk) ⊕ ((Ty.T sq) ⊕ (Ty.T .unit))):=
match(decide (x.2.2.2.1<(x.2.2.1.2.2.2.1.length:Int)))with
|true=>
 ab (au x.2.2.1.2.2.2.1 x.2.2.2.1) fun _=>
 match x.2.2.1.2.2.2.1[x.2.2.2.1.toNat]? with
 |none=>none
 |some v27=>
 some (.inl ((x.1.1,x.1.2.1,x.1.2.2.1,()),(x.2.1.1,x.2.1.2.1,x.2.1.2.2.1,x.2.1.2.2.2.1,()),(x.2.2.1.1,x.2.2.1.2.1,x.2.2.1.2.2.1,(x.2.2.1.2.2.2.1.set x.2.2.2.1.toNat (v27.1,v27.2.1,v27.2.2.1,(v27.2.2.2.1.1,v27.2.2.2.1.2.1,v27.2.2.2.1.2.2.1,(1000:Int),v27.2.2.2.1.2.2.2.2.1,()),())),()),(IntKind.i64.wrap (x.2.2.2.1+(1:Int))),()))
|false=>
 some (.inr (.inl ((x.1.1,x.1.2.1,x.1.2.2.1,()),(x.2.1.1,x.2.1.2.1,x.2.1.2.2.1,x.2.1.2.2.2.1,()),(x.2.2.1.1,x.2.2.1.2.1,x.2.2.1.2.2.1,x.2.2.1.2.2.2.1,()),())))
abbrev ml:Ty:=(.pair (.box al) (.pair (.box ap) (.pair (.box (.pair (.int .i64) (.pair (.own 103 aw) (.pair (.own 141 aA) (.pair (.list aj) .unit))))) (.pair (.own 116 aj) (.pair (.int .i64) .unit)))))
abbrev su:Ty:=(.pair (.box al) (.pair (.box ap) (.pair (.box (.pair (.int .i64) (.pair (.own 103 aw) (.pair (.own 141 aA) (.pair (.list aj) .unit))))) (.pair (.own 116 aj) .unit))))
noncomputable def co(x:(Ty.T ml)):Option ((Ty.T ml) ⊕ ((Ty.T su) ⊕ (Ty.T .unit))):=
ab (au x.2.2.1.2.2.1 (0:Int)) fun _=>
match x.2.2.1.2.2.1[(0:Int).toNat]? with
|none=>none
|some v33=>
ab (au x.2.2.1.2.2.1 (0:Int)) fun _=>
match x.2.2.1.2.2.1[(0:Int).toNat]? with
|none=>none
|some v35=>
match(decide (x.2.2.2.2.1<(IntKind.i64.wrap (v33.1*v35.2.1))))with
|true=>
 ag (
  ab (au x.2.2.1.2.2.1 (0:Int)) fun _=>
  ag (
   match x.2.2.1.2.2.1[(0:Int).toNat]? with
   |none=>none
   |some v37=>
   if v37.2.1=0 then none else
   ag (
    ab (au x.2.2.1.2.2.1 (0:Int)) fun _=>
    ai (
     match x.2.2.1.2.2.1[(0:Int).toNat]? with
     |none=>none
     |some v39=>
     if v39.2.1=0 then none else
     aD (x.2.2.2.1.length+ [((0:Int),(IntKind.i64.wrap (Int.tdiv x.2.2.2.2.1 v37.2.1)),(Int.tmod x.2.2.2.2.1 v39.2.1),((0:Int),(1:Int),(0:Int),(1000:Int),false,()),())].length) (
      some (.inl ((x.1.1,x.1.2.1,x.1.2.2.1,()),(x.2.1.1,x.2.1.2.1,x.2.1.2.2.1,x.2.1.2.2.2.1,()),(x.2.2.1.1,x.2.2.1.2.1,x.2.2.1.2.2.1,x.2.2.1.2.2.2.1,()),(x.2.2.2.1++ [((0:Int),(IntKind.i64.wrap (Int.tdiv x.2.2.2.2.1 v37.2.1)),(Int.tmod x.2.2.2.2.1 v39.2.1),((0:Int),(1:Int),(0:Int),(1000:Int),false,()),())]),(IntKind.i64.wrap (x.2.2.2.2.1+(1:Int))),()))))) (
    ab (au x.2.2.1.2.2.1 (0:Int)) fun _=>
    match x.2.2.1.2.2.1[(0:Int).toNat]? with
    |none=>none
    |some v39=>
    if v39.2.1=0 then none else
    aD (x.2.2.2.1.length+ [((0:Int),(IntKind.i64.wrap (Int.tdiv x.2.2.2.2.1 v37.2.1)),(Int.tmod x.2.2.2.2.1 v39.2.1),((0:Int),(1:Int),(0:Int),(1000:Int),false,()),())].length) (
     some (.inl ((x.1.1,x.1.2.1,x.1.2.2.1,()),(x.2.1.1,x.2.1.2.1,x.2.1.2.2.1,x.2.1.2.2.2.1,()),(x.2.2.1.1,x.2.2.1.2.1,x.2.2.1.2.2.1,x.2.2.1.2.2.2.1,()),(x.2.2.2.1++ [((0:Int),(IntKind.i64.wrap (Int.tdiv x.2.2.2.2.1 v37.2.1)),(Int.tmod x.2.2.2.2.1 v39.2.1),((0:Int),(1:Int),(0:Int),(1000:Int),false,()),())]),(IntKind.i64.wrap (x.2.2.2.2.1+(1:Int))),()))))) (
   ag (
    ab (au x.2.2.1.2.2.1 (0:Int)) fun _=>
    ag (
     match x.2.2.1.2.2.1[(0:Int).toNat]? with
     |none=>none
     |some v38=>
     if v38.2.1=0 then none else
     ai (
      match x.2.2.1.2.2.1[(0:Int).toNat]? with
      |none=>none
      |some v39=>
      if v39.2.1=0 then none else
      aD (x.2.2.2.1.length+ [((0:Int),(IntKind.i64.wrap (Int.tdiv x.2.2.2.2.1 v38.2.1)),(Int.tmod x.2.2.2.2.1 v39.2.1),((0:Int),(1:Int),(0:Int),(1000:Int),false,()),())].length) (
       some (.inl ((x.1.1,x.1.2.1,x.1.2.2.1,()),(x.2.1.1,x.2.1.2.1,x.2.1.2.2.1,x.2.1.2.2.2.1,()),(x.2.2.1.1,x.2.2.1.2.1,x.2.2.1.2.2.1,x.2.2.1.2.2.2.1,()),(x.2.2.2.1++ [((0:Int),(IntKind.i64.wrap (Int.tdiv x.2.2.2.2.1 v38.2.1)),(Int.tmod x.2.2.2.2.1 v39.2.1),((0:Int),(1:Int),(0:Int),(1000:Int),false,()),())]),(IntKind.i64.wrap (x.2.2.2.2.1+(1:Int))),()))))) (
     ag (
      match x.2.2.1.2.2.1[(0:Int).toNat]? with
      |none=>none
      |some v38=>
      if v38.2.1=0 then none else
      ai (
       match x.2.2.1.2.2.1[(0:Int).toNat]? with
       |none=>none
       |some v39=>
       if v39.2.1=0 then none else
       aD (x.2.2.2.1.length+ [((0:Int),(IntKind.i64.wrap (Int.tdiv x.2.2.2.2.1 v39.2.1)),(Int.tmod x.2.2.2.2.1 v38.2.1),((0:Int),(1:Int),(0:Int),(1000:Int),false,()),())].length) (
        some (.inl ((x.1.1,x.1.2.1,x.1.2.2.1,()),(x.2.1.1,x.2.1.2.1,x.2.1.2.2.1,x.2.1.2.2.2.1,()),(x.2.2.1.1,x.2.2.1.2.1,x.2.2.1.2.2.1,x.2.2.1.2.2.2.1,()),(x.2.2.2.1++ [((0:Int),(IntKind.i64.wrap (Int.tdiv x.2.2.2.2.1 v39.2.1)),(Int.tmod x.2.2.2.2.1 v38.2.1),((0:Int),(1:Int),(0:Int),(1000:Int),false,()),())]),(IntKind.i64.wrap (x.2.2.2.2.1+(1:Int))),()))))) (
      ag (
       match x.2.2.1.2.2.1[(0:Int).toNat]? with
       |none=>none
       |some v38=>
       if v38.2.1=0 then none else
       match x.2.2.1.2.2.1[(0:Int).toNat]? with
       |none=>none
       |some v39=>
       if v39.2.1=0 then none else
       aD (x.2.2.2.1.length+ [((0:Int),(IntKind.i64.wrap (Int.tdiv x.2.2.2.2.1 v38.2.1)),(Int.tmod x.2.2.2.2.1 v39.2.1),((0:Int),(1:Int),(0:Int),(1000:Int),false,()),())].length) (
        some (.inl ((x.1.1,x.1.2.1,x.1.2.2.1,()),(x.2.1.1,x.2.1.2.1,x.2.1.2.2.1,x.2.1.2.2.2.1,()),(x.2.2.1.1,x.2.2.1.2.1,x.2.2.1.2.2.1,x.2.2.1.2.2.2.1,()),(x.2.2.2.1++ [((0:Int),(IntKind.i64.wrap (Int.tdiv x.2.2.2.2.1 v38.2.1)),(Int.tmod x.2.2.2.2.1 v39.2.1),((0:Int),(1:Int),(0:Int),(1000:Int),false,()),())]),(IntKind.i64.wrap (x.2.2.2.2.1+(1:Int))),())))) (
       match x.2.2.1.2.2.1[(0:Int).toNat]? with
       |none=>none
       |some v38=>
       if v38.2.1=0 then none else
       match x.2.2.1.2.2.1[(0:Int).toNat]? with
       |none=>none
       |some v39=>
       if v39.2.1=0 then none else
       aD (x.2.2.2.1.length+ [((0:Int),(IntKind.i64.wrap (Int.tdiv x.2.2.2.2.1 v39.2.1)),(Int.tmod x.2.2.2.2.1 v38.2.1),((0:Int),(1:Int),(0:Int),(1000:Int),false,()),())].length) (
        some (.inl ((x.1.1,x.1.2.1,x.1.2.2.1,()),(x.2.1.1,x.2.1.2.1,x.2.1.2.2.1,x.2.1.2.2.2.1,()),(x.2.2.1.1,x.2.2.1.2.1,x.2.2.1.2.2.1,x.2.2.1.2.2.2.1,()),(x.2.2.2.1++ [((0:Int),(IntKind.i64.wrap (Int.tdiv x.2.2.2.2.1 v39.2.1)),(Int.tmod x.2.2.2.2.1 v38.2.1),((0:Int),(1:Int),(0:Int),(1000:Int),false,()),())]),(IntKind.i64.wrap (x.2.2.2.2.1+(1:Int))),()))))))) (
    ag (
     match x.2.2.1.2.2.1[(0:Int).toNat]? with
     |none=>none
     |some v37=>
     if v37.2.1=0 then none else
     ab (au x.2.2.1.2.2.1 (0:Int)) fun _=>
     match x.2.2.1.2.2.1[(0:Int).toNat]? with
     |none=>none
     |some v39=>
     if v39.2.1=0 then none else
     aD (x.2.2.2.1.length+ [((0:Int),(IntKind.i64.wrap (Int.tdiv x.2.2.2.2.1 v37.2.1)),(Int.tmod x.2.2.2.2.1 v39.2.1),((0:Int),(1:Int),(0:Int),(1000:Int),false,()),())].length) (
      some (.inl ((x.1.1,x.1.2.1,x.1.2.2.1,()),(x.2.1.1,x.2.1.2.1,x.2.1.2.2.1,x.2.1.2.2.2.1,()),(x.2.2.1.1,x.2.2.1.2.1,x.2.2.1.2.2.1,x.2.2.1.2.2.2.1,()),(x.2.2.2.1++ [((0:Int),(IntKind.i64.wrap (Int.tdiv x.2.2.2.2.1 v37.2.1)),(Int.tmod x.2.2.2.2.1 v39.2.1),((0:Int),(1:Int),(0:Int),(1000:Int),false,()),())]),(IntKind.i64.wrap (x.2.2.2.2.1+(1:Int))),())))) (
     ab (au x.2.2.1.2.2.1 (0:Int)) fun _=>
     ag (
      match x.2.2.1.2.2.1[(0:Int).toNat]? with
      |none=>none
      |some v38=>
      if v38.2.1=0 then none else
      match x.2.2.1.2.2.1[(0:Int).toNat]? with
      |none=>none
      |some v39=>
      if v39.2.1=0 then none else
      aD (x.2.2.2.1.length+ [((0:Int),(IntKind.i64.wrap (Int.tdiv x.2.2.2.2.1 v38.2.1)),(Int.tmod x.2.2.2.2.1 v39.2.1),((0:Int),(1:Int),(0:Int),(1000:Int),false,()),())].length) (
       some (.inl ((x.1.1,x.1.2.1,x.1.2.2.1,()),(x.2.1.1,x.2.1.2.1,x.2.1.2.2.1,x.2.1.2.2.2.1,()),(x.2.2.1.1,x.2.2.1.2.1,x.2.2.1.2.2.1,x.2.2.1.2.2.2.1,()),(x.2.2.2.1++ [((0:Int),(IntKind.i64.wrap (Int.tdiv x.2.2.2.2.1 v38.2.1)),(Int.tmod x.2.2.2.2.1 v39.2.1),((0:Int),(1:Int),(0:Int),(1000:Int),false,()),())]),(IntKind.i64.wrap (x.2.2.2.2.1+(1:Int))),())))) (
      match x.2.2.1.2.2.1[(0:Int).toNat]? with
      |none=>none
      |some v38=>
      if v38.2.1=0 then none else
      match x.2.2.1.2.2.1[(0:Int).toNat]? with
      |none=>none
      |some v39=>
      if v39.2.1=0 then none else
      aD (x.2.2.2.1.length+ [((0:Int),(IntKind.i64.wrap (Int.tdiv x.2.2.2.2.1 v39.2.1)),(Int.tmod x.2.2.2.2.1 v38.2.1),((0:Int),(1:Int),(0:Int),(1000:Int),false,()),())].length) (
       some (.inl ((x.1.1,x.1.2.1,x.1.2.2.1,()),(x.2.1.1,x.2.1.2.1,x.2.1.2.2.1,x.2.1.2.2.2.1,()),(x.2.2.1.1,x.2.2.1.2.1,x.2.2.1.2.2.1,x.2.2.1.2.2.2.1,()),(x.2.2.2.1++ [((0:Int),(IntKind.i64.wrap (Int.tdiv x.2.2.2.2.1 v39.2.1)),(Int.tmod x.2.2.2.2.1 v38.2.1),((0:Int),(1:Int),(0:Int),(1000:Int),false,()),())]),(IntKind.i64.wrap (x.2.2.2.2.1+(1:Int))),())))))))) (
  ag (
   ab (au x.2.2.1.2.2.1 (0:Int)) fun _=>
   ag (
    ab (au x.2.2.1.2.2.1 (0:Int)) fun _=>
    ag (
     match x.2.2.1.2.2.1[(0:Int).toNat]? with
     |none=>none
     |some v38=>
     if v38.2.1=0 then none else
     ai (
      match x.2.2.1.2.2.1[(0:Int).toNat]? with
      |none=>none
      |some v39=>
      if v39.2.1=0 then none else
      aD (x.2.2.2.1.length+ [((0:Int),(IntKind.i64.wrap (Int.tdiv x.2.2.2.2.1 v38.2.1)),(Int.tmod x.2.2.2.2.1 v39.2.1),((0:Int),(1:Int),(0:Int),(1000:Int),false,()),())].length) (
       some (.inl ((x.1.1,x.1.2.1,x.1.2.2.1,()),(x.2.1.1,x.2.1.2.1,x.2.1.2.2.1,x.2.1.2.2.2.1,()),(x.2.2.1.1,x.2.2.1.2.1,x.2.2.1.2.2.1,x.2.2.1.2.2.2.1,()),(x.2.2.2.1++ [((0:Int),(IntKind.i64.wrap (Int.tdiv x.2.2.2.2.1 v38.2.1)),(Int.tmod x.2.2.2.2.1 v39.2.1),((0:Int),(1:Int),(0:Int),(1000:Int),false,()),())]),(IntKind.i64.wrap (x.2.2.2.2.1+(1:Int))),()))))) (
     ag (
      match x.2.2.1.2.2.1[(0:Int).toNat]? with
      |none=>none
      |some v38=>
      if v38.2.1=0 then none else
      ai (
       match x.2.2.1.2.2.1[(0:Int).toNat]? with
       |none=>none
       |some v39=>
       if v39.2.1=0 then none else
       aD (x.2.2.2.1.length+ [((0:Int),(IntKind.i64.wrap (Int.tdiv x.2.2.2.2.1 v39.2.1)),(Int.tmod x.2.2.2.2.1 v38.2.1),((0:Int),(1:Int),(0:Int),(1000:Int),false,()),())].length) (
        some (.inl ((x.1.1,x.1.2.1,x.1.2.2.1,()),(x.2.1.1,x.2.1.2.1,x.2.1.2.2.1,x.2.1.2.2.2.1,()),(x.2.2.1.1,x.2.2.1.2.1,x.2.2.1.2.2.1,x.2.2.1.2.2.2.1,()),(x.2.2.2.1++ [((0:Int),(IntKind.i64.wrap (Int.tdiv x.2.2.2.2.1 v39.2.1)),(Int.tmod x.2.2.2.2.1 v38.2.1),((0:Int),(1:Int),(0:Int),(1000:Int),false,()),())]),(IntKind.i64.wrap (x.2.2.2.2.1+(1:Int))),()))))) (
      ag (
       match x.2.2.1.2.2.1[(0:Int).toNat]? with
       |none=>none
       |some v38=>
       if v38.2.1=0 then none else
       match x.2.2.1.2.2.1[(0:Int).toNat]? with
       |none=>none
       |some v39=>
       if v39.2.1=0 then none else
       aD (x.2.2.2.1.length+ [((0:Int),(IntKind.i64.wrap (Int.tdiv x.2.2.2.2.1 v38.2.1)),(Int.tmod x.2.2.2.2.1 v39.2.1),((0:Int),(1:Int),(0:Int),(1000:Int),false,()),())].length) (
        some (.inl ((x.1.1,x.1.2.1,x.1.2.2.1,()),(x.2.1.1,x.2.1.2.1,x.2.1.2.2.1,x.2.1.2.2.2.1,()),(x.2.2.1.1,x.2.2.1.2.1,x.2.2.1.2.2.1,x.2.2.1.2.2.2.1,()),(x.2.2.2.1++ [((0:Int),(IntKind.i64.wrap (Int.tdiv x.2.2.2.2.1 v38.2.1)),(Int.tmod x.2.2.2.2.1 v39.2.1),((0:Int),(1:Int),(0:Int),(1000:Int),false,()),())]),(IntKind.i64.wrap (x.2.2.2.2.1+(1:Int))),())))) (
       match x.2.2.1.2.2.1[(0:Int).toNat]? with
       |none=>none
       |some v38=>
       if v38.2.1=0 then none else
       match x.2.2.1.2.2.1[(0:Int).toNat]? with
       |none=>none
       |some v39=>
       if v39.2.1=0 then none else
       aD (x.2.2.2.1.length+ [((0:Int),(IntKind.i64.wrap (Int.tdiv x.2.2.2.2.1 v39.2.1)),(Int.tmod x.2.2.2.2.1 v38.2.1),((0:Int),(1:Int),(0:Int),(1000:Int),false,()),())].length) (
        some (.inl ((x.1.1,x.1.2.1,x.1.2.2.1,()),(x.2.1.1,x.2.1.2.1,x.2.1.2.2.1,x.2.1.2.2.2.1,()),(x.2.2.1.1,x.2.2.1.2.1,x.2.2.1.2.2.1,x.2.2.1.2.2.2.1,()),(x.2.2.2.1++ [((0:Int),(IntKind.i64.wrap (Int.tdiv x.2.2.2.2.1 v39.2.1)),(Int.tmod x.2.2.2.2.1 v38.2.1),((0:Int),(1:Int),(0:Int),(1000:Int),false,()),())]),(IntKind.i64.wrap (x.2.2.2.2.1+(1:Int))),()))))))) (
    ag (
     match x.2.2.1.2.2.1[(0:Int).toNat]? with
     |none=>none
     |some v37=>
     if v37.2.1=0 then none else
     ag (
      ab (au x.2.2.1.2.2.1 (0:Int)) fun _=>
      ai (
       match x.2.2.1.2.2.1[(0:Int).toNat]? with
       |none=>none
       |some v39=>
       if v39.2.1=0 then none else
       aD (x.2.2.2.1.length+ [((0:Int),(IntKind.i64.wrap (Int.tdiv x.2.2.2.2.1 v39.2.1)),(Int.tmod x.2.2.2.2.1 v37.2.1),((0:Int),(1:Int),(0:Int),(1000:Int),false,()),())].length) (
        some (.inl ((x.1.1,x.1.2.1,x.1.2.2.1,()),(x.2.1.1,x.2.1.2.1,x.2.1.2.2.1,x.2.1.2.2.2.1,()),(x.2.2.1.1,x.2.2.1.2.1,x.2.2.1.2.2.1,x.2.2.1.2.2.2.1,()),(x.2.2.2.1++ [((0:Int),(IntKind.i64.wrap (Int.tdiv x.2.2.2.2.1 v39.2.1)),(Int.tmod x.2.2.2.2.1 v37.2.1),((0:Int),(1:Int),(0:Int),(1000:Int),false,()),())]),(IntKind.i64.wrap (x.2.2.2.2.1+(1:Int))),()))))) (
      ab (au x.2.2.1.2.2.1 (0:Int)) fun _=>
      match x.2.2.1.2.2.1[(0:Int).toNat]? with
      |none=>none
      |some v39=>
      if v39.2.1=0 then none else
      aD (x.2.2.2.1.length+ [((0:Int),(IntKind.i64.wrap (Int.tdiv x.2.2.2.2.1 v39.2.1)),(Int.tmod x.2.2.2.2.1 v37.2.1),((0:Int),(1:Int),(0:Int),(1000:Int),false,()),())].length) (
       some (.inl ((x.1.1,x.1.2.1,x.1.2.2.1,()),(x.2.1.1,x.2.1.2.1,x.2.1.2.2.1,x.2.1.2.2.2.1,()),(x.2.2.1.1,x.2.2.1.2.1,x.2.2.1.2.2.1,x.2.2.1.2.2.2.1,()),(x.2.2.2.1++ [((0:Int),(IntKind.i64.wrap (Int.tdiv x.2.2.2.2.1 v39.2.1)),(Int.tmod x.2.2.2.2.1 v37.2.1),((0:Int),(1:Int),(0:Int),(1000:Int),false,()),())]),(IntKind.i64.wrap (x.2.2.2.2.1+(1:Int))),()))))) (
     ag (
      ab (au x.2.2.1.2.2.1 (0:Int)) fun _=>
      ag (
       match x.2.2.1.2.2.1[(0:Int).toNat]? with
       |none=>none
       |some v38=>
       if v38.2.1=0 then none else
       match x.2.2.1.2.2.1[(0:Int).toNat]? with
       |none=>none
       |some v39=>
       if v39.2.1=0 then none else
       aD (x.2.2.2.1.length+ [((0:Int),(IntKind.i64.wrap (Int.tdiv x.2.2.2.2.1 v38.2.1)),(Int.tmod x.2.2.2.2.1 v39.2.1),((0:Int),(1:Int),(0:Int),(1000:Int),false,()),())].length) (
        some (.inl ((x.1.1,x.1.2.1,x.1.2.2.1,()),(x.2.1.1,x.2.1.2.1,x.2.1.2.2.1,x.2.1.2.2.2.1,()),(x.2.2.1.1,x.2.2.1.2.1,x.2.2.1.2.2.1,x.2.2.1.2.2.2.1,()),(x.2.2.2.1++ [((0:Int),(IntKind.i64.wrap (Int.tdiv x.2.2.2.2.1 v38.2.1)),(Int.tmod x.2.2.2.2.1 v39.2.1),((0:Int),(1:Int),(0:Int),(1000:Int),false,()),())]),(IntKind.i64.wrap (x.2.2.2.2.1+(1:Int))),())))) (
       match x.2.2.1.2.2.1[(0:Int).toNat]? with
       |none=>none
       |some v38=>
       if v38.2.1=0 then none else
       match x.2.2.1.2.2.1[(0:Int).toNat]? with
       |none=>none
       |some v39=>
       if v39.2.1=0 then none else
       aD (x.2.2.2.1.length+ [((0:Int),(IntKind.i64.wrap (Int.tdiv x.2.2.2.2.1 v39.2.1)),(Int.tmod x.2.2.2.2.1 v38.2.1),((0:Int),(1:Int),(0:Int),(1000:Int),false,()),())].length) (
        some (.inl ((x.1.1,x.1.2.1,x.1.2.2.1,()),(x.2.1.1,x.2.1.2.1,x.2.1.2.2.1,x.2.1.2.2.2.1,()),(x.2.2.1.1,x.2.2.1.2.1,x.2.2.1.2.2.1,x.2.2.1.2.2.2.1,()),(x.2.2.2.1++ [((0:Int),(IntKind.i64.wrap (Int.tdiv x.2.2.2.2.1 v39.2.1)),(Int.tmod x.2.2.2.2.1 v38.2.1),((0:Int),(1:Int),(0:Int),(1000:Int),false,()),())]),(IntKind.i64.wrap (x.2.2.2.2.1+(1:Int))),()))))) (
      match x.2.2.1.2.2.1[(0:Int).toNat]? with
      |none=>none
      |some v37=>
      if v37.2.1=0 then none else
      ab (au x.2.2.1.2.2.1 (0:Int)) fun _=>
      match x.2.2.1.2.2.1[(0:Int).toNat]? with
      |none=>none
      |some v39=>
      if v39.2.1=0 then none else
      aD (x.2.2.2.1.length+ [((0:Int),(IntKind.i64.wrap (Int.tdiv x.2.2.2.2.1 v39.2.1)),(Int.tmod x.2.2.2.2.1 v37.2.1),((0:Int),(1:Int),(0:Int),(1000:Int),false,()),())].length) (
       some (.inl ((x.1.1,x.1.2.1,x.1.2.2.1,()),(x.2.1.1,x.2.1.2.1,x.2.1.2.2.1,x.2.1.2.2.2.1,()),(x.2.2.1.1,x.2.2.1.2.1,x.2.2.1.2.2.1,x.2.2.1.2.2.2.1,()),(x.2.2.2.1++ [((0:Int),(IntKind.i64.wrap (Int.tdiv x.2.2.2.2.1 v39.2.1)),(Int.tmod x.2.2.2.2.1 v37.2.1),((0:Int),(1:Int),(0:Int),(1000:Int),false,()),())]),(IntKind.i64.wrap (x.2.2.2.2.1+(1:Int))),()))))))) (
   ag (
    ab (au x.2.2.1.2.2.1 (0:Int)) fun _=>
    ag (
     match x.2.2.1.2.2.1[(0:Int).toNat]? with
     |none=>none
     |some v37=>
     if v37.2.1=0 then none else
     ab (au x.2.2.1.2.2.1 (0:Int)) fun _=>
     match x.2.2.1.2.2.1[(0:Int).toNat]? with
     |none=>none
     |some v39=>
     if v39.2.1=0 then none else
     aD (x.2.2.2.1.length+ [((0:Int),(IntKind.i64.wrap (Int.tdiv x.2.2.2.2.1 v37.2.1)),(Int.tmod x.2.2.2.2.1 v39.2.1),((0:Int),(1:Int),(0:Int),(1000:Int),false,()),())].length) (
      some (.inl ((x.1.1,x.1.2.1,x.1.2.2.1,()),(x.2.1.1,x.2.1.2.1,x.2.1.2.2.1,x.2.1.2.2.2.1,()),(x.2.2.1.1,x.2.2.1.2.1,x.2.2.1.2.2.1,x.2.2.1.2.2.2.1,()),(x.2.2.2.1++ [((0:Int),(IntKind.i64.wrap (Int.tdiv x.2.2.2.2.1 v37.2.1)),(Int.tmod x.2.2.2.2.1 v39.2.1),((0:Int),(1:Int),(0:Int),(1000:Int),false,()),())]),(IntKind.i64.wrap (x.2.2.2.2.1+(1:Int))),())))) (
     ab (au x.2.2.1.2.2.1 (0:Int)) fun _=>
     ag (
      match x.2.2.1.2.2.1[(0:Int).toNat]? with
      |none=>none
      |some v38=>
      if v38.2.1=0 then none else
      match x.2.2.1.2.2.1[(0:Int).toNat]? with
      |none=>none
      |some v39=>
      if v39.2.1=0 then none else
      aD (x.2.2.2.1.length+ [((0:Int),(IntKind.i64.wrap (Int.tdiv x.2.2.2.2.1 v38.2.1)),(Int.tmod x.2.2.2.2.1 v39.2.1),((0:Int),(1:Int),(0:Int),(1000:Int),false,()),())].length) (
       some (.inl ((x.1.1,x.1.2.1,x.1.2.2.1,()),(x.2.1.1,x.2.1.2.1,x.2.1.2.2.1,x.2.1.2.2.2.1,()),(x.2.2.1.1,x.2.2.1.2.1,x.2.2.1.2.2.1,x.2.2.1.2.2.2.1,()),(x.2.2.2.1++ [((0:Int),(IntKind.i64.wrap (Int.tdiv x.2.2.2.2.1 v38.2.1)),(Int.tmod x.2.2.2.2.1 v39.2.1),((0:Int),(1:Int),(0:Int),(1000:Int),false,()),())]),(IntKind.i64.wrap (x.2.2.2.2.1+(1:Int))),())))) (
      match x.2.2.1.2.2.1[(0:Int).toNat]? with
      |none=>none
      |some v38=>
      if v38.2.1=0 then none else
      match x.2.2.1.2.2.1[(0:Int).toNat]? with
      |none=>none
      |some v39=>
      if v39.2.1=0 then none else
      aD (x.2.2.2.1.length+ [((0:Int),(IntKind.i64.wrap (Int.tdiv x.2.2.2.2.1 v39.2.1)),(Int.tmod x.2.2.2.2.1 v38.2.1),((0:Int),(1:Int),(0:Int),(1000:Int),false,()),())].length) (
       some (.inl ((x.1.1,x.1.2.1,x.1.2.2.1,()),(x.2.1.1,x.2.1.2.1,x.2.1.2.2.1,x.2.1.2.2.2.1,()),(x.2.2.1.1,x.2.2.1.2.1,x.2.2.1.2.2.1,x.2.2.1.2.2.2.1,()),(x.2.2.2.1++ [((0:Int),(IntKind.i64.wrap (Int.tdiv x.2.2.2.2.1 v39.2.1)),(Int.tmod x.2.2.2.2.1 v38.2.1),((0:Int),(1:Int),(0:Int),(1000:Int),false,()),())]),(IntKind.i64.wrap (x.2.2.2.2.1+(1:Int))),())))))) (
    ab (au x.2.2.1.2.2.1 (0:Int)) fun _=>
    ag (
     ab (au x.2.2.1.2.2.1 (0:Int)) fun _=>
     ag (
      match x.2.2.1.2.2.1[(0:Int).toNat]? with
      |none=>none
      |some v38=>
      if v38.2.1=0 then none else
      match x.2.2.1.2.2.1[(0:Int).toNat]? with
      |none=>none
      |some v39=>
      if v39.2.1=0 then none else
      aD (x.2.2.2.1.length+ [((0:Int),(IntKind.i64.wrap (Int.tdiv x.2.2.2.2.1 v38.2.1)),(Int.tmod x.2.2.2.2.1 v39.2.1),((0:Int),(1:Int),(0:Int),(1000:Int),false,()),())].length) (
       some (.inl ((x.1.1,x.1.2.1,x.1.2.2.1,()),(x.2.1.1,x.2.1.2.1,x.2.1.2.2.1,x.2.1.2.2.2.1,()),(x.2.2.1.1,x.2.2.1.2.1,x.2.2.1.2.2.1,x.2.2.1.2.2.2.1,()),(x.2.2.2.1++ [((0:Int),(IntKind.i64.wrap (Int.tdiv x.2.2.2.2.1 v38.2.1)),(Int.tmod x.2.2.2.2.1 v39.2.1),((0:Int),(1:Int),(0:Int),(1000:Int),false,()),())]),(IntKind.i64.wrap (x.2.2.2.2.1+(1:Int))),())))) (
      match x.2.2.1.2.2.1[(0:Int).toNat]? with
      |none=>none
      |some v38=>
      if v38.2.1=0 then none else
      match x.2.2.1.2.2.1[(0:Int).toNat]? with
      |none=>none
      |some v39=>
      if v39.2.1=0 then none else
      aD (x.2.2.2.1.length+ [((0:Int),(IntKind.i64.wrap (Int.tdiv x.2.2.2.2.1 v39.2.1)),(Int.tmod x.2.2.2.2.1 v38.2.1),((0:Int),(1:Int),(0:Int),(1000:Int),false,()),())].length) (
       some (.inl ((x.1.1,x.1.2.1,x.1.2.2.1,()),(x.2.1.1,x.2.1.2.1,x.2.1.2.2.1,x.2.1.2.2.2.1,()),(x.2.2.1.1,x.2.2.1.2.1,x.2.2.1.2.2.1,x.2.2.1.2.2.2.1,()),(x.2.2.2.1++ [((0:Int),(IntKind.i64.wrap (Int.tdiv x.2.2.2.2.1 v39.2.1)),(Int.tmod x.2.2.2.2.1 v38.2.1),((0:Int),(1:Int),(0:Int),(1000:Int),false,()),())]),(IntKind.i64.wrap (x.2.2.2.2.1+(1:Int))),()))))) (
     match x.2.2.1.2.2.1[(0:Int).toNat]? with
     |none=>none
     |some v37=>
     if v37.2.1=0 then none else
     ab (au x.2.2.1.2.2.1 (0:Int)) fun _=>
     match x.2.2.1.2.2.1[(0:Int).toNat]? with
     |none=>none
     |some v39=>
     if v39.2.1=0 then none else
     aD (x.2.2.2.1.length+ [((0:Int),(IntKind.i64.wrap (Int.tdiv x.2.2.2.2.1 v39.2.1)),(Int.tmod x.2.2.2.2.1 v37.2.1),((0:Int),(1:Int),(0:Int),(1000:Int),false,()),())].length) (
      some (.inl ((x.1.1,x.1.2.1,x.1.2.2.1,()),(x.2.1.1,x.2.1.2.1,x.2.1.2.2.1,x.2.1.2.2.2.1,()),(x.2.2.1.1,x.2.2.1.2.1,x.2.2.1.2.2.1,x.2.2.1.2.2.2.1,()),(x.2.2.2.1++ [((0:Int),(IntKind.i64.wrap (Int.tdiv x.2.2.2.2.1 v39.2.1)),(Int.tmod x.2.2.2.2.1 v37.2.1),((0:Int),(1:Int),(0:Int),(1000:Int),false,()),())]),(IntKind.i64.wrap (x.2.2.2.2.1+(1:Int))),())))))))
|false=>
 some (.inr (.inl ((x.1.1,x.1.2.1,x.1.2.2.1,()),(x.2.1.1,x.2.1.2.1,x.2.1.2.2.1,x.2.1.2.2.2.1,()),(x.2.2.1.1,x.2.2.1.2.1,x.2.2.1.2.2.1,x.2.2.1.2.2.2.1,()),x.2.2.2.1,())))
noncomputable def kW(x:Ty.T gq):Option (Ty.T (.pair ap (.pair (.box al) .unit))):=
match vx ((x.1.1,x.1.2.1,x.1.2.2.1,()),())with
|none=>none
|some v1=>
match aa ((v1.2.1.1,v1.2.1.2.1,v1.2.1.2.2.1,()),(v1.1.2.2.2.1.length:Int),())with
|none=>none
|some v2=>
match aa ((v2.2.1.1,v2.2.1.2.1,v2.2.1.2.2.1,()),(30:Int),())with
|none=>none
|some v3=>
match(v3.1==(0:Int))with
|true=>
 match aa ((v3.2.1.1,v3.2.1.2.1,v3.2.1.2.2.1,()),(3:Int),())with
 |none=>none
 |some v4=>
 ab (au [(0:Int),(16777215:Int),(16777216:Int)] v4.1) fun _=>
 match [(0:Int),(16777215:Int),(16777216:Int)][v4.1.toNat]? with
 |none=>none
 |some v6=>
 some ((v6,v1.1.2.1,v1.1.2.2.1,v1.1.2.2.2.1,()),(v4.2.1.1,v4.2.1.2.1,v4.2.1.2.2.1,()),())
|false=>
 match(v3.1==(1:Int))with
 |true=>
  match oO ((v3.2.1.1,v3.2.1.2.1,v3.2.1.2.2.1,()),())with
  |none=>none
  |some v7=>
  some ((v1.1.1,v7.1,v1.1.2.2.1,v1.1.2.2.2.1,()),(v7.2.1.1,v7.2.1.2.1,v7.2.1.2.2.1,()),())
 |false=>
  match(v3.1==(2:Int))with
  |true=>
   match oP ((v3.2.1.1,v3.2.1.2.1,v3.2.1.2.2.1,()),())with
   |none=>none
   |some v8=>
   some ((v1.1.1,v1.1.2.1,v8.1,v1.1.2.2.2.1,()),(v8.2.1.1,v8.2.1.2.1,v8.2.1.2.2.1,()),())
  |false=>
   match(v3.1==(3:Int))with
   |true=>
    ab (aK v1.1.2.2.2.1.length (some (.dat (.int .i64) (1:Int))) none) fun v9=>
    some ((v1.1.1,v1.1.2.1,v1.1.2.2.1,(List.drop v9.1 (List.take v9.2 v1.1.2.2.2.1)),()),(v3.2.1.1,v3.2.1.2.1,v3.2.1.2.2.1,()),())
   |false=>
    match(v3.1==(4:Int))with
    |true=>
     ai (
      match oQ ((v3.2.1.1,v3.2.1.2.1,v3.2.1.2.2.1,()),())with
      |none=>none
      |some v10=>
      ab (au v1.1.2.2.2.1 v2.1) fun _=>
      match v1.1.2.2.2.1[v2.1.toNat]? with
      |none=>none
      |some v12=>
      some ((v1.1.1,v1.1.2.1,v1.1.2.2.1,(v1.1.2.2.2.1.set v2.1.toNat (v12.1,v12.2.1,v12.2.2.1,(v10.1.1,v10.1.2.1,v10.1.2.2.1,v10.1.2.2.2.1,v10.1.2.2.2.2.1,()),())),()),(v10.2.1.1,v10.2.1.2.1,v10.2.1.2.2.1,()),()))
    |false=>
     match(v3.1==(5:Int))with
     |true=>
      ag (
       ab (au v1.1.2.2.2.1 v2.1) fun _=>
       match v1.1.2.2.2.1[v2.1.toNat]? with
       |none=>none
       |some v14=>
       ab (au v1.1.2.2.2.1 v2.1) fun _=>
       match v1.1.2.2.2.1[v2.1.toNat]? with
       |none=>none
       |some v16=>
       some ((v1.1.1,v1.1.2.1,v1.1.2.2.1,(v1.1.2.2.2.1.set v2.1.toNat (v16.1,v16.2.1,v16.2.2.1,(v16.2.2.2.1.1,v16.2.2.2.1.2.1,v16.2.2.2.1.2.2.1,(IntKind.i64.wrap (v14.2.2.2.1.2.2.2.1+(1:Int))),v16.2.2.2.1.2.2.2.2.1,()),())),()),(v3.2.1.1,v3.2.1.2.1,v3.2.1.2.2.1,()),())) (
       ab (au v1.1.2.2.2.1 v2.1) fun _=>
       ai (
        match v1.1.2.2.2.1[v2.1.toNat]? with
        |none=>none
        |some v14=>
        ab (au v1.1.2.2.2.1 v2.1) fun _=>
        match v1.1.2.2.2.1[v2.1.toNat]? with
        |none=>none
        |some v16=>
        some ((v1.1.1,v1.1.2.1,v1.1.2.2.1,(v1.1.2.2.2.1.set v2.1.toNat (v16.1,v16.2.1,v16.2.2.1,(v16.2.2.2.1.1,v16.2.2.2.1.2.1,v16.2.2.2.1.2.2.1,(IntKind.i64.wrap (v14.2.2.2.1.2.2.2.1+(1:Int))),v16.2.2.2.1.2.2.2.2.1,()),())),()),(v3.2.1.1,v3.2.1.2.1,v3.2.1.2.2.1,()),())))
     |false=>
      match(v3.1==(6:Int))with
      |true=>
       ai (
        match aa ((v3.2.1.1,v3.2.1.2.1,v3.2.1.2.2.1,()),(9:Int),())with
        |none=>none
        |some v17=>
        ab (au v1.1.2.2.2.1 v2.1) fun _=>
        match v1.1.2.2.2.1[v2.1.toNat]? with
        |none=>none
        |some v19=>
        some ((v1.1.1,v1.1.2.1,v1.1.2.2.1,(v1.1.2.2.2.1.set v2.1.toNat (v19.1,v19.2.1,v19.2.2.1,(v17.1,v19.2.2.2.1.2.1,v19.2.2.2.1.2.2.1,v19.2.2.2.1.2.2.2.1,v19.2.2.2.1.2.2.2.2.1,()),())),()),(v17.2.1.1,v17.2.1.2.1,v17.2.1.2.2.1,()),()))
      |false=>
       match(v3.1==(7:Int))with
       |true=>
        ab (au v1.1.2.2.2.1 v2.1) fun _=>
        match v1.1.2.2.2.1[v2.1.toNat]? with
        |none=>none
        |some v21=>
        ab (au (v1.1.2.2.2.1.set v2.1.toNat (v21.1,v21.2.1,v21.2.2.1,(v21.2.2.2.1.1,(3:Int),v21.2.2.2.1.2.2.1,v21.2.2.2.1.2.2.2.1,v21.2.2.2.1.2.2.2.2.1,()),())) v2.1) fun _=>
        match(v1.1.2.2.2.1.set v2.1.toNat (v21.1,v21.2.1,v21.2.2.1,(v21.2.2.2.1.1,(3:Int),v21.2.2.2.1.2.2.1,v21.2.2.2.1.2.2.2.1,v21.2.2.2.1.2.2.2.2.1,()),()))[v2.1.toNat]? with
        |none=>none
        |some v23=>
        ab (au ((v1.1.2.2.2.1.set v2.1.toNat (v21.1,v21.2.1,v21.2.2.1,(v21.2.2.2.1.1,(3:Int),v21.2.2.2.1.2.2.1,v21.2.2.2.1.2.2.2.1,v21.2.2.2.1.2.2.2.2.1,()),())).set v2.1.toNat (v23.1,v23.2.1,v23.2.2.1,(v23.2.2.2.1.1,v23.2.2.2.1.2.1,(0:Int),v23.2.2.2.1.2.2.2.1,v23.2.2.2.1.2.2.2.2.1,()),())) v2.1) fun _=>
        match((v1.1.2.2.2.1.set v2.1.toNat (v21.1,v21.2.1,v21.2.2.1,(v21.2.2.2.1.1,(3:Int),v21.2.2.2.1.2.2.1,v21.2.2.2.1.2.2.2.1,v21.2.2.2.1.2.2.2.2.1,()),())).set v2.1.toNat (v23.1,v23.2.1,v23.2.2.1,(v23.2.2.2.1.1,v23.2.2.2.1.2.1,(0:Int),v23.2.2.2.1.2.2.2.1,v23.2.2.2.1.2.2.2.2.1,()),()))[v2.1.toNat]? with
        |none=>none
        |some v25=>
        some ((v1.1.1,v1.1.2.1,v1.1.2.2.1,(((v1.1.2.2.2.1.set v2.1.toNat (v21.1,v21.2.1,v21.2.2.1,(v21.2.2.2.1.1,(3:Int),v21.2.2.2.1.2.2.1,v21.2.2.2.1.2.2.2.1,v21.2.2.2.1.2.2.2.2.1,()),())).set v2.1.toNat (v23.1,v23.2.1,v23.2.2.1,(v23.2.2.2.1.1,v23.2.2.2.1.2.1,(0:Int),v23.2.2.2.1.2.2.2.1,v23.2.2.2.1.2.2.2.2.1,()),())).set v2.1.toNat (v25.1,v25.2.1,v25.2.2.1,(v25.2.2.2.1.1,v25.2.2.2.1.2.1,v25.2.2.2.1.2.2.1,v25.2.2.2.1.2.2.2.1,false,()),())),()),(v3.2.1.1,v3.2.1.2.1,v3.2.1.2.2.1,()),())
       |false=>
        match(v3.1==(8:Int))with
        |true=>
         match ac dw ((v3.2.1.1,v3.2.1.2.1,v3.2.1.2.2.1,()),((0:Int),[],[],[],()),(v1.1.1,v1.1.2.1,v1.1.2.2.1,v1.1.2.2.2.1,()),(0:Int),())with
         |none=>none
         |some (.inl v28)=>
          match aa ((v28.1.1,v28.1.2.1,v28.1.2.2.1,()),(2:Int),())with
          |none=>none
          |some v30=>
          match(v30.1==(0:Int))with
          |true=>
           match aa ((v30.2.1.1,v30.2.1.2.1,v30.2.1.2.2.1,()),(2:Int),())with
           |none=>none
           |some v31=>
           match(v31.1==(0:Int))with
           |true=>
            match ac co ((v31.2.1.1,v31.2.1.2.1,v31.2.1.2.2.1,()),(v28.2.1.1,v28.2.1.2.1,v28.2.1.2.2.1,v28.2.1.2.2.2.1,()),((3:Int),[((0:Int),([97]:List UInt8),(0:Int),false,())],[((3:Int),(11:Int),[],())],[],()),[],(0:Int),())with
            |none=>none
            |some (.inl v40)=>
             some ((v40.2.2.1.1,v40.2.2.1.2.1,v40.2.2.1.2.2.1,v40.2.2.2.1,()),(v40.1.1,v40.1.2.1,v40.1.2.2.1,()),())
            |some (.inr v42)=>
             none
           |false=>
            match ac co ((v31.2.1.1,v31.2.1.2.1,v31.2.1.2.2.1,()),(v28.2.1.1,v28.2.1.2.1,v28.2.1.2.2.1,v28.2.1.2.2.2.1,()),((3:Int),[((0:Int),([97]:List UInt8),(0:Int),false,())],[((2:Int),(16:Int),[],())],[],()),[],(0:Int),())with
            |none=>none
            |some (.inl v43)=>
             some ((v43.2.2.1.1,v43.2.2.1.2.1,v43.2.2.1.2.2.1,v43.2.2.2.1,()),(v43.1.1,v43.1.2.1,v43.1.2.2.1,()),())
            |some (.inr v45)=>
             none
          |false=>
           some ((v28.2.2.1.1,v28.2.2.1.2.1,v28.2.2.1.2.2.1,v28.2.2.1.2.2.2.1,()),(v30.2.1.1,v30.2.1.2.1,v30.2.1.2.2.1,()),())
         |some (.inr v46)=>
          none
        |false=>
         some ((v1.1.1,v1.1.2.1,v1.1.2.2.1,v1.1.2.2.2.1,()),(v3.2.1.1,v3.2.1.2.1,v3.2.1.2.2.1,()),())
noncomputable def IK:ae:=⟨_,pE,gq,rfl,kW⟩
noncomputable def oS:FuncId→Option ae:=bU [(42,g0),(192,D5),(193,xe),(194,xf),(195,xg)]
theorem Dp:∀f s,oS f=some s→FnOK G0 Tryz.prog f s:=aM ⟨cn,L6,GD,GG,GH,trivial⟩
def sv:aX:=⟨[0,2,3,5],mk,1,[0,2,3],sq,[],.unit⟩
def sx:aX:=⟨[0,2,3,6,7],ml,3,[0,2,3,6],su,[],.unit⟩
noncomputable def oT:List aJ:=[sv.spec dw,sx.spec co]
theorem Aw:bq bI E0 oS (bo Tryz.f144 oT) Tryz.f144 0 sv dw:=fun x=>by kernel_rfl
theorem Ax:bq bI E0 oS (bo Tryz.f144 oT) Tryz.f144 1 sx co:=fun x=>by kernel_rfl
theorem GI:FnOK G0 Tryz.prog 144 IK:=aP ao Dp Tryz.func144 oT (by kernel_rfl) (by exact⟨(Aw).lok,(Ax).lok,trivial⟩) fun x=>by kernel_rfl
noncomputable def av(x:Ty.T gq):Option (Ty.T Uq):=
match aa ((x.1.1,x.1.2.1,x.1.2.2.1,()),(200:Int),())with
|none=>none
|some v1=>
match aa ((v1.2.1.1,v1.2.1.2.1,v1.2.1.2.2.1,()),(3:Int),())with
|none=>none
|some v2=>
match aa ((v2.2.1.1,v2.2.1.2.1,v2.2.1.2.2.1,()),(3:Int),())with
|none=>none
|some v3=>
match aa ((v3.2.1.1,v3.2.1.2.1,v3.2.1.2.2.1,()),(6:Int),())with
|none=>none
|some v4=>
match aa ((v4.2.1.1,v4.2.1.2.1,v4.2.1.2.2.1,()),(256:Int),())with
|none=>none
|some v5=>
match aa ((v5.2.1.1,v5.2.1.2.1,v5.2.1.2.2.1,()),(8:Int),())with
|none=>none
|some v6=>
match(v6.1==(0:Int))with
|true=>
 match aa ((v6.2.1.1,v6.2.1.2.1,v6.2.1.2.2.1,()),(9:Int),())with
 |none=>none
 |some v7=>
 match aa ((v7.2.1.1,v7.2.1.2.1,v7.2.1.2.2.1,()),(16:Int),())with
 |none=>none
 |some v8=>
 match aa ((v8.2.1.1,v8.2.1.2.1,v8.2.1.2.2.1,()),(16:Int),())with
 |none=>none
 |some v9=>
 match aa ((v9.2.1.1,v9.2.1.2.1,v9.2.1.2.2.1,()),(256:Int),())with
 |none=>none
 |some v10=>
 match aa ((v10.2.1.1,v10.2.1.2.1,v10.2.1.2.2.1,()),(99:Int),())with
 |none=>none
 |some v11=>
 some (((IntKind.i64.wrap ((65535:Int)-v7.1)),v8.1,v9.1,v10.1,(IntKind.i64.wrap ((4294967295:Int)-v11.1)),()),(v11.2.1.1,v11.2.1.2.1,v11.2.1.2.2.1,()),())
|false=>
 some ((v1.1,v2.1,v3.1,v4.1,v5.1,()),(v6.2.1.1,v6.2.1.2.1,v6.2.1.2.2.1,()),())
noncomputable def vZ:ae:=⟨_,vU,gq,rfl,av⟩
theorem ub:FnOK G0 Tryz.prog 91 vZ:=an ao (sg cn (aR)) Tryz.func91
noncomputable def kX(x:Ty.T gq):Option (Ty.T Uq):=
match av ((x.1.1,x.1.2.1,x.1.2.2.1,()),())with
|none=>none
|some v1=>
match aa ((v1.2.1.1,v1.2.1.2.1,v1.2.1.2.2.1,()),(30:Int),())with
|none=>none
|some v2=>
match(v2.1==(0:Int))with
|true=>
 match aa ((v2.2.1.1,v2.2.1.2.1,v2.2.1.2.2.1,()),(3:Int),())with
 |none=>none
 |some v3=>
 ab (au [(-1:Int),(65535:Int),(65536:Int)] v3.1) fun _=>
 match [(-1:Int),(65535:Int),(65536:Int)][v3.1.toNat]? with
 |none=>none
 |some v5=>
 some ((v5,v1.1.2.1,v1.1.2.2.1,v1.1.2.2.2.1,v1.1.2.2.2.2.1,()),(v3.2.1.1,v3.2.1.2.1,v3.2.1.2.2.1,()),())
|false=>
 match(v2.1==(1:Int))with
 |true=>
  match aa ((v2.2.1.1,v2.2.1.2.1,v2.2.1.2.2.1,()),(2:Int),())with
  |none=>none
  |some v6=>
  ab (au [(-1:Int),(16:Int)] v6.1) fun _=>
  match [(-1:Int),(16:Int)][v6.1.toNat]? with
  |none=>none
  |some v8=>
  some ((v1.1.1,v8,v1.1.2.2.1,v1.1.2.2.2.1,v1.1.2.2.2.2.1,()),(v6.2.1.1,v6.2.1.2.1,v6.2.1.2.2.1,()),())
 |false=>
  match(v2.1==(2:Int))with
  |true=>
   match aa ((v2.2.1.1,v2.2.1.2.1,v2.2.1.2.2.1,()),(2:Int),())with
   |none=>none
   |some v9=>
   ab (au [(-1:Int),(16:Int)] v9.1) fun _=>
   match [(-1:Int),(16:Int)][v9.1.toNat]? with
   |none=>none
   |some v11=>
   some ((v1.1.1,v1.1.2.1,v11,v1.1.2.2.2.1,v1.1.2.2.2.2.1,()),(v9.2.1.1,v9.2.1.2.1,v9.2.1.2.2.1,()),())
  |false=>
   match(v2.1==(3:Int))with
   |true=>
    match aa ((v2.2.1.1,v2.2.1.2.1,v2.2.1.2.2.1,()),(2:Int),())with
    |none=>none
    |some v12=>
    ab (au [(-1:Int),(256:Int)] v12.1) fun _=>
    match [(-1:Int),(256:Int)][v12.1.toNat]? with
    |none=>none
    |some v14=>
    some ((v1.1.1,v1.1.2.1,v1.1.2.2.1,v14,v1.1.2.2.2.2.1,()),(v12.2.1.1,v12.2.1.2.1,v12.2.1.2.2.1,()),())
   |false=>
    match(v2.1==(4:Int))with
    |true=>
     match aa ((v2.2.1.1,v2.2.1.2.1,v2.2.1.2.2.1,()),(2:Int),())with
     |none=>none
     |some v15=>
     ab (au [(-1:Int),(4294967296:Int)] v15.1) fun _=>
     match [(-1:Int),(4294967296:Int)][v15.1.toNat]? with
     |none=>none
     |some v17=>
     some ((v1.1.1,v1.1.2.1,v1.1.2.2.1,v1.1.2.2.2.1,v17,()),(v15.2.1.1,v15.2.1.2.1,v15.2.1.2.2.1,()),())
    |false=>
     some ((v1.1.1,v1.1.2.1,v1.1.2.2.1,v1.1.2.2.2.1,v1.1.2.2.2.2.1,()),(v2.2.1.1,v2.2.1.2.1,v2.2.1.2.2.1,()),())
noncomputable def IL:ae:=⟨_,vU,gq,rfl,kX⟩
theorem vz:FnOK G0 Tryz.prog 145 IL:=an ao (sg cn (sg ub (aR))) Tryz.func145
noncomputable def vA(x:Ty.T gq):Option (Ty.T (.pair ap (.pair ak (.pair (.box al) .unit)))):=
match kW ((x.1.1,x.1.2.1,x.1.2.2.1,()),())with
|none=>none
|some v1=>
match kX ((v1.2.1.1,v1.2.1.2.1,v1.2.1.2.2.1,()),())with
|none=>none
|some v2=>
match gE ((v1.1.1,v1.1.2.1,v1.1.2.2.1,v1.1.2.2.2.1,()),())with
|none=>none
|some v3=>
match(!v3.1)with
|true=>
 ai (
  some ((v1.1.1,v1.1.2.1,v1.1.2.2.1,v1.1.2.2.2.1,()),(v2.1.1,v2.1.2.1,v2.1.2.2.1,v2.1.2.2.2.1,v2.1.2.2.2.2.1,()),(v2.2.1.1,v2.2.1.2.1,v2.2.1.2.2.1,()),()))
|false=>
 match aa ((v2.2.1.1,v2.2.1.2.1,v2.2.1.2.2.1,()),(16:Int),())with
 |none=>none
 |some v4=>
 match(v4.1==(0:Int))with
 |true=>
  ai (
   some ((v1.1.1,v1.1.2.1,v1.1.2.2.1,v1.1.2.2.2.1,()),(v2.1.1,v2.1.2.1,v2.1.2.2.1,v2.1.2.2.2.1,v2.1.2.2.2.2.1,()),(v4.2.1.1,v4.2.1.2.1,v4.2.1.2.2.1,()),()))
 |false=>
  match aa ((v4.2.1.1,v4.2.1.2.1,v4.2.1.2.2.1,()),(65536:Int),())with
  |none=>none
  |some v5=>
  match aa ((v5.2.1.1,v5.2.1.2.1,v5.2.1.2.2.1,()),(v1.1.2.2.1.length:Int),())with
  |none=>none
  |some v6=>
  ag (
   ab (au v1.1.2.2.1 v6.1) fun v7=>
   ai (
    match aa ((v6.2.1.1,v6.2.1.2.1,v6.2.1.2.2.1,()),(30:Int),())with
    |none=>none
    |some v8=>
    match aa ((v8.2.1.1,v8.2.1.2.1,v8.2.1.2.2.1,()),(IntKind.i64.wrap (v7.1+(IntKind.i64.wrap (Int.tdiv v8.1 (29:Int))))),())with
    |none=>none
    |some v9=>
    ag (
     ab (au v1.1.2.2.1 v6.1) fun v10=>
     ai (
      match aa ((v9.2.1.1,v9.2.1.2.1,v9.2.1.2.2.1,()),(30:Int),())with
      |none=>none
      |some v11=>
      match aa ((v11.2.1.1,v11.2.1.2.1,v11.2.1.2.2.1,()),(IntKind.i64.wrap (v10.2.1+(IntKind.i64.wrap (Int.tdiv v11.1 (29:Int))))),())with
      |none=>none
      |some v12=>
      match cG (v1.1.2.1,())with
      |none=>none
      |some v13=>
      match aa ((v12.2.1.1,v12.2.1.2.1,v12.2.1.2.2.1,()),(3:Int),())with
      |none=>none
      |some v14=>
      match(v14.1==(0:Int))with
      |true=>
       ai (
        match aa ((v14.2.1.1,v14.2.1.2.1,v14.2.1.2.2.1,()),(256:Int),())with
        |none=>none
        |some v15=>
        match aa ((v15.2.1.1,v15.2.1.2.1,v15.2.1.2.2.1,()),(30:Int),())with
        |none=>none
        |some v16=>
        match(v16.1==(0:Int))with
        |true=>
         ai (
          match aa ((v16.2.1.1,v16.2.1.2.1,v16.2.1.2.2.1,()),(10:Int),())with
          |none=>none
          |some v17=>
          if(IntKind.u64.wrap v17.1)<0 then none else
          ai (
           some ((v1.1.1,v1.1.2.1,v1.1.2.2.1,v1.1.2.2.2.1,()),(v5.1,v6.1,v9.1,v12.1,(bits BinOp.xor .i64 (bits BinOp.and .i64 v13.1 v15.1) (IntKind.i64.wrap ((1:Int)*2^min (IntKind.u64.wrap v17.1).toNat IntKind.i64.bits))),()),(v17.2.1.1,v17.2.1.2.1,v17.2.1.2.2.1,()),())))
        |false=>
         ai (
          some ((v1.1.1,v1.1.2.1,v1.1.2.2.1,v1.1.2.2.2.1,()),(v5.1,v6.1,v9.1,v12.1,(bits BinOp.and .i64 v13.1 v15.1),()),(v16.2.1.1,v16.2.1.2.1,v16.2.1.2.2.1,()),())))
      |false=>
       match aa ((v14.2.1.1,v14.2.1.2.1,v14.2.1.2.2.1,()),(30:Int),())with
       |none=>none
       |some v18=>
       match(v18.1==(0:Int))with
       |true=>
        ai (
         match aa ((v18.2.1.1,v18.2.1.2.1,v18.2.1.2.2.1,()),(10:Int),())with
         |none=>none
         |some v19=>
         if(IntKind.u64.wrap v19.1)<0 then none else
         ai (
          some ((v1.1.1,v1.1.2.1,v1.1.2.2.1,v1.1.2.2.2.1,()),(v5.1,v6.1,v9.1,v12.1,(bits BinOp.xor .i64 v13.1 (IntKind.i64.wrap ((1:Int)*2^min (IntKind.u64.wrap v19.1).toNat IntKind.i64.bits))),()),(v19.2.1.1,v19.2.1.2.1,v19.2.1.2.2.1,()),())))
       |false=>
        ai (
         some ((v1.1.1,v1.1.2.1,v1.1.2.2.1,v1.1.2.2.2.1,()),(v5.1,v6.1,v9.1,v12.1,v13.1,()),(v18.2.1.1,v18.2.1.2.1,v18.2.1.2.2.1,()),())))) (
     match aa ((v9.2.1.1,v9.2.1.2.1,v9.2.1.2.2.1,()),(30:Int),())with
     |none=>none
     |some v10=>
     ab (au v1.1.2.2.1 v6.1) fun v11=>
     match aa ((v10.2.1.1,v10.2.1.2.1,v10.2.1.2.2.1,()),(IntKind.i64.wrap (v11.2.1+(IntKind.i64.wrap (Int.tdiv v10.1 (29:Int))))),())with
     |none=>none
     |some v12=>
     match cG (v1.1.2.1,())with
     |none=>none
     |some v13=>
     match aa ((v12.2.1.1,v12.2.1.2.1,v12.2.1.2.2.1,()),(3:Int),())with
     |none=>none
     |some v14=>
     match(v14.1==(0:Int))with
     |true=>
      ai (
       match aa ((v14.2.1.1,v14.2.1.2.1,v14.2.1.2.2.1,()),(256:Int),())with
       |none=>none
       |some v15=>
       match aa ((v15.2.1.1,v15.2.1.2.1,v15.2.1.2.2.1,()),(30:Int),())with
       |none=>none
       |some v16=>
       match(v16.1==(0:Int))with
       |true=>
        ai (
         match aa ((v16.2.1.1,v16.2.1.2.1,v16.2.1.2.2.1,()),(10:Int),())with
         |none=>none
         |some v17=>
         if(IntKind.u64.wrap v17.1)<0 then none else
         ai (
          some ((v1.1.1,v1.1.2.1,v1.1.2.2.1,v1.1.2.2.2.1,()),(v5.1,v6.1,v9.1,v12.1,(bits BinOp.xor .i64 (bits BinOp.and .i64 v13.1 v15.1) (IntKind.i64.wrap ((1:Int)*2^min (IntKind.u64.wrap v17.1).toNat IntKind.i64.bits))),()),(v17.2.1.1,v17.2.1.2.1,v17.2.1.2.2.1,()),())))
       |false=>
        ai (
         some ((v1.1.1,v1.1.2.1,v1.1.2.2.1,v1.1.2.2.2.1,()),(v5.1,v6.1,v9.1,v12.1,(bits BinOp.and .i64 v13.1 v15.1),()),(v16.2.1.1,v16.2.1.2.1,v16.2.1.2.2.1,()),())))
     |false=>
      match aa ((v14.2.1.1,v14.2.1.2.1,v14.2.1.2.2.1,()),(30:Int),())with
      |none=>none
      |some v18=>
      match(v18.1==(0:Int))with
      |true=>
       ai (
        match aa ((v18.2.1.1,v18.2.1.2.1,v18.2.1.2.2.1,()),(10:Int),())with
        |none=>none
        |some v19=>
        if(IntKind.u64.wrap v19.1)<0 then none else
        ai (
         some ((v1.1.1,v1.1.2.1,v1.1.2.2.1,v1.1.2.2.2.1,()),(v5.1,v6.1,v9.1,v12.1,(bits BinOp.xor .i64 v13.1 (IntKind.i64.wrap ((1:Int)*2^min (IntKind.u64.wrap v19.1).toNat IntKind.i64.bits))),()),(v19.2.1.1,v19.2.1.2.1,v19.2.1.2.2.1,()),())))
      |false=>
       ai (
        some ((v1.1.1,v1.1.2.1,v1.1.2.2.1,v1.1.2.2.2.1,()),(v5.1,v6.1,v9.1,v12.1,v13.1,()),(v18.2.1.1,v18.2.1.2.1,v18.2.1.2.2.1,()),()))))) (
   match aa ((v6.2.1.1,v6.2.1.2.1,v6.2.1.2.2.1,()),(30:Int),())with
   |none=>none
   |some v7=>
   ab (au v1.1.2.2.1 v6.1) fun v8=>
   match aa ((v7.2.1.1,v7.2.1.2.1,v7.2.1.2.2.1,()),(IntKind.i64.wrap (v8.1+(IntKind.i64.wrap (Int.tdiv v7.1 (29:Int))))),())with
   |none=>none
   |some v9=>
   ag (
    ab (au v1.1.2.2.1 v6.1) fun v10=>
    ai (
     match aa ((v9.2.1.1,v9.2.1.2.1,v9.2.1.2.2.1,()),(30:Int),())with
     |none=>none
     |some v11=>
     match aa ((v11.2.1.1,v11.2.1.2.1,v11.2.1.2.2.1,()),(IntKind.i64.wrap (v10.2.1+(IntKind.i64.wrap (Int.tdiv v11.1 (29:Int))))),())with
     |none=>none
     |some v12=>
     match cG (v1.1.2.1,())with
     |none=>none
     |some v13=>
     match aa ((v12.2.1.1,v12.2.1.2.1,v12.2.1.2.2.1,()),(3:Int),())with
     |none=>none
     |some v14=>
     match(v14.1==(0:Int))with
     |true=>
      ai (
       match aa ((v14.2.1.1,v14.2.1.2.1,v14.2.1.2.2.1,()),(256:Int),())with
       |none=>none
       |some v15=>
       match aa ((v15.2.1.1,v15.2.1.2.1,v15.2.1.2.2.1,()),(30:Int),())with
       |none=>none
       |some v16=>
       match(v16.1==(0:Int))with
       |true=>
        ai (
         match aa ((v16.2.1.1,v16.2.1.2.1,v16.2.1.2.2.1,()),(10:Int),())with
         |none=>none
         |some v17=>
         if(IntKind.u64.wrap v17.1)<0 then none else
         ai (
          some ((v1.1.1,v1.1.2.1,v1.1.2.2.1,v1.1.2.2.2.1,()),(v5.1,v6.1,v9.1,v12.1,(bits BinOp.xor .i64 (bits BinOp.and .i64 v13.1 v15.1) (IntKind.i64.wrap ((1:Int)*2^min (IntKind.u64.wrap v17.1).toNat IntKind.i64.bits))),()),(v17.2.1.1,v17.2.1.2.1,v17.2.1.2.2.1,()),())))
       |false=>
        ai (
         some ((v1.1.1,v1.1.2.1,v1.1.2.2.1,v1.1.2.2.2.1,()),(v5.1,v6.1,v9.1,v12.1,(bits BinOp.and .i64 v13.1 v15.1),()),(v16.2.1.1,v16.2.1.2.1,v16.2.1.2.2.1,()),())))
     |false=>
      match aa ((v14.2.1.1,v14.2.1.2.1,v14.2.1.2.2.1,()),(30:Int),())with
      |none=>none
      |some v18=>
      match(v18.1==(0:Int))with
      |true=>
       ai (
        match aa ((v18.2.1.1,v18.2.1.2.1,v18.2.1.2.2.1,()),(10:Int),())with
        |none=>none
        |some v19=>
        if(IntKind.u64.wrap v19.1)<0 then none else
        ai (
         some ((v1.1.1,v1.1.2.1,v1.1.2.2.1,v1.1.2.2.2.1,()),(v5.1,v6.1,v9.1,v12.1,(bits BinOp.xor .i64 v13.1 (IntKind.i64.wrap ((1:Int)*2^min (IntKind.u64.wrap v19.1).toNat IntKind.i64.bits))),()),(v19.2.1.1,v19.2.1.2.1,v19.2.1.2.2.1,()),())))
      |false=>
       ai (
        some ((v1.1.1,v1.1.2.1,v1.1.2.2.1,v1.1.2.2.2.1,()),(v5.1,v6.1,v9.1,v12.1,v13.1,()),(v18.2.1.1,v18.2.1.2.1,v18.2.1.2.2.1,()),())))) (
    match aa ((v9.2.1.1,v9.2.1.2.1,v9.2.1.2.2.1,()),(30:Int),())with
    |none=>none
    |some v10=>
    ab (au v1.1.2.2.1 v6.1) fun v11=>
    match aa ((v10.2.1.1,v10.2.1.2.1,v10.2.1.2.2.1,()),(IntKind.i64.wrap (v11.2.1+(IntKind.i64.wrap (Int.tdiv v10.1 (29:Int))))),())with
    |none=>none
    |some v12=>
    match cG (v1.1.2.1,())with
    |none=>none
    |some v13=>
    match aa ((v12.2.1.1,v12.2.1.2.1,v12.2.1.2.2.1,()),(3:Int),())with
    |none=>none
    |some v14=>
    match(v14.1==(0:Int))with
    |true=>
     ai (
      match aa ((v14.2.1.1,v14.2.1.2.1,v14.2.1.2.2.1,()),(256:Int),())with
      |none=>none
      |some v15=>
      match aa ((v15.2.1.1,v15.2.1.2.1,v15.2.1.2.2.1,()),(30:Int),())with
      |none=>none
      |some v16=>
      match(v16.1==(0:Int))with
      |true=>
       ai (
        match aa ((v16.2.1.1,v16.2.1.2.1,v16.2.1.2.2.1,()),(10:Int),())with
        |none=>none
        |some v17=>
        if(IntKind.u64.wrap v17.1)<0 then none else
        ai (
         some ((v1.1.1,v1.1.2.1,v1.1.2.2.1,v1.1.2.2.2.1,()),(v5.1,v6.1,v9.1,v12.1,(bits BinOp.xor .i64 (bits BinOp.and .i64 v13.1 v15.1) (IntKind.i64.wrap ((1:Int)*2^min (IntKind.u64.wrap v17.1).toNat IntKind.i64.bits))),()),(v17.2.1.1,v17.2.1.2.1,v17.2.1.2.2.1,()),())))
      |false=>
       ai (
        some ((v1.1.1,v1.1.2.1,v1.1.2.2.1,v1.1.2.2.2.1,()),(v5.1,v6.1,v9.1,v12.1,(bits BinOp.and .i64 v13.1 v15.1),()),(v16.2.1.1,v16.2.1.2.1,v16.2.1.2.2.1,()),())))
    |false=>
     match aa ((v14.2.1.1,v14.2.1.2.1,v14.2.1.2.2.1,()),(30:Int),())with
     |none=>none
     |some v18=>
     match(v18.1==(0:Int))with
     |true=>
      ai (
       match aa ((v18.2.1.1,v18.2.1.2.1,v18.2.1.2.2.1,()),(10:Int),())with
       |none=>none
       |some v19=>
       if(IntKind.u64.wrap v19.1)<0 then none else
       ai (
        some ((v1.1.1,v1.1.2.1,v1.1.2.2.1,v1.1.2.2.2.1,()),(v5.1,v6.1,v9.1,v12.1,(bits BinOp.xor .i64 v13.1 (IntKind.i64.wrap ((1:Int)*2^min (IntKind.u64.wrap v19.1).toNat IntKind.i64.bits))),()),(v19.2.1.1,v19.2.1.2.1,v19.2.1.2.2.1,()),())))
     |false=>
      ai (
       some ((v1.1.1,v1.1.2.1,v1.1.2.2.1,v1.1.2.2.2.1,()),(v5.1,v6.1,v9.1,v12.1,v13.1,()),(v18.2.1.1,v18.2.1.2.1,v18.2.1.2.2.1,()),()))))
noncomputable def D6:ae:=⟨_,vV,gq,rfl,vA⟩
theorem L8:FnOK G0 Tryz.prog 86 D6:=an ao (sg cn (sg vX (sg GI (sg vz (sg ju (aR)))))) Tryz.func86
noncomputable def qh(x:Ty.T vV):Option (Ty.T ax):=
match gE ((x.1.1,x.1.2.1,x.1.2.2.1,x.1.2.2.2.1,()),())with
|none=>none
|some v1=>
match v1.1 with
|true=>
 match gd ((x.1.1,x.1.2.1,x.1.2.2.1,x.1.2.2.2.1,()),(x.2.1.1,x.2.1.2.1,x.2.1.2.2.1,x.2.1.2.2.2.1,x.2.1.2.2.2.2.1,()),())with
 |none=>none
 |some v2=>
 some (v2.1,())
|false=>
 some (false,())
noncomputable def zG:ae:=⟨_,ax,.unit,rfl,qh⟩
theorem IM:FnOK G0 Tryz.prog 87 zG:=an ao (sg vX (sg vt (aR))) Tryz.func87
abbrev kY:Ty:=(.pair (.box al) (.pair (.own 2 (.int .i64)) (.pair (.int .i64) .unit)))
abbrev qI:Ty:=(.pair (.box al) (.pair (.own 2 (.int .i64)) .unit))
noncomputable def eU(x:(Ty.T kY)):Option ((Ty.T kY) ⊕ ((Ty.T qI) ⊕ (Ty.T .unit))):=
match(decide (x.2.2.1>(0:Int)))with
|true=>
 match aa ((x.1.1,x.1.2.1,x.1.2.2.1,()),(256:Int),())with
 |none=>none
 |some v2=>
 aD (x.2.1.length+ [v2.1].length) (
  some (.inl ((v2.2.1.1,v2.2.1.2.1,v2.2.1.2.2.1,()),(x.2.1++ [v2.1]),(IntKind.i64.wrap (x.2.2.1-(1:Int))),())))
|false=>
 some (.inr (.inl ((x.1.1,x.1.2.1,x.1.2.2.1,()),x.2.1,())))
noncomputable def eV(x:Ty.T Uv):Option (Ty.T (.pair (.own 2 (.int .i64)) (.pair (.box al) .unit))):=
match aa ((x.1.1,x.1.2.1,x.1.2.2.1,()),(IntKind.i64.wrap (x.2.1+(1:Int))),())with
|none=>none
|some v1=>
match ac eU ((v1.2.1.1,v1.2.1.2.1,v1.2.1.2.2.1,()),[],v1.1,())with
|none=>none
|some (.inl v3)=>
 match aa ((v3.1.1,v3.1.2.1,v3.1.2.2.1,()),(40:Int),())with
 |none=>none
 |some v5=>
 match(v5.1==(0:Int))with
 |true=>
  match aa ((v5.2.1.1,v5.2.1.2.1,v5.2.1.2.2.1,()),(2:Int),())with
  |none=>none
  |some v6=>
  ab (au [(256:Int),(-1:Int)] v6.1) fun _=>
  match [(256:Int),(-1:Int)][v6.1.toNat]? with
  |none=>none
  |some v8=>
  aD (v3.2.1.length+ [v8].length) (
   some ((v3.2.1++ [v8]),(v6.2.1.1,v6.2.1.2.1,v6.2.1.2.2.1,()),()))
 |false=>
  match(v5.1==(1:Int))with
  |true=>
   match aa ((v5.2.1.1,v5.2.1.2.1,v5.2.1.2.2.1,()),(2:Int),())with
   |none=>none
   |some v9=>
   if 0≤(IntKind.i64.wrap ((1024:Int)+v9.1))∧(IntKind.i64.wrap ((1024:Int)+v9.1))≤(IntKind.i64.wrap ((1024:Int)+v9.1))then
    aD ((IntKind.i64.wrap ((1024:Int)+v9.1)).toNat) (
     some ((List.replicate (IntKind.i64.wrap ((1024:Int)+v9.1)).toNat (0:Int)),(v9.2.1.1,v9.2.1.2.1,v9.2.1.2.2.1,()),()))
   else none
  |false=>
   some (v3.2.1,(v5.2.1.1,v5.2.1.2.1,v5.2.1.2.2.1,()),())
|some (.inr v10)=>
 none
noncomputable def Fa:ae:=⟨_,br,gq,rfl,eV⟩
noncomputable def sy:FuncId→Option ae:=bU [(42,g0)]
theorem Ay:∀f s,sy f=some s→FnOK G0 Tryz.prog f s:=aM ⟨cn,trivial⟩
def qJ:aX:=⟨[0,5,6],kY,0,[0,5],qI,[],.unit⟩
noncomputable def sz:List aJ:=[qJ.spec eU]
theorem yw:bq bI E0 sy (bo Tryz.f41 sz) Tryz.f41 0 qJ eU:=fun x=>by kernel_rfl
theorem sA:FnOK G0 Tryz.prog 41 Fa:=aP ao Ay Tryz.func41 sz (by kernel_rfl) (by exact⟨(yw).lok,trivial⟩) fun x=>by kernel_rfl
abbrev rG:Ty:=(.pair (.box al) (.pair (.box aL) (.pair (.box aL) (.pair (.own 2 (.int .i64)) (.pair (.int .i64) .unit)))))
abbrev zH:Ty:=(.pair (.box al) (.pair (.box aL) (.pair (.box aL) (.pair (.own 2 (.int .i64)) .unit))))
noncomputable def gH(x:(Ty.T rG)):Option ((Ty.T rG) ⊕ ((Ty.T zH) ⊕ (Ty.T .unit))):=
match(decide (x.2.2.2.2.1>(0:Int)))with
|true=>
 match aa ((x.1.1,x.1.2.1,x.1.2.2.1,()),(256:Int),())with
 |none=>none
 |some v7=>
 aD (x.2.2.2.1.length+ [v7.1].length) (
  some (.inl ((v7.2.1.1,v7.2.1.2.1,v7.2.1.2.2.1,()),(x.2.1.1,x.2.1.2.1,(x.2.1.2.2.1.1,x.2.1.2.2.1.2.1,x.2.1.2.2.1.2.2.1,x.2.1.2.2.1.2.2.2.1,x.2.1.2.2.1.2.2.2.2.1,()),x.2.1.2.2.2.1,()),(x.2.2.1.1,x.2.2.1.2.1,(x.2.2.1.2.2.1.1,x.2.2.1.2.2.1.2.1,x.2.2.1.2.2.1.2.2.1,x.2.2.1.2.2.1.2.2.2.1,x.2.2.1.2.2.1.2.2.2.2.1,()),x.2.2.1.2.2.2.1,()),(x.2.2.2.1++ [v7.1]),(IntKind.i64.wrap (x.2.2.2.2.1-(1:Int))),())))
|false=>
 some (.inr (.inl ((x.1.1,x.1.2.1,x.1.2.2.1,()),(x.2.1.1,x.2.1.2.1,(x.2.1.2.2.1.1,x.2.1.2.2.1.2.1,x.2.1.2.2.1.2.2.1,x.2.1.2.2.1.2.2.2.1,x.2.1.2.2.1.2.2.2.2.1,()),x.2.1.2.2.2.1,()),(x.2.2.1.1,x.2.2.1.2.1,(x.2.2.1.2.2.1.1,x.2.2.1.2.2.1.2.1,x.2.2.1.2.2.1.2.2.1,x.2.2.1.2.2.1.2.2.2.1,x.2.2.1.2.2.1.2.2.2.2.1,()),x.2.2.1.2.2.2.1,()),x.2.2.2.1,())))
noncomputable def nT(x:Ty.T gq):Option (Ty.T Ur):=
match aa ((x.1.1,x.1.2.1,x.1.2.2.1,()),(4:Int),())with
|none=>none
|some v1=>
match aa ((v1.2.1.1,v1.2.1.2.1,v1.2.1.2.2.1,()),(8:Int),())with
|none=>none
|some v2=>
match cU (v1.1,())with
|none=>none
|some v3=>
match v3.1 with
|true=>
 match av ((v2.2.1.1,v2.2.1.2.1,v2.2.1.2.2.1,()),())with
 |none=>none
 |some v4=>
 match eP (v1.1,())with
 |none=>none
 |some v5=>
 match v5.1 with
 |true=>
  match aa ((v4.2.1.1,v4.2.1.2.1,v4.2.1.2.2.1,()),(6:Int),())with
  |none=>none
  |some v6=>
  match ac gH ((v6.2.1.1,v6.2.1.2.1,v6.2.1.2.2.1,()),((0:Int),(0:Int),((0:Int),(0:Int),(0:Int),(0:Int),(0:Int),()),[],()),(v1.1,v2.1,(v4.1.1,v4.1.2.1,v4.1.2.2.1,v4.1.2.2.2.1,v4.1.2.2.2.2.1,()),[],()),[],(IntKind.i64.wrap ((1:Int)+v6.1)),())with
  |none=>none
  |some (.inl v8)=>
   match(v8.2.2.1.1==(3:Int))with
   |true=>
    match aa ((v8.1.1,v8.1.2.1,v8.1.2.2.1,()),(10:Int),())with
    |none=>none
    |some v10=>
    if(IntKind.u64.wrap v10.1)<0 then none else
    some ((v8.2.2.1.1,(0:Int),(v8.2.2.1.2.2.1.1,(0:Int),v8.2.2.1.2.2.1.2.2.1,v8.2.2.1.2.2.1.2.2.2.1,(IntKind.i64.wrap ((1:Int)*2^min (IntKind.u64.wrap v10.1).toNat IntKind.i64.bits)),()),v8.2.2.2.1,()),(v10.2.1.1,v10.2.1.2.1,v10.2.1.2.2.1,()),())
   |false=>
    some ((v8.2.2.1.1,v8.2.2.1.2.1,(v8.2.2.1.2.2.1.1,v8.2.2.1.2.2.1.2.1,v8.2.2.1.2.2.1.2.2.1,v8.2.2.1.2.2.1.2.2.2.1,v8.2.2.1.2.2.1.2.2.2.2.1,()),v8.2.2.2.1,()),(v8.1.1,v8.1.2.1,v8.1.2.2.1,()),())
  |some (.inr v11)=>
   none
 |false=>
  match(v1.1==(3:Int))with
  |true=>
   match aa ((v4.2.1.1,v4.2.1.2.1,v4.2.1.2.2.1,()),(10:Int),())with
   |none=>none
   |some v12=>
   if(IntKind.u64.wrap v12.1)<0 then none else
   some ((v1.1,(0:Int),(v4.1.1,(0:Int),v4.1.2.2.1,v4.1.2.2.2.1,(IntKind.i64.wrap ((1:Int)*2^min (IntKind.u64.wrap v12.1).toNat IntKind.i64.bits)),()),[],()),(v12.2.1.1,v12.2.1.2.1,v12.2.1.2.2.1,()),())
  |false=>
   some ((v1.1,v2.1,(v4.1.1,v4.1.2.1,v4.1.2.2.1,v4.1.2.2.2.1,v4.1.2.2.2.2.1,()),[],()),(v4.2.1.1,v4.2.1.2.1,v4.2.1.2.2.1,()),())
|false=>
 match eP (v1.1,())with
 |none=>none
 |some v13=>
 match v13.1 with
 |true=>
  match aa ((v2.2.1.1,v2.2.1.2.1,v2.2.1.2.2.1,()),(6:Int),())with
  |none=>none
  |some v14=>
  match ac gH ((v14.2.1.1,v14.2.1.2.1,v14.2.1.2.2.1,()),((0:Int),(0:Int),((0:Int),(0:Int),(0:Int),(0:Int),(0:Int),()),[],()),(v1.1,v2.1,((0:Int),(0:Int),(0:Int),(0:Int),(0:Int),()),[],()),[],(IntKind.i64.wrap ((1:Int)+v14.1)),())with
  |none=>none
  |some (.inl v15)=>
   match(v15.2.2.1.1==(3:Int))with
   |true=>
    match aa ((v15.1.1,v15.1.2.1,v15.1.2.2.1,()),(10:Int),())with
    |none=>none
    |some v17=>
    if(IntKind.u64.wrap v17.1)<0 then none else
    some ((v15.2.2.1.1,(0:Int),(v15.2.2.1.2.2.1.1,(0:Int),v15.2.2.1.2.2.1.2.2.1,v15.2.2.1.2.2.1.2.2.2.1,(IntKind.i64.wrap ((1:Int)*2^min (IntKind.u64.wrap v17.1).toNat IntKind.i64.bits)),()),v15.2.2.2.1,()),(v17.2.1.1,v17.2.1.2.1,v17.2.1.2.2.1,()),())
   |false=>
    some ((v15.2.2.1.1,v15.2.2.1.2.1,(v15.2.2.1.2.2.1.1,v15.2.2.1.2.2.1.2.1,v15.2.2.1.2.2.1.2.2.1,v15.2.2.1.2.2.1.2.2.2.1,v15.2.2.1.2.2.1.2.2.2.2.1,()),v15.2.2.2.1,()),(v15.1.1,v15.1.2.1,v15.1.2.2.1,()),())
  |some (.inr v18)=>
   none
 |false=>
  match(v1.1==(3:Int))with
  |true=>
   match aa ((v2.2.1.1,v2.2.1.2.1,v2.2.1.2.2.1,()),(10:Int),())with
   |none=>none
   |some v19=>
   if(IntKind.u64.wrap v19.1)<0 then none else
   some ((v1.1,(0:Int),((0:Int),(0:Int),(0:Int),(0:Int),(IntKind.i64.wrap ((1:Int)*2^min (IntKind.u64.wrap v19.1).toNat IntKind.i64.bits)),()),[],()),(v19.2.1.1,v19.2.1.2.1,v19.2.1.2.2.1,()),())
  |false=>
   some ((v1.1,v2.1,((0:Int),(0:Int),(0:Int),(0:Int),(0:Int),()),[],()),(v2.2.1.1,v2.2.1.2.1,v2.2.1.2.2.1,()),())
noncomputable def NI:ae:=⟨_,Ij,gq,rfl,nT⟩
noncomputable def BQ:FuncId→Option ae:=bU [(42,g0),(91,vZ),(94,Bc),(95,DS)]
theorem IO:∀f s,BQ f=some s→FnOK G0 Tryz.prog f s:=aM ⟨cn,ub,gz,kL,trivial⟩
def zI:aX:=⟨[0,2,3,4,5],rG,0,[0,2,3,4],zH,[],.unit⟩
noncomputable def BR:List aJ:=[zI.spec gH]
theorem GJ:bq bI E0 BQ (bo Tryz.f44 BR) Tryz.f44 0 zI gH:=fun x=>by kernel_rfl
theorem BS:FnOK G0 Tryz.prog 44 NI:=aP ao IO Tryz.func44 BR (by kernel_rfl) (by exact⟨(GJ).lok,trivial⟩) fun x=>by kernel_rfl
noncomputable def ij(x:Ty.T gq):Option (Ty.T Ur):=
match nT ((x.1.1,x.1.2.1,x.1.2.2.1,()),())with
|none=>none
|some v1=>
match aa ((v1.2.1.1,v1.2.1.2.1,v1.2.1.2.2.1,()),(30:Int),())with
|none=>none
|some v2=>
match(v2.1==(0:Int))with
|true=>
 match aa ((v2.2.1.1,v2.2.1.2.1,v2.2.1.2.2.1,()),(6:Int),())with
 |none=>none
 |some v3=>
 some (((IntKind.i64.wrap (v3.1-(1:Int))),v1.1.2.1,(v1.1.2.2.1.1,v1.1.2.2.1.2.1,v1.1.2.2.1.2.2.1,v1.1.2.2.1.2.2.2.1,v1.1.2.2.1.2.2.2.2.1,()),v1.1.2.2.2.1,()),(v3.2.1.1,v3.2.1.2.1,v3.2.1.2.2.1,()),())
|false=>
 match(v2.1==(1:Int))with
 |true=>
  match aa ((v2.2.1.1,v2.2.1.2.1,v2.2.1.2.2.1,()),(3:Int),())with
  |none=>none
  |some v4=>
  ab (au [(-1:Int),(1:Int),(8:Int)] v4.1) fun _=>
  match [(-1:Int),(1:Int),(8:Int)][v4.1.toNat]? with
  |none=>none
  |some v6=>
  some ((v1.1.1,v6,(v1.1.2.2.1.1,v1.1.2.2.1.2.1,v1.1.2.2.1.2.2.1,v1.1.2.2.1.2.2.2.1,v1.1.2.2.1.2.2.2.2.1,()),v1.1.2.2.2.1,()),(v4.2.1.1,v4.2.1.2.1,v4.2.1.2.2.1,()),())
 |false=>
  match(v2.1==(2:Int))with
  |true=>
   match kX ((v2.2.1.1,v2.2.1.2.1,v2.2.1.2.2.1,()),())with
   |none=>none
   |some v7=>
   some ((v1.1.1,v1.1.2.1,(v7.1.1,v7.1.2.1,v7.1.2.2.1,v7.1.2.2.2.1,v7.1.2.2.2.2.1,()),v1.1.2.2.2.1,()),(v7.2.1.1,v7.2.1.2.1,v7.2.1.2.2.1,()),())
  |false=>
   match(v2.1==(3:Int))with
   |true=>
    match eV ((v2.2.1.1,v2.2.1.2.1,v2.2.1.2.2.1,()),(3:Int),())with
    |none=>none
    |some v8=>
    some ((v1.1.1,v1.1.2.1,(v1.1.2.2.1.1,v1.1.2.2.1.2.1,v1.1.2.2.1.2.2.1,v1.1.2.2.1.2.2.2.1,v1.1.2.2.1.2.2.2.2.1,()),v8.1,()),(v8.2.1.1,v8.2.1.2.1,v8.2.1.2.2.1,()),())
   |false=>
    match(v2.1==(4:Int))with
    |true=>
     match aa ((v2.2.1.1,v2.2.1.2.1,v2.2.1.2.2.1,()),(2:Int),())with
     |none=>none
     |some v9=>
     if 0≤(IntKind.i64.wrap ((32:Int)+v9.1))∧(IntKind.i64.wrap ((32:Int)+v9.1))≤(IntKind.i64.wrap ((32:Int)+v9.1))then
      aD ((IntKind.i64.wrap ((32:Int)+v9.1)).toNat) (
       some ((v1.1.1,v1.1.2.1,(v1.1.2.2.1.1,v1.1.2.2.1.2.1,v1.1.2.2.1.2.2.1,v1.1.2.2.1.2.2.2.1,v1.1.2.2.1.2.2.2.2.1,()),(List.replicate (IntKind.i64.wrap ((32:Int)+v9.1)).toNat (0:Int)),()),(v9.2.1.1,v9.2.1.2.1,v9.2.1.2.2.1,()),()))
     else none
    |false=>
     some ((v1.1.1,v1.1.2.1,(v1.1.2.2.1.1,v1.1.2.2.1.2.1,v1.1.2.2.1.2.2.1,v1.1.2.2.1.2.2.2.1,v1.1.2.2.1.2.2.2.2.1,()),v1.1.2.2.2.1,()),(v2.2.1.1,v2.2.1.2.1,v2.2.1.2.2.1,()),())
noncomputable def xh:ae:=⟨_,Ij,gq,rfl,ij⟩
theorem GK:FnOK G0 Tryz.prog 88 xh:=an ao (sg sA (sg cn (sg BS (sg vz (aR))))) Tryz.func88
abbrev pL:Ty:=UF
noncomputable def hH(x:(Ty.T pL)):Option ((Ty.T pL) ⊕ ((Ty.T br) ⊕ (Ty.T .unit))):=
match(decide (x.1>(0:Int)))with
|true=>
 aD (x.2.2.1.length+ [x.2.1].length) (
  some (.inl ((IntKind.i64.wrap (x.1-(1:Int))),x.2.1,(x.2.2.1++ [x.2.1]),())))
|false=>
 some (.inr (.inl (x.2.2.1,())))
noncomputable def eG(x:Ty.T bE):Option (Ty.T br):=
match ac hH (x.1,x.2.1,[],())with
|none=>none
|some (.inl v1)=>
 some (v1.1,())
|some (.inr v3)=>
 none
noncomputable def L9:ae:=⟨_,br,.unit,rfl,eG⟩
noncomputable def zJ:FuncId→Option ae:=bU []
theorem GL:∀f s,zJ f=some s→FnOK G0 Tryz.prog f s:=aM trivial
def xi:aX:=⟨[0,1,5],pL,0,[5],br,[],.unit⟩
noncomputable def zK:List aJ:=[xi.spec hH]
theorem Fb:bq bI E0 zJ (bo Tryz.f79 zK) Tryz.f79 0 xi hH:=fun x=>by kernel_rfl
theorem rH:FnOK G0 Tryz.prog 79 L9:=aP ao GL Tryz.func79 zK (by kernel_rfl) (by exact⟨(Fb).lok,trivial⟩) fun x=>by kernel_rfl
noncomputable def ar(x:Ty.T (.pair ap (.pair ak bE))):Option (Ty.T UM):=
match ge (x.1,x.2.1,())with
|none=>none
|some v1=>
ag (
 match eG (v1.1.2.2.1,x.2.2.1,())with
 |none=>none
 |some v2=>
 ai (
  match cU (v1.1.2.1,())with
  |none=>none
  |some v3=>
  match v3.1 with
  |true=>
   some ((v1.1.2.1,x.2.2.2.1,x.2.1,v2.1,()),())
  |false=>
   some ((v1.1.2.1,x.2.2.2.1,((0:Int),(0:Int),(0:Int),(0:Int),(0:Int),()),v2.1,()),()))) (
 match eG (v1.1.2.2.1,x.2.2.1,())with
 |none=>none
 |some v2=>
 match cU (v1.1.2.1,())with
 |none=>none
 |some v3=>
 match v3.1 with
 |true=>
  some ((v1.1.2.1,x.2.2.2.1,x.2.1,v2.1,()),())
 |false=>
  some ((v1.1.2.1,x.2.2.2.1,((0:Int),(0:Int),(0:Int),(0:Int),(0:Int),()),v2.1,()),()))
noncomputable def BT:ae:=⟨_,UM,.unit,rfl,ar⟩
theorem KL:FnOK G0 Tryz.prog 90 BT:=an ao (sg rH (sg kS (sg gz (aR)))) Tryz.func90
end Go.Proofs.YtckljdhdadiphaaGreatDoor
