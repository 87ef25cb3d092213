import Derived.Test.YtkgcbbkodalfmaaGreatDoorSho
import Derived.Test.YtkgcbbkodalfmaaGreatDoorDelW
import Derived.Test.YtkgcbbkodalfmaaGreatDoorInsW
import Derived.Test.YtkgcbbkodalfmaaGreatDoorLibS
import Derived.Test.YtkgcbbkodalfmaaGreatDoorRepW
import Derived.Test.YtkgcbbkodalfmaaGreatDoorSh
import Derived.Test.YtkgcbbkodalfmaaGreatDoorTdW
import Derived.Test.YtkgcbbkodalfmaaGreatDoorTrW
import Derived.Test.YtkgcbbkodalfmaaGreatDoorProg
import Derived.KernelRfl
namespace Go.Proofs.YtkgcbbkodalfmaaGreatDoor
open Go.RowKit
set_option linter.unusedVariables false
abbrev ac:Ty:=(.pair (.int .i64) (.pair (.list (.pair (.int .i64) (.pair .str (.pair (.int .i64) (.pair .bool .unit))))) (.pair (.list (.pair (.int .i64) (.pair (.int .i64) (.pair (.list (.int .i64)) .unit)))) (.pair (.list (.pair (.int .i64) (.pair (.int .i64) (.pair (.int .i64) (.pair (.pair (.int .i64) (.pair (.int .i64) (.pair (.int .i64) (.pair (.int .i64) (.pair .bool .unit))))) .unit))))) .unit))))
abbrev ab:Ty:=(.pair (.int .i64) (.pair (.int .i64) (.pair (.int .i64) (.pair (.int .i64) (.pair (.int .i64) .unit)))))
abbrev aU:Ty:=(.pair (.int .i64) (.pair (.int .i64) (.pair ab (.pair (.list (.int .i64)) .unit))))
abbrev aB:Ty:=(.pair (.int .i64) (.pair aU .unit))
abbrev ax:Ty:=(.pair (.int .i64) (.pair (.int .i64) (.pair (.int .i64) (.pair (.int .i64) .unit))))
abbrev au:Ty:=(.pair (.int .i64) (.pair (.int .i64) (.pair (.list ax) (.pair (.list ax) .unit))))
abbrev bf:Ty:=(.pair (.int .i64) (.pair (.int .i64) (.pair (.int .i64) (.pair (.int .i64) (.pair .bool .unit)))))
abbrev aY:Ty:=(.pair ab (.pair (.int .i64) (.pair (.int .i64) .unit)))
abbrev aam:Ty:=(.pair (.list (.int .u8)) (.pair (.int .i64) (.pair (.int .u64) .unit)))
abbrev ah:Ty:=(.pair (.list (.int .u8)) (.pair (.int .i64) (.pair (.int .i64) .unit)))
abbrev ak:Ty:=(.pair (.int .i64) (.pair .str (.pair (.int .i64) (.pair .bool .unit))))
abbrev al:Ty:=(.pair (.int .i64) (.pair (.int .i64) (.pair (.list (.int .i64)) .unit)))
abbrev aj:Ty:=(.pair (.int .i64) (.pair (.int .i64) (.pair (.int .i64) (.pair bf .unit))))
abbrev an:Ty:=(.pair (.int .i64) (.pair (.int .i64) .unit))
abbrev mK:Ty:=(.pair (.int .i64) (.pair (.list (.int .i64)) (.pair (.int .i64) .unit)))
abbrev dG:Ty:=(.pair (.list (.int .i64)) (.pair (.int .i64) (.pair (.list (.int .i64)) .unit)))
abbrev abl:Ty:=(.pair .str .unit)
abbrev aeJ:Ty:=(.pair an .unit)
abbrev ae:Ty:=(.pair .bool .unit)
abbrev abA:Ty:=(.pair ac .unit)
abbrev aeK:Ty:=(.pair au .unit)
abbrev y_7:Ty:=(.pair ab .unit)
abbrev aed:Ty:=(.pair ax .unit)
abbrev aeL:Ty:=(.pair aU .unit)
abbrev afe:Ty:=(.pair aj .unit)
abbrev et:Ty:=(.pair (.int .i64) .unit)
abbrev y_8:Ty:=(.pair (.box ac) an)
abbrev ads:Ty:=(.pair bf .unit)
abbrev aff:Ty:=(.pair (.ptr ac) an)
abbrev aee:Ty:=(.pair (.box aam) .unit)
abbrev afg:Ty:=(.pair (.list au) an)
abbrev aef:Ty:=(.pair (.box ac) ax)
abbrev afh:Ty:=(.pair (.box ac) ab)
abbrev aeM:Ty:=(.pair (.list ax) .unit)
abbrev aeN:Ty:=(.pair (.ptr dG) an)
abbrev adX:Ty:=(.pair (.list ak) an)
abbrev QV:Ty:=(.pair (.box ah) .unit)
abbrev adY:Ty:=(.pair (.list ak) .unit)
abbrev aeg:Ty:=(.pair (.list aj) .unit)
abbrev aeO:Ty:=(.pair (.list al) .unit)
abbrev agd:Ty:=(.pair .str (.pair .str .unit))
abbrev y_6:Ty:=(.pair (.list (.int .i64)) an)
abbrev aeP:Ty:=(.pair (.list (.int .u8)) .unit)
abbrev afi:Ty:=(.pair (.list aj) ax)
abbrev Fn:Ty:=(.pair (.list (.int .i64)) .unit)
abbrev adE:Ty:=(.pair (.own 2 (.int .i64)) an)
abbrev age:Ty:=(.pair .bool (.pair .bool .unit))
abbrev la:Ty:=(.pair (.own 2 (.int .i64)) .unit)
abbrev acQ:Ty:=(.pair ac (.pair ab .unit))
abbrev aeQ:Ty:=(.pair (.own 167 aj) .unit)
abbrev afj:Ty:=(.pair (.list (.int .i64)) ax)
abbrev agf:Ty:=(.pair (.own 136 ak) .unit)
abbrev afk:Ty:=(.pair aU (.pair aU .unit))
abbrev afl:Ty:=(.pair .str (.pair (.int .i64) .unit))
abbrev agh:Ty:=(.pair aB (.pair aB .unit))
abbrev agi:Ty:=(.pair ac (.pair (.int .i64) .unit))
abbrev afL:Ty:=(.pair ab (.pair (.int .i64) an))
abbrev afm:Ty:=(.pair bf (.pair aU .unit))
abbrev afM:Ty:=(.pair aU (.pair (.int .i64) .unit))
abbrev afN:Ty:=(.pair ab (.pair (.int .i64) .unit))
abbrev agj:Ty:=(.pair aj (.pair aj .unit))
abbrev afO:Ty:=(.pair mK (.pair (.int .i64) .unit))
abbrev afn:Ty:=(.pair (.box ac) (.pair (.int .i64) an))
abbrev aeR:Ty:=(.pair (.box ac) (.pair (.int .i64) .unit))
abbrev agk:Ty:=(.pair ab (.pair (.box ah) .unit))
abbrev agl:Ty:=(.pair (.ptr ac) (.pair (.int .i64) .unit))
abbrev agm:Ty:=(.pair ax (.pair (.box ah) .unit))
abbrev afP:Ty:=(.pair (.own 38 aB) (.pair ab .unit))
abbrev aeS:Ty:=(.pair ac (.pair ab (.pair au .unit)))
abbrev afQ:Ty:=(.pair (.list (.int .i64)) (.pair ax .unit))
abbrev afR:Ty:=(.pair (.box ac) (.pair (.box ab) .unit))
abbrev adZ:Ty:=(.pair ac (.pair ab (.pair aU .unit)))
abbrev agn:Ty:=(.pair (.list aj) (.pair (.int .i64) an))
abbrev aeT:Ty:=(.pair (.box ah) (.pair (.int .i64) .unit))
abbrev afo:Ty:=(.pair (.nptr dG) (.pair (.int .i64) .unit))
abbrev ago:Ty:=(.pair bf (.pair (.box ah) .unit))
abbrev agp:Ty:=(.pair (.list ak) (.pair (.int .i64) .unit))
abbrev agq:Ty:=(.pair (.list al) (.pair (.int .i64) .unit))
abbrev agr:Ty:=(.pair (.box ac) (.pair (.list al) an))
abbrev afp:Ty:=(.pair (.list (.int .i64)) (.pair (.int .i64) an))
abbrev y_9:Ty:=(.pair (.list (.int .i64)) (.pair (.int .i64) .unit))
abbrev y_5:Ty:=(.pair (.own 2 (.int .i64)) (.pair (.int .i64) .unit))
abbrev afq:Ty:=(.pair (.list (.int .i64)) (.pair (.box ax) an))
abbrev afS:Ty:=(.pair aU (.pair (.int .i64) (.pair ab .unit)))
abbrev ad0:Ty:=(.pair ac (.pair ab (.pair (.list au) .unit)))
abbrev afr:Ty:=(.pair (.box ah) (.pair (.own 43 ax) .unit))
abbrev afT:Ty:=(.pair (.list (.int .i64)) (.pair (.list ax) .unit))
abbrev afs:Ty:=(.pair ac (.pair ab (.pair (.own 49 au) .unit)))
abbrev ags:Ty:=(.pair (.int .i64) (.pair (.int .i64) (.pair .bool .unit)))
abbrev agt:Ty:=(.pair (.own 136 ak) (.pair (.box ah) .unit))
abbrev aeh:Ty:=(.pair (.list (.int .i64)) (.pair (.list (.int .i64)) .unit))
abbrev aft:Ty:=(.pair (.own 2 (.int .i64)) (.pair (.list (.int .i64)) an))
abbrev agu:Ty:=(.pair (.list (.int .i64)) (.pair (.own 2 (.int .i64)) an))
abbrev aei:Ty:=(.pair ac (.pair ab (.pair (.list (.int .i64)) .unit)))
abbrev afU:Ty:=(.pair an (.pair (.int .i64) (.pair (.list (.int .i64)) .unit)))
abbrev aeU:Ty:=(.pair (.own 38 aB) (.pair ab (.pair (.int .i64) .unit)))
abbrev afV:Ty:=(.pair (.list (.int .i64)) (.pair (.int .i64) (.pair ab .unit)))
abbrev agv:Ty:=(.pair (.box ac) (.pair (.int .i64) (.pair (.list al) an)))
abbrev afW:Ty:=(.pair (.own 38 aB) (.pair (.own 30 ab) (.pair ab .unit)))
abbrev afu:Ty:=(.pair (.int .i64) (.pair (.own 2 (.int .i64)) (.pair (.int .i64) .unit)))
abbrev afv:Ty:=(.pair (.list (.int .i64)) (.pair (.box ax) (.pair (.int .i64) an)))
abbrev agw:Ty:=(.pair (.int .i64) (.pair (.int .i64) (.pair (.own 2 (.int .i64)) .unit)))
abbrev agx:Ty:=(.pair (.list (.int .i64)) (.pair (.list (.int .i64)) (.pair (.int .i64) .unit)))
abbrev agy:Ty:=(.pair (.list au) (.pair (.fn (.pair au .unit) (.pair .bool .unit)) .unit))
abbrev aej:Ty:=(.pair (.list (.int .i64)) (.pair (.own 2 (.int .i64)) (.pair (.int .i64) .unit)))
abbrev agz:Ty:=(.pair (.list ax) (.pair (.fn (.pair ax .unit) (.pair .bool .unit)) .unit))
abbrev afX:Ty:=(.pair (.own 2 (.int .i64)) (.pair (.int .i64) (.pair (.own 2 (.int .i64)) .unit)))
abbrev afY:Ty:=(.pair (.int .i64) (.pair (.list (.int .i64)) (.pair (.int .i64) (.pair ab .unit))))
abbrev agA:Ty:=(.pair (.list ak) (.pair (.fn (.pair ak .unit) (.pair .bool .unit)) .unit))
abbrev agB:Ty:=(.pair (.list aj) (.pair (.fn (.pair aj .unit) (.pair .bool .unit)) .unit))
abbrev afZ:Ty:=(.pair (.list (.int .i64)) (.pair (.list (.int .i64)) (.pair (.own 2 (.int .i64)) an)))
abbrev aek:Ty:=(.pair (.box ax) (.pair (.int .i64) (.pair (.own 2 (.int .i64)) (.pair (.int .i64) .unit))))
abbrev agC:Ty:=(.pair (.own 159 (.pair (.int .i64) (.pair (.int .i64) (.pair (.own 2 (.int .i64)) .unit)))) .unit)
abbrev aeV:Ty:=(.pair (.pair (.int .i64) (.pair (.int .i64) (.pair ab (.pair (.own 2 (.int .i64)) .unit)))) .unit)
abbrev afw:Ty:=(.pair (.box (.pair (.list (.int .i64)) (.pair (.int .i64) (.pair (.own 2 (.int .i64)) .unit)))) .unit)
abbrev ael:Ty:=(.pair (.own 38 aB) (.pair (.own 38 aB) (.pair (.own 38 aB) (.pair (.int .i64) .unit))))
abbrev afx:Ty:=(.pair (.list (.int .i64)) (.pair (.list (.int .i64)) (.pair (.own 2 (.int .i64)) (.pair (.int .i64) .unit))))
abbrev aeW:Ty:=(.pair (.pair (.int .i64) (.pair (.int .i64) (.pair ab (.pair (.own 2 (.int .i64)) .unit)))) (.pair .bool .unit))
abbrev aeX:Ty:=(.pair (.pair (.int .i64) (.pair (.int .i64) (.pair ab (.pair (.own 2 (.int .i64)) .unit)))) (.pair (.int .i64) .unit))
abbrev agD:Ty:=(.pair (.box (.pair (.list (.int .i64)) (.pair (.int .i64) (.pair (.own 2 (.int .i64)) .unit)))) (.pair (.int .i64) .unit))
abbrev af0:Ty:=(.pair (.int .i64) (.pair (.box (.pair (.list (.int .i64)) (.pair (.int .i64) (.pair (.own 2 (.int .i64)) .unit)))) .unit))
abbrev agE:Ty:=(.pair (.own 159 (.pair (.int .i64) (.pair (.int .i64) (.pair (.own 2 (.int .i64)) .unit)))) (.pair (.box ah) .unit))
abbrev afy:Ty:=(.pair (.pair (.int .i64) (.pair (.own 136 ak) (.pair (.own 159 al) (.pair (.own 167 aj) .unit)))) .unit)
abbrev aeY:Ty:=(.pair (.pair (.int .i64) (.pair (.pair (.int .i64) (.pair (.int .i64) (.pair ab (.pair (.own 2 (.int .i64)) .unit)))) .unit)) .unit)
abbrev aeZ:Ty:=(.pair (.pair (.int .i64) (.pair (.pair (.int .i64) (.pair (.int .i64) (.pair ab (.pair (.own 2 (.int .i64)) .unit)))) .unit)) (.pair ab .unit))
abbrev ab1:Ty:=(.pair (.pair (.int .i64) (.pair (.pair (.int .i64) (.pair (.int .i64) (.pair ab (.pair (.own 2 (.int .i64)) .unit)))) .unit)) (.pair (.int .i64) .unit))
abbrev agF:Ty:=(.pair (.box ah) (.pair (.box ac) (.pair (.own 136 ak) (.pair (.own 2 (.int .i64)) (.pair (.own 159 al) (.pair (.own 167 aj) an))))))
abbrev afz:Ty:=(.pair (.own 38 aB) (.pair (.box ab) (.pair (.own 38 aB) (.pair (.int .i64) (.pair (.own 38 aB) (.pair (.box ab) (.pair (.int .i64) .unit)))))))
abbrev ae0:Ty:=(.pair (.list (.int .u8)) (.pair (.box ac) (.pair (.box ab) (.pair (.list au) (.pair (.own 38 aB) (.pair (.box ab) (.pair (.int .i64) (.pair .bool .unit))))))))
abbrev afA:Ty:=(.pair (.box ac) (.pair (.list au) (.pair (.own 38 aB) (.pair (.box ab) (.pair (.int .i64) (.pair (.own 38 aB) (.pair (.box ab) (.pair (.int .i64) .unit))))))))
abbrev aem:Ty:=(.pair (.list (.int .u8)) (.pair (.box ac) (.pair (.box ab) (.pair (.list au) (.pair (.own 38 aB) (.pair (.box ab) (.pair (.int .i64) (.pair (.own 38 aB) (.pair .bool (.pair (.int .i64) .unit))))))))))
abbrev af3:Ty:=(.pair (.pair (.int .i64) (.pair (.pair (.int .i64) (.pair (.int .i64) (.pair ab (.pair (.own 2 (.int .i64)) .unit)))) .unit)) (.pair (.pair (.int .i64) (.pair (.pair (.int .i64) (.pair (.int .i64) (.pair ab (.pair (.own 2 (.int .i64)) .unit)))) .unit)) .unit))
abbrev afB:Ty:=(.pair (.box ah) (.pair (.box ac) (.pair (.own 136 ak) (.pair (.own 2 (.int .i64)) (.pair (.own 159 al) (.pair (.own 167 aj) (.pair (.int .i64) (.pair (.int .i64) (.pair (.box al) (.pair (.own 2 (.int .i64)) (.pair (.int .i64) .unit)))))))))))
def bd:cf:=[(2,(.int .i64)),(3,(.int .i64)),(4,.bool),(5,(.int .u8)),(9,.str),(22,(.list (.int .u8))),(24,(.list ak)),(25,(.list al)),(26,(.list aj)),(28,ac),(30,ab),(31,(.list (.int .i64))),(33,aU),(34,(.list ax)),(38,aB),(43,ax),(49,au),(56,bf),(65,(.int .u64)),(67,(.list au)),(70,(.list aB)),(73,(.list aY)),(78,aY),(119,aam),(120,(.int .u64)),(122,(.list ab)),(133,ah),(136,ak),(159,al),(167,aj),(184,(.list (.list (.int .i64)))),(215,an),(221,(.list .str)),(242,mK),(255,dG)]
def E0:bB:=[(22,5),(24,136),(25,159),(26,167),(31,2),(34,43),(67,49),(70,38),(73,78),(122,30),(184,31),(221,9)]
theorem ao:ca Tryz.prog bd E0=true:=by kernel_rfl
def V0:cf:=[(2,(.int .i64)),(2,(.int .i64)),(4,.bool),(24,(.list ak)),(25,(.list al)),(26,(.list aj)),(28,ac),(31,(.list (.int .i64))),(56,bf),(136,ak),(159,al),(167,aj)]
def E1:bB:=[(24,136),(25,159),(26,167),(31,2)]
theorem aaJ:ca Tryz.prog V0 E1=true:=by kernel_rfl
def Zv:cf:=[(2,(.int .i64)),(25,(.list agw)),(31,(.list (.int .i64))),(159,al)]
def E2:bB:=[(25,159),(31,2)]
theorem Zw:ca Tryz.prog Zv E2=true:=by kernel_rfl
abbrev G0:Gl:=Gl.none
noncomputable def Jm(x:Ty.T aeP):Option (Ty.T ae):=
some ((decide ((x.1.length:Int)>(4096:Int))),())
noncomputable def LI:Spec:=⟨_,ae,.unit,rfl,Jm⟩
theorem P1:FnOK G0 Tryz.prog 8 LI:=ap ao aJ Tryz.func8
abbrev abB:Ty:=agx
noncomputable def GV(x:(Ty.T abB)):Option ((Ty.T abB) ⊕ ((Ty.T .unit) ⊕ (Ty.T ae))):=
match(decide (x.2.2.1<(x.1.length:Int)))with
|true=>
 aa (aq x.1 x.2.2.1) fun v1=>
 aa (aq x.2.1 x.2.2.1) fun v2=>
 match(v1 != v2)with
 |true=>
  some (.inr (.inr (false,())))
 |false=>
  some (.inl (x.1,x.2.1,(IntKind.i64.wrap (x.2.2.1+(1:Int))),()))
|false=>
 some (.inr (.inl (())))
noncomputable def acw(x:Ty.T aeh):Option (Ty.T ae):=
match((x.1.length:Int) != (x.2.1.length:Int))with
|true=>
 some (false,())
|false=>
 match ag GV (x.1,x.2.1,(0:Int),())with
 |none=>none
 |some (.inl v3)=>
  some (true,())
 |some (.inr v4)=>
  some (v4.1,())
noncomputable def aen:Spec:=⟨_,ae,.unit,rfl,acw⟩
noncomputable def adc:FuncId→Option Spec:=bh []
theorem adJ:∀f s,adc f=some s→FnOK G0 Tryz.prog f s:=aF trivial
def acT:aO:=⟨[0,1,5],abB,0,[],.unit,[4],ae⟩
noncomputable def ade:List ay:=[acT.spec GV]
theorem adF:bc bd E0 adc (ba Tryz.f57 ade) Tryz.f57 0 acT GV:=fun x=>by kernel_rfl
theorem aeb:FnOK G0 Tryz.prog 57 aen:=aH ao adJ Tryz.func57 ade (by kernel_rfl) (by exact⟨(adF).lok,trivial⟩) fun x=>by kernel_rfl
noncomputable def abm(x:Ty.T afk):Option (Ty.T ae):=
match(x.1.1==x.2.1.1)with
|true=>
 match(x.1.2.1==x.2.1.2.1)with
 |true=>
  match(dy ab x.1.2.2.1 x.2.1.2.2.1)with
  |true=>
   match acw (x.1.2.2.2.1,x.2.1.2.2.2.1,())with
   |none=>none
   |some v1=>
   some (v1.1,())
  |false=>
   some (false,())
 |false=>
  some (false,())
|false=>
 some (false,())
noncomputable def ad1:Spec:=⟨_,ae,.unit,rfl,abm⟩
theorem adK:FnOK G0 Tryz.prog 13 ad1:=ap ao (sg aeb (aJ)) Tryz.func13
noncomputable def PA(x:Ty.T agh):Option (Ty.T ae):=
match(x.1.1==x.2.1.1)with
|true=>
 match abm (x.1.2.1,x.2.1.2.1,())with
 |none=>none
 |some v1=>
 some (v1.1,())
|false=>
 some (false,())
noncomputable def acC:Spec:=⟨_,ae,.unit,rfl,PA⟩
theorem adz:FnOK G0 Tryz.prog 12 acC:=ap ao (sg adK (aJ)) Tryz.func12
abbrev ac3:Ty:=(.pair (.list (.int .u8)) (.pair (.box aam) (.pair (.int .i64) .unit)))
noncomputable def aaQ(x:(Ty.T ac3)):Option ((Ty.T ac3) ⊕ ((Ty.T aee) ⊕ (Ty.T .unit))):=
match(decide (x.2.2.1<(x.1.length:Int)))with
|true=>
 aa (aq x.1 x.2.2.1) fun v1=>
 some (.inl (x.1,(x.2.1.1,x.2.1.2.1,(IntKind.u64.wrap ((IntKind.u64.wrap ((IntKind.u64.wrap (x.2.1.2.2.1*(1099511628211:Int)))+(IntKind.u64.wrap v1)))+(3:Int))),()),(IntKind.i64.wrap (x.2.2.1+(1:Int))),()))
|false=>
 some (.inr (.inl (x.2.1,())))
noncomputable def adL(x:Ty.T (.pair (.list (.int .u8)) (.pair (.int .u64) .unit))):Option (Ty.T aee):=
match ag aaQ (x.1,(x.1,(0:Int),(IntKind.u64.wrap ((IntKind.u64.wrap (x.2.1*(7919:Int)))+(IntKind.u64.wrap (x.1.length:Int)))),()),(0:Int),())with
|none=>none
|some (.inl v2)=>
 some (v2.1,())
|some (.inr v4)=>
 none
noncomputable def aeo:Spec:=⟨_,aee,.unit,rfl,adL⟩
noncomputable def ad4:FuncId→Option Spec:=bh []
theorem aez:∀f s,ad4 f=some s→FnOK G0 Tryz.prog f s:=aF trivial
def adM:aO:=⟨[0,5,6],ac3,0,[5],aee,[],.unit⟩
noncomputable def ad5:List ay:=[adM.spec aaQ]
theorem aep:bc bd E0 ad4 (ba Tryz.f25 ad5) Tryz.f25 0 adM aaQ:=fun x=>by kernel_rfl
theorem ae5:FnOK G0 Tryz.prog 25 aeo:=aH ao aez Tryz.func25 ad5 (by kernel_rfl) (by exact⟨(aep).lok,trivial⟩) fun x=>by kernel_rfl
noncomputable def abn(x:Ty.T (.pair (.box aam) (.pair (.int .i64) .unit))):Option (Ty.T (.pair (.int .i64) (.pair (.box aam) .unit))):=
match(decide (x.1.2.1<(x.1.1.length:Int)))with
|true=>
 aa (aq x.1.1 x.1.2.1) fun v1=>
 if x.2.1=0 then none else
 some ((Int.tmod (IntKind.i64.wrap ((IntKind.i64.wrap (bits BinOp.and .u64 (Int.fdiv (IntKind.u64.wrap ((IntKind.u64.wrap (x.1.2.2.1*(6364136223846793005:Int)))+(1442695040888963407:Int))) (2^min (33:Int).toNat IntKind.u64.bits)) (16777215:Int)))+(IntKind.i64.wrap v1))) x.2.1),(x.1.1,(IntKind.i64.wrap (x.1.2.1+(1:Int))),(IntKind.u64.wrap ((IntKind.u64.wrap (x.1.2.2.1*(6364136223846793005:Int)))+(1442695040888963407:Int))),()),())
|false=>
 if x.2.1=0 then none else
 some ((Int.tmod (IntKind.i64.wrap (bits BinOp.and .u64 (Int.fdiv (IntKind.u64.wrap ((IntKind.u64.wrap (x.1.2.2.1*(6364136223846793005:Int)))+(1442695040888963407:Int))) (2^min (33:Int).toNat IntKind.u64.bits)) (16777215:Int))) x.2.1),(x.1.1,x.1.2.1,(IntKind.u64.wrap ((IntKind.u64.wrap (x.1.2.2.1*(6364136223846793005:Int)))+(1442695040888963407:Int))),()),())
noncomputable def acU:Spec:=⟨_,et,aee,rfl,abn⟩
theorem adN:FnOK G0 Tryz.prog 26 acU:=ap ao aJ Tryz.func26
abbrev ab2:Ty:=(.pair (.list (.int .u8)) (.pair (.box ah) (.pair (.int .i64) .unit)))
noncomputable def ia(x:(Ty.T ab2)):Option ((Ty.T ab2) ⊕ ((Ty.T QV) ⊕ (Ty.T .unit))):=
match(decide (x.2.2.1<(x.1.length:Int)))with
|true=>
 match(decide (x.2.2.1<(64:Int)))with
 |true=>
  aa (aq x.1 x.2.2.1) fun v1=>
  some (.inl (x.1,(x.2.1.1,x.2.1.2.1,(Int.tmod (IntKind.i64.wrap ((IntKind.i64.wrap (x.2.1.2.2.1*(53:Int)))+(IntKind.i64.wrap v1))) (2147483647:Int)),()),(IntKind.i64.wrap (x.2.2.1+(1:Int))),()))
 |false=>
  some (.inr (.inl ((x.2.1.1,x.2.1.2.1,x.2.1.2.2.1,()),())))
|false=>
 some (.inr (.inl ((x.2.1.1,x.2.1.2.1,x.2.1.2.2.1,()),())))
noncomputable def kA(x:Ty.T aeP):Option (Ty.T QV):=
match ag ia (x.1,(x.1,(0:Int),(40009:Int),()),(0:Int),())with
|none=>none
|some (.inl v2)=>
 some ((v2.1.1,v2.1.2.1,v2.1.2.2.1,()),())
|some (.inr v4)=>
 none
noncomputable def Ge:Spec:=⟨_,QV,.unit,rfl,kA⟩
noncomputable def C8:FuncId→Option Spec:=bh []
theorem LJ:∀f s,C8 f=some s→FnOK G0 Tryz.prog f s:=aF trivial
def A2:aO:=⟨[0,3,4],ab2,0,[3],QV,[],.unit⟩
noncomputable def C9:List ay:=[A2.spec ia]
theorem Jn:bc bd E0 C8 (ba Tryz.f47 C9) Tryz.f47 0 A2 ia:=fun x=>by kernel_rfl
theorem pw:FnOK G0 Tryz.prog 47 Ge:=aH ao LJ Tryz.func47 C9 (by kernel_rfl) (by exact⟨(Jn).lok,trivial⟩) fun x=>by kernel_rfl
noncomputable def ai(x:Ty.T aeT):Option (Ty.T (.pair (.int .i64) (.pair (.box ah) .unit))):=
match(decide (x.2.1≤(1:Int)))with
|true=>
 some ((0:Int),(x.1.1,x.1.2.1,x.1.2.2.1,()),())
|false=>
 match(decide (x.1.2.1<(x.1.1.length:Int)))with
 |true=>
  aa (aq x.1.1 x.1.2.1) fun v1=>
  match(decide (x.2.1≤(256:Int)))with
  |true=>
   match((Int.tmod (IntKind.i64.wrap (x.1.2.1+(1:Int))) (2:Int))==(0:Int))with
   |true=>
    aa (aq x.1.1 (IntKind.i64.wrap ((IntKind.i64.wrap (x.1.2.1+(1:Int)))-(1:Int)))) fun v2=>
    if x.2.1=0 then none else
    some ((Int.tmod (IntKind.i64.wrap v2) x.2.1),(x.1.1,(IntKind.i64.wrap (x.1.2.1+(1:Int))),(Int.tmod (IntKind.i64.wrap ((IntKind.i64.wrap (x.1.2.2.1*(48271:Int)))+(17:Int))) (2147483647:Int)),()),())
   |false=>
    if x.2.1=0 then none else
    some ((Int.tmod (IntKind.i64.wrap ((IntKind.i64.wrap (Int.tdiv (Int.tmod (IntKind.i64.wrap ((IntKind.i64.wrap (x.1.2.2.1*(48271:Int)))+(17:Int))) (2147483647:Int)) (23:Int)))+(IntKind.i64.wrap v1))) x.2.1),(x.1.1,(IntKind.i64.wrap (x.1.2.1+(1:Int))),(Int.tmod (IntKind.i64.wrap ((IntKind.i64.wrap (x.1.2.2.1*(48271:Int)))+(17:Int))) (2147483647:Int)),()),())
  |false=>
   if x.2.1=0 then none else
   some ((Int.tmod (IntKind.i64.wrap ((IntKind.i64.wrap (Int.tdiv (Int.tmod (IntKind.i64.wrap ((IntKind.i64.wrap (x.1.2.2.1*(48271:Int)))+(17:Int))) (2147483647:Int)) (23:Int)))+(IntKind.i64.wrap v1))) x.2.1),(x.1.1,(IntKind.i64.wrap (x.1.2.1+(1:Int))),(Int.tmod (IntKind.i64.wrap ((IntKind.i64.wrap (x.1.2.2.1*(48271:Int)))+(17:Int))) (2147483647:Int)),()),())
 |false=>
  if x.2.1=0 then none else
  some ((Int.tmod (IntKind.i64.wrap (Int.tdiv (Int.tmod (IntKind.i64.wrap ((IntKind.i64.wrap (x.1.2.2.1*(48271:Int)))+(17:Int))) (2147483647:Int)) (23:Int))) x.2.1),(x.1.1,x.1.2.1,(Int.tmod (IntKind.i64.wrap ((IntKind.i64.wrap (x.1.2.2.1*(48271:Int)))+(17:Int))) (2147483647:Int)),()),())
noncomputable def iC:Spec:=⟨_,et,QV,rfl,ai⟩
theorem bR:FnOK G0 Tryz.prog 52 iC:=ap ao aJ Tryz.func52
noncomputable def lU(x:Ty.T an):Option (Ty.T ae):=
if(IntKind.u64.wrap x.2.1)<0 then none else
some (((bits BinOp.and .i64 (Int.fdiv x.1 (2^min (IntKind.u64.wrap x.2.1).toNat IntKind.i64.bits)) (1:Int))==(1:Int)),())
noncomputable def z8:Spec:=⟨_,ae,.unit,rfl,lU⟩
theorem xE:FnOK G0 Tryz.prog 195 z8:=ap ao aJ Tryz.func195
noncomputable def iV(x:Ty.T ags):Option (Ty.T et):=
match lU (x.1,x.2.1,())with
|none=>none
|some v1=>
match(v1.1==x.2.2.1)with
|true=>
 some (x.1,())
|false=>
 if(IntKind.u64.wrap x.2.1)<0 then none else
 some ((bits BinOp.xor .i64 x.1 (IntKind.i64.wrap ((1:Int)*2^min (IntKind.u64.wrap x.2.1).toNat IntKind.i64.bits))),())
noncomputable def Aa:Spec:=⟨_,et,.unit,rfl,iV⟩
theorem xF:FnOK G0 Tryz.prog 135 Aa:=ap ao (sg xE (aJ)) Tryz.func135
noncomputable def cN(x:(Ty.T adX)):Option ((Ty.T adX) ⊕ ((Ty.T et) ⊕ (Ty.T .unit))):=
match(decide (x.2.2.1<(x.1.length:Int)))with
|true=>
 aa (aq x.1 x.2.2.1) fun v1=>
 match(!v1.2.2.2.1)with
 |true=>
  aa (aq x.1 x.2.2.1) fun v2=>
  match iV (x.2.1,v2.1,true,())with
  |none=>none
  |some v3=>
  some (.inl (x.1,v3.1,(IntKind.i64.wrap (x.2.2.1+(1:Int))),()))
 |false=>
  some (.inl (x.1,x.2.1,(IntKind.i64.wrap (x.2.2.1+(1:Int))),()))
|false=>
 some (.inr (.inl (x.2.1,())))
noncomputable def cM(x:Ty.T adY):Option (Ty.T et):=
match ag cN (x.1,(0:Int),(0:Int),())with
|none=>none
|some (.inl v4)=>
 some (v4.1,())
|some (.inr v6)=>
 none
noncomputable def nV:Spec:=⟨_,et,.unit,rfl,cM⟩
noncomputable def yd:FuncId→Option Spec:=bh [(135,Aa)]
theorem Hx:∀f s,yd f=some s→FnOK G0 Tryz.prog f s:=aF ⟨xF,trivial⟩
def wo:aO:=⟨[0,3,4],adX,0,[3],et,[],.unit⟩
noncomputable def ye:List ay:=[wo.spec cN]
theorem Fu:bc bd E0 yd (ba Tryz.f126 ye) Tryz.f126 0 wo cN:=fun x=>by kernel_rfl
theorem kg:FnOK G0 Tryz.prog 126 nV:=aH ao Hx Tryz.func126 ye (by kernel_rfl) (by exact⟨(Fu).lok,trivial⟩) fun x=>by kernel_rfl
noncomputable def xG(x:Ty.T .unit):Option (Ty.T afy):=
some (((77:Int),[((0:Int),([97]:List UInt8),(100:Int),false,()),((1:Int),([98]:List UInt8),(50:Int),false,())],[((2:Int),(2:Int),[(1:Int)],()),((1:Int),(2:Int),[(0:Int)],())],[((0:Int),(0:Int),(0:Int),((0:Int),(3:Int),(0:Int),(200:Int),false,()),()),((0:Int),(0:Int),(1:Int),((1:Int),(1:Int),(0:Int),(200:Int),false,()),()),((0:Int),(1:Int),(0:Int),((0:Int),(0:Int),(4:Int),(200:Int),true,()),()),((0:Int),(1:Int),(1:Int),((1:Int),(0:Int),(2:Int),(200:Int),false,()),()),((1:Int),(0:Int),(0:Int),((1:Int),(2:Int),(3:Int),(300:Int),true,()),()),((1:Int),(0:Int),(1:Int),((0:Int),(0:Int),(0:Int),(150:Int),false,()),())],()),())
noncomputable def A3:Spec:=⟨_,afy,.unit,rfl,xG⟩
theorem LL:FnOK G0 Tryz.prog 235 A3:=ap ao aJ Tryz.func235
noncomputable def jA(rec:Ty.T et→Option (Ty.T abl))(x:Ty.T et):Option (Ty.T abl):=
match(decide (x.1<(10:Int)))with
|true=>
 some ((List.map (fun n=>UInt8.ofNat (Int.toNat n)) ([(IntKind.u8.wrap (IntKind.i64.wrap ((48:Int)+x.1)))]:List Int)),())
|false=>
 aQ (
  match rec ((IntKind.i64.wrap (Int.tdiv x.1 (10:Int))),())with
  |none=>none
  |some v1=>
  aA (v1.1.length+(List.map (fun n=>UInt8.ofNat (Int.toNat n)) ([(IntKind.u8.wrap (IntKind.i64.wrap ((48:Int)+(Int.tmod x.1 (10:Int)))))]:List Int)).length) (
   some ((v1.1++(List.map (fun n=>UInt8.ofNat (Int.toNat n)) ([(IntKind.u8.wrap (IntKind.i64.wrap ((48:Int)+(Int.tmod x.1 (10:Int)))))]:List Int))),()))) (
  aI (
   match rec ((IntKind.i64.wrap (Int.tdiv x.1 (10:Int))),())with
   |none=>none
   |some v1=>
   aA (v1.1.length+(List.map (fun n=>UInt8.ofNat (Int.toNat n)) ([(IntKind.u8.wrap (IntKind.i64.wrap ((48:Int)+(Int.tmod x.1 (10:Int)))))]:List Int)).length) (
    some ((v1.1++(List.map (fun n=>UInt8.ofNat (Int.toNat n)) ([(IntKind.u8.wrap (IntKind.i64.wrap ((48:Int)+(Int.tmod x.1 (10:Int)))))]:List Int))),()))))
noncomputable def jK(i:Nat):Ty.T et→Option (Ty.T abl):=Nat.rec (fun _=>none) (fun _ f=>jA f) i
noncomputable def kK(rec:Ty.T et→Option (Ty.T abl)):Spec:=⟨et,abl,.unit,rfl,rec⟩
noncomputable def Jo:Spec:=kK (jK 100)
noncomputable def Gf(rec:Ty.T et→Option (Ty.T abl)):FuncId→Option Spec:=bh [(280,kK rec)]
theorem N4(rec:Ty.T et→Option (Ty.T abl))(hr:FnOK G0 Tryz.prog 280 (kK rec)):∀f s,(Gf rec) f=some s→FnOK G0 Tryz.prog f s:=aF ⟨hr,trivial⟩
noncomputable def Gg(rec:Ty.T et→Option (Ty.T abl)):Nat→Option ay:=ya (bZ (ff Tryz.f280)) []
theorem N5(rec:Ty.T et→Option (Ty.T abl))(hr:FnOK G0 Tryz.prog 280 (kK rec)):FnOK G0 Tryz.prog 280 (kK (jA rec)):=Yc (Λ:=(Gg rec)) ao (N4 rec hr) Tryz.func280 (by kernel_rfl) (show Tryz.f280.body=some (ff Tryz.f280) by kernel_rfl) [] rfl (by kernel_rfl) (by exact trivial) (by kernel_rfl)
 fun x y h=>(show rn bd E0 (Gf rec) (Gg rec) Tryz.f280 (kK (jA rec)) x=jA rec x by kernel_rfl).trans h
theorem A4:∀i,FnOK G0 Tryz.prog 280 (kK (jK i))
 |0=>Ys Tryz.func280 (by kernel_rfl) (show Tryz.f280.body=some (ff Tryz.f280) by kernel_rfl)
 |i+1=>N5 _ (A4 i)
theorem Sd:FnOK G0 Tryz.prog 280 Jo:=A4 100
abbrev ab3:Ty:=(.pair (.box ah) (.pair (.own 136 ak) an))
abbrev adf:Ty:=(.pair (.box ah) (.pair (.own 136 ak) .unit))
noncomputable def ib(x:(Ty.T ab3)):Option ((Ty.T ab3) ⊕ ((Ty.T adf) ⊕ (Ty.T .unit))):=
match(decide (x.2.2.2.1>(0:Int)))with
|true=>
 match jK 100 (x.2.2.1,())with
 |none=>none
 |some v3=>
 aA (([110]:List UInt8).length+v3.1.length) (
  match ai ((x.1.1,x.1.2.1,x.1.2.2.1,()),(200:Int),())with
  |none=>none
  |some v4=>
  match ai ((v4.2.1.1,v4.2.1.2.1,v4.2.1.2.2.1,()),(5:Int),())with
  |none=>none
  |some v5=>
  aA (x.2.1.length+ [(x.2.2.1,(([110]:List UInt8)++v3.1),v4.1,(v5.1==(0:Int)),())].length) (
   match ai ((v5.2.1.1,v5.2.1.2.1,v5.2.1.2.2.1,()),(3:Int),())with
   |none=>none
   |some v6=>
   some (.inl ((v6.2.1.1,v6.2.1.2.1,v6.2.1.2.2.1,()),(x.2.1++ [(x.2.2.1,(([110]:List UInt8)++v3.1),v4.1,(v5.1==(0:Int)),())]),(IntKind.i64.wrap ((IntKind.i64.wrap (x.2.2.1+(1:Int)))+v6.1)),(IntKind.i64.wrap (x.2.2.2.1-(1:Int))),()))))
|false=>
 some (.inr (.inl ((x.1.1,x.1.2.1,x.1.2.2.1,()),x.2.1,())))
noncomputable def rv(x:Ty.T QV):Option (Ty.T agt):=
match ai ((x.1.1,x.1.2.1,x.1.2.2.1,()),(2:Int),())with
|none=>none
|some v1=>
match ai ((v1.2.1.1,v1.2.1.2.1,v1.2.1.2.2.1,()),(4:Int),())with
|none=>none
|some v2=>
match ag ib ((v2.2.1.1,v2.2.1.2.1,v2.2.1.2.2.1,()),[],v1.1,(IntKind.i64.wrap ((1:Int)+v2.1)),())with
|none=>none
|some (.inl v7)=>
 some (v7.2.1,(v7.1.1,v7.1.2.1,v7.1.2.2.1,()),())
|some (.inr v9)=>
 none
noncomputable def Gh:Spec:=⟨_,agf,QV,rfl,rv⟩
noncomputable def Da:FuncId→Option Spec:=bh [(52,iC),(280,Jo)]
theorem LM:∀f s,Da f=some s→FnOK G0 Tryz.prog f s:=aF ⟨bR,Sd,trivial⟩
def A5:aO:=⟨[0,3,4,5],ab3,0,[0,3],adf,[],.unit⟩
noncomputable def Db:List ay:=[A5.spec ib]
theorem Jp:bc bd E0 Da (ba Tryz.f236 Db) Tryz.f236 0 A5 ib:=fun x=>by kernel_rfl
theorem Dc:FnOK G0 Tryz.prog 236 Gh:=aH ao LM Tryz.func236 Db (by kernel_rfl) (by exact⟨(Jp).lok,trivial⟩) fun x=>by kernel_rfl
noncomputable def bp(x:Ty.T (.pair (.int .i64) an)):Option (Ty.T ae):=
match(decide (x.1≥x.2.1))with
|true=>
 some ((decide (x.1≤x.2.2.1)),())
|false=>
 some (false,())
noncomputable def lV:Spec:=⟨_,ae,.unit,rfl,bp⟩
theorem cD:FnOK G0 Tryz.prog 70 lV:=ap ao aJ Tryz.func70
abbrev abo:Ty:=y_9
noncomputable def fR(x:(Ty.T abo)):Option ((Ty.T abo) ⊕ ((Ty.T .unit) ⊕ (Ty.T ae))):=
match(decide (x.2.1<(x.1.length:Int)))with
|true=>
 aa (aq x.1 x.2.1) fun v1=>
 match bp (v1,(0:Int),(4294967295:Int),())with
 |none=>none
 |some v2=>
 match(!v2.1)with
 |true=>
  some (.inr (.inr (false,())))
 |false=>
  some (.inl (x.1,(IntKind.i64.wrap (x.2.1+(1:Int))),()))
|false=>
 some (.inr (.inl (())))
noncomputable def nB(x:Ty.T Fn):Option (Ty.T ae):=
match ag fR (x.1,(0:Int),())with
|none=>none
|some (.inl v3)=>
 some (true,())
|some (.inr v4)=>
 some (v4.1,())
noncomputable def A6:Spec:=⟨_,ae,.unit,rfl,nB⟩
noncomputable def yf:FuncId→Option Spec:=bh [(70,lV)]
theorem Hy:∀f s,yf f=some s→FnOK G0 Tryz.prog f s:=aF ⟨cD,trivial⟩
def wq:aO:=⟨[0,3],abo,0,[],.unit,[2],ae⟩
noncomputable def yg:List ay:=[wq.spec fR]
theorem Fv:bc bd E0 yf (ba Tryz.f281 yg) Tryz.f281 0 wq fR:=fun x=>by kernel_rfl
theorem LN:FnOK G0 Tryz.prog 281 A6:=aH ao Hy Tryz.func281 yg (by kernel_rfl) (by exact⟨(Fv).lok,trivial⟩) fun x=>by kernel_rfl
abbrev abp:Ty:=afu
noncomputable def fS(x:(Ty.T abp)):Option ((Ty.T abp) ⊕ ((Ty.T la) ⊕ (Ty.T .unit))):=
match(decide (x.2.2.1<(32:Int)))with
|true=>
 match lU (x.1,x.2.2.1,())with
 |none=>none
 |some v2=>
 match v2.1 with
 |true=>
  aA (x.2.1.length+ [x.2.2.1].length) (
   some (.inl (x.1,(x.2.1++ [x.2.2.1]),(IntKind.i64.wrap (x.2.2.1+(1:Int))),())))
 |false=>
  some (.inl (x.1,x.2.1,(IntKind.i64.wrap (x.2.2.1+(1:Int))),()))
|false=>
 some (.inr (.inl (x.2.1,())))
noncomputable def iE(x:Ty.T et):Option (Ty.T y_5):=
match nB ([x.1],())with
|none=>none
|some v1=>
match(!v1.1)with
|true=>
 some ([],(2:Int),())
|false=>
 match ag fS (x.1,[],(0:Int),())with
 |none=>none
 |some (.inl v3)=>
  some (v3.1,(0:Int),())
 |some (.inr v5)=>
  none
noncomputable def A7:Spec:=⟨_,y_5,.unit,rfl,iE⟩
noncomputable def yh:FuncId→Option Spec:=bh [(195,z8),(281,A6)]
theorem Hz:∀f s,yh f=some s→FnOK G0 Tryz.prog f s:=aF ⟨xE,LN,trivial⟩
def ws:aO:=⟨[0,4,5],abp,0,[4],la,[],.unit⟩
noncomputable def yi:List ay:=[ws.spec fS]
theorem Fw:bc bd E0 yh (ba Tryz.f237 yi) Tryz.f237 0 ws fS:=fun x=>by kernel_rfl
theorem yj:FnOK G0 Tryz.prog 237 A7:=aH ao Hz Tryz.func237 yi (by kernel_rfl) (by exact⟨(Fw).lok,trivial⟩) fun x=>by kernel_rfl
noncomputable def gQ(x:Ty.T et):Option (Ty.T ae):=
match(x.1==(0:Int))with
|true=>
 some (true,())
|false=>
 some ((x.1==(2:Int)),())
noncomputable def Se:Spec:=⟨_,ae,.unit,rfl,gQ⟩
theorem pz:FnOK G0 Tryz.prog 217 Se:=ap ao aJ Tryz.func217
noncomputable def dL(x:Ty.T et):Option (Ty.T ae):=
some ((x.1 != (0:Int)),())
noncomputable def P2:Spec:=⟨_,ae,.unit,rfl,dL⟩
theorem jp:FnOK G0 Tryz.prog 154 P2:=ap ao aJ Tryz.func154
noncomputable def jq(x:Ty.T an):Option (Ty.T et):=
match dL (x.1,())with
|none=>none
|some v1=>
match v1.1 with
|true=>
 match gQ (x.1,())with
 |none=>none
 |some v2=>
 match v2.1 with
 |true=>
  some ((IntKind.i64.wrap ((IntKind.i64.wrap ((IntKind.i64.wrap ((1:Int)+(8:Int)))+(1:Int)))+x.2.1)),())
 |false=>
  some ((IntKind.i64.wrap ((1:Int)+(8:Int))),())
|false=>
 match gQ (x.1,())with
 |none=>none
 |some v3=>
 match v3.1 with
 |true=>
  some ((IntKind.i64.wrap ((IntKind.i64.wrap ((1:Int)+(1:Int)))+x.2.1)),())
 |false=>
  some ((1:Int),())
noncomputable def Jq:Spec:=⟨_,et,.unit,rfl,jq⟩
theorem HA:FnOK G0 Tryz.prog 282 Jq:=ap ao (sg jp (sg pz (aJ))) Tryz.func282
noncomputable def dM(x:Ty.T an):Option (Ty.T et):=
match jq (x.1,x.2.1,())with
|none=>none
|some v1=>
some ((IntKind.i64.wrap ((11:Int)+(IntKind.i64.wrap ((10:Int)*(IntKind.i64.wrap (v1.1+(3:Int))))))),())
noncomputable def P3:Spec:=⟨_,et,.unit,rfl,dM⟩
theorem sA:FnOK G0 Tryz.prog 240 P3:=ap ao (sg HA (aJ)) Tryz.func240
noncomputable def oU(x:Ty.T QV):Option (Ty.T ago):=
match ai ((x.1.1,x.1.2.1,x.1.2.2.1,()),(4:Int),())with
|none=>none
|some v1=>
match ai ((v1.2.1.1,v1.2.1.2.1,v1.2.1.2.2.1,()),(4:Int),())with
|none=>none
|some v2=>
match ai ((v2.2.1.1,v2.2.1.2.1,v2.2.1.2.2.1,()),(2:Int),())with
|none=>none
|some v3=>
match gQ (v2.1,())with
|none=>none
|some v4=>
match v4.1 with
|true=>
 match ai ((v3.2.1.1,v3.2.1.2.1,v3.2.1.2.2.1,()),(5:Int),())with
 |none=>none
 |some v5=>
 match(v2.1==(3:Int))with
 |true=>
  match dM (v2.1,(IntKind.i64.wrap ((1:Int)+v5.1)),())with
  |none=>none
  |some v6=>
  match ai ((v5.2.1.1,v5.2.1.2.1,v5.2.1.2.2.1,()),(200:Int),())with
  |none=>none
  |some v7=>
  some ((v1.1,v2.1,(IntKind.i64.wrap ((1:Int)+v5.1)),(IntKind.i64.wrap ((IntKind.i64.wrap (v6.1+(20:Int)))+v7.1)),false,()),(v7.2.1.1,v7.2.1.2.1,v7.2.1.2.2.1,()),())
 |false=>
  match dM (v2.1,(IntKind.i64.wrap ((1:Int)+v5.1)),())with
  |none=>none
  |some v8=>
  match ai ((v5.2.1.1,v5.2.1.2.1,v5.2.1.2.2.1,()),(200:Int),())with
  |none=>none
  |some v9=>
  some ((v1.1,v2.1,(IntKind.i64.wrap ((1:Int)+v5.1)),(IntKind.i64.wrap ((IntKind.i64.wrap (v8.1+(20:Int)))+v9.1)),(v3.1==(0:Int)),()),(v9.2.1.1,v9.2.1.2.1,v9.2.1.2.2.1,()),())
|false=>
 match(v2.1==(3:Int))with
 |true=>
  match dM (v2.1,(0:Int),())with
  |none=>none
  |some v10=>
  match ai ((v3.2.1.1,v3.2.1.2.1,v3.2.1.2.2.1,()),(200:Int),())with
  |none=>none
  |some v11=>
  some ((v1.1,v2.1,(0:Int),(IntKind.i64.wrap ((IntKind.i64.wrap (v10.1+(20:Int)))+v11.1)),false,()),(v11.2.1.1,v11.2.1.2.1,v11.2.1.2.2.1,()),())
 |false=>
  match dM (v2.1,(0:Int),())with
  |none=>none
  |some v12=>
  match ai ((v3.2.1.1,v3.2.1.2.1,v3.2.1.2.2.1,()),(200:Int),())with
  |none=>none
  |some v13=>
  some ((v1.1,v2.1,(0:Int),(IntKind.i64.wrap ((IntKind.i64.wrap (v12.1+(20:Int)))+v13.1)),(v3.1==(0:Int)),()),(v13.2.1.1,v13.2.1.2.1,v13.2.1.2.2.1,()),())
noncomputable def Gi:Spec:=⟨_,ads,QV,rfl,oU⟩
theorem Dd:FnOK G0 Tryz.prog 238 Gi:=ap ao (sg bR (sg pz (sg sA (aJ)))) Tryz.func238
abbrev abC:Ty:=afB
abbrev acV:Ty:=(.pair (.box ah) (.pair (.box ac) (.pair (.own 136 ak) (.pair (.own 2 (.int .i64)) (.pair (.own 159 al) (.pair (.own 167 aj) (.pair (.int .i64) (.pair (.int .i64) (.pair (.box al) (.pair (.own 2 (.int .i64)) .unit))))))))))
noncomputable def fC(x:(Ty.T abC)):Option ((Ty.T abC) ⊕ ((Ty.T acV) ⊕ (Ty.T .unit))):=
match(decide (x.2.2.2.2.2.2.2.2.2.2.1<x.2.2.2.2.2.2.2.2.1.2.1))with
|true=>
 match ai ((x.1.1,x.1.2.1,x.1.2.2.1,()),(100:Int),())with
 |none=>none
 |some v12=>
 aA (x.2.2.2.2.2.2.2.2.2.1.length+ [(IntKind.i64.wrap ((260:Int)+v12.1))].length) (
  some (.inl ((v12.2.1.1,v12.2.1.2.1,v12.2.1.2.2.1,()),(x.2.1.1,x.2.1.2.1,x.2.1.2.2.1,x.2.1.2.2.2.1,()),x.2.2.1,x.2.2.2.1,x.2.2.2.2.1,x.2.2.2.2.2.1,x.2.2.2.2.2.2.1,x.2.2.2.2.2.2.2.1,(x.2.2.2.2.2.2.2.2.1.1,x.2.2.2.2.2.2.2.2.1.2.1,x.2.2.2.2.2.2.2.2.1.2.2.1,()),(x.2.2.2.2.2.2.2.2.2.1++ [(IntKind.i64.wrap ((260:Int)+v12.1))]),(IntKind.i64.wrap (x.2.2.2.2.2.2.2.2.2.2.1+(1:Int))),())))
|false=>
 some (.inr (.inl ((x.1.1,x.1.2.1,x.1.2.2.1,()),(x.2.1.1,x.2.1.2.1,x.2.1.2.2.1,x.2.1.2.2.2.1,()),x.2.2.1,x.2.2.2.1,x.2.2.2.2.1,x.2.2.2.2.2.1,x.2.2.2.2.2.2.1,x.2.2.2.2.2.2.2.1,(x.2.2.2.2.2.2.2.2.1.1,x.2.2.2.2.2.2.2.2.1.2.1,x.2.2.2.2.2.2.2.2.1.2.2.1,()),x.2.2.2.2.2.2.2.2.2.1,())))
abbrev abD:Ty:=(.pair (.box ah) (.pair (.box ac) (.pair (.own 136 ak) (.pair (.own 2 (.int .i64)) (.pair (.own 159 al) (.pair (.own 167 aj) (.pair (.int .i64) (.pair (.int .i64) (.pair (.box al) (.pair (.own 2 (.int .i64)) an))))))))))
abbrev acW:Ty:=afB
noncomputable def eu(x:(Ty.T abD)):Option ((Ty.T abD) ⊕ ((Ty.T acW) ⊕ (Ty.T .unit))):=
match(decide (x.2.2.2.2.2.2.2.2.2.2.2.1<x.2.2.2.2.2.2.2.2.1.2.1))with
|true=>
 match oU ((x.1.1,x.1.2.1,x.1.2.2.1,()),())with
 |none=>none
 |some v15=>
 if(x.2.2.2.1.length:Int)=0 then none else
 aa (aq x.2.2.2.1 (Int.tmod x.2.2.2.2.2.2.2.2.2.2.2.1 (x.2.2.2.1.length:Int))) fun _=>
 match x.2.2.2.1[(Int.tmod x.2.2.2.2.2.2.2.2.2.2.2.1 (x.2.2.2.1.length:Int)).toNat]? with
 |none=>none
 |some v17=>
 match(v15.1.2.1==(3:Int))with
 |true=>
  match(decide (x.2.2.2.2.2.2.2.1>(0:Int)))with
  |true=>
   aa (aq x.2.2.2.2.2.2.2.2.2.1 x.2.2.2.2.2.2.2.2.2.2.2.1) fun _=>
   match x.2.2.2.2.2.2.2.2.2.1[x.2.2.2.2.2.2.2.2.2.2.2.1.toNat]? with
   |none=>none
   |some v19=>
   aA (x.2.2.2.2.2.1.length+ [(x.2.2.2.2.2.2.2.1,x.2.2.2.2.2.2.2.2.2.2.1,x.2.2.2.2.2.2.2.2.2.2.2.1,(v17,(1:Int),v15.1.2.2.1,v19,v15.1.2.2.2.2.1,()),())].length) (
    some (.inl ((v15.2.1.1,v15.2.1.2.1,v15.2.1.2.2.1,()),(x.2.1.1,x.2.1.2.1,x.2.1.2.2.1,x.2.1.2.2.2.1,()),x.2.2.1,x.2.2.2.1,x.2.2.2.2.1,(x.2.2.2.2.2.1++ [(x.2.2.2.2.2.2.2.1,x.2.2.2.2.2.2.2.2.2.2.1,x.2.2.2.2.2.2.2.2.2.2.2.1,(v17,(1:Int),v15.1.2.2.1,v19,v15.1.2.2.2.2.1,()),())]),x.2.2.2.2.2.2.1,x.2.2.2.2.2.2.2.1,(x.2.2.2.2.2.2.2.2.1.1,x.2.2.2.2.2.2.2.2.1.2.1,x.2.2.2.2.2.2.2.2.1.2.2.1,()),x.2.2.2.2.2.2.2.2.2.1,x.2.2.2.2.2.2.2.2.2.2.1,(IntKind.i64.wrap (x.2.2.2.2.2.2.2.2.2.2.2.1+(1:Int))),())))
  |false=>
   aa (aq x.2.2.2.2.2.2.2.2.2.1 x.2.2.2.2.2.2.2.2.2.2.2.1) fun _=>
   match x.2.2.2.2.2.2.2.2.2.1[x.2.2.2.2.2.2.2.2.2.2.2.1.toNat]? with
   |none=>none
   |some v21=>
   aA (x.2.2.2.2.2.1.length+ [(x.2.2.2.2.2.2.2.1,x.2.2.2.2.2.2.2.2.2.2.1,x.2.2.2.2.2.2.2.2.2.2.2.1,(v17,v15.1.2.1,v15.1.2.2.1,v21,v15.1.2.2.2.2.1,()),())].length) (
    some (.inl ((v15.2.1.1,v15.2.1.2.1,v15.2.1.2.2.1,()),(x.2.1.1,x.2.1.2.1,x.2.1.2.2.1,x.2.1.2.2.2.1,()),x.2.2.1,x.2.2.2.1,x.2.2.2.2.1,(x.2.2.2.2.2.1++ [(x.2.2.2.2.2.2.2.1,x.2.2.2.2.2.2.2.2.2.2.1,x.2.2.2.2.2.2.2.2.2.2.2.1,(v17,v15.1.2.1,v15.1.2.2.1,v21,v15.1.2.2.2.2.1,()),())]),x.2.2.2.2.2.2.1,x.2.2.2.2.2.2.2.1,(x.2.2.2.2.2.2.2.2.1.1,x.2.2.2.2.2.2.2.2.1.2.1,x.2.2.2.2.2.2.2.2.1.2.2.1,()),x.2.2.2.2.2.2.2.2.2.1,x.2.2.2.2.2.2.2.2.2.2.1,(IntKind.i64.wrap (x.2.2.2.2.2.2.2.2.2.2.2.1+(1:Int))),())))
 |false=>
  aa (aq x.2.2.2.2.2.2.2.2.2.1 x.2.2.2.2.2.2.2.2.2.2.2.1) fun _=>
  match x.2.2.2.2.2.2.2.2.2.1[x.2.2.2.2.2.2.2.2.2.2.2.1.toNat]? with
  |none=>none
  |some v23=>
  aA (x.2.2.2.2.2.1.length+ [(x.2.2.2.2.2.2.2.1,x.2.2.2.2.2.2.2.2.2.2.1,x.2.2.2.2.2.2.2.2.2.2.2.1,(v17,v15.1.2.1,v15.1.2.2.1,v23,v15.1.2.2.2.2.1,()),())].length) (
   some (.inl ((v15.2.1.1,v15.2.1.2.1,v15.2.1.2.2.1,()),(x.2.1.1,x.2.1.2.1,x.2.1.2.2.1,x.2.1.2.2.2.1,()),x.2.2.1,x.2.2.2.1,x.2.2.2.2.1,(x.2.2.2.2.2.1++ [(x.2.2.2.2.2.2.2.1,x.2.2.2.2.2.2.2.2.2.2.1,x.2.2.2.2.2.2.2.2.2.2.2.1,(v17,v15.1.2.1,v15.1.2.2.1,v23,v15.1.2.2.2.2.1,()),())]),x.2.2.2.2.2.2.1,x.2.2.2.2.2.2.2.1,(x.2.2.2.2.2.2.2.2.1.1,x.2.2.2.2.2.2.2.2.1.2.1,x.2.2.2.2.2.2.2.2.1.2.2.1,()),x.2.2.2.2.2.2.2.2.2.1,x.2.2.2.2.2.2.2.2.2.2.1,(IntKind.i64.wrap (x.2.2.2.2.2.2.2.2.2.2.2.1+(1:Int))),())))
|false=>
 some (.inr (.inl ((x.1.1,x.1.2.1,x.1.2.2.1,()),(x.2.1.1,x.2.1.2.1,x.2.1.2.2.1,x.2.1.2.2.2.1,()),x.2.2.1,x.2.2.2.1,x.2.2.2.2.1,x.2.2.2.2.2.1,x.2.2.2.2.2.2.1,x.2.2.2.2.2.2.2.1,(x.2.2.2.2.2.2.2.2.1.1,x.2.2.2.2.2.2.2.2.1.2.1,x.2.2.2.2.2.2.2.2.1.2.2.1,()),x.2.2.2.2.2.2.2.2.2.1,x.2.2.2.2.2.2.2.2.2.2.1,())))
abbrev abE:Ty:=afB
abbrev acX:Ty:=agF
noncomputable def fD(x:(Ty.T abE)):Option ((Ty.T abE) ⊕ ((Ty.T acX) ⊕ (Ty.T .unit))):=
match(decide (x.2.2.2.2.2.2.2.2.2.2.1<x.2.2.2.2.2.2.2.2.1.1))with
|true=>
 match ag eu ((x.1.1,x.1.2.1,x.1.2.2.1,()),(x.2.1.1,x.2.1.2.1,x.2.1.2.2.1,x.2.1.2.2.2.1,()),x.2.2.1,x.2.2.2.1,x.2.2.2.2.1,x.2.2.2.2.2.1,x.2.2.2.2.2.2.1,x.2.2.2.2.2.2.2.1,(x.2.2.2.2.2.2.2.2.1.1,x.2.2.2.2.2.2.2.2.1.2.1,x.2.2.2.2.2.2.2.2.1.2.2.1,()),x.2.2.2.2.2.2.2.2.2.1,x.2.2.2.2.2.2.2.2.2.2.1,(0:Int),())with
 |none=>none
 |some (.inl v15)=>
  some (.inl ((v15.1.1,v15.1.2.1,v15.1.2.2.1,()),(v15.2.1.1,v15.2.1.2.1,v15.2.1.2.2.1,v15.2.1.2.2.2.1,()),v15.2.2.1,v15.2.2.2.1,v15.2.2.2.2.1,v15.2.2.2.2.2.1,v15.2.2.2.2.2.2.1,v15.2.2.2.2.2.2.2.1,(v15.2.2.2.2.2.2.2.2.1.1,v15.2.2.2.2.2.2.2.2.1.2.1,v15.2.2.2.2.2.2.2.2.1.2.2.1,()),v15.2.2.2.2.2.2.2.2.2.1,(IntKind.i64.wrap (v15.2.2.2.2.2.2.2.2.2.2.1+(1:Int))),()))
 |some (.inr v17)=>
  some (.inr (.inr (())))
|false=>
 some (.inr (.inl ((x.1.1,x.1.2.1,x.1.2.2.1,()),(x.2.1.1,x.2.1.2.1,x.2.1.2.2.1,x.2.1.2.2.2.1,()),x.2.2.1,x.2.2.2.1,x.2.2.2.2.1,x.2.2.2.2.2.1,x.2.2.2.2.2.2.1,x.2.2.2.2.2.2.2.1,())))
abbrev abF:Ty:=agF
abbrev acY:Ty:=(.pair (.box ah) (.pair (.box ac) (.pair (.own 136 ak) (.pair (.own 159 al) (.pair (.own 167 aj) .unit)))))
noncomputable def dD(x:(Ty.T abF)):Option ((Ty.T abF) ⊕ ((Ty.T acY) ⊕ (Ty.T .unit))):=
match(decide (x.2.2.2.2.2.2.2.1<x.2.2.2.2.2.2.1))with
|true=>
 match ai ((x.1.1,x.1.2.1,x.1.2.2.1,()),(2:Int),())with
 |none=>none
 |some v10=>
 match ai ((v10.2.1.1,v10.2.1.2.1,v10.2.1.2.2.1,()),(2:Int),())with
 |none=>none
 |some v11=>
 match(decide (x.2.2.2.2.2.2.1>(1:Int)))with
 |true=>
  aA (x.2.2.2.2.1.length+ [((IntKind.i64.wrap ((1:Int)+v10.1)),(IntKind.i64.wrap ((x.2.2.2.1.length:Int)+v11.1)),[(IntKind.i64.wrap ((1:Int)-x.2.2.2.2.2.2.2.1))],())].length) (
   match ag fC ((v11.2.1.1,v11.2.1.2.1,v11.2.1.2.2.1,()),(x.2.1.1,x.2.1.2.1,x.2.1.2.2.1,x.2.1.2.2.2.1,()),x.2.2.1,x.2.2.2.1,(x.2.2.2.2.1++ [((IntKind.i64.wrap ((1:Int)+v10.1)),(IntKind.i64.wrap ((x.2.2.2.1.length:Int)+v11.1)),[(IntKind.i64.wrap ((1:Int)-x.2.2.2.2.2.2.2.1))],())]),x.2.2.2.2.2.1,x.2.2.2.2.2.2.1,x.2.2.2.2.2.2.2.1,((IntKind.i64.wrap ((1:Int)+v10.1)),(IntKind.i64.wrap ((x.2.2.2.1.length:Int)+v11.1)),[(IntKind.i64.wrap ((1:Int)-x.2.2.2.2.2.2.2.1))],()),[],(0:Int),())with
   |none=>none
   |some (.inl v12)=>
    match ag fD ((v12.1.1,v12.1.2.1,v12.1.2.2.1,()),(v12.2.1.1,v12.2.1.2.1,v12.2.1.2.2.1,v12.2.1.2.2.2.1,()),v12.2.2.1,v12.2.2.2.1,v12.2.2.2.2.1,v12.2.2.2.2.2.1,v12.2.2.2.2.2.2.1,v12.2.2.2.2.2.2.2.1,(v12.2.2.2.2.2.2.2.2.1.1,v12.2.2.2.2.2.2.2.2.1.2.1,v12.2.2.2.2.2.2.2.2.1.2.2.1,()),v12.2.2.2.2.2.2.2.2.2.1,(0:Int),())with
    |none=>none
    |some (.inl v14)=>
     some (.inl ((v14.1.1,v14.1.2.1,v14.1.2.2.1,()),(v14.2.1.1,v14.2.1.2.1,v14.2.1.2.2.1,v14.2.1.2.2.2.1,()),v14.2.2.1,v14.2.2.2.1,v14.2.2.2.2.1,v14.2.2.2.2.2.1,v14.2.2.2.2.2.2.1,(IntKind.i64.wrap (v14.2.2.2.2.2.2.2.1+(1:Int))),()))
    |some (.inr v16)=>
     some (.inr (.inr (())))
   |some (.inr v17)=>
    some (.inr (.inr (()))))
 |false=>
  aA (x.2.2.2.2.1.length+([((IntKind.i64.wrap ((1:Int)+v10.1)),(IntKind.i64.wrap ((x.2.2.2.1.length:Int)+v11.1)),[],())]:List (Ty.T al)).length) (
   match ag fC ((v11.2.1.1,v11.2.1.2.1,v11.2.1.2.2.1,()),(x.2.1.1,x.2.1.2.1,x.2.1.2.2.1,x.2.1.2.2.2.1,()),x.2.2.1,x.2.2.2.1,(x.2.2.2.2.1++([((IntKind.i64.wrap ((1:Int)+v10.1)),(IntKind.i64.wrap ((x.2.2.2.1.length:Int)+v11.1)),[],())]:List (Ty.T al))),x.2.2.2.2.2.1,x.2.2.2.2.2.2.1,x.2.2.2.2.2.2.2.1,((IntKind.i64.wrap ((1:Int)+v10.1)),(IntKind.i64.wrap ((x.2.2.2.1.length:Int)+v11.1)),[],()),[],(0:Int),())with
   |none=>none
   |some (.inl v18)=>
    match ag fD ((v18.1.1,v18.1.2.1,v18.1.2.2.1,()),(v18.2.1.1,v18.2.1.2.1,v18.2.1.2.2.1,v18.2.1.2.2.2.1,()),v18.2.2.1,v18.2.2.2.1,v18.2.2.2.2.1,v18.2.2.2.2.2.1,v18.2.2.2.2.2.2.1,v18.2.2.2.2.2.2.2.1,(v18.2.2.2.2.2.2.2.2.1.1,v18.2.2.2.2.2.2.2.2.1.2.1,v18.2.2.2.2.2.2.2.2.1.2.2.1,()),v18.2.2.2.2.2.2.2.2.2.1,(0:Int),())with
    |none=>none
    |some (.inl v20)=>
     some (.inl ((v20.1.1,v20.1.2.1,v20.1.2.2.1,()),(v20.2.1.1,v20.2.1.2.1,v20.2.1.2.2.1,v20.2.1.2.2.2.1,()),v20.2.2.1,v20.2.2.2.1,v20.2.2.2.2.1,v20.2.2.2.2.2.1,v20.2.2.2.2.2.2.1,(IntKind.i64.wrap (v20.2.2.2.2.2.2.2.1+(1:Int))),()))
    |some (.inr v22)=>
     some (.inr (.inr (())))
   |some (.inr v23)=>
    some (.inr (.inr (()))))
|false=>
 some (.inr (.inl ((x.1.1,x.1.2.1,x.1.2.2.1,()),(x.2.1.1,x.2.1.2.1,x.2.1.2.2.1,x.2.1.2.2.2.1,()),x.2.2.1,x.2.2.2.2.1,x.2.2.2.2.2.1,())))
noncomputable def wt(x:Ty.T QV):Option (Ty.T (.pair (.pair (.int .i64) (.pair (.own 136 ak) (.pair (.own 159 al) (.pair (.own 167 aj) .unit)))) (.pair (.box ah) .unit))):=
match ai ((x.1.1,x.1.2.1,x.1.2.2.1,()),(4:Int),())with
|none=>none
|some v1=>
match(v1.1==(0:Int))with
|true=>
 match xG (())with
 |none=>none
 |some v2=>
 some ((v2.1.1,v2.1.2.1,v2.1.2.2.1,v2.1.2.2.2.1,()),(v1.2.1.1,v1.2.1.2.1,v1.2.1.2.2.1,()),())
|false=>
 match rv ((v1.2.1.1,v1.2.1.2.1,v1.2.1.2.2.1,()),())with
 |none=>none
 |some v3=>
 aa (aq v3.1 (0:Int)) fun _=>
 match v3.1[(0:Int).toNat]? with
 |none=>none
 |some v5=>
 match(decide (((v3.1.set ((0:Int).toNat) (v5.1,v5.2.1,v5.2.2.1,false,())).length:Int)>(3:Int)))with
 |true=>
  aa (aL (v3.1.set ((0:Int).toNat) (v5.1,v5.2.1,v5.2.2.1,false,())).length none (some (.dat (.int .i64) (3:Int)))) fun v6=>
  match cM ((List.take v6.2 (v3.1.set ((0:Int).toNat) (v5.1,v5.2.1,v5.2.2.1,false,()))),())with
  |none=>none
  |some v7=>
  match iE (v7.1,())with
  |none=>none
  |some v8=>
  match ai ((v3.2.1.1,v3.2.1.2.1,v3.2.1.2.2.1,()),(2:Int),())with
  |none=>none
  |some v9=>
  match ag dD ((v9.2.1.1,v9.2.1.2.1,v9.2.1.2.2.1,()),((0:Int),[],[],[],()),(List.take v6.2 (v3.1.set ((0:Int).toNat) (v5.1,v5.2.1,v5.2.2.1,false,()))),v8.1,[],[],(IntKind.i64.wrap ((1:Int)+v9.1)),(0:Int),())with
  |none=>none
  |some (.inl v24)=>
   match ai ((v24.1.1,v24.1.2.1,v24.1.2.2.1,()),(5000:Int),())with
   |none=>none
   |some v26=>
   some (((IntKind.i64.wrap ((1:Int)+v26.1)),v24.2.2.1,v24.2.2.2.1,v24.2.2.2.2.1,()),(v26.2.1.1,v26.2.1.2.1,v26.2.1.2.2.1,()),())
  |some (.inr v27)=>
   none
 |false=>
  match cM ((v3.1.set ((0:Int).toNat) (v5.1,v5.2.1,v5.2.2.1,false,())),())with
  |none=>none
  |some v28=>
  match iE (v28.1,())with
  |none=>none
  |some v29=>
  match ai ((v3.2.1.1,v3.2.1.2.1,v3.2.1.2.2.1,()),(2:Int),())with
  |none=>none
  |some v30=>
  match ag dD ((v30.2.1.1,v30.2.1.2.1,v30.2.1.2.2.1,()),((0:Int),[],[],[],()),(v3.1.set ((0:Int).toNat) (v5.1,v5.2.1,v5.2.2.1,false,())),v29.1,[],[],(IntKind.i64.wrap ((1:Int)+v30.1)),(0:Int),())with
  |none=>none
  |some (.inl v31)=>
   match ai ((v31.1.1,v31.1.2.1,v31.1.2.2.1,()),(5000:Int),())with
   |none=>none
   |some v33=>
   some (((IntKind.i64.wrap ((1:Int)+v33.1)),v31.2.2.1,v31.2.2.2.1,v31.2.2.2.2.1,()),(v33.2.1.1,v33.2.1.2.1,v33.2.1.2.2.1,()),())
  |some (.inr v34)=>
   none
noncomputable def Gj:Spec:=⟨_,afy,QV,rfl,wt⟩
noncomputable def lW:FuncId→Option Spec:=bh [(52,iC),(126,nV),(235,A3),(236,Gh),(237,A7),(238,Gi)]
theorem LO:∀f s,lW f=some s→FnOK G0 Tryz.prog f s:=aF ⟨bR,kg,LL,Dc,yj,Dd,trivial⟩
def yk:aO:=⟨[0,2,3,4,6,7,8,9],abF,0,[0,2,3,6,7],acY,[],.unit⟩
def yl:aO:=⟨[0,2,3,4,6,7,8,9,10,11,12],abC,2,[0,2,3,4,6,7,8,9,10,11],acV,[],.unit⟩
def yn:aO:=⟨[0,2,3,4,6,7,8,9,10,11,13],abE,4,[0,2,3,4,6,7,8,9],acX,[],.unit⟩
def yo:aO:=⟨[0,2,3,4,6,7,8,9,10,11,13,14],abD,6,[0,2,3,4,6,7,8,9,10,11,13],acW,[],.unit⟩
noncomputable def lX:List ay:=[yk.spec dD,yl.spec fC,yn.spec fD,yo.spec eu]
theorem HB:bc V0 E1 lW (ba Tryz.f184 lX) Tryz.f184 0 yk dD:=fun x=>by kernel_rfl
theorem HD:bc V0 E1 lW (ba Tryz.f184 lX) Tryz.f184 1 yl fC:=fun x=>by kernel_rfl
theorem HE:bc V0 E1 lW (ba Tryz.f184 lX) Tryz.f184 2 yn fD:=fun x=>by kernel_rfl
theorem HF:bc V0 E1 lW (ba Tryz.f184 lX) Tryz.f184 3 yo eu:=fun x=>by kernel_rfl
theorem P4:FnOK G0 Tryz.prog 184 Gj:=aH aaJ LO Tryz.func184 lX (by kernel_rfl) (by exact⟨(HB).lok,(HD).lok,(HE).lok,(HF).lok,trivial⟩) fun x=>by kernel_rfl
noncomputable def pA(x:Ty.T QV):Option (Ty.T agt):=
match rv ((x.1.1,x.1.2.1,x.1.2.2.1,()),())with
|none=>none
|some v1=>
match ai ((v1.2.1.1,v1.2.1.2.1,v1.2.1.2.2.1,()),(v1.1.length:Int),())with
|none=>none
|some v2=>
match ai ((v2.2.1.1,v2.2.1.2.1,v2.2.1.2.2.1,()),(24:Int),())with
|none=>none
|some v3=>
match(v3.1==(0:Int))with
|true=>
 match ai ((v3.2.1.1,v3.2.1.2.1,v3.2.1.2.2.1,()),(3:Int),())with
 |none=>none
 |some v4=>
 aa (aq [(-1:Int),(31:Int),(32:Int)] v4.1) fun _=>
 match [(-1:Int),(31:Int),(32:Int)][v4.1.toNat]? with
 |none=>none
 |some v6=>
 aa (aq v1.1 v2.1) fun _=>
 match v1.1[v2.1.toNat]? with
 |none=>none
 |some v8=>
 some ((v1.1.set v2.1.toNat (v6,v8.2.1,v8.2.2.1,v8.2.2.2.1,())),(v4.2.1.1,v4.2.1.2.1,v4.2.1.2.2.1,()),())
|false=>
 match(v3.1==(1:Int))with
 |true=>
  match ai ((v3.2.1.1,v3.2.1.2.1,v3.2.1.2.2.1,()),(5:Int),())with
  |none=>none
  |some v9=>
  aa (aq [[],([115,101,118,101,110,110,55]:List UInt8),([115,105,120,120,120,54]:List UInt8),([78,49]:List UInt8),([110,48]:List UInt8)] v9.1) fun _=>
  match [[],([115,101,118,101,110,110,55]:List UInt8),([115,105,120,120,120,54]:List UInt8),([78,49]:List UInt8),([110,48]:List UInt8)][v9.1.toNat]? with
  |none=>none
  |some v11=>
  aa (aq v1.1 v2.1) fun _=>
  match v1.1[v2.1.toNat]? with
  |none=>none
  |some v13=>
  some ((v1.1.set v2.1.toNat (v13.1,v11,v13.2.2.1,v13.2.2.2.1,())),(v9.2.1.1,v9.2.1.2.1,v9.2.1.2.2.1,()),())
 |false=>
  match(v3.1==(2:Int))with
  |true=>
   match ai ((v3.2.1.1,v3.2.1.2.1,v3.2.1.2.2.1,()),(3:Int),())with
   |none=>none
   |some v14=>
   aa (aq [(-1:Int),(1000:Int),(1001:Int)] v14.1) fun _=>
   match [(-1:Int),(1000:Int),(1001:Int)][v14.1.toNat]? with
   |none=>none
   |some v16=>
   aa (aq v1.1 v2.1) fun _=>
   match v1.1[v2.1.toNat]? with
   |none=>none
   |some v18=>
   some ((v1.1.set v2.1.toNat (v18.1,v18.2.1,v16,v18.2.2.2.1,())),(v14.2.1.1,v14.2.1.2.1,v14.2.1.2.2.1,()),())
  |false=>
   match(v3.1==(3:Int))with
   |true=>
    aa (aq v1.1 v2.1) fun _=>
    match v1.1[v2.1.toNat]? with
    |none=>none
    |some v20=>
    aA (v1.1.length+ [v20].length) (
     some ((v1.1++ [v20]),(v3.2.1.1,v3.2.1.2.1,v3.2.1.2.2.1,()),()))
   |false=>
    match(v3.1==(4:Int))with
    |true=>
     some ([],(v3.2.1.1,v3.2.1.2.1,v3.2.1.2.2.1,()),())
    |false=>
     some (v1.1,(v3.2.1.1,v3.2.1.2.1,v3.2.1.2.2.1,()),())
noncomputable def yp:Spec:=⟨_,agf,QV,rfl,pA⟩
theorem Jr:FnOK G0 Tryz.prog 185 yp:=ap ao (sg bR (sg Dc (aJ))) Tryz.func185
abbrev ab4:Ty:=(.pair (.box ah) (.pair (.own 159 (.pair (.int .i64) (.pair (.int .i64) (.pair (.own 2 (.int .i64)) .unit)))) (.pair (.int .i64) (.pair (.int .i64) (.pair (.own 2 (.int .i64)) (.pair (.int .i64) .unit))))))
abbrev adg:Ty:=(.pair (.box ah) (.pair (.own 159 (.pair (.int .i64) (.pair (.int .i64) (.pair (.own 2 (.int .i64)) .unit)))) (.pair (.int .i64) (.pair (.int .i64) (.pair (.own 2 (.int .i64)) .unit)))))
noncomputable def gg(x:(Ty.T ab4)):Option ((Ty.T ab4) ⊕ ((Ty.T adg) ⊕ (Ty.T .unit))):=
match(decide (x.2.2.2.2.2.1<x.2.2.1))with
|true=>
 match(x.2.2.2.2.2.1 != x.2.2.2.1)with
 |true=>
  match ai ((x.1.1,x.1.2.1,x.1.2.2.1,()),(2:Int),())with
  |none=>none
  |some v2=>
  match(v2.1==(0:Int))with
  |true=>
   aA (x.2.2.2.2.1.length+ [x.2.2.2.2.2.1].length) (
    some (.inl ((v2.2.1.1,v2.2.1.2.1,v2.2.1.2.2.1,()),x.2.1,x.2.2.1,x.2.2.2.1,(x.2.2.2.2.1++ [x.2.2.2.2.2.1]),(IntKind.i64.wrap (x.2.2.2.2.2.1+(1:Int))),())))
  |false=>
   some (.inl ((v2.2.1.1,v2.2.1.2.1,v2.2.1.2.2.1,()),x.2.1,x.2.2.1,x.2.2.2.1,x.2.2.2.2.1,(IntKind.i64.wrap (x.2.2.2.2.2.1+(1:Int))),()))
 |false=>
  some (.inl ((x.1.1,x.1.2.1,x.1.2.2.1,()),x.2.1,x.2.2.1,x.2.2.2.1,x.2.2.2.2.1,(IntKind.i64.wrap (x.2.2.2.2.2.1+(1:Int))),()))
|false=>
 some (.inr (.inl ((x.1.1,x.1.2.1,x.1.2.2.1,()),x.2.1,x.2.2.1,x.2.2.2.1,x.2.2.2.2.1,())))
abbrev ab5:Ty:=(.pair (.box ah) (.pair (.own 159 (.pair (.int .i64) (.pair (.int .i64) (.pair (.own 2 (.int .i64)) .unit)))) an))
abbrev adh:Ty:=(.pair (.box ah) (.pair (.own 159 (.pair (.int .i64) (.pair (.int .i64) (.pair (.own 2 (.int .i64)) .unit)))) .unit))
noncomputable def jr(x:(Ty.T ab5)):Option ((Ty.T ab5) ⊕ ((Ty.T adh) ⊕ (Ty.T .unit))):=
match(decide (x.2.2.2.1<x.2.2.1))with
|true=>
 match ag gg ((x.1.1,x.1.2.1,x.1.2.2.1,()),x.2.1,x.2.2.1,x.2.2.2.1,[],(0:Int),())with
 |none=>none
 |some (.inl v2)=>
  match ai ((v2.1.1,v2.1.2.1,v2.1.2.2.1,()),(3:Int),())with
  |none=>none
  |some v4=>
  match ai ((v4.2.1.1,v4.2.1.2.1,v4.2.1.2.2.1,()),(4:Int),())with
  |none=>none
  |some v5=>
  aA (v2.2.1.length+ [((IntKind.i64.wrap ((1:Int)+v4.1)),(IntKind.i64.wrap ((1:Int)+v5.1)),v2.2.2.2.2.1,())].length) (
   some (.inl ((v5.2.1.1,v5.2.1.2.1,v5.2.1.2.2.1,()),(v2.2.1++ [((IntKind.i64.wrap ((1:Int)+v4.1)),(IntKind.i64.wrap ((1:Int)+v5.1)),v2.2.2.2.2.1,())]),v2.2.2.1,(IntKind.i64.wrap (v2.2.2.2.1+(1:Int))),())))
 |some (.inr v6)=>
  some (.inr (.inr (())))
|false=>
 some (.inr (.inl ((x.1.1,x.1.2.1,x.1.2.2.1,()),x.2.1,())))
noncomputable def wu(x:Ty.T QV):Option (Ty.T agE):=
match ai ((x.1.1,x.1.2.1,x.1.2.2.1,()),(4:Int),())with
|none=>none
|some v1=>
match ag jr ((v1.2.1.1,v1.2.1.2.1,v1.2.1.2.2.1,()),[],(IntKind.i64.wrap ((1:Int)+v1.1)),(0:Int),())with
|none=>none
|some (.inl v7)=>
 some (v7.2.1,(v7.1.1,v7.1.2.1,v7.1.2.2.1,()),())
|some (.inr v9)=>
 none
noncomputable def Sf:Spec:=⟨_,agC,QV,rfl,wu⟩
noncomputable def uE:FuncId→Option Spec:=bh [(52,iC)]
theorem LP:∀f s,uE f=some s→FnOK G0 Tryz.prog f s:=aF ⟨bR,trivial⟩
def A8:aO:=⟨[0,3,4,5],ab5,0,[0,3],adh,[],.unit⟩
def A9:aO:=⟨[0,3,4,5,6,7],ab4,2,[0,3,4,5,6],adg,[],.unit⟩
noncomputable def uF:List ay:=[A8.spec jr,A9.spec gg]
theorem Js:bc Zv E2 uE (ba Tryz.f239 uF) Tryz.f239 0 A8 jr:=fun x=>by kernel_rfl
theorem Jt:bc Zv E2 uE (ba Tryz.f239 uF) Tryz.f239 1 A9 gg:=fun x=>by kernel_rfl
theorem P5:FnOK G0 Tryz.prog 239 Sf:=aH Zw LP Tryz.func239 uF (by kernel_rfl) (by exact⟨(Js).lok,(Jt).lok,trivial⟩) fun x=>by kernel_rfl
noncomputable def pB(x:Ty.T QV):Option (Ty.T agE):=
match wu ((x.1.1,x.1.2.1,x.1.2.2.1,()),())with
|none=>none
|some v1=>
match ai ((v1.2.1.1,v1.2.1.2.1,v1.2.1.2.2.1,()),(v1.1.length:Int),())with
|none=>none
|some v2=>
match ai ((v2.2.1.1,v2.2.1.2.1,v2.2.1.2.2.1,()),(24:Int),())with
|none=>none
|some v3=>
match(v3.1==(0:Int))with
|true=>
 match ai ((v3.2.1.1,v3.2.1.2.1,v3.2.1.2.2.1,()),(3:Int),())with
 |none=>none
 |some v4=>
 aa (aq [(0:Int),(8:Int),(9:Int)] v4.1) fun _=>
 match [(0:Int),(8:Int),(9:Int)][v4.1.toNat]? with
 |none=>none
 |some v6=>
 aa (aq v1.1 v2.1) fun _=>
 match v1.1[v2.1.toNat]? with
 |none=>none
 |some v8=>
 some ((v1.1.set v2.1.toNat (v6,v8.2)),(v4.2.1.1,v4.2.1.2.1,v4.2.1.2.2.1,()),())
|false=>
 match(v3.1==(1:Int))with
 |true=>
  match ai ((v3.2.1.1,v3.2.1.2.1,v3.2.1.2.2.1,()),(3:Int),())with
  |none=>none
  |some v9=>
  aa (aq [(0:Int),(16:Int),(17:Int)] v9.1) fun _=>
  match [(0:Int),(16:Int),(17:Int)][v9.1.toNat]? with
  |none=>none
  |some v11=>
  aa (aq v1.1 v2.1) fun _=>
  match v1.1[v2.1.toNat]? with
  |none=>none
  |some v13=>
  some ((v1.1.set v2.1.toNat (v13.1,(v11,v13.2.2))),(v9.2.1.1,v9.2.1.2.1,v9.2.1.2.2.1,()),())
 |false=>
  match(v3.1==(2:Int))with
  |true=>
   aa (aq v1.1 v2.1) fun _=>
   aQ (
    match v1.1[v2.1.toNat]? with
    |none=>none
    |some v15=>
    aQ (
     aI (
      match ai ((v3.2.1.1,v3.2.1.2.1,v3.2.1.2.2.1,()),(3:Int),())with
      |none=>none
      |some v16=>
      aa (aq [v2.1,(v1.1.length:Int),(0:Int)] v16.1) fun _=>
      match [v2.1,(v1.1.length:Int),(0:Int)][v16.1.toNat]? with
      |none=>none
      |some v18=>
      aA (v15.2.2.1.length+ [v18].length) (
       aa (aq v1.1 v2.1) fun _=>
       if v2.1.toNat=v2.1.toNat then
        some ((v1.1.set v2.1.toNat (v15.1,(v15.2.1,((v15.2.2.1++ [v18]),v15.2.2.2)))),(v16.2.1.1,v16.2.1.2.1,v16.2.1.2.2.1,()),())
       else none))) (
     match ai ((v3.2.1.1,v3.2.1.2.1,v3.2.1.2.2.1,()),(3:Int),())with
     |none=>none
     |some v16=>
     aa (aq [v2.1,(v1.1.length:Int),(0:Int)] v16.1) fun _=>
     match [v2.1,(v1.1.length:Int),(0:Int)][v16.1.toNat]? with
     |none=>none
     |some v18=>
     aA (v15.2.2.1.length+ [v18].length) (
      aa (aq v1.1 v2.1) fun _=>
      if v2.1.toNat=v2.1.toNat then
       some ((v1.1.set v2.1.toNat (v15.1,(v15.2.1,((v15.2.2.1++ [v18]),v15.2.2.2)))),(v16.2.1.1,v16.2.1.2.1,v16.2.1.2.2.1,()),())
      else none))) (
    aQ (
     aQ (
      match v1.1[v2.1.toNat]? with
      |none=>none
      |some v15=>
      aI (
       match ai ((v3.2.1.1,v3.2.1.2.1,v3.2.1.2.2.1,()),(3:Int),())with
       |none=>none
       |some v16=>
       aa (aq [v2.1,(v1.1.length:Int),(0:Int)] v16.1) fun _=>
       match [v2.1,(v1.1.length:Int),(0:Int)][v16.1.toNat]? with
       |none=>none
       |some v18=>
       aA (v15.2.2.1.length+ [v18].length) (
        aa (aq v1.1 v2.1) fun _=>
        if v2.1.toNat=v2.1.toNat then
         some ((v1.1.set v2.1.toNat (v15.1,(v15.2.1,((v15.2.2.1++ [v18]),v15.2.2.2)))),(v16.2.1.1,v16.2.1.2.1,v16.2.1.2.2.1,()),())
        else none))) (
      aQ (
       aQ (
        match v1.1[v2.1.toNat]? with
        |none=>none
        |some v15=>
        match ai ((v3.2.1.1,v3.2.1.2.1,v3.2.1.2.2.1,()),(3:Int),())with
        |none=>none
        |some v16=>
        aa (aq [v2.1,(v1.1.length:Int),(0:Int)] v16.1) fun _=>
        match [v2.1,(v1.1.length:Int),(0:Int)][v16.1.toNat]? with
        |none=>none
        |some v18=>
        aA (v15.2.2.1.length+ [v18].length) (
         aa (aq v1.1 v2.1) fun _=>
         if v2.1.toNat=v2.1.toNat then
          some ((v1.1.set v2.1.toNat (v15.1,(v15.2.1,((v15.2.2.1++ [v18]),v15.2.2.2)))),(v16.2.1.1,v16.2.1.2.1,v16.2.1.2.2.1,()),())
         else none)) (
        match ai ((v3.2.1.1,v3.2.1.2.1,v3.2.1.2.2.1,()),(3:Int),())with
        |none=>none
        |some v15=>
        aa (aq [v2.1,(v1.1.length:Int),(0:Int)] v15.1) fun _=>
        aQ (
         match v1.1[v2.1.toNat]? with
         |none=>none
         |some v17=>
         match [v2.1,(v1.1.length:Int),(0:Int)][v15.1.toNat]? with
         |none=>none
         |some v18=>
         aA (v17.2.2.1.length+ [v18].length) (
          aa (aq v1.1 v2.1) fun _=>
          if v2.1.toNat=v2.1.toNat then
           some ((v1.1.set v2.1.toNat (v17.1,(v17.2.1,((v17.2.2.1++ [v18]),v17.2.2.2)))),(v15.2.1.1,v15.2.1.2.1,v15.2.1.2.2.1,()),())
          else none)) (
         match [v2.1,(v1.1.length:Int),(0:Int)][v15.1.toNat]? with
         |none=>none
         |some v17=>
         aI (
          match v1.1[v2.1.toNat]? with
          |none=>none
          |some v18=>
          aA (v18.2.2.1.length+ [v17].length) (
           aa (aq v1.1 v2.1) fun _=>
           if v2.1.toNat=v2.1.toNat then
            some ((v1.1.set v2.1.toNat (v18.1,(v18.2.1,((v18.2.2.1++ [v17]),v18.2.2.2)))),(v15.2.1.1,v15.2.1.2.1,v15.2.1.2.2.1,()),())
           else none))))) (
       match ai ((v3.2.1.1,v3.2.1.2.1,v3.2.1.2.2.1,()),(3:Int),())with
       |none=>none
       |some v15=>
       aQ (
        match v1.1[v2.1.toNat]? with
        |none=>none
        |some v16=>
        aa (aq [v2.1,(v1.1.length:Int),(0:Int)] v15.1) fun _=>
        match [v2.1,(v1.1.length:Int),(0:Int)][v15.1.toNat]? with
        |none=>none
        |some v18=>
        aA (v16.2.2.1.length+ [v18].length) (
         aa (aq v1.1 v2.1) fun _=>
         if v2.1.toNat=v2.1.toNat then
          some ((v1.1.set v2.1.toNat (v16.1,(v16.2.1,((v16.2.2.1++ [v18]),v16.2.2.2)))),(v15.2.1.1,v15.2.1.2.1,v15.2.1.2.2.1,()),())
         else none)) (
        aa (aq [v2.1,(v1.1.length:Int),(0:Int)] v15.1) fun _=>
        aQ (
         match v1.1[v2.1.toNat]? with
         |none=>none
         |some v17=>
         match [v2.1,(v1.1.length:Int),(0:Int)][v15.1.toNat]? with
         |none=>none
         |some v18=>
         aA (v17.2.2.1.length+ [v18].length) (
          aa (aq v1.1 v2.1) fun _=>
          if v2.1.toNat=v2.1.toNat then
           some ((v1.1.set v2.1.toNat (v17.1,(v17.2.1,((v17.2.2.1++ [v18]),v17.2.2.2)))),(v15.2.1.1,v15.2.1.2.1,v15.2.1.2.2.1,()),())
          else none)) (
         match [v2.1,(v1.1.length:Int),(0:Int)][v15.1.toNat]? with
         |none=>none
         |some v17=>
         aI (
          match v1.1[v2.1.toNat]? with
          |none=>none
          |some v18=>
          aA (v18.2.2.1.length+ [v17].length) (
           aa (aq v1.1 v2.1) fun _=>
           if v2.1.toNat=v2.1.toNat then
            some ((v1.1.set v2.1.toNat (v18.1,(v18.2.1,((v18.2.2.1++ [v17]),v18.2.2.2)))),(v15.2.1.1,v15.2.1.2.1,v15.2.1.2.2.1,()),())
           else none))))))) (
     match ai ((v3.2.1.1,v3.2.1.2.1,v3.2.1.2.2.1,()),(3:Int),())with
     |none=>none
     |some v15=>
     aQ (
      match v1.1[v2.1.toNat]? with
      |none=>none
      |some v16=>
      aa (aq [v2.1,(v1.1.length:Int),(0:Int)] v15.1) fun _=>
      match [v2.1,(v1.1.length:Int),(0:Int)][v15.1.toNat]? with
      |none=>none
      |some v18=>
      aA (v16.2.2.1.length+ [v18].length) (
       aa (aq v1.1 v2.1) fun _=>
       if v2.1.toNat=v2.1.toNat then
        some ((v1.1.set v2.1.toNat (v16.1,(v16.2.1,((v16.2.2.1++ [v18]),v16.2.2.2)))),(v15.2.1.1,v15.2.1.2.1,v15.2.1.2.2.1,()),())
       else none)) (
      aQ (
       match v1.1[v2.1.toNat]? with
       |none=>none
       |some v16=>
       aa (aq [v2.1,(v1.1.length:Int),(0:Int)] v15.1) fun _=>
       match [v2.1,(v1.1.length:Int),(0:Int)][v15.1.toNat]? with
       |none=>none
       |some v18=>
       aA (v16.2.2.1.length+ [v18].length) (
        aa (aq v1.1 v2.1) fun _=>
        if v2.1.toNat=v2.1.toNat then
         some ((v1.1.set v2.1.toNat (v16.1,(v16.2.1,((v16.2.2.1++ [v18]),v16.2.2.2)))),(v15.2.1.1,v15.2.1.2.1,v15.2.1.2.2.1,()),())
        else none)) (
       aa (aq [v2.1,(v1.1.length:Int),(0:Int)] v15.1) fun _=>
       aQ (
        match v1.1[v2.1.toNat]? with
        |none=>none
        |some v17=>
        match [v2.1,(v1.1.length:Int),(0:Int)][v15.1.toNat]? with
        |none=>none
        |some v18=>
        aA (v17.2.2.1.length+ [v18].length) (
         aa (aq v1.1 v2.1) fun _=>
         if v2.1.toNat=v2.1.toNat then
          some ((v1.1.set v2.1.toNat (v17.1,(v17.2.1,((v17.2.2.1++ [v18]),v17.2.2.2)))),(v15.2.1.1,v15.2.1.2.1,v15.2.1.2.2.1,()),())
         else none)) (
        match [v2.1,(v1.1.length:Int),(0:Int)][v15.1.toNat]? with
        |none=>none
        |some v17=>
        aI (
         match v1.1[v2.1.toNat]? with
         |none=>none
         |some v18=>
         aA (v18.2.2.1.length+ [v17].length) (
          aa (aq v1.1 v2.1) fun _=>
          if v2.1.toNat=v2.1.toNat then
           some ((v1.1.set v2.1.toNat (v18.1,(v18.2.1,((v18.2.2.1++ [v17]),v18.2.2.2)))),(v15.2.1.1,v15.2.1.2.1,v15.2.1.2.2.1,()),())
          else none)))))))
  |false=>
   match(v3.1==(3:Int))with
   |true=>
    some ([],(v3.2.1.1,v3.2.1.2.1,v3.2.1.2.2.1,()),())
   |false=>
    match(v3.1==(4:Int))with
    |true=>
     if 0≤(17:Int)∧(17:Int)≤(17:Int)then
      aA ((17:Int).toNat) (
       some ((List.replicate (17:Int).toNat ((0:Int),(0:Int),[],())),(v3.2.1.1,v3.2.1.2.1,v3.2.1.2.2.1,()),()))
     else none
    |false=>
     some (v1.1,(v3.2.1.1,v3.2.1.2.1,v3.2.1.2.2.1,()),())
noncomputable def yq:Spec:=⟨_,agC,QV,rfl,pB⟩
theorem Ju:FnOK G0 Tryz.prog 186 yq:=ap Zw (sg bR (sg P5 (aJ))) Tryz.func186
noncomputable def pC(x:Ty.T QV):Option (Ty.T ago):=
match oU ((x.1.1,x.1.2.1,x.1.2.2.1,()),())with
|none=>none
|some v1=>
match ai ((v1.2.1.1,v1.2.1.2.1,v1.2.1.2.2.1,()),(30:Int),())with
|none=>none
|some v2=>
match(v2.1==(0:Int))with
|true=>
 match ai ((v2.2.1.1,v2.2.1.2.1,v2.2.1.2.2.1,()),(3:Int),())with
 |none=>none
 |some v3=>
 aa (aq [(-1:Int),(31:Int),(32:Int)] v3.1) fun _=>
 match [(-1:Int),(31:Int),(32:Int)][v3.1.toNat]? with
 |none=>none
 |some v5=>
 some ((v5,v1.1.2.1,v1.1.2.2.1,v1.1.2.2.2.1,v1.1.2.2.2.2.1,()),(v3.2.1.1,v3.2.1.2.1,v3.2.1.2.2.1,()),())
|false=>
 match(v2.1==(1:Int))with
 |true=>
  match ai ((v2.2.1.1,v2.2.1.2.1,v2.2.1.2.2.1,()),(6:Int),())with
  |none=>none
  |some v6=>
  some ((v1.1.1,(IntKind.i64.wrap (v6.1-(1:Int))),v1.1.2.2.1,v1.1.2.2.2.1,v1.1.2.2.2.2.1,()),(v6.2.1.1,v6.2.1.2.1,v6.2.1.2.2.1,()),())
 |false=>
  match(v2.1==(2:Int))with
  |true=>
   match ai ((v2.2.1.1,v2.2.1.2.1,v2.2.1.2.2.1,()),(4:Int),())with
   |none=>none
   |some v7=>
   aa (aq [(-1:Int),(0:Int),(32:Int),(33:Int)] v7.1) fun _=>
   match [(-1:Int),(0:Int),(32:Int),(33:Int)][v7.1.toNat]? with
   |none=>none
   |some v9=>
   some ((v1.1.1,v1.1.2.1,v9,v1.1.2.2.2.1,v1.1.2.2.2.2.1,()),(v7.2.1.1,v7.2.1.2.1,v7.2.1.2.2.1,()),())
  |false=>
   match(v2.1==(3:Int))with
   |true=>
    match dM (v1.1.2.1,v1.1.2.2.1,())with
    |none=>none
    |some v10=>
    match ai ((v2.2.1.1,v2.2.1.2.1,v2.2.1.2.2.1,()),(4:Int),())with
    |none=>none
    |some v11=>
    aa (aq [(0:Int),(IntKind.i64.wrap ((IntKind.i64.wrap (v10.1+(20:Int)))-(1:Int))),(1000:Int),(1001:Int)] v11.1) fun _=>
    match [(0:Int),(IntKind.i64.wrap ((IntKind.i64.wrap (v10.1+(20:Int)))-(1:Int))),(1000:Int),(1001:Int)][v11.1.toNat]? with
    |none=>none
    |some v13=>
    some ((v1.1.1,v1.1.2.1,v1.1.2.2.1,v13,v1.1.2.2.2.2.1,()),(v11.2.1.1,v11.2.1.2.1,v11.2.1.2.2.1,()),())
   |false=>
    match(v2.1==(4:Int))with
    |true=>
     some ((v1.1.1,v1.1.2.1,v1.1.2.2.1,v1.1.2.2.2.1,(!v1.1.2.2.2.2.1),()),(v2.2.1.1,v2.2.1.2.1,v2.2.1.2.2.1,()),())
    |false=>
     some ((v1.1.1,v1.1.2.1,v1.1.2.2.1,v1.1.2.2.2.1,v1.1.2.2.2.2.1,()),(v2.2.1.1,v2.2.1.2.1,v2.2.1.2.2.1,()),())
noncomputable def yt:Spec:=⟨_,ads,QV,rfl,pC⟩
theorem Jv:FnOK G0 Tryz.prog 187 yt:=ap ao (sg bR (sg Dd (sg sA (aJ)))) Tryz.func187
abbrev aa2:Ty:=(.pair (.box ah) (.pair (.box ac) (.pair (.box (.pair (.int .i64) (.pair (.own 136 ak) (.pair (.own 159 al) (.pair (.own 167 aj) .unit))))) (.pair (.int .i64) .unit))))
abbrev acn:Ty:=(.pair (.box ah) (.pair (.box ac) (.pair (.box (.pair (.int .i64) (.pair (.own 136 ak) (.pair (.own 159 al) (.pair (.own 167 aj) .unit))))) .unit)))
noncomputable def dH(x:(Ty.T aa2)):Option ((Ty.T aa2) ⊕ ((Ty.T acn) ⊕ (Ty.T .unit))):=
match(decide (x.2.2.2.1<(x.2.2.1.2.2.2.1.length:Int)))with
|true=>
 aa (aq x.2.2.1.2.2.2.1 x.2.2.2.1) fun _=>
 match x.2.2.1.2.2.2.1[x.2.2.2.1.toNat]? with
 |none=>none
 |some v27=>
 some (.inl ((x.1.1,x.1.2.1,x.1.2.2.1,()),(x.2.1.1,x.2.1.2.1,x.2.1.2.2.1,x.2.1.2.2.2.1,()),(x.2.2.1.1,x.2.2.1.2.1,x.2.2.1.2.2.1,(x.2.2.1.2.2.2.1.set x.2.2.2.1.toNat (v27.1,v27.2.1,v27.2.2.1,(v27.2.2.2.1.1,v27.2.2.2.1.2.1,v27.2.2.2.1.2.2.1,(1000:Int),v27.2.2.2.1.2.2.2.2.1,()),())),()),(IntKind.i64.wrap (x.2.2.2.1+(1:Int))),()))
|false=>
 some (.inr (.inl ((x.1.1,x.1.2.1,x.1.2.2.1,()),(x.2.1.1,x.2.1.2.1,x.2.1.2.2.1,x.2.1.2.2.2.1,()),(x.2.2.1.1,x.2.2.1.2.1,x.2.2.1.2.2.1,x.2.2.1.2.2.2.1,()),())))
abbrev aa3:Ty:=(.pair (.box ah) (.pair (.box ac) (.pair (.box (.pair (.int .i64) (.pair (.own 136 ak) (.pair (.own 159 al) (.pair (.list aj) .unit))))) (.pair (.own 167 aj) (.pair (.int .i64) .unit)))))
abbrev aco:Ty:=(.pair (.box ah) (.pair (.box ac) (.pair (.box (.pair (.int .i64) (.pair (.own 136 ak) (.pair (.own 159 al) (.pair (.list aj) .unit))))) (.pair (.own 167 aj) .unit))))
noncomputable def cz(x:(Ty.T aa3)):Option ((Ty.T aa3) ⊕ ((Ty.T aco) ⊕ (Ty.T .unit))):=
aa (aq x.2.2.1.2.2.1 (0:Int)) fun _=>
match x.2.2.1.2.2.1[(0:Int).toNat]? with
|none=>none
|some v33=>
aa (aq x.2.2.1.2.2.1 (0:Int)) fun _=>
match x.2.2.1.2.2.1[(0:Int).toNat]? with
|none=>none
|some v35=>
match(decide (x.2.2.2.2.1<(IntKind.i64.wrap (v33.1*v35.2.1))))with
|true=>
 aQ (
  aa (aq x.2.2.1.2.2.1 (0:Int)) fun _=>
  aQ (
   match x.2.2.1.2.2.1[(0:Int).toNat]? with
   |none=>none
   |some v37=>
   if v37.2.1=0 then none else
   aQ (
    aa (aq x.2.2.1.2.2.1 (0:Int)) fun _=>
    aI (
     match x.2.2.1.2.2.1[(0:Int).toNat]? with
     |none=>none
     |some v39=>
     if v39.2.1=0 then none else
     aA (x.2.2.2.1.length+ [((0:Int),(IntKind.i64.wrap (Int.tdiv x.2.2.2.2.1 v37.2.1)),(Int.tmod x.2.2.2.2.1 v39.2.1),((0:Int),(1:Int),(0:Int),(1000:Int),false,()),())].length) (
      some (.inl ((x.1.1,x.1.2.1,x.1.2.2.1,()),(x.2.1.1,x.2.1.2.1,x.2.1.2.2.1,x.2.1.2.2.2.1,()),(x.2.2.1.1,x.2.2.1.2.1,x.2.2.1.2.2.1,x.2.2.1.2.2.2.1,()),(x.2.2.2.1++ [((0:Int),(IntKind.i64.wrap (Int.tdiv x.2.2.2.2.1 v37.2.1)),(Int.tmod x.2.2.2.2.1 v39.2.1),((0:Int),(1:Int),(0:Int),(1000:Int),false,()),())]),(IntKind.i64.wrap (x.2.2.2.2.1+(1:Int))),()))))) (
    aa (aq x.2.2.1.2.2.1 (0:Int)) fun _=>
    match x.2.2.1.2.2.1[(0:Int).toNat]? with
    |none=>none
    |some v39=>
    if v39.2.1=0 then none else
    aA (x.2.2.2.1.length+ [((0:Int),(IntKind.i64.wrap (Int.tdiv x.2.2.2.2.1 v37.2.1)),(Int.tmod x.2.2.2.2.1 v39.2.1),((0:Int),(1:Int),(0:Int),(1000:Int),false,()),())].length) (
     some (.inl ((x.1.1,x.1.2.1,x.1.2.2.1,()),(x.2.1.1,x.2.1.2.1,x.2.1.2.2.1,x.2.1.2.2.2.1,()),(x.2.2.1.1,x.2.2.1.2.1,x.2.2.1.2.2.1,x.2.2.1.2.2.2.1,()),(x.2.2.2.1++ [((0:Int),(IntKind.i64.wrap (Int.tdiv x.2.2.2.2.1 v37.2.1)),(Int.tmod x.2.2.2.2.1 v39.2.1),((0:Int),(1:Int),(0:Int),(1000:Int),false,()),())]),(IntKind.i64.wrap (x.2.2.2.2.1+(1:Int))),()))))) (
   aQ (
    aa (aq x.2.2.1.2.2.1 (0:Int)) fun _=>
    aQ (
     match x.2.2.1.2.2.1[(0:Int).toNat]? with
     |none=>none
     |some v38=>
     if v38.2.1=0 then none else
     aI (
      match x.2.2.1.2.2.1[(0:Int).toNat]? with
      |none=>none
      |some v39=>
      if v39.2.1=0 then none else
      aA (x.2.2.2.1.length+ [((0:Int),(IntKind.i64.wrap (Int.tdiv x.2.2.2.2.1 v38.2.1)),(Int.tmod x.2.2.2.2.1 v39.2.1),((0:Int),(1:Int),(0:Int),(1000:Int),false,()),())].length) (
       some (.inl ((x.1.1,x.1.2.1,x.1.2.2.1,()),(x.2.1.1,x.2.1.2.1,x.2.1.2.2.1,x.2.1.2.2.2.1,()),(x.2.2.1.1,x.2.2.1.2.1,x.2.2.1.2.2.1,x.2.2.1.2.2.2.1,()),(x.2.2.2.1++ [((0:Int),(IntKind.i64.wrap (Int.tdiv x.2.2.2.2.1 v38.2.1)),(Int.tmod x.2.2.2.2.1 v39.2.1),((0:Int),(1:Int),(0:Int),(1000:Int),false,()),())]),(IntKind.i64.wrap (x.2.2.2.2.1+(1:Int))),()))))) (
     aQ (
      match x.2.2.1.2.2.1[(0:Int).toNat]? with
      |none=>none
      |some v38=>
      if v38.2.1=0 then none else
      aI (
       match x.2.2.1.2.2.1[(0:Int).toNat]? with
       |none=>none
       |some v39=>
       if v39.2.1=0 then none else
       aA (x.2.2.2.1.length+ [((0:Int),(IntKind.i64.wrap (Int.tdiv x.2.2.2.2.1 v39.2.1)),(Int.tmod x.2.2.2.2.1 v38.2.1),((0:Int),(1:Int),(0:Int),(1000:Int),false,()),())].length) (
        some (.inl ((x.1.1,x.1.2.1,x.1.2.2.1,()),(x.2.1.1,x.2.1.2.1,x.2.1.2.2.1,x.2.1.2.2.2.1,()),(x.2.2.1.1,x.2.2.1.2.1,x.2.2.1.2.2.1,x.2.2.1.2.2.2.1,()),(x.2.2.2.1++ [((0:Int),(IntKind.i64.wrap (Int.tdiv x.2.2.2.2.1 v39.2.1)),(Int.tmod x.2.2.2.2.1 v38.2.1),((0:Int),(1:Int),(0:Int),(1000:Int),false,()),())]),(IntKind.i64.wrap (x.2.2.2.2.1+(1:Int))),()))))) (
      aQ (
       match x.2.2.1.2.2.1[(0:Int).toNat]? with
       |none=>none
       |some v38=>
       if v38.2.1=0 then none else
       match x.2.2.1.2.2.1[(0:Int).toNat]? with
       |none=>none
       |some v39=>
       if v39.2.1=0 then none else
       aA (x.2.2.2.1.length+ [((0:Int),(IntKind.i64.wrap (Int.tdiv x.2.2.2.2.1 v38.2.1)),(Int.tmod x.2.2.2.2.1 v39.2.1),((0:Int),(1:Int),(0:Int),(1000:Int),false,()),())].length) (
        some (.inl ((x.1.1,x.1.2.1,x.1.2.2.1,()),(x.2.1.1,x.2.1.2.1,x.2.1.2.2.1,x.2.1.2.2.2.1,()),(x.2.2.1.1,x.2.2.1.2.1,x.2.2.1.2.2.1,x.2.2.1.2.2.2.1,()),(x.2.2.2.1++ [((0:Int),(IntKind.i64.wrap (Int.tdiv x.2.2.2.2.1 v38.2.1)),(Int.tmod x.2.2.2.2.1 v39.2.1),((0:Int),(1:Int),(0:Int),(1000:Int),false,()),())]),(IntKind.i64.wrap (x.2.2.2.2.1+(1:Int))),())))) (
       match x.2.2.1.2.2.1[(0:Int).toNat]? with
       |none=>none
       |some v38=>
       if v38.2.1=0 then none else
       match x.2.2.1.2.2.1[(0:Int).toNat]? with
       |none=>none
       |some v39=>
       if v39.2.1=0 then none else
       aA (x.2.2.2.1.length+ [((0:Int),(IntKind.i64.wrap (Int.tdiv x.2.2.2.2.1 v39.2.1)),(Int.tmod x.2.2.2.2.1 v38.2.1),((0:Int),(1:Int),(0:Int),(1000:Int),false,()),())].length) (
        some (.inl ((x.1.1,x.1.2.1,x.1.2.2.1,()),(x.2.1.1,x.2.1.2.1,x.2.1.2.2.1,x.2.1.2.2.2.1,()),(x.2.2.1.1,x.2.2.1.2.1,x.2.2.1.2.2.1,x.2.2.1.2.2.2.1,()),(x.2.2.2.1++ [((0:Int),(IntKind.i64.wrap (Int.tdiv x.2.2.2.2.1 v39.2.1)),(Int.tmod x.2.2.2.2.1 v38.2.1),((0:Int),(1:Int),(0:Int),(1000:Int),false,()),())]),(IntKind.i64.wrap (x.2.2.2.2.1+(1:Int))),()))))))) (
    aQ (
     match x.2.2.1.2.2.1[(0:Int).toNat]? with
     |none=>none
     |some v37=>
     if v37.2.1=0 then none else
     aa (aq x.2.2.1.2.2.1 (0:Int)) fun _=>
     match x.2.2.1.2.2.1[(0:Int).toNat]? with
     |none=>none
     |some v39=>
     if v39.2.1=0 then none else
     aA (x.2.2.2.1.length+ [((0:Int),(IntKind.i64.wrap (Int.tdiv x.2.2.2.2.1 v37.2.1)),(Int.tmod x.2.2.2.2.1 v39.2.1),((0:Int),(1:Int),(0:Int),(1000:Int),false,()),())].length) (
      some (.inl ((x.1.1,x.1.2.1,x.1.2.2.1,()),(x.2.1.1,x.2.1.2.1,x.2.1.2.2.1,x.2.1.2.2.2.1,()),(x.2.2.1.1,x.2.2.1.2.1,x.2.2.1.2.2.1,x.2.2.1.2.2.2.1,()),(x.2.2.2.1++ [((0:Int),(IntKind.i64.wrap (Int.tdiv x.2.2.2.2.1 v37.2.1)),(Int.tmod x.2.2.2.2.1 v39.2.1),((0:Int),(1:Int),(0:Int),(1000:Int),false,()),())]),(IntKind.i64.wrap (x.2.2.2.2.1+(1:Int))),())))) (
     aa (aq x.2.2.1.2.2.1 (0:Int)) fun _=>
     aQ (
      match x.2.2.1.2.2.1[(0:Int).toNat]? with
      |none=>none
      |some v38=>
      if v38.2.1=0 then none else
      match x.2.2.1.2.2.1[(0:Int).toNat]? with
      |none=>none
      |some v39=>
      if v39.2.1=0 then none else
      aA (x.2.2.2.1.length+ [((0:Int),(IntKind.i64.wrap (Int.tdiv x.2.2.2.2.1 v38.2.1)),(Int.tmod x.2.2.2.2.1 v39.2.1),((0:Int),(1:Int),(0:Int),(1000:Int),false,()),())].length) (
       some (.inl ((x.1.1,x.1.2.1,x.1.2.2.1,()),(x.2.1.1,x.2.1.2.1,x.2.1.2.2.1,x.2.1.2.2.2.1,()),(x.2.2.1.1,x.2.2.1.2.1,x.2.2.1.2.2.1,x.2.2.1.2.2.2.1,()),(x.2.2.2.1++ [((0:Int),(IntKind.i64.wrap (Int.tdiv x.2.2.2.2.1 v38.2.1)),(Int.tmod x.2.2.2.2.1 v39.2.1),((0:Int),(1:Int),(0:Int),(1000:Int),false,()),())]),(IntKind.i64.wrap (x.2.2.2.2.1+(1:Int))),())))) (
      match x.2.2.1.2.2.1[(0:Int).toNat]? with
      |none=>none
      |some v38=>
      if v38.2.1=0 then none else
      match x.2.2.1.2.2.1[(0:Int).toNat]? with
      |none=>none
      |some v39=>
      if v39.2.1=0 then none else
      aA (x.2.2.2.1.length+ [((0:Int),(IntKind.i64.wrap (Int.tdiv x.2.2.2.2.1 v39.2.1)),(Int.tmod x.2.2.2.2.1 v38.2.1),((0:Int),(1:Int),(0:Int),(1000:Int),false,()),())].length) (
       some (.inl ((x.1.1,x.1.2.1,x.1.2.2.1,()),(x.2.1.1,x.2.1.2.1,x.2.1.2.2.1,x.2.1.2.2.2.1,()),(x.2.2.1.1,x.2.2.1.2.1,x.2.2.1.2.2.1,x.2.2.1.2.2.2.1,()),(x.2.2.2.1++ [((0:Int),(IntKind.i64.wrap (Int.tdiv x.2.2.2.2.1 v39.2.1)),(Int.tmod x.2.2.2.2.1 v38.2.1),((0:Int),(1:Int),(0:Int),(1000:Int),false,()),())]),(IntKind.i64.wrap (x.2.2.2.2.1+(1:Int))),())))))))) (
  aQ (
   aa (aq x.2.2.1.2.2.1 (0:Int)) fun _=>
   aQ (
    aa (aq x.2.2.1.2.2.1 (0:Int)) fun _=>
    aQ (
     match x.2.2.1.2.2.1[(0:Int).toNat]? with
     |none=>none
     |some v38=>
     if v38.2.1=0 then none else
     aI (
      match x.2.2.1.2.2.1[(0:Int).toNat]? with
      |none=>none
      |some v39=>
      if v39.2.1=0 then none else
      aA (x.2.2.2.1.length+ [((0:Int),(IntKind.i64.wrap (Int.tdiv x.2.2.2.2.1 v38.2.1)),(Int.tmod x.2.2.2.2.1 v39.2.1),((0:Int),(1:Int),(0:Int),(1000:Int),false,()),())].length) (
       some (.inl ((x.1.1,x.1.2.1,x.1.2.2.1,()),(x.2.1.1,x.2.1.2.1,x.2.1.2.2.1,x.2.1.2.2.2.1,()),(x.2.2.1.1,x.2.2.1.2.1,x.2.2.1.2.2.1,x.2.2.1.2.2.2.1,()),(x.2.2.2.1++ [((0:Int),(IntKind.i64.wrap (Int.tdiv x.2.2.2.2.1 v38.2.1)),(Int.tmod x.2.2.2.2.1 v39.2.1),((0:Int),(1:Int),(0:Int),(1000:Int),false,()),())]),(IntKind.i64.wrap (x.2.2.2.2.1+(1:Int))),()))))) (
     aQ (
      match x.2.2.1.2.2.1[(0:Int).toNat]? with
      |none=>none
      |some v38=>
      if v38.2.1=0 then none else
      aI (
       match x.2.2.1.2.2.1[(0:Int).toNat]? with
       |none=>none
       |some v39=>
       if v39.2.1=0 then none else
       aA (x.2.2.2.1.length+ [((0:Int),(IntKind.i64.wrap (Int.tdiv x.2.2.2.2.1 v39.2.1)),(Int.tmod x.2.2.2.2.1 v38.2.1),((0:Int),(1:Int),(0:Int),(1000:Int),false,()),())].length) (
        some (.inl ((x.1.1,x.1.2.1,x.1.2.2.1,()),(x.2.1.1,x.2.1.2.1,x.2.1.2.2.1,x.2.1.2.2.2.1,()),(x.2.2.1.1,x.2.2.1.2.1,x.2.2.1.2.2.1,x.2.2.1.2.2.2.1,()),(x.2.2.2.1++ [((0:Int),(IntKind.i64.wrap (Int.tdiv x.2.2.2.2.1 v39.2.1)),(Int.tmod x.2.2.2.2.1 v38.2.1),((0:Int),(1:Int),(0:Int),(1000:Int),false,()),())]),(IntKind.i64.wrap (x.2.2.2.2.1+(1:Int))),()))))) (
      aQ (
       match x.2.2.1.2.2.1[(0:Int).toNat]? with
       |none=>none
       |some v38=>
       if v38.2.1=0 then none else
       match x.2.2.1.2.2.1[(0:Int).toNat]? with
       |none=>none
       |some v39=>
       if v39.2.1=0 then none else
       aA (x.2.2.2.1.length+ [((0:Int),(IntKind.i64.wrap (Int.tdiv x.2.2.2.2.1 v38.2.1)),(Int.tmod x.2.2.2.2.1 v39.2.1),((0:Int),(1:Int),(0:Int),(1000:Int),false,()),())].length) (
        some (.inl ((x.1.1,x.1.2.1,x.1.2.2.1,()),(x.2.1.1,x.2.1.2.1,x.2.1.2.2.1,x.2.1.2.2.2.1,()),(x.2.2.1.1,x.2.2.1.2.1,x.2.2.1.2.2.1,x.2.2.1.2.2.2.1,()),(x.2.2.2.1++ [((0:Int),(IntKind.i64.wrap (Int.tdiv x.2.2.2.2.1 v38.2.1)),(Int.tmod x.2.2.2.2.1 v39.2.1),((0:Int),(1:Int),(0:Int),(1000:Int),false,()),())]),(IntKind.i64.wrap (x.2.2.2.2.1+(1:Int))),())))) (
       match x.2.2.1.2.2.1[(0:Int).toNat]? with
       |none=>none
       |some v38=>
       if v38.2.1=0 then none else
       match x.2.2.1.2.2.1[(0:Int).toNat]? with
       |none=>none
       |some v39=>
       if v39.2.1=0 then none else
       aA (x.2.2.2.1.length+ [((0:Int),(IntKind.i64.wrap (Int.tdiv x.2.2.2.2.1 v39.2.1)),(Int.tmod x.2.2.2.2.1 v38.2.1),((0:Int),(1:Int),(0:Int),(1000:Int),false,()),())].length) (
        some (.inl ((x.1.1,x.1.2.1,x.1.2.2.1,()),(x.2.1.1,x.2.1.2.1,x.2.1.2.2.1,x.2.1.2.2.2.1,()),(x.2.2.1.1,x.2.2.1.2.1,x.2.2.1.2.2.1,x.2.2.1.2.2.2.1,()),(x.2.2.2.1++ [((0:Int),(IntKind.i64.wrap (Int.tdiv x.2.2.2.2.1 v39.2.1)),(Int.tmod x.2.2.2.2.1 v38.2.1),((0:Int),(1:Int),(0:Int),(1000:Int),false,()),())]),(IntKind.i64.wrap (x.2.2.2.2.1+(1:Int))),()))))))) (
    aQ (
     match x.2.2.1.2.2.1[(0:Int).toNat]? with
     |none=>none
     |some v37=>
     if v37.2.1=0 then none else
     aQ (
      aa (aq x.2.2.1.2.2.1 (0:Int)) fun _=>
      aI (
       match x.2.2.1.2.2.1[(0:Int).toNat]? with
       |none=>none
       |some v39=>
       if v39.2.1=0 then none else
       aA (x.2.2.2.1.length+ [((0:Int),(IntKind.i64.wrap (Int.tdiv x.2.2.2.2.1 v39.2.1)),(Int.tmod x.2.2.2.2.1 v37.2.1),((0:Int),(1:Int),(0:Int),(1000:Int),false,()),())].length) (
        some (.inl ((x.1.1,x.1.2.1,x.1.2.2.1,()),(x.2.1.1,x.2.1.2.1,x.2.1.2.2.1,x.2.1.2.2.2.1,()),(x.2.2.1.1,x.2.2.1.2.1,x.2.2.1.2.2.1,x.2.2.1.2.2.2.1,()),(x.2.2.2.1++ [((0:Int),(IntKind.i64.wrap (Int.tdiv x.2.2.2.2.1 v39.2.1)),(Int.tmod x.2.2.2.2.1 v37.2.1),((0:Int),(1:Int),(0:Int),(1000:Int),false,()),())]),(IntKind.i64.wrap (x.2.2.2.2.1+(1:Int))),()))))) (
      aa (aq x.2.2.1.2.2.1 (0:Int)) fun _=>
      match x.2.2.1.2.2.1[(0:Int).toNat]? with
      |none=>none
      |some v39=>
      if v39.2.1=0 then none else
      aA (x.2.2.2.1.length+ [((0:Int),(IntKind.i64.wrap (Int.tdiv x.2.2.2.2.1 v39.2.1)),(Int.tmod x.2.2.2.2.1 v37.2.1),((0:Int),(1:Int),(0:Int),(1000:Int),false,()),())].length) (
       some (.inl ((x.1.1,x.1.2.1,x.1.2.2.1,()),(x.2.1.1,x.2.1.2.1,x.2.1.2.2.1,x.2.1.2.2.2.1,()),(x.2.2.1.1,x.2.2.1.2.1,x.2.2.1.2.2.1,x.2.2.1.2.2.2.1,()),(x.2.2.2.1++ [((0:Int),(IntKind.i64.wrap (Int.tdiv x.2.2.2.2.1 v39.2.1)),(Int.tmod x.2.2.2.2.1 v37.2.1),((0:Int),(1:Int),(0:Int),(1000:Int),false,()),())]),(IntKind.i64.wrap (x.2.2.2.2.1+(1:Int))),()))))) (
     aQ (
      aa (aq x.2.2.1.2.2.1 (0:Int)) fun _=>
      aQ (
       match x.2.2.1.2.2.1[(0:Int).toNat]? with
       |none=>none
       |some v38=>
       if v38.2.1=0 then none else
       match x.2.2.1.2.2.1[(0:Int).toNat]? with
       |none=>none
       |some v39=>
       if v39.2.1=0 then none else
       aA (x.2.2.2.1.length+ [((0:Int),(IntKind.i64.wrap (Int.tdiv x.2.2.2.2.1 v38.2.1)),(Int.tmod x.2.2.2.2.1 v39.2.1),((0:Int),(1:Int),(0:Int),(1000:Int),false,()),())].length) (
        some (.inl ((x.1.1,x.1.2.1,x.1.2.2.1,()),(x.2.1.1,x.2.1.2.1,x.2.1.2.2.1,x.2.1.2.2.2.1,()),(x.2.2.1.1,x.2.2.1.2.1,x.2.2.1.2.2.1,x.2.2.1.2.2.2.1,()),(x.2.2.2.1++ [((0:Int),(IntKind.i64.wrap (Int.tdiv x.2.2.2.2.1 v38.2.1)),(Int.tmod x.2.2.2.2.1 v39.2.1),((0:Int),(1:Int),(0:Int),(1000:Int),false,()),())]),(IntKind.i64.wrap (x.2.2.2.2.1+(1:Int))),())))) (
       match x.2.2.1.2.2.1[(0:Int).toNat]? with
       |none=>none
       |some v38=>
       if v38.2.1=0 then none else
       match x.2.2.1.2.2.1[(0:Int).toNat]? with
       |none=>none
       |some v39=>
       if v39.2.1=0 then none else
       aA (x.2.2.2.1.length+ [((0:Int),(IntKind.i64.wrap (Int.tdiv x.2.2.2.2.1 v39.2.1)),(Int.tmod x.2.2.2.2.1 v38.2.1),((0:Int),(1:Int),(0:Int),(1000:Int),false,()),())].length) (
        some (.inl ((x.1.1,x.1.2.1,x.1.2.2.1,()),(x.2.1.1,x.2.1.2.1,x.2.1.2.2.1,x.2.1.2.2.2.1,()),(x.2.2.1.1,x.2.2.1.2.1,x.2.2.1.2.2.1,x.2.2.1.2.2.2.1,()),(x.2.2.2.1++ [((0:Int),(IntKind.i64.wrap (Int.tdiv x.2.2.2.2.1 v39.2.1)),(Int.tmod x.2.2.2.2.1 v38.2.1),((0:Int),(1:Int),(0:Int),(1000:Int),false,()),())]),(IntKind.i64.wrap (x.2.2.2.2.1+(1:Int))),()))))) (
      match x.2.2.1.2.2.1[(0:Int).toNat]? with
      |none=>none
      |some v37=>
      if v37.2.1=0 then none else
      aa (aq x.2.2.1.2.2.1 (0:Int)) fun _=>
      match x.2.2.1.2.2.1[(0:Int).toNat]? with
      |none=>none
      |some v39=>
      if v39.2.1=0 then none else
      aA (x.2.2.2.1.length+ [((0:Int),(IntKind.i64.wrap (Int.tdiv x.2.2.2.2.1 v39.2.1)),(Int.tmod x.2.2.2.2.1 v37.2.1),((0:Int),(1:Int),(0:Int),(1000:Int),false,()),())].length) (
       some (.inl ((x.1.1,x.1.2.1,x.1.2.2.1,()),(x.2.1.1,x.2.1.2.1,x.2.1.2.2.1,x.2.1.2.2.2.1,()),(x.2.2.1.1,x.2.2.1.2.1,x.2.2.1.2.2.1,x.2.2.1.2.2.2.1,()),(x.2.2.2.1++ [((0:Int),(IntKind.i64.wrap (Int.tdiv x.2.2.2.2.1 v39.2.1)),(Int.tmod x.2.2.2.2.1 v37.2.1),((0:Int),(1:Int),(0:Int),(1000:Int),false,()),())]),(IntKind.i64.wrap (x.2.2.2.2.1+(1:Int))),()))))))) (
   aQ (
    aa (aq x.2.2.1.2.2.1 (0:Int)) fun _=>
    aQ (
     match x.2.2.1.2.2.1[(0:Int).toNat]? with
     |none=>none
     |some v37=>
     if v37.2.1=0 then none else
     aa (aq x.2.2.1.2.2.1 (0:Int)) fun _=>
     match x.2.2.1.2.2.1[(0:Int).toNat]? with
     |none=>none
     |some v39=>
     if v39.2.1=0 then none else
     aA (x.2.2.2.1.length+ [((0:Int),(IntKind.i64.wrap (Int.tdiv x.2.2.2.2.1 v37.2.1)),(Int.tmod x.2.2.2.2.1 v39.2.1),((0:Int),(1:Int),(0:Int),(1000:Int),false,()),())].length) (
      some (.inl ((x.1.1,x.1.2.1,x.1.2.2.1,()),(x.2.1.1,x.2.1.2.1,x.2.1.2.2.1,x.2.1.2.2.2.1,()),(x.2.2.1.1,x.2.2.1.2.1,x.2.2.1.2.2.1,x.2.2.1.2.2.2.1,()),(x.2.2.2.1++ [((0:Int),(IntKind.i64.wrap (Int.tdiv x.2.2.2.2.1 v37.2.1)),(Int.tmod x.2.2.2.2.1 v39.2.1),((0:Int),(1:Int),(0:Int),(1000:Int),false,()),())]),(IntKind.i64.wrap (x.2.2.2.2.1+(1:Int))),())))) (
     aa (aq x.2.2.1.2.2.1 (0:Int)) fun _=>
     aQ (
      match x.2.2.1.2.2.1[(0:Int).toNat]? with
      |none=>none
      |some v38=>
      if v38.2.1=0 then none else
      match x.2.2.1.2.2.1[(0:Int).toNat]? with
      |none=>none
      |some v39=>
      if v39.2.1=0 then none else
      aA (x.2.2.2.1.length+ [((0:Int),(IntKind.i64.wrap (Int.tdiv x.2.2.2.2.1 v38.2.1)),(Int.tmod x.2.2.2.2.1 v39.2.1),((0:Int),(1:Int),(0:Int),(1000:Int),false,()),())].length) (
       some (.inl ((x.1.1,x.1.2.1,x.1.2.2.1,()),(x.2.1.1,x.2.1.2.1,x.2.1.2.2.1,x.2.1.2.2.2.1,()),(x.2.2.1.1,x.2.2.1.2.1,x.2.2.1.2.2.1,x.2.2.1.2.2.2.1,()),(x.2.2.2.1++ [((0:Int),(IntKind.i64.wrap (Int.tdiv x.2.2.2.2.1 v38.2.1)),(Int.tmod x.2.2.2.2.1 v39.2.1),((0:Int),(1:Int),(0:Int),(1000:Int),false,()),())]),(IntKind.i64.wrap (x.2.2.2.2.1+(1:Int))),())))) (
      match x.2.2.1.2.2.1[(0:Int).toNat]? with
      |none=>none
      |some v38=>
      if v38.2.1=0 then none else
      match x.2.2.1.2.2.1[(0:Int).toNat]? with
      |none=>none
      |some v39=>
      if v39.2.1=0 then none else
      aA (x.2.2.2.1.length+ [((0:Int),(IntKind.i64.wrap (Int.tdiv x.2.2.2.2.1 v39.2.1)),(Int.tmod x.2.2.2.2.1 v38.2.1),((0:Int),(1:Int),(0:Int),(1000:Int),false,()),())].length) (
       some (.inl ((x.1.1,x.1.2.1,x.1.2.2.1,()),(x.2.1.1,x.2.1.2.1,x.2.1.2.2.1,x.2.1.2.2.2.1,()),(x.2.2.1.1,x.2.2.1.2.1,x.2.2.1.2.2.1,x.2.2.1.2.2.2.1,()),(x.2.2.2.1++ [((0:Int),(IntKind.i64.wrap (Int.tdiv x.2.2.2.2.1 v39.2.1)),(Int.tmod x.2.2.2.2.1 v38.2.1),((0:Int),(1:Int),(0:Int),(1000:Int),false,()),())]),(IntKind.i64.wrap (x.2.2.2.2.1+(1:Int))),())))))) (
    aa (aq x.2.2.1.2.2.1 (0:Int)) fun _=>
    aQ (
     aa (aq x.2.2.1.2.2.1 (0:Int)) fun _=>
     aQ (
      match x.2.2.1.2.2.1[(0:Int).toNat]? with
      |none=>none
      |some v38=>
      if v38.2.1=0 then none else
      match x.2.2.1.2.2.1[(0:Int).toNat]? with
      |none=>none
      |some v39=>
      if v39.2.1=0 then none else
      aA (x.2.2.2.1.length+ [((0:Int),(IntKind.i64.wrap (Int.tdiv x.2.2.2.2.1 v38.2.1)),(Int.tmod x.2.2.2.2.1 v39.2.1),((0:Int),(1:Int),(0:Int),(1000:Int),false,()),())].length) (
       some (.inl ((x.1.1,x.1.2.1,x.1.2.2.1,()),(x.2.1.1,x.2.1.2.1,x.2.1.2.2.1,x.2.1.2.2.2.1,()),(x.2.2.1.1,x.2.2.1.2.1,x.2.2.1.2.2.1,x.2.2.1.2.2.2.1,()),(x.2.2.2.1++ [((0:Int),(IntKind.i64.wrap (Int.tdiv x.2.2.2.2.1 v38.2.1)),(Int.tmod x.2.2.2.2.1 v39.2.1),((0:Int),(1:Int),(0:Int),(1000:Int),false,()),())]),(IntKind.i64.wrap (x.2.2.2.2.1+(1:Int))),())))) (
      match x.2.2.1.2.2.1[(0:Int).toNat]? with
      |none=>none
      |some v38=>
      if v38.2.1=0 then none else
      match x.2.2.1.2.2.1[(0:Int).toNat]? with
      |none=>none
      |some v39=>
      if v39.2.1=0 then none else
      aA (x.2.2.2.1.length+ [((0:Int),(IntKind.i64.wrap (Int.tdiv x.2.2.2.2.1 v39.2.1)),(Int.tmod x.2.2.2.2.1 v38.2.1),((0:Int),(1:Int),(0:Int),(1000:Int),false,()),())].length) (
       some (.inl ((x.1.1,x.1.2.1,x.1.2.2.1,()),(x.2.1.1,x.2.1.2.1,x.2.1.2.2.1,x.2.1.2.2.2.1,()),(x.2.2.1.1,x.2.2.1.2.1,x.2.2.1.2.2.1,x.2.2.1.2.2.2.1,()),(x.2.2.2.1++ [((0:Int),(IntKind.i64.wrap (Int.tdiv x.2.2.2.2.1 v39.2.1)),(Int.tmod x.2.2.2.2.1 v38.2.1),((0:Int),(1:Int),(0:Int),(1000:Int),false,()),())]),(IntKind.i64.wrap (x.2.2.2.2.1+(1:Int))),()))))) (
     match x.2.2.1.2.2.1[(0:Int).toNat]? with
     |none=>none
     |some v37=>
     if v37.2.1=0 then none else
     aa (aq x.2.2.1.2.2.1 (0:Int)) fun _=>
     match x.2.2.1.2.2.1[(0:Int).toNat]? with
     |none=>none
     |some v39=>
     if v39.2.1=0 then none else
     aA (x.2.2.2.1.length+ [((0:Int),(IntKind.i64.wrap (Int.tdiv x.2.2.2.2.1 v39.2.1)),(Int.tmod x.2.2.2.2.1 v37.2.1),((0:Int),(1:Int),(0:Int),(1000:Int),false,()),())].length) (
      some (.inl ((x.1.1,x.1.2.1,x.1.2.2.1,()),(x.2.1.1,x.2.1.2.1,x.2.1.2.2.1,x.2.1.2.2.2.1,()),(x.2.2.1.1,x.2.2.1.2.1,x.2.2.1.2.2.1,x.2.2.1.2.2.2.1,()),(x.2.2.2.1++ [((0:Int),(IntKind.i64.wrap (Int.tdiv x.2.2.2.2.1 v39.2.1)),(Int.tmod x.2.2.2.2.1 v37.2.1),((0:Int),(1:Int),(0:Int),(1000:Int),false,()),())]),(IntKind.i64.wrap (x.2.2.2.2.1+(1:Int))),())))))))
|false=>
 some (.inr (.inl ((x.1.1,x.1.2.1,x.1.2.2.1,()),(x.2.1.1,x.2.1.2.1,x.2.1.2.2.1,x.2.1.2.2.2.1,()),(x.2.2.1.1,x.2.2.1.2.1,x.2.2.1.2.2.1,x.2.2.1.2.2.2.1,()),x.2.2.2.1,())))
noncomputable def lY(x:Ty.T QV):Option (Ty.T (.pair ac (.pair (.box ah) .unit))):=
match wt ((x.1.1,x.1.2.1,x.1.2.2.1,()),())with
|none=>none
|some v1=>
match ai ((v1.2.1.1,v1.2.1.2.1,v1.2.1.2.2.1,()),(v1.1.2.2.2.1.length:Int),())with
|none=>none
|some v2=>
match ai ((v2.2.1.1,v2.2.1.2.1,v2.2.1.2.2.1,()),(30:Int),())with
|none=>none
|some v3=>
match(v3.1==(0:Int))with
|true=>
 match ai ((v3.2.1.1,v3.2.1.2.1,v3.2.1.2.2.1,()),(3:Int),())with
 |none=>none
 |some v4=>
 aa (aq [(0:Int),(16777215:Int),(16777216:Int)] v4.1) fun _=>
 match [(0:Int),(16777215:Int),(16777216:Int)][v4.1.toNat]? with
 |none=>none
 |some v6=>
 some ((v6,v1.1.2.1,v1.1.2.2.1,v1.1.2.2.2.1,()),(v4.2.1.1,v4.2.1.2.1,v4.2.1.2.2.1,()),())
|false=>
 match(v3.1==(1:Int))with
 |true=>
  match pA ((v3.2.1.1,v3.2.1.2.1,v3.2.1.2.2.1,()),())with
  |none=>none
  |some v7=>
  some ((v1.1.1,v7.1,v1.1.2.2.1,v1.1.2.2.2.1,()),(v7.2.1.1,v7.2.1.2.1,v7.2.1.2.2.1,()),())
 |false=>
  match(v3.1==(2:Int))with
  |true=>
   match pB ((v3.2.1.1,v3.2.1.2.1,v3.2.1.2.2.1,()),())with
   |none=>none
   |some v8=>
   some ((v1.1.1,v1.1.2.1,v8.1,v1.1.2.2.2.1,()),(v8.2.1.1,v8.2.1.2.1,v8.2.1.2.2.1,()),())
  |false=>
   match(v3.1==(3:Int))with
   |true=>
    aa (aL v1.1.2.2.2.1.length (some (.dat (.int .i64) (1:Int))) none) fun v9=>
    some ((v1.1.1,v1.1.2.1,v1.1.2.2.1,(List.drop v9.1 (List.take v9.2 v1.1.2.2.2.1)),()),(v3.2.1.1,v3.2.1.2.1,v3.2.1.2.2.1,()),())
   |false=>
    match(v3.1==(4:Int))with
    |true=>
     aI (
      match pC ((v3.2.1.1,v3.2.1.2.1,v3.2.1.2.2.1,()),())with
      |none=>none
      |some v10=>
      aa (aq v1.1.2.2.2.1 v2.1) fun _=>
      match v1.1.2.2.2.1[v2.1.toNat]? with
      |none=>none
      |some v12=>
      some ((v1.1.1,v1.1.2.1,v1.1.2.2.1,(v1.1.2.2.2.1.set v2.1.toNat (v12.1,v12.2.1,v12.2.2.1,(v10.1.1,v10.1.2.1,v10.1.2.2.1,v10.1.2.2.2.1,v10.1.2.2.2.2.1,()),())),()),(v10.2.1.1,v10.2.1.2.1,v10.2.1.2.2.1,()),()))
    |false=>
     match(v3.1==(5:Int))with
     |true=>
      aQ (
       aa (aq v1.1.2.2.2.1 v2.1) fun _=>
       match v1.1.2.2.2.1[v2.1.toNat]? with
       |none=>none
       |some v14=>
       aa (aq v1.1.2.2.2.1 v2.1) fun _=>
       match v1.1.2.2.2.1[v2.1.toNat]? with
       |none=>none
       |some v16=>
       some ((v1.1.1,v1.1.2.1,v1.1.2.2.1,(v1.1.2.2.2.1.set v2.1.toNat (v16.1,v16.2.1,v16.2.2.1,(v16.2.2.2.1.1,v16.2.2.2.1.2.1,v16.2.2.2.1.2.2.1,(IntKind.i64.wrap (v14.2.2.2.1.2.2.2.1+(1:Int))),v16.2.2.2.1.2.2.2.2.1,()),())),()),(v3.2.1.1,v3.2.1.2.1,v3.2.1.2.2.1,()),())) (
       aa (aq v1.1.2.2.2.1 v2.1) fun _=>
       aI (
        match v1.1.2.2.2.1[v2.1.toNat]? with
        |none=>none
        |some v14=>
        aa (aq v1.1.2.2.2.1 v2.1) fun _=>
        match v1.1.2.2.2.1[v2.1.toNat]? with
        |none=>none
        |some v16=>
        some ((v1.1.1,v1.1.2.1,v1.1.2.2.1,(v1.1.2.2.2.1.set v2.1.toNat (v16.1,v16.2.1,v16.2.2.1,(v16.2.2.2.1.1,v16.2.2.2.1.2.1,v16.2.2.2.1.2.2.1,(IntKind.i64.wrap (v14.2.2.2.1.2.2.2.1+(1:Int))),v16.2.2.2.1.2.2.2.2.1,()),())),()),(v3.2.1.1,v3.2.1.2.1,v3.2.1.2.2.1,()),())))
     |false=>
      match(v3.1==(6:Int))with
      |true=>
       aI (
        match ai ((v3.2.1.1,v3.2.1.2.1,v3.2.1.2.2.1,()),(9:Int),())with
        |none=>none
        |some v17=>
        aa (aq v1.1.2.2.2.1 v2.1) fun _=>
        match v1.1.2.2.2.1[v2.1.toNat]? with
        |none=>none
        |some v19=>
        some ((v1.1.1,v1.1.2.1,v1.1.2.2.1,(v1.1.2.2.2.1.set v2.1.toNat (v19.1,v19.2.1,v19.2.2.1,(v17.1,v19.2.2.2.1.2.1,v19.2.2.2.1.2.2.1,v19.2.2.2.1.2.2.2.1,v19.2.2.2.1.2.2.2.2.1,()),())),()),(v17.2.1.1,v17.2.1.2.1,v17.2.1.2.2.1,()),()))
      |false=>
       match(v3.1==(7:Int))with
       |true=>
        aa (aq v1.1.2.2.2.1 v2.1) fun _=>
        match v1.1.2.2.2.1[v2.1.toNat]? with
        |none=>none
        |some v21=>
        aa (aq (v1.1.2.2.2.1.set v2.1.toNat (v21.1,v21.2.1,v21.2.2.1,(v21.2.2.2.1.1,(3:Int),v21.2.2.2.1.2.2.1,v21.2.2.2.1.2.2.2.1,v21.2.2.2.1.2.2.2.2.1,()),())) v2.1) fun _=>
        match(v1.1.2.2.2.1.set v2.1.toNat (v21.1,v21.2.1,v21.2.2.1,(v21.2.2.2.1.1,(3:Int),v21.2.2.2.1.2.2.1,v21.2.2.2.1.2.2.2.1,v21.2.2.2.1.2.2.2.2.1,()),()))[v2.1.toNat]? with
        |none=>none
        |some v23=>
        aa (aq ((v1.1.2.2.2.1.set v2.1.toNat (v21.1,v21.2.1,v21.2.2.1,(v21.2.2.2.1.1,(3:Int),v21.2.2.2.1.2.2.1,v21.2.2.2.1.2.2.2.1,v21.2.2.2.1.2.2.2.2.1,()),())).set v2.1.toNat (v23.1,v23.2.1,v23.2.2.1,(v23.2.2.2.1.1,v23.2.2.2.1.2.1,(0:Int),v23.2.2.2.1.2.2.2.1,v23.2.2.2.1.2.2.2.2.1,()),())) v2.1) fun _=>
        match((v1.1.2.2.2.1.set v2.1.toNat (v21.1,v21.2.1,v21.2.2.1,(v21.2.2.2.1.1,(3:Int),v21.2.2.2.1.2.2.1,v21.2.2.2.1.2.2.2.1,v21.2.2.2.1.2.2.2.2.1,()),())).set v2.1.toNat (v23.1,v23.2.1,v23.2.2.1,(v23.2.2.2.1.1,v23.2.2.2.1.2.1,(0:Int),v23.2.2.2.1.2.2.2.1,v23.2.2.2.1.2.2.2.2.1,()),()))[v2.1.toNat]? with
        |none=>none
        |some v25=>
        some ((v1.1.1,v1.1.2.1,v1.1.2.2.1,(((v1.1.2.2.2.1.set v2.1.toNat (v21.1,v21.2.1,v21.2.2.1,(v21.2.2.2.1.1,(3:Int),v21.2.2.2.1.2.2.1,v21.2.2.2.1.2.2.2.1,v21.2.2.2.1.2.2.2.2.1,()),())).set v2.1.toNat (v23.1,v23.2.1,v23.2.2.1,(v23.2.2.2.1.1,v23.2.2.2.1.2.1,(0:Int),v23.2.2.2.1.2.2.2.1,v23.2.2.2.1.2.2.2.2.1,()),())).set v2.1.toNat (v25.1,v25.2.1,v25.2.2.1,(v25.2.2.2.1.1,v25.2.2.2.1.2.1,v25.2.2.2.1.2.2.1,v25.2.2.2.1.2.2.2.1,false,()),())),()),(v3.2.1.1,v3.2.1.2.1,v3.2.1.2.2.1,()),())
       |false=>
        match(v3.1==(8:Int))with
        |true=>
         match ag dH ((v3.2.1.1,v3.2.1.2.1,v3.2.1.2.2.1,()),((0:Int),[],[],[],()),(v1.1.1,v1.1.2.1,v1.1.2.2.1,v1.1.2.2.2.1,()),(0:Int),())with
         |none=>none
         |some (.inl v28)=>
          match ai ((v28.1.1,v28.1.2.1,v28.1.2.2.1,()),(2:Int),())with
          |none=>none
          |some v30=>
          match(v30.1==(0:Int))with
          |true=>
           match ai ((v30.2.1.1,v30.2.1.2.1,v30.2.1.2.2.1,()),(2:Int),())with
           |none=>none
           |some v31=>
           match(v31.1==(0:Int))with
           |true=>
            match ag cz ((v31.2.1.1,v31.2.1.2.1,v31.2.1.2.2.1,()),(v28.2.1.1,v28.2.1.2.1,v28.2.1.2.2.1,v28.2.1.2.2.2.1,()),((3:Int),[((0:Int),([97]:List UInt8),(0:Int),false,())],[((3:Int),(11:Int),[],())],[],()),[],(0:Int),())with
            |none=>none
            |some (.inl v40)=>
             some ((v40.2.2.1.1,v40.2.2.1.2.1,v40.2.2.1.2.2.1,v40.2.2.2.1,()),(v40.1.1,v40.1.2.1,v40.1.2.2.1,()),())
            |some (.inr v42)=>
             none
           |false=>
            match ag cz ((v31.2.1.1,v31.2.1.2.1,v31.2.1.2.2.1,()),(v28.2.1.1,v28.2.1.2.1,v28.2.1.2.2.1,v28.2.1.2.2.2.1,()),((3:Int),[((0:Int),([97]:List UInt8),(0:Int),false,())],[((2:Int),(16:Int),[],())],[],()),[],(0:Int),())with
            |none=>none
            |some (.inl v43)=>
             some ((v43.2.2.1.1,v43.2.2.1.2.1,v43.2.2.1.2.2.1,v43.2.2.2.1,()),(v43.1.1,v43.1.2.1,v43.1.2.2.1,()),())
            |some (.inr v45)=>
             none
          |false=>
           some ((v28.2.2.1.1,v28.2.2.1.2.1,v28.2.2.1.2.2.1,v28.2.2.1.2.2.2.1,()),(v30.2.1.1,v30.2.1.2.1,v30.2.1.2.2.1,()),())
         |some (.inr v46)=>
          none
        |false=>
         some ((v1.1.1,v1.1.2.1,v1.1.2.2.1,v1.1.2.2.2.1,()),(v3.2.1.1,v3.2.1.2.1,v3.2.1.2.2.1,()),())
noncomputable def LQ:Spec:=⟨_,abA,QV,rfl,lY⟩
noncomputable def pD:FuncId→Option Spec:=bh [(52,iC),(184,Gj),(185,yp),(186,yq),(187,yt)]
theorem Fx:∀f s,pD f=some s→FnOK G0 Tryz.prog f s:=aF ⟨bR,P4,Jr,Ju,Jv,trivial⟩
def sS:aO:=⟨[0,2,3,5],aa2,1,[0,2,3],acn,[],.unit⟩
def sU:aO:=⟨[0,2,3,6,7],aa3,3,[0,2,3,6],aco,[],.unit⟩
noncomputable def pE:List ay:=[sS.spec dH,sU.spec cz]
theorem Cg:bc bd E0 pD (ba Tryz.f123 pE) Tryz.f123 0 sS dH:=fun x=>by kernel_rfl
theorem Ci:bc bd E0 pD (ba Tryz.f123 pE) Tryz.f123 1 sU cz:=fun x=>by kernel_rfl
theorem Jw:FnOK G0 Tryz.prog 123 LQ:=aH ao Fx Tryz.func123 pE (by kernel_rfl) (by exact⟨(Cg).lok,(Ci).lok,trivial⟩) fun x=>by kernel_rfl
noncomputable def oV(x:Ty.T QV):Option (Ty.T agk):=
match ai ((x.1.1,x.1.2.1,x.1.2.2.1,()),(200:Int),())with
|none=>none
|some v1=>
match ai ((v1.2.1.1,v1.2.1.2.1,v1.2.1.2.2.1,()),(3:Int),())with
|none=>none
|some v2=>
match ai ((v2.2.1.1,v2.2.1.2.1,v2.2.1.2.2.1,()),(3:Int),())with
|none=>none
|some v3=>
match ai ((v3.2.1.1,v3.2.1.2.1,v3.2.1.2.2.1,()),(6:Int),())with
|none=>none
|some v4=>
match ai ((v4.2.1.1,v4.2.1.2.1,v4.2.1.2.2.1,()),(256:Int),())with
|none=>none
|some v5=>
match ai ((v5.2.1.1,v5.2.1.2.1,v5.2.1.2.2.1,()),(8:Int),())with
|none=>none
|some v6=>
match(v6.1==(0:Int))with
|true=>
 match ai ((v6.2.1.1,v6.2.1.2.1,v6.2.1.2.2.1,()),(9:Int),())with
 |none=>none
 |some v7=>
 match ai ((v7.2.1.1,v7.2.1.2.1,v7.2.1.2.2.1,()),(16:Int),())with
 |none=>none
 |some v8=>
 match ai ((v8.2.1.1,v8.2.1.2.1,v8.2.1.2.2.1,()),(16:Int),())with
 |none=>none
 |some v9=>
 match ai ((v9.2.1.1,v9.2.1.2.1,v9.2.1.2.2.1,()),(256:Int),())with
 |none=>none
 |some v10=>
 match ai ((v10.2.1.1,v10.2.1.2.1,v10.2.1.2.2.1,()),(99:Int),())with
 |none=>none
 |some v11=>
 some (((IntKind.i64.wrap ((65535:Int)-v7.1)),v8.1,v9.1,v10.1,(IntKind.i64.wrap ((4294967295:Int)-v11.1)),()),(v11.2.1.1,v11.2.1.2.1,v11.2.1.2.2.1,()),())
|false=>
 some ((v1.1,v2.1,v3.1,v4.1,v5.1,()),(v6.2.1.1,v6.2.1.2.1,v6.2.1.2.2.1,()),())
noncomputable def Sg:Spec:=⟨_,y_7,QV,rfl,oV⟩
theorem P6:FnOK G0 Tryz.prog 96 Sg:=ap ao (sg bR (aJ)) Tryz.func96
noncomputable def iW(x:Ty.T QV):Option (Ty.T agk):=
match oV ((x.1.1,x.1.2.1,x.1.2.2.1,()),())with
|none=>none
|some v1=>
match ai ((v1.2.1.1,v1.2.1.2.1,v1.2.1.2.2.1,()),(30:Int),())with
|none=>none
|some v2=>
match(v2.1==(0:Int))with
|true=>
 match ai ((v2.2.1.1,v2.2.1.2.1,v2.2.1.2.2.1,()),(3:Int),())with
 |none=>none
 |some v3=>
 aa (aq [(-1:Int),(65535:Int),(65536:Int)] v3.1) fun _=>
 match [(-1:Int),(65535:Int),(65536:Int)][v3.1.toNat]? with
 |none=>none
 |some v5=>
 some ((v5,v1.1.2.1,v1.1.2.2.1,v1.1.2.2.2.1,v1.1.2.2.2.2.1,()),(v3.2.1.1,v3.2.1.2.1,v3.2.1.2.2.1,()),())
|false=>
 match(v2.1==(1:Int))with
 |true=>
  match ai ((v2.2.1.1,v2.2.1.2.1,v2.2.1.2.2.1,()),(2:Int),())with
  |none=>none
  |some v6=>
  aa (aq [(-1:Int),(16:Int)] v6.1) fun _=>
  match [(-1:Int),(16:Int)][v6.1.toNat]? with
  |none=>none
  |some v8=>
  some ((v1.1.1,v8,v1.1.2.2.1,v1.1.2.2.2.1,v1.1.2.2.2.2.1,()),(v6.2.1.1,v6.2.1.2.1,v6.2.1.2.2.1,()),())
 |false=>
  match(v2.1==(2:Int))with
  |true=>
   match ai ((v2.2.1.1,v2.2.1.2.1,v2.2.1.2.2.1,()),(2:Int),())with
   |none=>none
   |some v9=>
   aa (aq [(-1:Int),(16:Int)] v9.1) fun _=>
   match [(-1:Int),(16:Int)][v9.1.toNat]? with
   |none=>none
   |some v11=>
   some ((v1.1.1,v1.1.2.1,v11,v1.1.2.2.2.1,v1.1.2.2.2.2.1,()),(v9.2.1.1,v9.2.1.2.1,v9.2.1.2.2.1,()),())
  |false=>
   match(v2.1==(3:Int))with
   |true=>
    match ai ((v2.2.1.1,v2.2.1.2.1,v2.2.1.2.2.1,()),(2:Int),())with
    |none=>none
    |some v12=>
    aa (aq [(-1:Int),(256:Int)] v12.1) fun _=>
    match [(-1:Int),(256:Int)][v12.1.toNat]? with
    |none=>none
    |some v14=>
    some ((v1.1.1,v1.1.2.1,v1.1.2.2.1,v14,v1.1.2.2.2.2.1,()),(v12.2.1.1,v12.2.1.2.1,v12.2.1.2.2.1,()),())
   |false=>
    match(v2.1==(4:Int))with
    |true=>
     match ai ((v2.2.1.1,v2.2.1.2.1,v2.2.1.2.2.1,()),(2:Int),())with
     |none=>none
     |some v15=>
     aa (aq [(-1:Int),(4294967296:Int)] v15.1) fun _=>
     match [(-1:Int),(4294967296:Int)][v15.1.toNat]? with
     |none=>none
     |some v17=>
     some ((v1.1.1,v1.1.2.1,v1.1.2.2.1,v1.1.2.2.2.1,v17,()),(v15.2.1.1,v15.2.1.2.1,v15.2.1.2.2.1,()),())
    |false=>
     some ((v1.1.1,v1.1.2.1,v1.1.2.2.1,v1.1.2.2.2.1,v1.1.2.2.2.2.1,()),(v2.2.1.1,v2.2.1.2.1,v2.2.1.2.2.1,()),())
noncomputable def LR:Spec:=⟨_,y_7,QV,rfl,iW⟩
theorem wv:FnOK G0 Tryz.prog 124 LR:=ap ao (sg bR (sg P6 (aJ))) Tryz.func124
noncomputable def rz(x:Ty.T et):Option (Ty.T ae):=
match bp (x.1,(0:Int),(31:Int),())with
|none=>none
|some v1=>
some (v1.1,())
noncomputable def Si:Spec:=⟨_,ae,.unit,rfl,rz⟩
theorem De:FnOK G0 Tryz.prog 295 Si:=ap ao (sg cD (aJ)) Tryz.func295
noncomputable def ic(x:(Ty.T afl)):Option ((Ty.T afl) ⊕ ((Ty.T abl) ⊕ (Ty.T ae))):=
match(decide (x.2.1<(x.1.length:Int)))with
|true=>
 aa (aq x.1 x.2.1) fun v1=>
 match(decide ((v1.toNat:Int)<(97:Int)))with
 |true=>
  aa (aq x.1 x.2.1) fun v2=>
  match(decide ((v2.toNat:Int)<(48:Int)))with
  |true=>
   some (.inr (.inr (false,())))
  |false=>
   aa (aq x.1 x.2.1) fun v3=>
   match(decide ((v3.toNat:Int)>(57:Int)))with
   |true=>
    some (.inr (.inr (false,())))
   |false=>
    some (.inl (x.1,(IntKind.i64.wrap (x.2.1+(1:Int))),()))
 |false=>
  aa (aq x.1 x.2.1) fun v4=>
  match(decide ((v4.toNat:Int)>(122:Int)))with
  |true=>
   aa (aq x.1 x.2.1) fun v5=>
   match(decide ((v5.toNat:Int)<(48:Int)))with
   |true=>
    some (.inr (.inr (false,())))
   |false=>
    aa (aq x.1 x.2.1) fun v6=>
    match(decide ((v6.toNat:Int)>(57:Int)))with
    |true=>
     some (.inr (.inr (false,())))
    |false=>
     some (.inl (x.1,(IntKind.i64.wrap (x.2.1+(1:Int))),()))
  |false=>
   some (.inl (x.1,(IntKind.i64.wrap (x.2.1+(1:Int))),()))
|false=>
 some (.inr (.inl (x.1,())))
noncomputable def ww(x:Ty.T abl):Option (Ty.T ae):=
match ag ic (x.1,(0:Int),())with
|none=>none
|some (.inl v7)=>
 match(decide ((v7.1.length:Int)≥(1:Int)))with
 |true=>
  some ((decide ((v7.1.length:Int)≤(6:Int))),())
 |false=>
  some (false,())
|some (.inr v8)=>
 some (v8.1,())
noncomputable def Sj:Spec:=⟨_,ae,.unit,rfl,ww⟩
noncomputable def Df:FuncId→Option Spec:=bh []
theorem LS:∀f s,Df f=some s→FnOK G0 Tryz.prog f s:=aF trivial
def Ba:aO:=⟨[0,3],afl,0,[0],abl,[2],ae⟩
noncomputable def Dg:List ay:=[Ba.spec ic]
theorem Jy:bc bd E0 Df (ba Tryz.f309 Dg) Tryz.f309 0 Ba ic:=fun x=>by kernel_rfl
theorem P7:FnOK G0 Tryz.prog 309 Sj:=aH ao LS Tryz.func309 Dg (by kernel_rfl) (by exact⟨(Jy).lok,trivial⟩) fun x=>by kernel_rfl
noncomputable def pF(x:Ty.T (.pair ak .unit)):Option (Ty.T ae):=
match rz (x.1.1,())with
|none=>none
|some v1=>
match v1.1 with
|true=>
 match ww (x.1.2.1,())with
 |none=>none
 |some v2=>
 match v2.1 with
 |true=>
  match bp (x.1.2.2.1,(0:Int),(1000:Int),())with
  |none=>none
  |some v3=>
  some (v3.1,())
 |false=>
  some (false,())
|false=>
 some (false,())
noncomputable def yu:Spec:=⟨_,ae,.unit,rfl,pF⟩
theorem Jz:FnOK G0 Tryz.prog 283 yu:=ap ao (sg cD (sg De (sg P7 (aJ)))) Tryz.func283
abbrev acp:Ty:=agp
noncomputable def cZ(x:(Ty.T adX)):Option ((Ty.T adX) ⊕ ((Ty.T acp) ⊕ (Ty.T ae))):=
match(decide (x.2.2.1<x.2.1))with
|true=>
 aa (aq x.1 x.2.2.1) fun v6=>
 aa (aq x.1 x.2.1) fun v7=>
 match(v6.2.1==v7.2.1)with
 |true=>
  some (.inr (.inr (false,())))
 |false=>
  some (.inl (x.1,x.2.1,(IntKind.i64.wrap (x.2.2.1+(1:Int))),()))
|false=>
 some (.inr (.inl (x.1,x.2.1,())))
abbrev aa4:Ty:=agp
noncomputable def eJ(x:(Ty.T aa4)):Option ((Ty.T aa4) ⊕ ((Ty.T .unit) ⊕ (Ty.T ae))):=
match(decide (x.2.1<(x.1.length:Int)))with
|true=>
 aa (aq x.1 x.2.1) fun v2=>
 match pF (v2,())with
 |none=>none
 |some v3=>
 match(!v3.1)with
 |true=>
  some (.inr (.inr (false,())))
 |false=>
  match(decide (x.2.1>(0:Int)))with
  |true=>
   aa (aq x.1 x.2.1) fun v4=>
   aa (aq x.1 (IntKind.i64.wrap (x.2.1-(1:Int)))) fun v5=>
   match(decide (v4.1≤v5.1))with
   |true=>
    some (.inr (.inr (false,())))
   |false=>
    match ag cZ (x.1,x.2.1,(0:Int),())with
    |none=>none
    |some (.inl v6)=>
     some (.inl (v6.1,(IntKind.i64.wrap (v6.2.1+(1:Int))),()))
    |some (.inr v7)=>
     some (.inr (.inr (v7.1,())))
  |false=>
   match ag cZ (x.1,x.2.1,(0:Int),())with
   |none=>none
   |some (.inl v8)=>
    some (.inl (v8.1,(IntKind.i64.wrap (v8.2.1+(1:Int))),()))
   |some (.inr v9)=>
    some (.inr (.inr (v9.1,())))
|false=>
 some (.inr (.inl (())))
noncomputable def nW(x:Ty.T adY):Option (Ty.T ae):=
match bp ((x.1.length:Int),(1:Int),(32:Int),())with
|none=>none
|some v1=>
match(!v1.1)with
|true=>
 some (false,())
|false=>
 match ag eJ (x.1,(0:Int),())with
 |none=>none
 |some (.inl v10)=>
  some (true,())
 |some (.inr v11)=>
  some (v11.1,())
noncomputable def wA:Spec:=⟨_,ae,.unit,rfl,nW⟩
noncomputable def oq:FuncId→Option Spec:=bh [(70,lV),(283,yu)]
theorem Dh:∀f s,oq f=some s→FnOK G0 Tryz.prog f s:=aF ⟨cD,Jz,trivial⟩
def sV:aO:=⟨[0,3],aa4,0,[],.unit,[2],ae⟩
def sW:aO:=⟨[0,3,4],adX,2,[0,3],acp,[2],ae⟩
noncomputable def ot:List ay:=[sV.spec eJ,sW.spec cZ]
theorem Cj:bc bd E0 oq (ba Tryz.f241 ot) Tryz.f241 0 sV eJ:=fun x=>by kernel_rfl
theorem Ck:bc bd E0 oq (ba Tryz.f241 ot) Tryz.f241 1 sW cZ:=fun x=>by kernel_rfl
theorem HG:FnOK G0 Tryz.prog 241 wA:=aH ao Dh Tryz.func241 ot (by kernel_rfl) (by exact⟨(Cj).lok,(Ck).lok,trivial⟩) fun x=>by kernel_rfl
noncomputable def iX(x:(Ty.T y_6)):Option ((Ty.T y_6) ⊕ ((Ty.T .unit) ⊕ (Ty.T ae))):=
match(decide (x.2.2.1<(x.1.length:Int)))with
|true=>
 aa (aq x.1 x.2.2.1) fun v1=>
 match(v1==x.2.1)with
 |true=>
  some (.inr (.inr (true,())))
 |false=>
  some (.inl (x.1,x.2.1,(IntKind.i64.wrap (x.2.2.1+(1:Int))),()))
|false=>
 some (.inr (.inl (())))
noncomputable def ou(x:Ty.T y_9):Option (Ty.T ae):=
match ag iX (x.1,x.2.1,(0:Int),())with
|none=>none
|some (.inl v2)=>
 some (false,())
|some (.inr v3)=>
 some (v3.1,())
noncomputable def Ab:Spec:=⟨_,ae,.unit,rfl,ou⟩
noncomputable def Gk:FuncId→Option Spec:=bh []
theorem N6:∀f s,Gk f=some s→FnOK G0 Tryz.prog f s:=aF trivial
def Di:aO:=⟨[0,1,5],y_6,0,[],.unit,[4],ae⟩
noncomputable def Gm:List ay:=[Di.spec iX]
theorem LT:bc bd E0 Gk (ba Tryz.f145 Gm) Tryz.f145 0 Di iX:=fun x=>by kernel_rfl
theorem Gn:FnOK G0 Tryz.prog 145 Ab:=aH ao N6 Tryz.func145 Gm (by kernel_rfl) (by exact⟨(LT).lok,trivial⟩) fun x=>by kernel_rfl
noncomputable def gq(x:(Ty.T y_6)):Option ((Ty.T y_6) ⊕ ((Ty.T .unit) ⊕ (Ty.T ae))):=
match(decide (x.2.2.1<(x.1.length:Int)))with
|true=>
 aa (aq x.1 x.2.2.1) fun v1=>
 match bp (v1,(0:Int),(IntKind.i64.wrap (x.2.1-(1:Int))),())with
 |none=>none
 |some v2=>
 match(!v2.1)with
 |true=>
  some (.inr (.inr (false,())))
 |false=>
  match(decide (x.2.2.1>(0:Int)))with
  |true=>
   aa (aq x.1 x.2.2.1) fun v3=>
   aa (aq x.1 (IntKind.i64.wrap (x.2.2.1-(1:Int)))) fun v4=>
   match(decide (v3≤v4))with
   |true=>
    some (.inr (.inr (false,())))
   |false=>
    some (.inl (x.1,x.2.1,(IntKind.i64.wrap (x.2.2.1+(1:Int))),()))
  |false=>
   some (.inl (x.1,x.2.1,(IntKind.i64.wrap (x.2.2.1+(1:Int))),()))
|false=>
 some (.inr (.inl (())))
noncomputable def tQ(x:Ty.T y_9):Option (Ty.T ae):=
match ag gq (x.1,x.2.1,(0:Int),())with
|none=>none
|some (.inl v5)=>
 some (true,())
|some (.inr v6)=>
 some (v6.1,())
noncomputable def Dj:Spec:=⟨_,ae,.unit,rfl,tQ⟩
noncomputable def Bb:FuncId→Option Spec:=bh [(70,lV)]
theorem JA:∀f s,Bb f=some s→FnOK G0 Tryz.prog f s:=aF ⟨cD,trivial⟩
def yv:aO:=⟨[0,1,5],y_6,0,[],.unit,[4],ae⟩
noncomputable def Bc:List ay:=[yv.spec gq]
theorem HH:bc bd E0 Bb (ba Tryz.f284 Bc) Tryz.f284 0 yv gq:=fun x=>by kernel_rfl
theorem N7:FnOK G0 Tryz.prog 284 Dj:=aH ao JA Tryz.func284 Bc (by kernel_rfl) (by exact⟨(HH).lok,trivial⟩) fun x=>by kernel_rfl
abbrev aa5:Ty:=agq
noncomputable def eK(x:(Ty.T aa5)):Option ((Ty.T aa5) ⊕ ((Ty.T .unit) ⊕ (Ty.T ae))):=
match(decide (x.2.1<(x.1.length:Int)))with
|true=>
 aa (aq x.1 x.2.1) fun v2=>
 match bp (v2.1,(1:Int),(8:Int),())with
 |none=>none
 |some v3=>
 match(!v3.1)with
 |true=>
  some (.inr (.inr (false,())))
 |false=>
  match bp (v2.2.1,(1:Int),(16:Int),())with
  |none=>none
  |some v4=>
  match(!v4.1)with
  |true=>
   some (.inr (.inr (false,())))
  |false=>
   match tQ (v2.2.2.1,(x.1.length:Int),())with
   |none=>none
   |some v5=>
   match(!v5.1)with
   |true=>
    some (.inr (.inr (false,())))
   |false=>
    match ou (v2.2.2.1,x.2.1,())with
    |none=>none
    |some v6=>
    match v6.1 with
    |true=>
     some (.inr (.inr (false,())))
    |false=>
     some (.inl (x.1,(IntKind.i64.wrap (x.2.1+(1:Int))),()))
|false=>
 some (.inr (.inl (())))
noncomputable def nX(x:Ty.T aeO):Option (Ty.T ae):=
match bp ((x.1.length:Int),(1:Int),(16:Int),())with
|none=>none
|some v1=>
match(!v1.1)with
|true=>
 some (false,())
|false=>
 match ag eK (x.1,(0:Int),())with
 |none=>none
 |some (.inl v7)=>
  some (true,())
 |some (.inr v8)=>
  some (v8.1,())
noncomputable def wB:Spec:=⟨_,ae,.unit,rfl,nX⟩
noncomputable def uG:FuncId→Option Spec:=bh [(70,lV),(145,Ab),(284,Dj)]
theorem Dk:∀f s,uG f=some s→FnOK G0 Tryz.prog f s:=aF ⟨cD,Gn,N7,trivial⟩
def sX:aO:=⟨[0,3],aa5,0,[],.unit,[2],ae⟩
noncomputable def uH:List ay:=[sX.spec eK]
theorem Cl:bc bd E0 uG (ba Tryz.f242 uH) Tryz.f242 0 sX eK:=fun x=>by kernel_rfl
theorem HI:FnOK G0 Tryz.prog 242 wB:=aH ao Dk Tryz.func242 uH (by kernel_rfl) (by exact⟨(Cl).lok,trivial⟩) fun x=>by kernel_rfl
noncomputable def rA(x:Ty.T et):Option (Ty.T ae):=
match bp (x.1,(0:Int),(3:Int),())with
|none=>none
|some v1=>
some (v1.1,())
noncomputable def Sk:Spec:=⟨_,ae,.unit,rfl,rA⟩
theorem Dl:FnOK G0 Tryz.prog 296 Sk:=ap ao (sg cD (aJ)) Tryz.func296
noncomputable def rB(x:Ty.T an):Option (Ty.T ae):=
match(x.1==(0:Int))with
|true=>
 match bp (x.2.1,(0:Int),(32:Int),())with
 |none=>none
 |some v1=>
 some (v1.1,())
|false=>
 match(x.1==(2:Int))with
 |true=>
  match bp (x.2.1,(1:Int),(32:Int),())with
  |none=>none
  |some v2=>
  some (v2.1,())
 |false=>
  some ((x.2.1==(0:Int)),())
noncomputable def Sl:Spec:=⟨_,ae,.unit,rfl,rB⟩
theorem Dm:FnOK G0 Tryz.prog 297 Sl:=ap ao (sg cD (aJ)) Tryz.func297
noncomputable def ex(x:Ty.T ads):Option (Ty.T ae):=
match rz (x.1.1,())with
|none=>none
|some v1=>
match(!v1.1)with
|true=>
 some (false,())
|false=>
 match rA (x.1.2.1,())with
 |none=>none
 |some v2=>
 match(!v2.1)with
 |true=>
  some (false,())
 |false=>
  match rB (x.1.2.1,x.1.2.2.1,())with
  |none=>none
  |some v3=>
  match(!v3.1)with
  |true=>
   some (false,())
  |false=>
   match(x.1.2.1==(3:Int))with
   |true=>
    match x.1.2.2.2.2.1 with
    |true=>
     some (false,())
    |false=>
     match dM (x.1.2.1,x.1.2.2.1,())with
     |none=>none
     |some v4=>
     match bp (x.1.2.2.2.1,(IntKind.i64.wrap (v4.1+(20:Int))),(1000:Int),())with
     |none=>none
     |some v5=>
     some (v5.1,())
   |false=>
    match dM (x.1.2.1,x.1.2.2.1,())with
    |none=>none
    |some v6=>
    match bp (x.1.2.2.2.1,(IntKind.i64.wrap (v6.1+(20:Int))),(1000:Int),())with
    |none=>none
    |some v7=>
    some (v7.1,())
noncomputable def HJ:Spec:=⟨_,ae,.unit,rfl,ex⟩
theorem sY:FnOK G0 Tryz.prog 265 HJ:=ap ao (sg cD (sg sA (sg De (sg Dl (sg Dm (aJ)))))) Tryz.func265
noncomputable def Fa(x:Ty.T afe):Option (Ty.T ae):=
match bp (x.1.1,(0:Int),(15:Int),())with
|none=>none
|some v1=>
match v1.1 with
|true=>
 match bp (x.1.2.1,(0:Int),(7:Int),())with
 |none=>none
 |some v2=>
 match v2.1 with
 |true=>
  match bp (x.1.2.2.1,(0:Int),(15:Int),())with
  |none=>none
  |some v3=>
  match v3.1 with
  |true=>
   match ex ((x.1.2.2.2.1.1,x.1.2.2.2.1.2.1,x.1.2.2.2.1.2.2.1,x.1.2.2.2.1.2.2.2.1,x.1.2.2.2.1.2.2.2.2.1,()),())with
   |none=>none
   |some v4=>
   some (v4.1,())
  |false=>
   some (false,())
 |false=>
  some (false,())
|false=>
 some (false,())
noncomputable def Nv:Spec:=⟨_,ae,.unit,rfl,Fa⟩
theorem Uz:FnOK G0 Tryz.prog 285 Nv:=ap ao (sg cD (sg sY (aJ))) Tryz.func285
abbrev aaT:Ty:=(.pair (.own 2 (.int .i64)) (.pair (.own 2 (.int .i64)) (.pair (.int .i64) .unit)))
noncomputable def ck(x:(Ty.T aaT)):Option ((Ty.T aaT) ⊕ ((Ty.T .unit) ⊕ (Ty.T et))):=
match(decide (x.2.2.1<(3:Int)))with
|true=>
 aa (aq x.1 x.2.2.1) fun _=>
 match x.1[x.2.2.1.toNat]? with
 |none=>none
 |some v2=>
 aa (aq x.2.1 x.2.2.1) fun _=>
 match x.2.1[x.2.2.1.toNat]? with
 |none=>none
 |some v4=>
 match(decide (v2<v4))with
 |true=>
  some (.inr (.inr ((-1:Int),())))
 |false=>
  aa (aq x.1 x.2.2.1) fun _=>
  match x.1[x.2.2.1.toNat]? with
  |none=>none
  |some v6=>
  aa (aq x.2.1 x.2.2.1) fun _=>
  match x.2.1[x.2.2.1.toNat]? with
  |none=>none
  |some v8=>
  match(decide (v6>v8))with
  |true=>
   some (.inr (.inr ((1:Int),())))
  |false=>
   some (.inl (x.1,x.2.1,(IntKind.i64.wrap (x.2.2.1+(1:Int))),()))
|false=>
 some (.inr (.inl (())))
noncomputable def mL(x:Ty.T agj):Option (Ty.T et):=
aQ (
 match ag ck ([x.1.1,x.1.2.1,x.1.2.2.1],[x.2.1.1,x.2.1.2.1,x.2.1.2.2.1],(0:Int),())with
 |none=>none
 |some (.inl v9)=>
  some ((0:Int),())
 |some (.inr v10)=>
  some (v10.1,())) (
 match ag ck ([x.1.1,x.1.2.1,x.1.2.2.1],[x.2.1.1,x.2.1.2.1,x.2.1.2.2.1],(0:Int),())with
 |none=>none
 |some (.inl v1)=>
  some ((0:Int),())
 |some (.inr v2)=>
  some (v2.1,()))
noncomputable def uI:Spec:=⟨_,et,.unit,rfl,mL⟩
noncomputable def sZ:FuncId→Option Spec:=bh []
theorem Cm:∀f s,sZ f=some s→FnOK G0 Tryz.prog f s:=aF trivial
def rC:aO:=⟨[5,6,7],aaT,0,[],.unit,[4],et⟩
noncomputable def s5:List ay:=[rC.spec ck]
theorem Ac:bc bd E0 sZ (ba Tryz.f286 s5) Tryz.f286 0 rC ck:=fun x=>by kernel_rfl
theorem Fy:FnOK G0 Tryz.prog 286 uI:=aH ao Cm Tryz.func286 s5 (by kernel_rfl) (by exact⟨(Ac).lok,trivial⟩) fun x=>by kernel_rfl
abbrev aa6:Ty:=(.pair (.list aj) (.pair (.int .i64) .unit))
noncomputable def eL(x:(Ty.T aa6)):Option ((Ty.T aa6) ⊕ ((Ty.T .unit) ⊕ (Ty.T ae))):=
match(decide (x.2.1<(x.1.length:Int)))with
|true=>
 aa (aq x.1 x.2.1) fun v1=>
 match Fa (v1,())with
 |none=>none
 |some v2=>
 match(!v2.1)with
 |true=>
  some (.inr (.inr (false,())))
 |false=>
  match(decide (x.2.1>(0:Int)))with
  |true=>
   aa (aq x.1 (IntKind.i64.wrap (x.2.1-(1:Int)))) fun v3=>
   aa (aq x.1 x.2.1) fun v4=>
   match mL (v3,v4,())with
   |none=>none
   |some v5=>
   match(decide (v5.1≥(0:Int)))with
   |true=>
    some (.inr (.inr (false,())))
   |false=>
    some (.inl (x.1,(IntKind.i64.wrap (x.2.1+(1:Int))),()))
  |false=>
   some (.inl (x.1,(IntKind.i64.wrap (x.2.1+(1:Int))),()))
|false=>
 some (.inr (.inl (())))
noncomputable def nY(x:Ty.T aeg):Option (Ty.T ae):=
match(decide ((x.1.length:Int)>(120:Int)))with
|true=>
 some (false,())
|false=>
 match ag eL (x.1,(0:Int),())with
 |none=>none
 |some (.inl v6)=>
  some (true,())
 |some (.inr v7)=>
  some (v7.1,())
noncomputable def wC:Spec:=⟨_,ae,.unit,rfl,nY⟩
noncomputable def uJ:FuncId→Option Spec:=bh [(285,Nv),(286,uI)]
theorem Dn:∀f s,uJ f=some s→FnOK G0 Tryz.prog f s:=aF ⟨Uz,Fy,trivial⟩
def s6:aO:=⟨[0,3],aa6,0,[],.unit,[2],ae⟩
noncomputable def uK:List ay:=[s6.spec eL]
theorem Cn:bc bd E0 uJ (ba Tryz.f243 uK) Tryz.f243 0 s6 eL:=fun x=>by kernel_rfl
theorem HK:FnOK G0 Tryz.prog 243 wC:=aH ao Dn Tryz.func243 uK (by kernel_rfl) (by exact⟨(Cn).lok,trivial⟩) fun x=>by kernel_rfl
noncomputable def ie(x:(Ty.T afi)):Option ((Ty.T afi) ⊕ ((Ty.T .unit) ⊕ (Ty.T et))):=
match(decide (x.2.2.2.2.1<(x.1.length:Int)))with
|true=>
 aa (aq x.1 x.2.2.2.2.1) fun v1=>
 match(v1.1==x.2.1)with
 |true=>
  aa (aq x.1 x.2.2.2.2.1) fun v2=>
  match(v2.2.1==x.2.2.1)with
  |true=>
   aa (aq x.1 x.2.2.2.2.1) fun v3=>
   match(v3.2.2.1==x.2.2.2.1)with
   |true=>
    some (.inr (.inr (x.2.2.2.2.1,())))
   |false=>
    some (.inl (x.1,x.2.1,x.2.2.1,x.2.2.2.1,(IntKind.i64.wrap (x.2.2.2.2.1+(1:Int))),()))
  |false=>
   some (.inl (x.1,x.2.1,x.2.2.1,x.2.2.2.1,(IntKind.i64.wrap (x.2.2.2.2.1+(1:Int))),()))
 |false=>
  some (.inl (x.1,x.2.1,x.2.2.1,x.2.2.2.1,(IntKind.i64.wrap (x.2.2.2.2.1+(1:Int))),()))
|false=>
 some (.inr (.inl (())))
noncomputable def rD(x:Ty.T agn):Option (Ty.T et):=
match ag ie (x.1,x.2.1,x.2.2.1,x.2.2.2.1,(0:Int),())with
|none=>none
|some (.inl v4)=>
 some ((-1:Int),())
|some (.inr v5)=>
 some (v5.1,())
noncomputable def Gp:Spec:=⟨_,et,.unit,rfl,rD⟩
noncomputable def Dp:FuncId→Option Spec:=bh []
theorem LU:∀f s,Dp f=some s→FnOK G0 Tryz.prog f s:=aF trivial
def Bd:aO:=⟨[0,1,2,3,9],afi,0,[],.unit,[8],et⟩
noncomputable def Dq:List ay:=[Bd.spec ie]
theorem JB:bc bd E0 Dp (ba Tryz.f146 Dq) Tryz.f146 0 Bd ie:=fun x=>by kernel_rfl
theorem Dr:FnOK G0 Tryz.prog 146 Gp:=aH ao LU Tryz.func146 Dq (by kernel_rfl) (by exact⟨(JB).lok,trivial⟩) fun x=>by kernel_rfl
abbrev acq:Ty:=afn
noncomputable def eM(x:(Ty.T aef)):Option ((Ty.T aef) ⊕ ((Ty.T acq) ⊕ (Ty.T ae))):=
aa (aq x.1.2.2.1 x.2.2.1) fun v2=>
match(decide (x.2.2.2.2.1<v2.2.1))with
|true=>
 match rD (x.1.2.2.2.1,x.2.2.1,x.2.2.2.1,x.2.2.2.2.1,())with
 |none=>none
 |some v3=>
 match(decide (v3.1<(0:Int)))with
 |true=>
  some (.inr (.inr (false,())))
 |false=>
  some (.inl ((x.1.1,x.1.2.1,x.1.2.2.1,x.1.2.2.2.1,()),(IntKind.i64.wrap (x.2.1+(1:Int))),x.2.2.1,x.2.2.2.1,(IntKind.i64.wrap (x.2.2.2.2.1+(1:Int))),()))
|false=>
 some (.inr (.inl ((x.1.1,x.1.2.1,x.1.2.2.1,x.1.2.2.2.1,()),x.2.1,x.2.2.1,x.2.2.2.1,())))
abbrev aa7:Ty:=afn
noncomputable def eN(x:(Ty.T aa7)):Option ((Ty.T aa7) ⊕ ((Ty.T y_8) ⊕ (Ty.T ae))):=
aa (aq x.1.2.2.1 x.2.2.1) fun v1=>
match(decide (x.2.2.2.1<v1.1))with
|true=>
 match ag eM ((x.1.1,x.1.2.1,x.1.2.2.1,x.1.2.2.2.1,()),x.2.1,x.2.2.1,x.2.2.2.1,(0:Int),())with
 |none=>none
 |some (.inl v2)=>
  some (.inl ((v2.1.1,v2.1.2.1,v2.1.2.2.1,v2.1.2.2.2.1,()),v2.2.1,v2.2.2.1,(IntKind.i64.wrap (v2.2.2.2.1+(1:Int))),()))
 |some (.inr v3)=>
  some (.inr (.inr (v3.1,())))
|false=>
 some (.inr (.inl ((x.1.1,x.1.2.1,x.1.2.2.1,x.1.2.2.2.1,()),x.2.1,x.2.2.1,())))
abbrev acr:Ty:=aeR
noncomputable def c7(x:(Ty.T y_8)):Option ((Ty.T y_8) ⊕ ((Ty.T acr) ⊕ (Ty.T ae))):=
match(decide (x.2.2.1<(x.1.2.2.1.length:Int)))with
|true=>
 match ag eN ((x.1.1,x.1.2.1,x.1.2.2.1,x.1.2.2.2.1,()),x.2.1,x.2.2.1,(0:Int),())with
 |none=>none
 |some (.inl v1)=>
  some (.inl ((v1.1.1,v1.1.2.1,v1.1.2.2.1,v1.1.2.2.2.1,()),v1.2.1,(IntKind.i64.wrap (v1.2.2.1+(1:Int))),()))
 |some (.inr v2)=>
  some (.inr (.inr (v2.1,())))
|false=>
 some (.inr (.inl ((x.1.1,x.1.2.1,x.1.2.2.1,x.1.2.2.2.1,()),x.2.1,())))
noncomputable def kZ(x:Ty.T abA):Option (Ty.T ae):=
match ag c7 ((x.1.1,x.1.2.1,x.1.2.2.1,x.1.2.2.2.1,()),(0:Int),(0:Int),())with
|none=>none
|some (.inl v3)=>
 some ((v3.2.1==(v3.1.2.2.2.1.length:Int)),())
|some (.inr v4)=>
 some (v4.1,())
noncomputable def wD:Spec:=⟨_,ae,.unit,rfl,kZ⟩
noncomputable def kL:FuncId→Option Spec:=bh [(146,Gp)]
theorem Ds:∀f s,kL f=some s→FnOK G0 Tryz.prog f s:=aF ⟨Dr,trivial⟩
def s7:aO:=⟨[1,3,4],y_8,0,[1,3],acr,[2],ae⟩
def s8:aO:=⟨[1,3,4,5],aa7,2,[1,3,4],y_8,[2],ae⟩
def s9:aO:=⟨[1,3,4,5,6],aef,4,[1,3,4,5],acq,[2],ae⟩
noncomputable def kM:List ay:=[s7.spec c7,s8.spec eN,s9.spec eM]
theorem Co:bc bd E0 kL (ba Tryz.f244 kM) Tryz.f244 0 s7 c7:=fun x=>by kernel_rfl
theorem Cp:bc bd E0 kL (ba Tryz.f244 kM) Tryz.f244 1 s8 eN:=fun x=>by kernel_rfl
theorem Cq:bc bd E0 kL (ba Tryz.f244 kM) Tryz.f244 2 s9 eM:=fun x=>by kernel_rfl
theorem HL:FnOK G0 Tryz.prog 244 wD:=aH ao Ds Tryz.func244 kM (by kernel_rfl) (by exact⟨(Co).lok,(Cp).lok,(Cq).lok,trivial⟩) fun x=>by kernel_rfl
noncomputable def fu(x:(Ty.T y_8)):Option ((Ty.T y_8) ⊕ ((Ty.T .unit) ⊕ (Ty.T ae))):=
match(decide (x.2.2.1<(x.1.2.2.2.1.length:Int)))with
|true=>
 aa (aq x.1.2.2.2.1 x.2.2.1) fun v2=>
 match lU (x.2.1,v2.2.2.2.1.1,())with
 |none=>none
 |some v3=>
 match(!v3.1)with
 |true=>
  some (.inr (.inr (false,())))
 |false=>
  some (.inl ((x.1.1,x.1.2.1,x.1.2.2.1,x.1.2.2.2.1,()),x.2.1,(IntKind.i64.wrap (x.2.2.1+(1:Int))),()))
|false=>
 some (.inr (.inl (())))
noncomputable def lZ(x:Ty.T abA):Option (Ty.T ae):=
match cM (x.1.2.1,())with
|none=>none
|some v1=>
match ag fu ((x.1.1,x.1.2.1,x.1.2.2.1,x.1.2.2.2.1,()),v1.1,(0:Int),())with
|none=>none
|some (.inl v4)=>
 some (true,())
|some (.inr v5)=>
 some (v5.1,())
noncomputable def yw:Spec:=⟨_,ae,.unit,rfl,lZ⟩
noncomputable def wE:FuncId→Option Spec:=bh [(126,nV),(195,z8)]
theorem Fz:∀f s,wE f=some s→FnOK G0 Tryz.prog f s:=aF ⟨kg,xE,trivial⟩
def uL:aO:=⟨[1,3,4],y_8,0,[],.unit,[2],ae⟩
noncomputable def wF:List ay:=[uL.spec fu]
theorem Dt:bc bd E0 wE (ba Tryz.f245 wF) Tryz.f245 0 uL fu:=fun x=>by kernel_rfl
theorem JC:FnOK G0 Tryz.prog 245 yw:=aH ao Fz Tryz.func245 wF (by kernel_rfl) (by exact⟨(Dt).lok,trivial⟩) fun x=>by kernel_rfl
abbrev abZ:Ty:=agl
noncomputable def dW(x:(Ty.T aff)):Option ((Ty.T aff) ⊕ ((Ty.T abZ) ⊕ (Ty.T ae))):=
match(decide (x.2.2.1<x.2.1))with
|true=>
 aa (aq x.1.2.2.2.1 x.2.1) fun v1=>
 aa (aq x.1.2.2.2.1 x.2.2.1) fun v2=>
 aI (
  match(v1.1==v2.1)with
  |true=>
   match(v1.2.2.1==v2.2.2.1)with
   |true=>
    match(v1.2.2.2.1.2.2.2.1 != v2.2.2.2.1.2.2.2.1)with
    |true=>
     some (.inr (.inr (false,())))
    |false=>
     some (.inl (x.1,x.2.1,(IntKind.i64.wrap (x.2.2.1+(1:Int))),()))
   |false=>
    some (.inl (x.1,x.2.1,(IntKind.i64.wrap (x.2.2.1+(1:Int))),()))
  |false=>
   some (.inl (x.1,x.2.1,(IntKind.i64.wrap (x.2.2.1+(1:Int))),())))
|false=>
 some (.inr (.inl (x.1,x.2.1,())))
abbrev aaU:Ty:=agl
noncomputable def dX(x:(Ty.T aaU)):Option ((Ty.T aaU) ⊕ ((Ty.T .unit) ⊕ (Ty.T ae))):=
match(decide (x.2.1<(x.1.2.2.2.1.length:Int)))with
|true=>
 match ag dW (x.1,x.2.1,(0:Int),())with
 |none=>none
 |some (.inl v1)=>
  some (.inl (v1.1,(IntKind.i64.wrap (v1.2.1+(1:Int))),()))
 |some (.inr v2)=>
  some (.inr (.inr (v2.1,())))
|false=>
 some (.inr (.inl (())))
noncomputable def kh(x:Ty.T abA):Option (Ty.T ae):=
match ag dX ((x.1.1,x.1.2.1,x.1.2.2.1,x.1.2.2.2.1,()),(0:Int),())with
|none=>none
|some (.inl v3)=>
 some (true,())
|some (.inr v4)=>
 some (v4.1,())
noncomputable def uM:Spec:=⟨_,ae,.unit,rfl,kh⟩
noncomputable def nm:FuncId→Option Spec:=bh []
theorem Cr:∀f s,nm f=some s→FnOK G0 Tryz.prog f s:=aF trivial
def rE:aO:=⟨[1,3],aaU,0,[],.unit,[2],ae⟩
def rF:aO:=⟨[1,3,4],aff,2,[1,3],abZ,[2],ae⟩
noncomputable def nn:List ay:=[rE.spec dX,rF.spec dW]
theorem Ad:bc bd E0 nm (ba Tryz.f246 nn) Tryz.f246 0 rE dX:=fun x=>by kernel_rfl
theorem Ae:bc bd E0 nm (ba Tryz.f246 nn) Tryz.f246 1 rF dW:=fun x=>by kernel_rfl
theorem FA:FnOK G0 Tryz.prog 246 uM:=aH ao Cr Tryz.func246 nn (by kernel_rfl) (by exact⟨(Ad).lok,(Ae).lok,trivial⟩) fun x=>by kernel_rfl
abbrev abG:Ty:=(.pair (.int .i64) (.pair (.box ac) an))
noncomputable def gr(x:(Ty.T abG)):Option ((Ty.T abG) ⊕ ((Ty.T et) ⊕ (Ty.T .unit))):=
match(decide (x.2.2.2.1<(x.2.1.2.2.2.1.length:Int)))with
|true=>
 aa (aq x.2.1.2.2.2.1 x.2.2.2.1) fun v1=>
 match(v1.1==x.1)with
 |true=>
  aa (aq x.2.1.2.2.2.1 x.2.2.2.1) fun v2=>
  some (.inl (x.1,(x.2.1.1,x.2.1.2.1,x.2.1.2.2.1,x.2.1.2.2.2.1,()),(IntKind.i64.wrap (x.2.2.1+v2.2.2.2.1.2.2.2.1)),(IntKind.i64.wrap (x.2.2.2.1+(1:Int))),()))
 |false=>
  some (.inl (x.1,(x.2.1.1,x.2.1.2.1,x.2.1.2.2.1,x.2.1.2.2.2.1,()),x.2.2.1,(IntKind.i64.wrap (x.2.2.2.1+(1:Int))),()))
|false=>
 some (.inr (.inl (x.2.2.1,())))
noncomputable def pG(x:Ty.T agi):Option (Ty.T et):=
match ag gr (x.2.1,(x.1.1,x.1.2.1,x.1.2.2.1,x.1.2.2.2.1,()),(0:Int),(0:Int),())with
|none=>none
|some (.inl v3)=>
 some (v3.1,())
|some (.inr v5)=>
 none
noncomputable def Du:Spec:=⟨_,et,.unit,rfl,pG⟩
noncomputable def Be:FuncId→Option Spec:=bh []
theorem JD:∀f s,Be f=some s→FnOK G0 Tryz.prog f s:=aF trivial
def yx:aO:=⟨[1,2,5,6],abG,0,[5],et,[],.unit⟩
noncomputable def Bf:List ay:=[yx.spec gr]
theorem HM:bc bd E0 Be (ba Tryz.f247 Bf) Tryz.f247 0 yx gr:=fun x=>by kernel_rfl
theorem N8:FnOK G0 Tryz.prog 247 Du:=aH ao JD Tryz.func247 Bf (by kernel_rfl) (by exact⟨(HM).lok,trivial⟩) fun x=>by kernel_rfl
noncomputable def dp(x:(Ty.T afh)):Option ((Ty.T afh) ⊕ ((Ty.T aef) ⊕ (Ty.T .unit))):=
match(decide (x.2.2.2.2.2.1<(x.1.2.2.2.1.length:Int)))with
|true=>
 aa (aq x.1.2.2.2.1 x.2.2.2.2.2.1) fun v3=>
 match(v3.1==x.2.2.1)with
 |true=>
  aa (aq x.1.2.2.2.1 x.2.2.2.2.2.1) fun v4=>
  match(v4.2.1==x.2.2.2.1)with
  |true=>
   aa (aq x.1.2.2.2.1 x.2.2.2.2.2.1) fun v5=>
   match iV (x.2.2.2.2.1,v5.2.2.2.1.1,true,())with
   |none=>none
   |some v6=>
   some (.inl ((x.1.1,x.1.2.1,x.1.2.2.1,x.1.2.2.2.1,()),x.2.1,x.2.2.1,x.2.2.2.1,v6.1,(IntKind.i64.wrap (x.2.2.2.2.2.1+(1:Int))),()))
  |false=>
   some (.inl ((x.1.1,x.1.2.1,x.1.2.2.1,x.1.2.2.2.1,()),x.2.1,x.2.2.1,x.2.2.2.1,x.2.2.2.2.1,(IntKind.i64.wrap (x.2.2.2.2.2.1+(1:Int))),()))
 |false=>
  some (.inl ((x.1.1,x.1.2.1,x.1.2.2.1,x.1.2.2.2.1,()),x.2.1,x.2.2.1,x.2.2.2.1,x.2.2.2.2.1,(IntKind.i64.wrap (x.2.2.2.2.2.1+(1:Int))),()))
|false=>
 some (.inr (.inl ((x.1.1,x.1.2.1,x.1.2.2.1,x.1.2.2.2.1,()),x.2.1,x.2.2.1,x.2.2.2.1,x.2.2.2.2.1,())))
abbrev abq:Ty:=afn
noncomputable def eZ(x:(Ty.T abq)):Option ((Ty.T abq) ⊕ ((Ty.T y_8) ⊕ (Ty.T ae))):=
aa (aq x.1.2.2.1 x.2.2.1) fun v2=>
match(decide (x.2.2.2.1<v2.1))with
|true=>
 match ag dp ((x.1.1,x.1.2.1,x.1.2.2.1,x.1.2.2.2.1,()),x.2.1,x.2.2.1,x.2.2.2.1,(0:Int),(0:Int),())with
 |none=>none
 |some (.inl v3)=>
  match(v3.2.2.2.2.1 != v3.2.1)with
  |true=>
   some (.inr (.inr (false,())))
  |false=>
   some (.inl ((v3.1.1,v3.1.2.1,v3.1.2.2.1,v3.1.2.2.2.1,()),v3.2.1,v3.2.2.1,(IntKind.i64.wrap (v3.2.2.2.1+(1:Int))),()))
 |some (.inr v5)=>
  none
|false=>
 some (.inr (.inl ((x.1.1,x.1.2.1,x.1.2.2.1,x.1.2.2.2.1,()),x.2.1,x.2.2.1,())))
noncomputable def fT(x:(Ty.T y_8)):Option ((Ty.T y_8) ⊕ ((Ty.T .unit) ⊕ (Ty.T ae))):=
match(decide (x.2.2.1<(x.1.2.2.1.length:Int)))with
|true=>
 match ag eZ ((x.1.1,x.1.2.1,x.1.2.2.1,x.1.2.2.2.1,()),x.2.1,x.2.2.1,(0:Int),())with
 |none=>none
 |some (.inl v2)=>
  some (.inl ((v2.1.1,v2.1.2.1,v2.1.2.2.1,v2.1.2.2.2.1,()),v2.2.1,(IntKind.i64.wrap (v2.2.2.1+(1:Int))),()))
 |some (.inr v3)=>
  some (.inr (.inr (v3.1,())))
|false=>
 some (.inr (.inl (())))
noncomputable def nC(x:Ty.T abA):Option (Ty.T ae):=
match cM (x.1.2.1,())with
|none=>none
|some v1=>
match ag fT ((x.1.1,x.1.2.1,x.1.2.2.1,x.1.2.2.2.1,()),v1.1,(0:Int),())with
|none=>none
|some (.inl v4)=>
 some (true,())
|some (.inr v5)=>
 some (v5.1,())
noncomputable def Bg:Spec:=⟨_,ae,.unit,rfl,nC⟩
noncomputable def mM:FuncId→Option Spec:=bh [(126,nV),(135,Aa)]
theorem HN:∀f s,mM f=some s→FnOK G0 Tryz.prog f s:=aF ⟨kg,xF,trivial⟩
def wG:aO:=⟨[1,3,4],y_8,0,[],.unit,[2],ae⟩
def wH:aO:=⟨[1,3,4,5],abq,2,[1,3,4],y_8,[2],ae⟩
def uN:aO:=⟨[1,3,4,5,6,7],afh,4,[1,3,4,5,6],aef,[],.unit⟩
noncomputable def mN:List ay:=[wG.spec fT,wH.spec eZ,uN.spec dp]
theorem FB:bc bd E0 mM (ba Tryz.f248 mN) Tryz.f248 0 wG fT:=fun x=>by kernel_rfl
theorem FC:bc bd E0 mM (ba Tryz.f248 mN) Tryz.f248 1 wH eZ:=fun x=>by kernel_rfl
theorem Dv:bc bd E0 mM (ba Tryz.f248 mN) Tryz.f248 2 uN dp:=fun x=>by kernel_rfl
theorem LV:FnOK G0 Tryz.prog 248 Bg:=aH ao HN Tryz.func248 mN (by kernel_rfl) (by exact⟨(FB).lok,(FC).lok,(Dv).lok,trivial⟩) fun x=>by kernel_rfl
abbrev aa8:Ty:=aeR
noncomputable def dI(x:(Ty.T aa8)):Option ((Ty.T aa8) ⊕ ((Ty.T (.pair (.box ac) .unit)) ⊕ (Ty.T et))):=
match(decide (x.2.1<(x.1.2.2.1.length:Int)))with
|true=>
 match pG ((x.1.1,x.1.2.1,x.1.2.2.1,x.1.2.2.2.1,()),x.2.1,())with
 |none=>none
 |some v8=>
 match(decide (v8.1>(32000:Int)))with
 |true=>
  some (.inr (.inr ((8:Int),())))
 |false=>
  some (.inl ((x.1.1,x.1.2.1,x.1.2.2.1,x.1.2.2.2.1,()),(IntKind.i64.wrap (x.2.1+(1:Int))),()))
|false=>
 some (.inr (.inl ((x.1.1,x.1.2.1,x.1.2.2.1,x.1.2.2.2.1,()),())))
abbrev aa9:Ty:=aeR
noncomputable def c8(x:(Ty.T aa9)):Option ((Ty.T aa9) ⊕ ((Ty.T .unit) ⊕ (Ty.T et))):=
match(decide (x.2.1<(x.1.2.2.2.1.length:Int)))with
|true=>
 aa (aq x.1.2.2.2.1 x.2.1) fun v12=>
 match(v12.2.2.2.1.2.1==(3:Int))with
 |true=>
  aa (aq x.1.2.2.2.1 x.2.1) fun v13=>
  match(v13.1 != (0:Int))with
  |true=>
   some (.inr (.inr ((10:Int),())))
  |false=>
   some (.inl ((x.1.1,x.1.2.1,x.1.2.2.1,x.1.2.2.2.1,()),(IntKind.i64.wrap (x.2.1+(1:Int))),()))
 |false=>
  some (.inl ((x.1.1,x.1.2.1,x.1.2.2.1,x.1.2.2.2.1,()),(IntKind.i64.wrap (x.2.1+(1:Int))),()))
|false=>
 some (.inr (.inl (())))
noncomputable def l0(x:Ty.T abA):Option (Ty.T et):=
match bp (x.1.1,(1:Int),(16777215:Int),())with
|none=>none
|some v1=>
match(!v1.1)with
|true=>
 some ((1:Int),())
|false=>
 match nW (x.1.2.1,())with
 |none=>none
 |some v2=>
 match(!v2.1)with
 |true=>
  some ((2:Int),())
 |false=>
  match nX (x.1.2.2.1,())with
  |none=>none
  |some v3=>
  match(!v3.1)with
  |true=>
   some ((3:Int),())
  |false=>
   match nY (x.1.2.2.2.1,())with
   |none=>none
   |some v4=>
   match(!v4.1)with
   |true=>
    some ((4:Int),())
   |false=>
    match kZ ((x.1.1,x.1.2.1,x.1.2.2.1,x.1.2.2.2.1,()),())with
    |none=>none
    |some v5=>
    match(!v5.1)with
    |true=>
     some ((5:Int),())
    |false=>
     match lZ ((x.1.1,x.1.2.1,x.1.2.2.1,x.1.2.2.2.1,()),())with
     |none=>none
     |some v6=>
     match(!v6.1)with
     |true=>
      some ((6:Int),())
     |false=>
      match kh ((x.1.1,x.1.2.1,x.1.2.2.1,x.1.2.2.2.1,()),())with
      |none=>none
      |some v7=>
      match(!v7.1)with
      |true=>
       some ((7:Int),())
      |false=>
       match ag dI ((x.1.1,x.1.2.1,x.1.2.2.1,x.1.2.2.2.1,()),(0:Int),())with
       |none=>none
       |some (.inl v9)=>
        match nC ((v9.1.1,v9.1.2.1,v9.1.2.2.1,v9.1.2.2.2.1,()),())with
        |none=>none
        |some v11=>
        match(!v11.1)with
        |true=>
         some ((9:Int),())
        |false=>
         match ag c8 ((v9.1.1,v9.1.2.1,v9.1.2.2.1,v9.1.2.2.2.1,()),(0:Int),())with
         |none=>none
         |some (.inl v14)=>
          some ((0:Int),())
         |some (.inr v15)=>
          some (v15.1,())
       |some (.inr v10)=>
        some (v10.1,())
noncomputable def LW:Spec:=⟨_,et,.unit,rfl,l0⟩
noncomputable def pH:FuncId→Option Spec:=bh [(70,lV),(241,wA),(242,wB),(243,wC),(244,wD),(245,yw),(246,uM),(247,Du),(248,Bg)]
theorem FD:∀f s,pH f=some s→FnOK G0 Tryz.prog f s:=aF ⟨cD,HG,HI,HK,HL,JC,FA,N8,LV,trivial⟩
def tc:aO:=⟨[1,3],aa8,1,[1],(.pair (.box ac) .unit),[2],et⟩
def td:aO:=⟨[1,4],aa9,3,[],.unit,[2],et⟩
noncomputable def pI:List ay:=[tc.spec dI,td.spec c8]
theorem Cs:bc bd E0 pH (ba Tryz.f188 pI) Tryz.f188 0 tc dI:=fun x=>by kernel_rfl
theorem Ct:bc bd E0 pH (ba Tryz.f188 pI) Tryz.f188 1 td c8:=fun x=>by kernel_rfl
theorem JE:FnOK G0 Tryz.prog 188 LW:=aH ao FD Tryz.func188 pI (by kernel_rfl) (by exact⟨(Cs).lok,(Ct).lok,trivial⟩) fun x=>by kernel_rfl
noncomputable def l5(x:Ty.T abA):Option (Ty.T ae):=
match l0 ((x.1.1,x.1.2.1,x.1.2.2.1,x.1.2.2.2.1,()),())with
|none=>none
|some v1=>
some ((v1.1==(0:Int)),())
noncomputable def UA:Spec:=⟨_,ae,.unit,rfl,l5⟩
theorem Gq:FnOK G0 Tryz.prog 125 UA:=ap ao (sg JE (aJ)) Tryz.func125
noncomputable def rG(x:Ty.T QV):Option (Ty.T (.pair ac (.pair ab (.pair (.box ah) .unit)))):=
match lY ((x.1.1,x.1.2.1,x.1.2.2.1,()),())with
|none=>none
|some v1=>
match iW ((v1.2.1.1,v1.2.1.2.1,v1.2.1.2.2.1,()),())with
|none=>none
|some v2=>
match l5 ((v1.1.1,v1.1.2.1,v1.1.2.2.1,v1.1.2.2.2.1,()),())with
|none=>none
|some v3=>
match(!v3.1)with
|true=>
 aI (
  some ((v1.1.1,v1.1.2.1,v1.1.2.2.1,v1.1.2.2.2.1,()),(v2.1.1,v2.1.2.1,v2.1.2.2.1,v2.1.2.2.2.1,v2.1.2.2.2.2.1,()),(v2.2.1.1,v2.2.1.2.1,v2.2.1.2.2.1,()),()))
|false=>
 match ai ((v2.2.1.1,v2.2.1.2.1,v2.2.1.2.2.1,()),(16:Int),())with
 |none=>none
 |some v4=>
 match(v4.1==(0:Int))with
 |true=>
  aI (
   some ((v1.1.1,v1.1.2.1,v1.1.2.2.1,v1.1.2.2.2.1,()),(v2.1.1,v2.1.2.1,v2.1.2.2.1,v2.1.2.2.2.1,v2.1.2.2.2.2.1,()),(v4.2.1.1,v4.2.1.2.1,v4.2.1.2.2.1,()),()))
 |false=>
  match ai ((v4.2.1.1,v4.2.1.2.1,v4.2.1.2.2.1,()),(65536:Int),())with
  |none=>none
  |some v5=>
  match ai ((v5.2.1.1,v5.2.1.2.1,v5.2.1.2.2.1,()),(v1.1.2.2.1.length:Int),())with
  |none=>none
  |some v6=>
  aQ (
   aa (aq v1.1.2.2.1 v6.1) fun v7=>
   aI (
    match ai ((v6.2.1.1,v6.2.1.2.1,v6.2.1.2.2.1,()),(30:Int),())with
    |none=>none
    |some v8=>
    match ai ((v8.2.1.1,v8.2.1.2.1,v8.2.1.2.2.1,()),(IntKind.i64.wrap (v7.1+(IntKind.i64.wrap (Int.tdiv v8.1 (29:Int))))),())with
    |none=>none
    |some v9=>
    aQ (
     aa (aq v1.1.2.2.1 v6.1) fun v10=>
     aI (
      match ai ((v9.2.1.1,v9.2.1.2.1,v9.2.1.2.2.1,()),(30:Int),())with
      |none=>none
      |some v11=>
      match ai ((v11.2.1.1,v11.2.1.2.1,v11.2.1.2.2.1,()),(IntKind.i64.wrap (v10.2.1+(IntKind.i64.wrap (Int.tdiv v11.1 (29:Int))))),())with
      |none=>none
      |some v12=>
      match cM (v1.1.2.1,())with
      |none=>none
      |some v13=>
      match ai ((v12.2.1.1,v12.2.1.2.1,v12.2.1.2.2.1,()),(3:Int),())with
      |none=>none
      |some v14=>
      match(v14.1==(0:Int))with
      |true=>
       aI (
        match ai ((v14.2.1.1,v14.2.1.2.1,v14.2.1.2.2.1,()),(256:Int),())with
        |none=>none
        |some v15=>
        match ai ((v15.2.1.1,v15.2.1.2.1,v15.2.1.2.2.1,()),(30:Int),())with
        |none=>none
        |some v16=>
        match(v16.1==(0:Int))with
        |true=>
         aI (
          match ai ((v16.2.1.1,v16.2.1.2.1,v16.2.1.2.2.1,()),(10:Int),())with
          |none=>none
          |some v17=>
          if(IntKind.u64.wrap v17.1)<0 then none else
          aI (
           some ((v1.1.1,v1.1.2.1,v1.1.2.2.1,v1.1.2.2.2.1,()),(v5.1,v6.1,v9.1,v12.1,(bits BinOp.xor .i64 (bits BinOp.and .i64 v13.1 v15.1) (IntKind.i64.wrap ((1:Int)*2^min (IntKind.u64.wrap v17.1).toNat IntKind.i64.bits))),()),(v17.2.1.1,v17.2.1.2.1,v17.2.1.2.2.1,()),())))
        |false=>
         aI (
          some ((v1.1.1,v1.1.2.1,v1.1.2.2.1,v1.1.2.2.2.1,()),(v5.1,v6.1,v9.1,v12.1,(bits BinOp.and .i64 v13.1 v15.1),()),(v16.2.1.1,v16.2.1.2.1,v16.2.1.2.2.1,()),())))
      |false=>
       match ai ((v14.2.1.1,v14.2.1.2.1,v14.2.1.2.2.1,()),(30:Int),())with
       |none=>none
       |some v18=>
       match(v18.1==(0:Int))with
       |true=>
        aI (
         match ai ((v18.2.1.1,v18.2.1.2.1,v18.2.1.2.2.1,()),(10:Int),())with
         |none=>none
         |some v19=>
         if(IntKind.u64.wrap v19.1)<0 then none else
         aI (
          some ((v1.1.1,v1.1.2.1,v1.1.2.2.1,v1.1.2.2.2.1,()),(v5.1,v6.1,v9.1,v12.1,(bits BinOp.xor .i64 v13.1 (IntKind.i64.wrap ((1:Int)*2^min (IntKind.u64.wrap v19.1).toNat IntKind.i64.bits))),()),(v19.2.1.1,v19.2.1.2.1,v19.2.1.2.2.1,()),())))
       |false=>
        aI (
         some ((v1.1.1,v1.1.2.1,v1.1.2.2.1,v1.1.2.2.2.1,()),(v5.1,v6.1,v9.1,v12.1,v13.1,()),(v18.2.1.1,v18.2.1.2.1,v18.2.1.2.2.1,()),())))) (
     match ai ((v9.2.1.1,v9.2.1.2.1,v9.2.1.2.2.1,()),(30:Int),())with
     |none=>none
     |some v10=>
     aa (aq v1.1.2.2.1 v6.1) fun v11=>
     match ai ((v10.2.1.1,v10.2.1.2.1,v10.2.1.2.2.1,()),(IntKind.i64.wrap (v11.2.1+(IntKind.i64.wrap (Int.tdiv v10.1 (29:Int))))),())with
     |none=>none
     |some v12=>
     match cM (v1.1.2.1,())with
     |none=>none
     |some v13=>
     match ai ((v12.2.1.1,v12.2.1.2.1,v12.2.1.2.2.1,()),(3:Int),())with
     |none=>none
     |some v14=>
     match(v14.1==(0:Int))with
     |true=>
      aI (
       match ai ((v14.2.1.1,v14.2.1.2.1,v14.2.1.2.2.1,()),(256:Int),())with
       |none=>none
       |some v15=>
       match ai ((v15.2.1.1,v15.2.1.2.1,v15.2.1.2.2.1,()),(30:Int),())with
       |none=>none
       |some v16=>
       match(v16.1==(0:Int))with
       |true=>
        aI (
         match ai ((v16.2.1.1,v16.2.1.2.1,v16.2.1.2.2.1,()),(10:Int),())with
         |none=>none
         |some v17=>
         if(IntKind.u64.wrap v17.1)<0 then none else
         aI (
          some ((v1.1.1,v1.1.2.1,v1.1.2.2.1,v1.1.2.2.2.1,()),(v5.1,v6.1,v9.1,v12.1,(bits BinOp.xor .i64 (bits BinOp.and .i64 v13.1 v15.1) (IntKind.i64.wrap ((1:Int)*2^min (IntKind.u64.wrap v17.1).toNat IntKind.i64.bits))),()),(v17.2.1.1,v17.2.1.2.1,v17.2.1.2.2.1,()),())))
       |false=>
        aI (
         some ((v1.1.1,v1.1.2.1,v1.1.2.2.1,v1.1.2.2.2.1,()),(v5.1,v6.1,v9.1,v12.1,(bits BinOp.and .i64 v13.1 v15.1),()),(v16.2.1.1,v16.2.1.2.1,v16.2.1.2.2.1,()),())))
     |false=>
      match ai ((v14.2.1.1,v14.2.1.2.1,v14.2.1.2.2.1,()),(30:Int),())with
      |none=>none
      |some v18=>
      match(v18.1==(0:Int))with
      |true=>
       aI (
        match ai ((v18.2.1.1,v18.2.1.2.1,v18.2.1.2.2.1,()),(10:Int),())with
        |none=>none
        |some v19=>
        if(IntKind.u64.wrap v19.1)<0 then none else
        aI (
         some ((v1.1.1,v1.1.2.1,v1.1.2.2.1,v1.1.2.2.2.1,()),(v5.1,v6.1,v9.1,v12.1,(bits BinOp.xor .i64 v13.1 (IntKind.i64.wrap ((1:Int)*2^min (IntKind.u64.wrap v19.1).toNat IntKind.i64.bits))),()),(v19.2.1.1,v19.2.1.2.1,v19.2.1.2.2.1,()),())))
      |false=>
       aI (
        some ((v1.1.1,v1.1.2.1,v1.1.2.2.1,v1.1.2.2.2.1,()),(v5.1,v6.1,v9.1,v12.1,v13.1,()),(v18.2.1.1,v18.2.1.2.1,v18.2.1.2.2.1,()),()))))) (
   match ai ((v6.2.1.1,v6.2.1.2.1,v6.2.1.2.2.1,()),(30:Int),())with
   |none=>none
   |some v7=>
   aa (aq v1.1.2.2.1 v6.1) fun v8=>
   match ai ((v7.2.1.1,v7.2.1.2.1,v7.2.1.2.2.1,()),(IntKind.i64.wrap (v8.1+(IntKind.i64.wrap (Int.tdiv v7.1 (29:Int))))),())with
   |none=>none
   |some v9=>
   aQ (
    aa (aq v1.1.2.2.1 v6.1) fun v10=>
    aI (
     match ai ((v9.2.1.1,v9.2.1.2.1,v9.2.1.2.2.1,()),(30:Int),())with
     |none=>none
     |some v11=>
     match ai ((v11.2.1.1,v11.2.1.2.1,v11.2.1.2.2.1,()),(IntKind.i64.wrap (v10.2.1+(IntKind.i64.wrap (Int.tdiv v11.1 (29:Int))))),())with
     |none=>none
     |some v12=>
     match cM (v1.1.2.1,())with
     |none=>none
     |some v13=>
     match ai ((v12.2.1.1,v12.2.1.2.1,v12.2.1.2.2.1,()),(3:Int),())with
     |none=>none
     |some v14=>
     match(v14.1==(0:Int))with
     |true=>
      aI (
       match ai ((v14.2.1.1,v14.2.1.2.1,v14.2.1.2.2.1,()),(256:Int),())with
       |none=>none
       |some v15=>
       match ai ((v15.2.1.1,v15.2.1.2.1,v15.2.1.2.2.1,()),(30:Int),())with
       |none=>none
       |some v16=>
       match(v16.1==(0:Int))with
       |true=>
        aI (
         match ai ((v16.2.1.1,v16.2.1.2.1,v16.2.1.2.2.1,()),(10:Int),())with
         |none=>none
         |some v17=>
         if(IntKind.u64.wrap v17.1)<0 then none else
         aI (
          some ((v1.1.1,v1.1.2.1,v1.1.2.2.1,v1.1.2.2.2.1,()),(v5.1,v6.1,v9.1,v12.1,(bits BinOp.xor .i64 (bits BinOp.and .i64 v13.1 v15.1) (IntKind.i64.wrap ((1:Int)*2^min (IntKind.u64.wrap v17.1).toNat IntKind.i64.bits))),()),(v17.2.1.1,v17.2.1.2.1,v17.2.1.2.2.1,()),())))
       |false=>
        aI (
         some ((v1.1.1,v1.1.2.1,v1.1.2.2.1,v1.1.2.2.2.1,()),(v5.1,v6.1,v9.1,v12.1,(bits BinOp.and .i64 v13.1 v15.1),()),(v16.2.1.1,v16.2.1.2.1,v16.2.1.2.2.1,()),())))
     |false=>
      match ai ((v14.2.1.1,v14.2.1.2.1,v14.2.1.2.2.1,()),(30:Int),())with
      |none=>none
      |some v18=>
      match(v18.1==(0:Int))with
      |true=>
       aI (
        match ai ((v18.2.1.1,v18.2.1.2.1,v18.2.1.2.2.1,()),(10:Int),())with
        |none=>none
        |some v19=>
        if(IntKind.u64.wrap v19.1)<0 then none else
        aI (
         some ((v1.1.1,v1.1.2.1,v1.1.2.2.1,v1.1.2.2.2.1,()),(v5.1,v6.1,v9.1,v12.1,(bits BinOp.xor .i64 v13.1 (IntKind.i64.wrap ((1:Int)*2^min (IntKind.u64.wrap v19.1).toNat IntKind.i64.bits))),()),(v19.2.1.1,v19.2.1.2.1,v19.2.1.2.2.1,()),())))
      |false=>
       aI (
        some ((v1.1.1,v1.1.2.1,v1.1.2.2.1,v1.1.2.2.2.1,()),(v5.1,v6.1,v9.1,v12.1,v13.1,()),(v18.2.1.1,v18.2.1.2.1,v18.2.1.2.2.1,()),())))) (
    match ai ((v9.2.1.1,v9.2.1.2.1,v9.2.1.2.2.1,()),(30:Int),())with
    |none=>none
    |some v10=>
    aa (aq v1.1.2.2.1 v6.1) fun v11=>
    match ai ((v10.2.1.1,v10.2.1.2.1,v10.2.1.2.2.1,()),(IntKind.i64.wrap (v11.2.1+(IntKind.i64.wrap (Int.tdiv v10.1 (29:Int))))),())with
    |none=>none
    |some v12=>
    match cM (v1.1.2.1,())with
    |none=>none
    |some v13=>
    match ai ((v12.2.1.1,v12.2.1.2.1,v12.2.1.2.2.1,()),(3:Int),())with
    |none=>none
    |some v14=>
    match(v14.1==(0:Int))with
    |true=>
     aI (
      match ai ((v14.2.1.1,v14.2.1.2.1,v14.2.1.2.2.1,()),(256:Int),())with
      |none=>none
      |some v15=>
      match ai ((v15.2.1.1,v15.2.1.2.1,v15.2.1.2.2.1,()),(30:Int),())with
      |none=>none
      |some v16=>
      match(v16.1==(0:Int))with
      |true=>
       aI (
        match ai ((v16.2.1.1,v16.2.1.2.1,v16.2.1.2.2.1,()),(10:Int),())with
        |none=>none
        |some v17=>
        if(IntKind.u64.wrap v17.1)<0 then none else
        aI (
         some ((v1.1.1,v1.1.2.1,v1.1.2.2.1,v1.1.2.2.2.1,()),(v5.1,v6.1,v9.1,v12.1,(bits BinOp.xor .i64 (bits BinOp.and .i64 v13.1 v15.1) (IntKind.i64.wrap ((1:Int)*2^min (IntKind.u64.wrap v17.1).toNat IntKind.i64.bits))),()),(v17.2.1.1,v17.2.1.2.1,v17.2.1.2.2.1,()),())))
      |false=>
       aI (
        some ((v1.1.1,v1.1.2.1,v1.1.2.2.1,v1.1.2.2.2.1,()),(v5.1,v6.1,v9.1,v12.1,(bits BinOp.and .i64 v13.1 v15.1),()),(v16.2.1.1,v16.2.1.2.1,v16.2.1.2.2.1,()),())))
    |false=>
     match ai ((v14.2.1.1,v14.2.1.2.1,v14.2.1.2.2.1,()),(30:Int),())with
     |none=>none
     |some v18=>
     match(v18.1==(0:Int))with
     |true=>
      aI (
       match ai ((v18.2.1.1,v18.2.1.2.1,v18.2.1.2.2.1,()),(10:Int),())with
       |none=>none
       |some v19=>
       if(IntKind.u64.wrap v19.1)<0 then none else
       aI (
        some ((v1.1.1,v1.1.2.1,v1.1.2.2.1,v1.1.2.2.2.1,()),(v5.1,v6.1,v9.1,v12.1,(bits BinOp.xor .i64 v13.1 (IntKind.i64.wrap ((1:Int)*2^min (IntKind.u64.wrap v19.1).toNat IntKind.i64.bits))),()),(v19.2.1.1,v19.2.1.2.1,v19.2.1.2.2.1,()),())))
     |false=>
      aI (
       some ((v1.1.1,v1.1.2.1,v1.1.2.2.1,v1.1.2.2.2.1,()),(v5.1,v6.1,v9.1,v12.1,v13.1,()),(v18.2.1.1,v18.2.1.2.1,v18.2.1.2.2.1,()),()))))
noncomputable def Gr:Spec:=⟨_,acQ,QV,rfl,rG⟩
theorem P8:FnOK G0 Tryz.prog 62 Gr:=ap ao (sg bR (sg Jw (sg wv (sg Gq (sg kg (aJ)))))) Tryz.func62
noncomputable def lu(x:Ty.T et):Option (Ty.T age):=
match(x.1==(2:Int))with
|true=>
 some (true,false,())
|false=>
 match(x.1==(3:Int))with
 |true=>
  some (true,false,())
 |false=>
  match(x.1==(4:Int))with
  |true=>
   some (true,true,())
  |false=>
   match(x.1==(6:Int))with
   |true=>
    some (true,true,())
   |false=>
    some (false,false,())
noncomputable def N9:Spec:=⟨_,age,.unit,rfl,lu⟩
theorem yy:FnOK G0 Tryz.prog 160 N9:=ap ao aJ Tryz.func160
noncomputable def qZ(x:Ty.T aeT):Option (Ty.T agm):=
match ai ((x.1.1,x.1.2.1,x.1.2.2.1,()),(6:Int),())with
|none=>none
|some v1=>
match ai ((v1.2.1.1,v1.2.1.2.1,v1.2.1.2.2.1,()),(IntKind.i64.wrap (x.2.1+(4:Int))),())with
|none=>none
|some v2=>
match lu ((IntKind.i64.wrap ((1:Int)+v1.1)),())with
|none=>none
|some v3=>
match v3.1 with
|true=>
 match ai ((v2.2.1.1,v2.2.1.2.1,v2.2.1.2.2.1,()),(12:Int),())with
 |none=>none
 |some v4=>
 match v3.2.1 with
 |true=>
  match ai ((v4.2.1.1,v4.2.1.2.1,v4.2.1.2.2.1,()),(2:Int),())with
  |none=>none
  |some v5=>
  some (((IntKind.i64.wrap ((1:Int)+v1.1)),(if v2.1<(8192:Int)then v2.1 else(8192:Int)),(IntKind.i64.wrap ((1:Int)+v4.1)),v5.1,()),(v5.2.1.1,v5.2.1.2.1,v5.2.1.2.2.1,()),())
 |false=>
  some (((IntKind.i64.wrap ((1:Int)+v1.1)),(if v2.1<(8192:Int)then v2.1 else(8192:Int)),(IntKind.i64.wrap ((1:Int)+v4.1)),(0:Int),()),(v4.2.1.1,v4.2.1.2.1,v4.2.1.2.2.1,()),())
|false=>
 match v3.2.1 with
 |true=>
  match ai ((v2.2.1.1,v2.2.1.2.1,v2.2.1.2.2.1,()),(2:Int),())with
  |none=>none
  |some v6=>
  some (((IntKind.i64.wrap ((1:Int)+v1.1)),(if v2.1<(8192:Int)then v2.1 else(8192:Int)),(0:Int),v6.1,()),(v6.2.1.1,v6.2.1.2.1,v6.2.1.2.2.1,()),())
 |false=>
  some (((IntKind.i64.wrap ((1:Int)+v1.1)),(if v2.1<(8192:Int)then v2.1 else(8192:Int)),(0:Int),(0:Int),()),(v2.2.1.1,v2.2.1.2.1,v2.2.1.2.2.1,()),())
noncomputable def Oa:Spec:=⟨_,aed,QV,rfl,qZ⟩
theorem LX:FnOK G0 Tryz.prog 159 Oa:=ap ao (sg bR (sg yy (aJ))) Tryz.func159
noncomputable def rH(x:Ty.T aeT):Option (Ty.T agm):=
match qZ ((x.1.1,x.1.2.1,x.1.2.2.1,()),x.2.1,())with
|none=>none
|some v1=>
match ai ((v1.2.1.1,v1.2.1.2.1,v1.2.1.2.2.1,()),(30:Int),())with
|none=>none
|some v2=>
match(v2.1==(0:Int))with
|true=>
 match ai ((v2.2.1.1,v2.2.1.2.1,v2.2.1.2.2.1,()),(2:Int),())with
 |none=>none
 |some v3=>
 aa (aq [(0:Int),(7:Int)] v3.1) fun _=>
 match [(0:Int),(7:Int)][v3.1.toNat]? with
 |none=>none
 |some v5=>
 some ((v5,v1.1.2.1,v1.1.2.2.1,v1.1.2.2.2.1,()),(v3.2.1.1,v3.2.1.2.1,v3.2.1.2.2.1,()),())
|false=>
 match(v2.1==(1:Int))with
 |true=>
  match ai ((v2.2.1.1,v2.2.1.2.1,v2.2.1.2.2.1,()),(3:Int),())with
  |none=>none
  |some v6=>
  aa (aq [(-1:Int),(8192:Int),(8193:Int)] v6.1) fun _=>
  match [(-1:Int),(8192:Int),(8193:Int)][v6.1.toNat]? with
  |none=>none
  |some v8=>
  some ((v1.1.1,v8,v1.1.2.2.1,v1.1.2.2.2.1,()),(v6.2.1.1,v6.2.1.2.1,v6.2.1.2.2.1,()),())
 |false=>
  match(v2.1==(2:Int))with
  |true=>
   match ai ((v2.2.1.1,v2.2.1.2.1,v2.2.1.2.2.1,()),(4:Int),())with
   |none=>none
   |some v9=>
   aa (aq [(-1:Int),(0:Int),(8192:Int),(8193:Int)] v9.1) fun _=>
   match [(-1:Int),(0:Int),(8192:Int),(8193:Int)][v9.1.toNat]? with
   |none=>none
   |some v11=>
   some ((v1.1.1,v1.1.2.1,v11,v1.1.2.2.2.1,()),(v9.2.1.1,v9.2.1.2.1,v9.2.1.2.2.1,()),())
  |false=>
   match(v2.1==(3:Int))with
   |true=>
    match ai ((v2.2.1.1,v2.2.1.2.1,v2.2.1.2.2.1,()),(3:Int),())with
    |none=>none
    |some v12=>
    aa (aq [(-1:Int),(1:Int),(2:Int)] v12.1) fun _=>
    match [(-1:Int),(1:Int),(2:Int)][v12.1.toNat]? with
    |none=>none
    |some v14=>
    some ((v1.1.1,v1.1.2.1,v1.1.2.2.1,v14,()),(v12.2.1.1,v12.2.1.2.1,v12.2.1.2.2.1,()),())
   |false=>
    some ((v1.1.1,v1.1.2.1,v1.1.2.2.1,v1.1.2.2.2.1,()),(v2.2.1.1,v2.2.1.2.1,v2.2.1.2.2.1,()),())
noncomputable def Gs:Spec:=⟨_,aed,QV,rfl,rH⟩
theorem P9:FnOK G0 Tryz.prog 100 Gs:=ap ao (sg bR (sg LX (aJ))) Tryz.func100
noncomputable def l6(x:Ty.T aed):Option (Ty.T ae):=
match bp (x.1.1,(1:Int),(6:Int),())with
|none=>none
|some v1=>
match(!v1.1)with
|true=>
 some (false,())
|false=>
 match bp (x.1.2.1,(0:Int),(8192:Int),())with
 |none=>none
 |some v2=>
 match(!v2.1)with
 |true=>
  some (false,())
 |false=>
  match lu (x.1.1,())with
  |none=>none
  |some v3=>
  match v3.1 with
  |true=>
   match bp (x.1.2.2.1,(1:Int),(8192:Int),())with
   |none=>none
   |some v4=>
   match(!v4.1)with
   |true=>
    some (false,())
   |false=>
    match(!v3.1)with
    |true=>
     match(x.1.2.2.1 != (0:Int))with
     |true=>
      some (false,())
     |false=>
      match bp (x.1.2.2.2.1,(0:Int),(1:Int),())with
      |none=>none
      |some v5=>
      match v5.1 with
      |true=>
       match v3.2.1 with
       |true=>
        some (true,())
       |false=>
        some ((x.1.2.2.2.1==(0:Int)),())
      |false=>
       some (false,())
    |false=>
     match bp (x.1.2.2.2.1,(0:Int),(1:Int),())with
     |none=>none
     |some v6=>
     match v6.1 with
     |true=>
      match v3.2.1 with
      |true=>
       some (true,())
      |false=>
       some ((x.1.2.2.2.1==(0:Int)),())
     |false=>
      some (false,())
  |false=>
   match(!v3.1)with
   |true=>
    match(x.1.2.2.1 != (0:Int))with
    |true=>
     some (false,())
    |false=>
     match bp (x.1.2.2.2.1,(0:Int),(1:Int),())with
     |none=>none
     |some v7=>
     match v7.1 with
     |true=>
      match v3.2.1 with
      |true=>
       some (true,())
      |false=>
       some ((x.1.2.2.2.1==(0:Int)),())
     |false=>
      some (false,())
   |false=>
    match bp (x.1.2.2.2.1,(0:Int),(1:Int),())with
    |none=>none
    |some v8=>
    match v8.1 with
    |true=>
     match v3.2.1 with
     |true=>
      some (true,())
     |false=>
      some ((x.1.2.2.2.1==(0:Int)),())
    |false=>
     some (false,())
noncomputable def xH:Spec:=⟨_,ae,.unit,rfl,l6⟩
theorem Dw:FnOK G0 Tryz.prog 101 xH:=ap ao (sg cD (sg yy (aJ))) Tryz.func101
abbrev ab6:Ty:=(.pair (.box ah) (.pair (.int .i64) (.pair (.own 43 ax) (.pair (.int .i64) .unit))))
abbrev adi:Ty:=afr
noncomputable def ig(x:(Ty.T ab6)):Option ((Ty.T ab6) ⊕ ((Ty.T adi) ⊕ (Ty.T .unit))):=
match(decide (x.2.2.2.1>(0:Int)))with
|true=>
 match rH ((x.1.1,x.1.2.1,x.1.2.2.1,()),x.2.1,())with
 |none=>none
 |some v2=>
 match l6 ((v2.1.1,v2.1.2.1,v2.1.2.2.1,v2.1.2.2.2.1,()),())with
 |none=>none
 |some v3=>
 match v3.1 with
 |true=>
  aA (x.2.2.1.length+ [(v2.1.1,v2.1.2.1,v2.1.2.2.1,v2.1.2.2.2.1,())].length) (
   some (.inl ((v2.2.1.1,v2.2.1.2.1,v2.2.1.2.2.1,()),x.2.1,(x.2.2.1++ [(v2.1.1,v2.1.2.1,v2.1.2.2.1,v2.1.2.2.2.1,())]),(IntKind.i64.wrap (x.2.2.2.1-(1:Int))),())))
 |false=>
  match ai ((v2.2.1.1,v2.2.1.2.1,v2.2.1.2.2.1,()),(4:Int),())with
  |none=>none
  |some v4=>
  match(v4.1==(0:Int))with
  |true=>
   aA (x.2.2.1.length+ [(v2.1.1,v2.1.2.1,v2.1.2.2.1,v2.1.2.2.2.1,())].length) (
    some (.inl ((v4.2.1.1,v4.2.1.2.1,v4.2.1.2.2.1,()),x.2.1,(x.2.2.1++ [(v2.1.1,v2.1.2.1,v2.1.2.2.1,v2.1.2.2.2.1,())]),(IntKind.i64.wrap (x.2.2.2.1-(1:Int))),())))
  |false=>
   some (.inl ((v4.2.1.1,v4.2.1.2.1,v4.2.1.2.2.1,()),x.2.1,x.2.2.1,(IntKind.i64.wrap (x.2.2.2.1-(1:Int))),()))
|false=>
 some (.inr (.inl ((x.1.1,x.1.2.1,x.1.2.2.1,()),x.2.2.1,())))
abbrev ab7:Ty:=afr
abbrev adj:Ty:=afr
noncomputable def ii(x:(Ty.T ab7)):Option ((Ty.T ab7) ⊕ ((Ty.T ab7) ⊕ (Ty.T .unit))):=
match ai ((x.1.1,x.1.2.1,x.1.2.2.1,()),(2:Int),())with
|none=>none
|some v8=>
match(decide ((x.2.1.length:Int)<(IntKind.i64.wrap ((30:Int)+v8.1))))with
|true=>
 aA (x.2.1.length+ [((1:Int),(3:Int),(0:Int),(0:Int),())].length) (
  some (.inl ((v8.2.1.1,v8.2.1.2.1,v8.2.1.2.2.1,()),(x.2.1++ [((1:Int),(3:Int),(0:Int),(0:Int),())]),())))
|false=>
 some (.inr (.inl ((v8.2.1.1,v8.2.1.2.1,v8.2.1.2.2.1,()),x.2.1,())))
noncomputable def wI(x:Ty.T aeT):Option (Ty.T (.pair (.own 43 ax) (.pair (.box ah) .unit))):=
match ai ((x.1.1,x.1.2.1,x.1.2.2.1,()),(5:Int),())with
|none=>none
|some v1=>
match ag ig ((v1.2.1.1,v1.2.1.2.1,v1.2.1.2.2.1,()),x.2.1,[],v1.1,())with
|none=>none
|some (.inl v5)=>
 match ai ((v5.1.1,v5.1.2.1,v5.1.2.2.1,()),(40:Int),())with
 |none=>none
 |some v7=>
 match(v7.1==(0:Int))with
 |true=>
  match ag ii ((v7.2.1.1,v7.2.1.2.1,v7.2.1.2.2.1,()),v5.2.1,())with
  |none=>none
  |some (.inl v9)=>
   some (v9.2.1,(v9.1.1,v9.1.2.1,v9.1.2.2.1,()),())
  |some (.inr v11)=>
   none
 |false=>
  some (v5.2.1,(v7.2.1.1,v7.2.1.2.1,v7.2.1.2.2.1,()),())
|some (.inr v12)=>
 none
noncomputable def Sm:Spec:=⟨_,(.pair (.own 43 ax) .unit),QV,rfl,wI⟩
noncomputable def uO:FuncId→Option Spec:=bh [(52,iC),(100,Gs),(101,xH)]
theorem LY:∀f s,uO f=some s→FnOK G0 Tryz.prog f s:=aF ⟨bR,P9,Dw,trivial⟩
def Bh:aO:=⟨[0,1,5,6],ab6,0,[0,5],adi,[],.unit⟩
def Bi:aO:=⟨[0,5],adj,2,[0,5],adj,[],.unit⟩
noncomputable def uP:List ay:=[Bh.spec ig,Bi.spec ii]
theorem JF:bc bd E0 uO (ba Tryz.f50 uP) Tryz.f50 0 Bh ig:=fun x=>by kernel_rfl
theorem JG:bc bd E0 uO (ba Tryz.f50 uP) Tryz.f50 1 Bi ii:=fun x=>by kernel_rfl
theorem Qa:FnOK G0 Tryz.prog 50 Sm:=aH ao LY Tryz.func50 uP (by kernel_rfl) (by exact⟨(JF).lok,(JG).lok,trivial⟩) fun x=>by kernel_rfl
noncomputable def lc(x:Ty.T QV):Option (Ty.T (.pair au (.pair (.box ah) .unit))):=
match ai ((x.1.1,x.1.2.1,x.1.2.2.1,()),(256:Int),())with
|none=>none
|some v1=>
match ai ((v1.2.1.1,v1.2.1.2.1,v1.2.1.2.2.1,()),(3:Int),())with
|none=>none
|some v2=>
match ai ((v2.2.1.1,v2.2.1.2.1,v2.2.1.2.2.1,()),(3:Int),())with
|none=>none
|some v3=>
match ai ((v3.2.1.1,v3.2.1.2.1,v3.2.1.2.2.1,()),(6:Int),())with
|none=>none
|some v4=>
match(v4.1==(0:Int))with
|true=>
 match wI ((v4.2.1.1,v4.2.1.2.1,v4.2.1.2.2.1,()),(2400:Int),())with
 |none=>none
 |some v5=>
 match ai ((v5.2.1.1,v5.2.1.2.1,v5.2.1.2.2.1,()),(40:Int),())with
 |none=>none
 |some v6=>
 match(v6.1==(0:Int))with
 |true=>
  match ai ((v6.2.1.1,v6.2.1.2.1,v6.2.1.2.2.1,()),(2:Int),())with
  |none=>none
  |some v7=>
  aa (aq [(-1:Int),(256:Int)] v7.1) fun _=>
  match [(-1:Int),(256:Int)][v7.1.toNat]? with
  |none=>none
  |some v9=>
  some ((v9,(IntKind.i64.wrap (v2.1*(IntKind.i64.wrap (Int.tdiv v3.1 (2:Int))))),v5.1,[],()),(v7.2.1.1,v7.2.1.2.1,v7.2.1.2.2.1,()),())
 |false=>
  match(v6.1==(1:Int))with
  |true=>
   match ai ((v6.2.1.1,v6.2.1.2.1,v6.2.1.2.2.1,()),(3:Int),())with
   |none=>none
   |some v10=>
   aa (aq [(-1:Int),(7:Int),(8:Int)] v10.1) fun _=>
   match [(-1:Int),(7:Int),(8:Int)][v10.1.toNat]? with
   |none=>none
   |some v12=>
   some ((v1.1,v12,v5.1,[],()),(v10.2.1.1,v10.2.1.2.1,v10.2.1.2.2.1,()),())
  |false=>
   some ((v1.1,(IntKind.i64.wrap (v2.1*(IntKind.i64.wrap (Int.tdiv v3.1 (2:Int))))),v5.1,[],()),(v6.2.1.1,v6.2.1.2.1,v6.2.1.2.2.1,()),())
|false=>
 match(v4.1==(1:Int))with
 |true=>
  match ai ((v4.2.1.1,v4.2.1.2.1,v4.2.1.2.2.1,()),(40:Int),())with
  |none=>none
  |some v13=>
  match(v13.1==(0:Int))with
  |true=>
   match ai ((v13.2.1.1,v13.2.1.2.1,v13.2.1.2.2.1,()),(2:Int),())with
   |none=>none
   |some v14=>
   aa (aq [(-1:Int),(256:Int)] v14.1) fun _=>
   match [(-1:Int),(256:Int)][v14.1.toNat]? with
   |none=>none
   |some v16=>
   some ((v16,(IntKind.i64.wrap (v2.1*(IntKind.i64.wrap (Int.tdiv v3.1 (2:Int))))),[],[((5:Int),(0:Int),(0:Int),(0:Int),())],()),(v14.2.1.1,v14.2.1.2.1,v14.2.1.2.2.1,()),())
  |false=>
   match(v13.1==(1:Int))with
   |true=>
    match ai ((v13.2.1.1,v13.2.1.2.1,v13.2.1.2.2.1,()),(3:Int),())with
    |none=>none
    |some v17=>
    aa (aq [(-1:Int),(7:Int),(8:Int)] v17.1) fun _=>
    match [(-1:Int),(7:Int),(8:Int)][v17.1.toNat]? with
    |none=>none
    |some v19=>
    some ((v1.1,v19,[],[((5:Int),(0:Int),(0:Int),(0:Int),())],()),(v17.2.1.1,v17.2.1.2.1,v17.2.1.2.2.1,()),())
   |false=>
    some ((v1.1,(IntKind.i64.wrap (v2.1*(IntKind.i64.wrap (Int.tdiv v3.1 (2:Int))))),[],[((5:Int),(0:Int),(0:Int),(0:Int),())],()),(v13.2.1.1,v13.2.1.2.1,v13.2.1.2.2.1,()),())
 |false=>
  match(v4.1==(2:Int))with
  |true=>
   match ai ((v4.2.1.1,v4.2.1.2.1,v4.2.1.2.2.1,()),(900:Int),())with
   |none=>none
   |some v20=>
   match ai ((v20.2.1.1,v20.2.1.2.1,v20.2.1.2.2.1,()),(90:Int),())with
   |none=>none
   |some v21=>
   match ai ((v21.2.1.1,v21.2.1.2.1,v21.2.1.2.2.1,()),(40:Int),())with
   |none=>none
   |some v22=>
   match(v22.1==(0:Int))with
   |true=>
    match ai ((v22.2.1.1,v22.2.1.2.1,v22.2.1.2.2.1,()),(2:Int),())with
    |none=>none
    |some v23=>
    aa (aq [(-1:Int),(256:Int)] v23.1) fun _=>
    match [(-1:Int),(256:Int)][v23.1.toNat]? with
    |none=>none
    |some v25=>
    some ((v25,(IntKind.i64.wrap (v2.1*(IntKind.i64.wrap (Int.tdiv v3.1 (2:Int))))),[((1:Int),(IntKind.i64.wrap ((200:Int)+v20.1)),(0:Int),(0:Int),())],[((2:Int),(IntKind.i64.wrap ((8:Int)*(IntKind.i64.wrap ((20:Int)+v21.1)))),(8:Int),(0:Int),())],()),(v23.2.1.1,v23.2.1.2.1,v23.2.1.2.2.1,()),())
   |false=>
    match(v22.1==(1:Int))with
    |true=>
     match ai ((v22.2.1.1,v22.2.1.2.1,v22.2.1.2.2.1,()),(3:Int),())with
     |none=>none
     |some v26=>
     aa (aq [(-1:Int),(7:Int),(8:Int)] v26.1) fun _=>
     match [(-1:Int),(7:Int),(8:Int)][v26.1.toNat]? with
     |none=>none
     |some v28=>
     some ((v1.1,v28,[((1:Int),(IntKind.i64.wrap ((200:Int)+v20.1)),(0:Int),(0:Int),())],[((2:Int),(IntKind.i64.wrap ((8:Int)*(IntKind.i64.wrap ((20:Int)+v21.1)))),(8:Int),(0:Int),())],()),(v26.2.1.1,v26.2.1.2.1,v26.2.1.2.2.1,()),())
    |false=>
     some ((v1.1,(IntKind.i64.wrap (v2.1*(IntKind.i64.wrap (Int.tdiv v3.1 (2:Int))))),[((1:Int),(IntKind.i64.wrap ((200:Int)+v20.1)),(0:Int),(0:Int),())],[((2:Int),(IntKind.i64.wrap ((8:Int)*(IntKind.i64.wrap ((20:Int)+v21.1)))),(8:Int),(0:Int),())],()),(v22.2.1.1,v22.2.1.2.1,v22.2.1.2.2.1,()),())
  |false=>
   match(v4.1==(3:Int))with
   |true=>
    match ai ((v4.2.1.1,v4.2.1.2.1,v4.2.1.2.2.1,()),(1500:Int),())with
    |none=>none
    |some v29=>
    match ai ((v29.2.1.1,v29.2.1.2.1,v29.2.1.2.2.1,()),(40:Int),())with
    |none=>none
    |some v30=>
    match(v30.1==(0:Int))with
    |true=>
     match ai ((v30.2.1.1,v30.2.1.2.1,v30.2.1.2.2.1,()),(2:Int),())with
     |none=>none
     |some v31=>
     aa (aq [(-1:Int),(256:Int)] v31.1) fun _=>
     match [(-1:Int),(256:Int)][v31.1.toNat]? with
     |none=>none
     |some v33=>
     some ((v33,(IntKind.i64.wrap (v2.1*(IntKind.i64.wrap (Int.tdiv v3.1 (2:Int))))),[((5:Int),(0:Int),(0:Int),(0:Int),())],[((5:Int),v29.1,(0:Int),(0:Int),())],()),(v31.2.1.1,v31.2.1.2.1,v31.2.1.2.2.1,()),())
    |false=>
     match(v30.1==(1:Int))with
     |true=>
      match ai ((v30.2.1.1,v30.2.1.2.1,v30.2.1.2.2.1,()),(3:Int),())with
      |none=>none
      |some v34=>
      aa (aq [(-1:Int),(7:Int),(8:Int)] v34.1) fun _=>
      match [(-1:Int),(7:Int),(8:Int)][v34.1.toNat]? with
      |none=>none
      |some v36=>
      some ((v1.1,v36,[((5:Int),(0:Int),(0:Int),(0:Int),())],[((5:Int),v29.1,(0:Int),(0:Int),())],()),(v34.2.1.1,v34.2.1.2.1,v34.2.1.2.2.1,()),())
     |false=>
      some ((v1.1,(IntKind.i64.wrap (v2.1*(IntKind.i64.wrap (Int.tdiv v3.1 (2:Int))))),[((5:Int),(0:Int),(0:Int),(0:Int),())],[((5:Int),v29.1,(0:Int),(0:Int),())],()),(v30.2.1.1,v30.2.1.2.1,v30.2.1.2.2.1,()),())
   |false=>
    match ai ((v4.2.1.1,v4.2.1.2.1,v4.2.1.2.2.1,()),(40:Int),())with
    |none=>none
    |some v37=>
    match(v37.1==(0:Int))with
    |true=>
     match ai ((v37.2.1.1,v37.2.1.2.1,v37.2.1.2.2.1,()),(2:Int),())with
     |none=>none
     |some v38=>
     aa (aq [(-1:Int),(256:Int)] v38.1) fun _=>
     match [(-1:Int),(256:Int)][v38.1.toNat]? with
     |none=>none
     |some v40=>
     some ((v40,(IntKind.i64.wrap (v2.1*(IntKind.i64.wrap (Int.tdiv v3.1 (2:Int))))),[],[],()),(v38.2.1.1,v38.2.1.2.1,v38.2.1.2.2.1,()),())
    |false=>
     match(v37.1==(1:Int))with
     |true=>
      match ai ((v37.2.1.1,v37.2.1.2.1,v37.2.1.2.2.1,()),(3:Int),())with
      |none=>none
      |some v41=>
      aa (aq [(-1:Int),(7:Int),(8:Int)] v41.1) fun _=>
      match [(-1:Int),(7:Int),(8:Int)][v41.1.toNat]? with
      |none=>none
      |some v43=>
      some ((v1.1,v43,[],[],()),(v41.2.1.1,v41.2.1.2.1,v41.2.1.2.2.1,()),())
     |false=>
      some ((v1.1,(IntKind.i64.wrap (v2.1*(IntKind.i64.wrap (Int.tdiv v3.1 (2:Int))))),[],[],()),(v37.2.1.1,v37.2.1.2.1,v37.2.1.2.2.1,()),())
noncomputable def wJ:Spec:=⟨_,aeK,QV,rfl,lc⟩
theorem HO:FnOK G0 Tryz.prog 63 wJ:=ap ao (sg Qa (sg bR (aJ))) Tryz.func63
abbrev ab8:Ty:=(.pair (.box ah) (.pair (.box ac) (.pair (.box ab) (.pair (.box ac) (.pair (.box ab) (.pair (.own 49 au) (.pair (.int .i64) .unit)))))))
abbrev adk:Ty:=(.pair (.box ah) (.pair (.box ac) (.pair (.box ab) (.pair (.box ac) (.pair (.box ab) (.pair (.own 49 au) .unit))))))
noncomputable def js(x:(Ty.T ab8)):Option ((Ty.T ab8) ⊕ ((Ty.T adk) ⊕ (Ty.T .unit))):=
match(decide (x.2.2.2.2.2.2.1>(0:Int)))with
|true=>
 match lc ((x.1.1,x.1.2.1,x.1.2.2.1,()),())with
 |none=>none
 |some v3=>
 aA (x.2.2.2.2.2.1.length+ [v3.1].length) (
  some (.inl ((v3.2.1.1,v3.2.1.2.1,v3.2.1.2.2.1,()),(x.2.1.1,x.2.1.2.1,x.2.1.2.2.1,x.2.1.2.2.2.1,()),(x.2.2.1.1,x.2.2.1.2.1,x.2.2.1.2.2.1,x.2.2.1.2.2.2.1,x.2.2.1.2.2.2.2.1,()),(x.2.2.2.1.1,x.2.2.2.1.2.1,x.2.2.2.1.2.2.1,x.2.2.2.1.2.2.2.1,()),(x.2.2.2.2.1.1,x.2.2.2.2.1.2.1,x.2.2.2.2.1.2.2.1,x.2.2.2.2.1.2.2.2.1,x.2.2.2.2.1.2.2.2.2.1,()),(x.2.2.2.2.2.1++ [v3.1]),(IntKind.i64.wrap (x.2.2.2.2.2.2.1-(1:Int))),())))
|false=>
 some (.inr (.inl ((x.1.1,x.1.2.1,x.1.2.2.1,()),(x.2.1.1,x.2.1.2.1,x.2.1.2.2.1,x.2.1.2.2.2.1,()),(x.2.2.1.1,x.2.2.1.2.1,x.2.2.1.2.2.1,x.2.2.1.2.2.2.1,x.2.2.1.2.2.2.2.1,()),(x.2.2.2.1.1,x.2.2.2.1.2.1,x.2.2.2.1.2.2.1,x.2.2.2.1.2.2.2.1,()),(x.2.2.2.2.1.1,x.2.2.2.2.1.2.1,x.2.2.2.2.1.2.2.1,x.2.2.2.2.1.2.2.2.1,x.2.2.2.2.1.2.2.2.2.1,()),x.2.2.2.2.2.1,())))
noncomputable def kB(x:Ty.T QV):Option (Ty.T (.pair ac (.pair ab (.pair (.own 49 au) (.pair (.box ah) .unit))))):=
match rG ((x.1.1,x.1.2.1,x.1.2.2.1,()),())with
|none=>none
|some v1=>
match ai ((v1.2.2.1.1,v1.2.2.1.2.1,v1.2.2.1.2.2.1,()),(6:Int),())with
|none=>none
|some v2=>
match ag js ((v2.2.1.1,v2.2.1.2.1,v2.2.1.2.2.1,()),((0:Int),[],[],[],()),((0:Int),(0:Int),(0:Int),(0:Int),(0:Int),()),(v1.1.1,v1.1.2.1,v1.1.2.2.1,v1.1.2.2.2.1,()),(v1.2.1.1,v1.2.1.2.1,v1.2.1.2.2.1,v1.2.1.2.2.2.1,v1.2.1.2.2.2.2.1,()),[],v2.1,())with
|none=>none
|some (.inl v4)=>
 match ai ((v4.1.1,v4.1.2.1,v4.1.2.2.1,()),(60:Int),())with
 |none=>none
 |some v6=>
 match(v6.1==(0:Int))with
 |true=>
  match ai ((v6.2.1.1,v6.2.1.2.1,v6.2.1.2.2.1,()),(2:Int),())with
  |none=>none
  |some v7=>
  if 0≤(IntKind.i64.wrap ((40:Int)+v7.1))∧(IntKind.i64.wrap ((40:Int)+v7.1))≤(IntKind.i64.wrap ((40:Int)+v7.1))then
   aA ((IntKind.i64.wrap ((40:Int)+v7.1)).toNat) (
    aI (
     some ((v4.2.2.2.1.1,v4.2.2.2.1.2.1,v4.2.2.2.1.2.2.1,v4.2.2.2.1.2.2.2.1,()),(v4.2.2.2.2.1.1,v4.2.2.2.2.1.2.1,v4.2.2.2.2.1.2.2.1,v4.2.2.2.2.1.2.2.2.1,v4.2.2.2.2.1.2.2.2.2.1,()),(List.replicate (IntKind.i64.wrap ((40:Int)+v7.1)).toNat ((0:Int),(0:Int),[],[],())),(v7.2.1.1,v7.2.1.2.1,v7.2.1.2.2.1,()),())))
  else none
 |false=>
  aI (
   some ((v4.2.2.2.1.1,v4.2.2.2.1.2.1,v4.2.2.2.1.2.2.1,v4.2.2.2.1.2.2.2.1,()),(v4.2.2.2.2.1.1,v4.2.2.2.2.1.2.1,v4.2.2.2.2.1.2.2.1,v4.2.2.2.2.1.2.2.2.1,v4.2.2.2.2.1.2.2.2.2.1,()),v4.2.2.2.2.2.1,(v6.2.1.1,v6.2.1.2.1,v6.2.1.2.2.1,()),()))
|some (.inr v8)=>
 none
noncomputable def Gt:Spec:=⟨_,afs,QV,rfl,kB⟩
noncomputable def Dx:FuncId→Option Spec:=bh [(52,iC),(62,Gr),(63,wJ)]
theorem LZ:∀f s,Dx f=some s→FnOK G0 Tryz.prog f s:=aF ⟨bR,P8,HO,trivial⟩
def Bj:aO:=⟨[0,2,3,5,6,7,8],ab8,0,[0,2,3,5,6,7],adk,[],.unit⟩
noncomputable def Dy:List ay:=[Bj.spec js]
theorem JH:bc bd E0 Dx (ba Tryz.f81 Dy) Tryz.f81 0 Bj js:=fun x=>by kernel_rfl
theorem Dz:FnOK G0 Tryz.prog 81 Gt:=aH ao LZ Tryz.func81 Dy (by kernel_rfl) (by exact⟨(JH).lok,trivial⟩) fun x=>by kernel_rfl
noncomputable def aaZ(x:Ty.T aeP):Option (Ty.T afs):=
match kA (x.1,())with
|none=>none
|some v1=>
match kB ((v1.1.1,v1.1.2.1,v1.1.2.2.1,()),())with
|none=>none
|some v2=>
some ((v2.1.1,v2.1.2.1,v2.1.2.2.1,v2.1.2.2.2.1,()),(v2.2.1.1,v2.2.1.2.1,v2.2.1.2.2.1,v2.2.1.2.2.2.1,v2.2.1.2.2.2.2.1,()),v2.2.2.1,())
noncomputable def acD:Spec:=⟨_,afs,.unit,rfl,aaZ⟩
theorem adA:FnOK G0 Tryz.prog 27 acD:=ap ao (sg pw (sg Dz (aJ))) Tryz.func27
noncomputable def bj(x:Ty.T (.pair (.int .i64) an)):Option (Ty.T ae):=
match(decide (x.1≥x.2.1))with
|true=>
 some ((decide (x.1≤x.2.2.1)),())
|false=>
 some (false,())
noncomputable def Af:Spec:=⟨_,ae,.unit,rfl,bj⟩
theorem ci:FnOK G0 Tryz.prog 68 Af:=ap ao aJ Tryz.func68
noncomputable def O9(x:Ty.T an):Option (Ty.T ae):=
if x.2.1<0 then none else
some (((bits BinOp.and .i64 (Int.fdiv x.1 (2^min x.2.1.toNat IntKind.i64.bits)) (1:Int))==(1:Int)),())
noncomputable def Yu:Spec:=⟨_,ae,.unit,rfl,O9⟩
theorem Xr:FnOK G0 Tryz.prog 78 Yu:=ap ao aJ Tryz.func78
abbrev aaV:Ty:=(.pair (.int .i64) (.pair (.list ak) an))
noncomputable def dY(x:(Ty.T aaV)):Option ((Ty.T aaV) ⊕ ((Ty.T et) ⊕ (Ty.T .unit))):=
match(decide (x.2.2.2.1<x.2.2.1))with
|true=>
 aa (aq x.2.1 x.2.2.2.1) fun v1=>
 match(!v1.2.2.2.1)with
 |true=>
  if v1.1<0 then none else
  some (.inl ((bits BinOp.or .i64 x.1 (IntKind.i64.wrap ((1:Int)*2^min v1.1.toNat IntKind.i64.bits))),x.2.1,x.2.2.1,(IntKind.i64.wrap (x.2.2.2.1+(1:Int))),()))
 |false=>
  some (.inl (x.1,x.2.1,x.2.2.1,(IntKind.i64.wrap (x.2.2.2.1+(1:Int))),()))
|false=>
 some (.inr (.inl (x.1,())))
noncomputable def iJ(x:Ty.T adY):Option (Ty.T et):=
match ag dY ((0:Int),x.1,(x.1.length:Int),(0:Int),())with
|none=>none
|some (.inl v2)=>
 some (v2.1,())
|some (.inr v4)=>
 none
noncomputable def uQ:Spec:=⟨_,et,.unit,rfl,iJ⟩
noncomputable def tf:FuncId→Option Spec:=bh []
theorem Cu:∀f s,tf f=some s→FnOK G0 Tryz.prog f s:=aF trivial
def rI:aO:=⟨[3,6,7,8],aaV,0,[3],et,[],.unit⟩
noncomputable def tg:List ay:=[rI.spec dY]
theorem Ag:bc bd E0 tf (ba Tryz.f141 tg) Tryz.f141 0 rI dY:=fun x=>by kernel_rfl
theorem np:FnOK G0 Tryz.prog 141 uQ:=aH ao Cu Tryz.func141 tg (by kernel_rfl) (by exact⟨(Ag).lok,trivial⟩) fun x=>by kernel_rfl
noncomputable def mO(x:Ty.T (.pair aj (.pair (.ptr ac) .unit))):Option (Ty.T ae):=
match iJ (x.2.1.2.1,())with
|none=>none
|some v1=>
match O9 (v1.1,x.1.2.2.2.1.1,())with
|none=>none
|some v2=>
some ((!v2.1),())
noncomputable def HP:Spec:=⟨_,ae,.unit,rfl,mO⟩
theorem FE:FnOK G0 Tryz.prog 201 HP:=ap ao (sg Xr (sg np (aJ))) Tryz.func201
noncomputable def mP(x:Ty.T afe):Option (Ty.T ae):=
match(x.1.2.2.2.1.2.1==(3:Int))with
|true=>
 some ((x.1.1 != (0:Int)),())
|false=>
 some (false,())
noncomputable def HQ:Spec:=⟨_,ae,.unit,rfl,mP⟩
theorem FF:FnOK G0 Tryz.prog 202 HQ:=ap ao aJ Tryz.func202
noncomputable def kN(x:Ty.T et):Option (Ty.T ae):=
match bj (x.1,(0:Int),(31:Int),())with
|none=>none
|some v1=>
some (v1.1,())
noncomputable def UB:Spec:=⟨_,ae,.unit,rfl,kN⟩
theorem q6:FnOK G0 Tryz.prog 77 UB:=ap ao (sg ci (aJ)) Tryz.func77
noncomputable def uR(x:Ty.T agd):Option (Ty.T abl):=aa (Ji x.1 x.2.1) fun s=>some (s,())
noncomputable def L0:Spec:=⟨agd,abl,.unit,rfl,uR⟩
theorem JI:FnOK G0 Tryz.prog 291 L0:=FnOK.str2_str (kJ Tryz.func291 (by kernel_rfl) (show Tryz.f291.body=some (ff Tryz.f291) by kernel_rfl)) (fun w s t y _ hy=>Uu w s t y hy)
noncomputable def l7(x:Ty.T (.pair ak .unit)):Option (Ty.T ae):=
match(decide ((x.1.2.1.length:Int)≥(1:Int)))with
|true=>
 match(decide ((x.1.2.1.length:Int)≤(6:Int)))with
 |true=>
  match uR (x.1.2.1,([97,98,99,100,101,102,103,104,105,106,107,108,109,110,111,112,113,114,115,116,117,118,119,120,121,122,48,49,50,51,52,53,54,55,56,57]:List UInt8),())with
  |none=>none
  |some v1=>
  match(v1.1== [])with
  |true=>
   match kN (x.1.1,())with
   |none=>none
   |some v2=>
   match v2.1 with
   |true=>
    match bj (x.1.2.2.1,(0:Int),(1000:Int),())with
    |none=>none
    |some v3=>
    some (v3.1,())
   |false=>
    some (false,())
  |false=>
   some (false,())
 |false=>
  some (false,())
|false=>
 some (false,())
noncomputable def yz:Spec:=⟨_,ae,.unit,rfl,l7⟩
theorem JJ:FnOK G0 Tryz.prog 252 yz:=ap ao (sg ci (sg q6 (sg JI (aJ)))) Tryz.func252
abbrev GC:Ty:=(.pair (.list ak) (.pair (.fn (.pair ak .unit) (.pair .bool .unit)) an))
noncomputable def b7(x:(Ty.T GC)):Option ((Ty.T GC) ⊕ ((Ty.T .unit) ⊕ (Ty.T et))):=
match(decide (x.2.2.2.1<x.2.2.1))with
|true=>
 aa (aq x.1 x.2.2.2.1) fun v1=>
 match x.2.1 (v1,())with
 |none=>none
 |some v2=>
 match v2.1 with
 |true=>
  some (.inr (.inr (x.2.2.2.1,())))
 |false=>
  some (.inl (x.1,x.2.1,x.2.2.1,(IntKind.i64.wrap (x.2.2.2.1+(1:Int))),()))
|false=>
 some (.inr (.inl (())))
noncomputable def dN(x:Ty.T agA):Option (Ty.T et):=
match ag b7 (x.1,x.2.1,(x.1.length:Int),(0:Int),())with
|none=>none
|some (.inl v3)=>
 some ((-1:Int),())
|some (.inr v4)=>
 some (v4.1,())
noncomputable def rJ:Spec:=⟨_,et,.unit,rfl,dN⟩
noncomputable def ki:FuncId→Option Spec:=bh []
theorem pJ:∀f s,ki f=some s→FnOK G0 Tryz.prog f s:=aF trivial
def jT:aO:=⟨[0,1,7,8],GC,0,[],.unit,[4],et⟩
noncomputable def kj:List ay:=[jT.spec b7]
theorem ph:bc bd E0 ki (ba Tryz.f292 kj) Tryz.f292 0 jT b7:=fun x=>by kernel_rfl
theorem qG:FnOK G0 Tryz.prog 292 rJ:=aH ao pJ Tryz.func292 kj (by kernel_rfl) (by exact⟨(ph).lok,trivial⟩) fun x=>by kernel_rfl
noncomputable def cK(x:Ty.T agA):Option (Ty.T ae):=
match dN (x.1,x.2.1,())with
|none=>none
|some v1=>
some ((decide (v1.1≥(0:Int))),())
noncomputable def jB:Spec:=⟨_,ae,.unit,rfl,cK⟩
theorem pi:FnOK G0 Tryz.prog 253 jB:=ap ao (sg qG (aJ)) Tryz.func253
noncomputable def jC(x:Ty.T (.pair ak (.pair (.ptr ak) .unit))):Option (Ty.T ae):=
some ((x.1.2.1==x.2.1.2.1),())
noncomputable def th:Spec:=⟨_,ae,.unit,rfl,jC⟩
theorem DA:FnOK G0 Tryz.prog 254 th:=ap ao aJ Tryz.func254
abbrev aba:Ty:=(.pair (.list ak) (.pair (.list ak) an))
noncomputable def eO(x:(Ty.T aba)):Option ((Ty.T aba) ⊕ ((Ty.T adY) ⊕ (Ty.T ae))):=
match(decide (x.2.2.2.1<x.2.2.1))with
|true=>
 aa (aq x.2.1 x.2.2.2.1) fun v1=>
 match l7 ((v1.1,v1.2.1,v1.2.2.1,v1.2.2.2.1,()),())with
 |none=>none
 |some v2=>
 match(!v2.1)with
 |true=>
  some (.inr (.inr (false,())))
 |false=>
  match(decide (x.2.2.2.1>(0:Int)))with
  |true=>
   aa (aq x.1 (IntKind.i64.wrap (x.2.2.2.1-(1:Int)))) fun v3=>
   match(decide (v3.1≥v1.1))with
   |true=>
    some (.inr (.inr (false,())))
   |false=>
    aa (aL x.1.length none (some (.dat (.int .i64) x.2.2.2.1))) fun v4=>
    match cK ((List.drop v4.1 (List.take v4.2 x.1)),(fun z=>jC (z.1,(v1.1,v1.2.1,v1.2.2.1,v1.2.2.2.1,()),())),())with
    |none=>none
    |some v5=>
    match v5.1 with
    |true=>
     some (.inr (.inr (false,())))
    |false=>
     some (.inl (x.1,x.2.1,x.2.2.1,(IntKind.i64.wrap (x.2.2.2.1+(1:Int))),()))
  |false=>
   aa (aL x.1.length none (some (.dat (.int .i64) x.2.2.2.1))) fun v6=>
   match cK ((List.drop v6.1 (List.take v6.2 x.1)),(fun z=>jC (z.1,(v1.1,v1.2.1,v1.2.2.1,v1.2.2.2.1,()),())),())with
   |none=>none
   |some v7=>
   match v7.1 with
   |true=>
    some (.inr (.inr (false,())))
   |false=>
    some (.inl (x.1,x.2.1,x.2.2.1,(IntKind.i64.wrap (x.2.2.2.1+(1:Int))),()))
|false=>
 some (.inr (.inl (x.1,())))
noncomputable def nZ(x:Ty.T adY):Option (Ty.T ae):=
match ag eO (x.1,x.1,(x.1.length:Int),(0:Int),())with
|none=>none
|some (.inl v8)=>
 match(decide ((v8.1.length:Int)≥(1:Int)))with
 |true=>
  some ((decide ((v8.1.length:Int)≤(32:Int))),())
 |false=>
  some (false,())
|some (.inr v9)=>
 some (v9.1,())
noncomputable def JK:Spec:=⟨_,ae,.unit,rfl,nZ⟩
noncomputable def uS:FuncId→Option Spec:=bh [(252,yz),(253,jB),(254,th)]
theorem DB:∀f s,uS f=some s→FnOK G0 Tryz.prog f s:=aF ⟨JJ,pi,DA,trivial⟩
def ti:aO:=⟨[0,5,6,7],aba,0,[0],adY,[2],ae⟩
noncomputable def uT:List ay:=[ti.spec eO]
theorem Cv:bc bd E0 uS (ba Tryz.f203 uT) Tryz.f203 0 ti eO:=fun x=>by kernel_rfl
theorem HR:FnOK G0 Tryz.prog 203 JK:=aH ao DB Tryz.func203 uT (by kernel_rfl) (by exact⟨(Cv).lok,trivial⟩) fun x=>by kernel_rfl
abbrev aaM:Ty:=afp
noncomputable def cS(x:(Ty.T aaM)):Option ((Ty.T aaM) ⊕ ((Ty.T .unit) ⊕ (Ty.T et))):=
match(decide (x.2.2.2.1<x.2.2.1))with
|true=>
 aa (aq x.1 x.2.2.2.1) fun v1=>
 match(x.2.1==v1)with
 |true=>
  some (.inr (.inr (x.2.2.2.1,())))
 |false=>
  some (.inl (x.1,x.2.1,x.2.2.1,(IntKind.i64.wrap (x.2.2.2.1+(1:Int))),()))
|false=>
 some (.inr (.inl (())))
noncomputable def l8(x:Ty.T y_9):Option (Ty.T et):=
match ag cS (x.1,x.2.1,(x.1.length:Int),(0:Int),())with
|none=>none
|some (.inl v2)=>
 some ((-1:Int),())
|some (.inr v3)=>
 some (v3.1,())
noncomputable def Ah:Spec:=⟨_,et,.unit,rfl,l8⟩
noncomputable def oW:FuncId→Option Spec:=bh []
theorem vZ:∀f s,oW f=some s→FnOK G0 Tryz.prog f s:=aF trivial
def nD:aO:=⟨[0,1,7,8],aaM,0,[],.unit,[4],et⟩
noncomputable def oX:List ay:=[nD.spec cS]
theorem uU:bc bd E0 oW (ba Tryz.f264 oX) Tryz.f264 0 nD cS:=fun x=>by kernel_rfl
theorem yA:FnOK G0 Tryz.prog 264 Ah:=aH ao vZ Tryz.func264 oX (by kernel_rfl) (by exact⟨(uU).lok,trivial⟩) fun x=>by kernel_rfl
noncomputable def fE(x:Ty.T y_9):Option (Ty.T ae):=
match l8 (x.1,x.2.1,())with
|none=>none
|some v1=>
some ((decide (v1.1≥(0:Int))),())
noncomputable def nc:Spec:=⟨_,ae,.unit,rfl,fE⟩
theorem l9:FnOK G0 Tryz.prog 215 nc:=ap ao (sg yA (aJ)) Tryz.func215
abbrev abH:Ty:=(.pair (.list (.int .i64)) (.pair (.int .i64) (.pair (.list (.int .i64)) an)))
noncomputable def gt(x:(Ty.T abH)):Option ((Ty.T abH) ⊕ ((Ty.T .unit) ⊕ (Ty.T ae))):=
match(decide (x.2.2.2.2.1<x.2.2.2.1))with
|true=>
 aa (aq x.2.2.1 x.2.2.2.2.1) fun v1=>
 match(decide (v1<(0:Int)))with
 |true=>
  some (.inr (.inr (false,())))
 |false=>
  match(decide (v1≥x.2.1))with
  |true=>
   some (.inr (.inr (false,())))
  |false=>
   match(decide (x.2.2.2.2.1>(0:Int)))with
   |true=>
    aa (aq x.1 (IntKind.i64.wrap (x.2.2.2.2.1-(1:Int)))) fun v2=>
    match(decide (v2≥v1))with
    |true=>
     some (.inr (.inr (false,())))
    |false=>
     some (.inl (x.1,x.2.1,x.2.2.1,x.2.2.2.1,(IntKind.i64.wrap (x.2.2.2.2.1+(1:Int))),()))
   |false=>
    some (.inl (x.1,x.2.1,x.2.2.1,x.2.2.2.1,(IntKind.i64.wrap (x.2.2.2.2.1+(1:Int))),()))
|false=>
 some (.inr (.inl (())))
noncomputable def tR(x:Ty.T y_9):Option (Ty.T ae):=
match ag gt (x.1,x.2.1,x.1,(x.1.length:Int),(0:Int),())with
|none=>none
|some (.inl v3)=>
 some (true,())
|some (.inr v4)=>
 some (v4.1,())
noncomputable def DC:Spec:=⟨_,ae,.unit,rfl,tR⟩
noncomputable def Bk:FuncId→Option Spec:=bh []
theorem JL:∀f s,Bk f=some s→FnOK G0 Tryz.prog f s:=aF trivial
def yB:aO:=⟨[0,1,7,8,9],abH,0,[],.unit,[4],ae⟩
noncomputable def Bl:List ay:=[yB.spec gt]
theorem HS:bc bd E0 Bk (ba Tryz.f255 Bl) Tryz.f255 0 yB gt:=fun x=>by kernel_rfl
theorem Ob:FnOK G0 Tryz.prog 255 DC:=aH ao JL Tryz.func255 Bl (by kernel_rfl) (by exact⟨(HS).lok,trivial⟩) fun x=>by kernel_rfl
abbrev abb:Ty:=(.pair (.list al) (.pair (.list al) an))
noncomputable def eP(x:(Ty.T abb)):Option ((Ty.T abb) ⊕ ((Ty.T aeO) ⊕ (Ty.T ae))):=
match(decide (x.2.2.2.1<x.2.2.1))with
|true=>
 aa (aq x.2.1 x.2.2.2.1) fun v1=>
 match bj (v1.1,(1:Int),(8:Int),())with
 |none=>none
 |some v2=>
 match(!v2.1)with
 |true=>
  some (.inr (.inr (false,())))
 |false=>
  match bj (v1.2.1,(1:Int),(16:Int),())with
  |none=>none
  |some v3=>
  match(!v3.1)with
  |true=>
   some (.inr (.inr (false,())))
  |false=>
   match tR (v1.2.2.1,(x.1.length:Int),())with
   |none=>none
   |some v4=>
   match(!v4.1)with
   |true=>
    some (.inr (.inr (false,())))
   |false=>
    match fE (v1.2.2.1,x.2.2.2.1,())with
    |none=>none
    |some v5=>
    match v5.1 with
    |true=>
     some (.inr (.inr (false,())))
    |false=>
     some (.inl (x.1,x.2.1,x.2.2.1,(IntKind.i64.wrap (x.2.2.2.1+(1:Int))),()))
|false=>
 some (.inr (.inl (x.1,())))
noncomputable def ld(x:Ty.T aeO):Option (Ty.T ae):=
match ag eP (x.1,x.1,(x.1.length:Int),(0:Int),())with
|none=>none
|some (.inl v6)=>
 match(decide ((v6.1.length:Int)≥(1:Int)))with
 |true=>
  some ((decide ((v6.1.length:Int)≤(16:Int))),())
 |false=>
  some (false,())
|some (.inr v7)=>
 some (v7.1,())
noncomputable def JM:Spec:=⟨_,ae,.unit,rfl,ld⟩
noncomputable def uV:FuncId→Option Spec:=bh [(68,Af),(215,nc),(255,DC)]
theorem DD:∀f s,uV f=some s→FnOK G0 Tryz.prog f s:=aF ⟨ci,l9,Ob,trivial⟩
def tj:aO:=⟨[0,5,6,7],abb,0,[0],aeO,[2],ae⟩
noncomputable def uW:List ay:=[tj.spec eP]
theorem Cw:bc bd E0 uV (ba Tryz.f204 uW) Tryz.f204 0 tj eP:=fun x=>by kernel_rfl
theorem uX:FnOK G0 Tryz.prog 204 JM:=aH ao DD Tryz.func204 uW (by kernel_rfl) (by exact⟨(Cw).lok,trivial⟩) fun x=>by kernel_rfl
noncomputable def uY(x:Ty.T et):Option (Ty.T ae):=
match bj (x.1,(0:Int),(3:Int),())with
|none=>none
|some v1=>
some (v1.1,())
noncomputable def UC:Spec:=⟨_,ae,.unit,rfl,uY⟩
theorem Gu:FnOK G0 Tryz.prog 260 UC:=ap ao (sg ci (aJ)) Tryz.func260
noncomputable def ma(x:Ty.T an):Option (Ty.T ae):=
match(x.1==(0:Int))with
|true=>
 match bj (x.2.1,(0:Int),(32:Int),())with
 |none=>none
 |some v1=>
 some (v1.1,())
|false=>
 match(x.1==(2:Int))with
 |true=>
  match bj (x.2.1,(1:Int),(32:Int),())with
  |none=>none
  |some v2=>
  some (v2.1,())
 |false=>
  some ((x.2.1==(0:Int)),())
noncomputable def L1:Spec:=⟨_,ae,.unit,rfl,ma⟩
theorem wK:FnOK G0 Tryz.prog 261 L1:=ap ao (sg ci (aJ)) Tryz.func261
noncomputable def ez(x:Ty.T et):Option (Ty.T ae):=
some ((x.1 != (0:Int)),())
noncomputable def Qb:Spec:=⟨_,ae,.unit,rfl,ez⟩
theorem jt:FnOK G0 Tryz.prog 142 Qb:=ap ao aJ Tryz.func142
noncomputable def jD(x:Ty.T et):Option (Ty.T ae):=
match(x.1==(0:Int))with
|true=>
 some (true,())
|false=>
 some ((x.1==(2:Int)),())
noncomputable def Sn:Spec:=⟨_,ae,.unit,rfl,jD⟩
theorem uZ:FnOK G0 Tryz.prog 229 Sn:=ap ao aJ Tryz.func229
noncomputable def tS(x:Ty.T an):Option (Ty.T et):=
match ez (x.1,())with
|none=>none
|some v1=>
match v1.1 with
|true=>
 match jD (x.1,())with
 |none=>none
 |some v2=>
 match v2.1 with
 |true=>
  some ((IntKind.i64.wrap ((IntKind.i64.wrap ((1:Int)+(8:Int)))+(IntKind.i64.wrap ((1:Int)+x.2.1)))),())
 |false=>
  some ((IntKind.i64.wrap ((1:Int)+(8:Int))),())
|false=>
 match jD (x.1,())with
 |none=>none
 |some v3=>
 match v3.1 with
 |true=>
  some ((IntKind.i64.wrap ((1:Int)+(IntKind.i64.wrap ((1:Int)+x.2.1)))),())
 |false=>
  some ((1:Int),())
noncomputable def Qc:Spec:=⟨_,et,.unit,rfl,tS⟩
theorem Oc:FnOK G0 Tryz.prog 294 Qc:=ap ao (sg jt (sg uZ (aJ))) Tryz.func294
noncomputable def lf(x:Ty.T an):Option (Ty.T et):=
match tS (x.1,x.2.1,())with
|none=>none
|some v1=>
some ((IntKind.i64.wrap ((11:Int)+(IntKind.i64.wrap ((10:Int)*(IntKind.i64.wrap (v1.1+(3:Int))))))),())
noncomputable def JN:Spec:=⟨_,et,.unit,rfl,lf⟩
theorem HT:FnOK G0 Tryz.prog 262 JN:=ap ao (sg Oc (aJ)) Tryz.func262
noncomputable def fF(x:Ty.T ads):Option (Ty.T ae):=
match kN (x.1.1,())with
|none=>none
|some v1=>
match(!v1.1)with
|true=>
 some (false,())
|false=>
 match uY (x.1.2.1,())with
 |none=>none
 |some v2=>
 match(!v2.1)with
 |true=>
  some (false,())
 |false=>
  match ma (x.1.2.1,x.1.2.2.1,())with
  |none=>none
  |some v3=>
  match(!v3.1)with
  |true=>
   some (false,())
  |false=>
   match x.1.2.2.2.2.1 with
   |true=>
    match(x.1.2.1==(3:Int))with
    |true=>
     some (false,())
    |false=>
     match lf (x.1.2.1,x.1.2.2.1,())with
     |none=>none
     |some v4=>
     match bj (x.1.2.2.2.1,(IntKind.i64.wrap (v4.1+(20:Int))),(1000:Int),())with
     |none=>none
     |some v5=>
     some (v5.1,())
   |false=>
    match lf (x.1.2.1,x.1.2.2.1,())with
    |none=>none
    |some v6=>
    match bj (x.1.2.2.2.1,(IntKind.i64.wrap (v6.1+(20:Int))),(1000:Int),())with
    |none=>none
    |some v7=>
    some (v7.1,())
noncomputable def HU:Spec:=⟨_,ae,.unit,rfl,fF⟩
theorem tk:FnOK G0 Tryz.prog 211 HU:=ap ao (sg ci (sg q6 (sg Gu (sg wK (sg HT (aJ)))))) Tryz.func211
noncomputable def mb(x:Ty.T afe):Option (Ty.T ae):=
match bj (x.1.1,(0:Int),(15:Int),())with
|none=>none
|some v1=>
match v1.1 with
|true=>
 match bj (x.1.2.1,(0:Int),(7:Int),())with
 |none=>none
 |some v2=>
 match v2.1 with
 |true=>
  match bj (x.1.2.2.1,(0:Int),(15:Int),())with
  |none=>none
  |some v3=>
  match v3.1 with
  |true=>
   match fF ((x.1.2.2.2.1.1,x.1.2.2.2.1.2.1,x.1.2.2.2.1.2.2.1,x.1.2.2.2.1.2.2.2.1,x.1.2.2.2.1.2.2.2.2.1,()),())with
   |none=>none
   |some v4=>
   some (v4.1,())
  |false=>
   some (false,())
 |false=>
  some (false,())
|false=>
 some (false,())
noncomputable def yC:Spec:=⟨_,ae,.unit,rfl,mb⟩
theorem JO:FnOK G0 Tryz.prog 256 yC:=ap ao (sg ci (sg tk (aJ))) Tryz.func256
noncomputable def oY(x:Ty.T an):Option (Ty.T et):=
match(decide (x.1<x.2.1))with
|true=>
 some ((-1:Int),())
|false=>
 match(decide (x.1>x.2.1))with
 |true=>
  some ((1:Int),())
 |false=>
  some ((0:Int),())
noncomputable def So:Spec:=⟨_,et,.unit,rfl,oY⟩
theorem Qd:FnOK G0 Tryz.prog 293 So:=ap ao aJ Tryz.func293
noncomputable def iK(x:Ty.T agj):Option (Ty.T et):=
match(x.1.1 != x.2.1.1)with
|true=>
 match oY (x.1.1,x.2.1.1,())with
 |none=>none
 |some v1=>
 some (v1.1,())
|false=>
 match(x.1.2.1 != x.2.1.2.1)with
 |true=>
  match oY (x.1.2.1,x.2.1.2.1,())with
  |none=>none
  |some v2=>
  some (v2.1,())
 |false=>
  match oY (x.1.2.2.1,x.2.1.2.2.1,())with
  |none=>none
  |some v3=>
  some (v3.1,())
noncomputable def ov:Spec:=⟨_,et,.unit,rfl,iK⟩
theorem tm:FnOK G0 Tryz.prog 257 ov:=ap ao (sg Qd (aJ)) Tryz.func257
abbrev abc:Ty:=(.pair (.list aj) (.pair (.list aj) an))
noncomputable def eR(x:(Ty.T abc)):Option ((Ty.T abc) ⊕ ((Ty.T aeg) ⊕ (Ty.T ae))):=
match(decide (x.2.2.2.1<x.2.2.1))with
|true=>
 aa (aq x.2.1 x.2.2.2.1) fun v1=>
 match mb ((v1.1,v1.2.1,v1.2.2.1,(v1.2.2.2.1.1,v1.2.2.2.1.2.1,v1.2.2.2.1.2.2.1,v1.2.2.2.1.2.2.2.1,v1.2.2.2.1.2.2.2.2.1,()),()),())with
 |none=>none
 |some v2=>
 match(!v2.1)with
 |true=>
  some (.inr (.inr (false,())))
 |false=>
  match(decide (x.2.2.2.1>(0:Int)))with
  |true=>
   aa (aq x.1 (IntKind.i64.wrap (x.2.2.2.1-(1:Int)))) fun v3=>
   match iK (v3,(v1.1,v1.2.1,v1.2.2.1,(v1.2.2.2.1.1,v1.2.2.2.1.2.1,v1.2.2.2.1.2.2.1,v1.2.2.2.1.2.2.2.1,v1.2.2.2.1.2.2.2.2.1,()),()),())with
   |none=>none
   |some v4=>
   match(decide (v4.1≥(0:Int)))with
   |true=>
    some (.inr (.inr (false,())))
   |false=>
    some (.inl (x.1,x.2.1,x.2.2.1,(IntKind.i64.wrap (x.2.2.2.1+(1:Int))),()))
  |false=>
   some (.inl (x.1,x.2.1,x.2.2.1,(IntKind.i64.wrap (x.2.2.2.1+(1:Int))),()))
|false=>
 some (.inr (.inl (x.1,())))
noncomputable def n6(x:Ty.T aeg):Option (Ty.T ae):=
match ag eR (x.1,x.1,(x.1.length:Int),(0:Int),())with
|none=>none
|some (.inl v5)=>
 some ((decide ((v5.1.length:Int)≤(120:Int))),())
|some (.inr v6)=>
 some (v6.1,())
noncomputable def JP:Spec:=⟨_,ae,.unit,rfl,n6⟩
noncomputable def u6:FuncId→Option Spec:=bh [(256,yC),(257,ov)]
theorem DE:∀f s,u6 f=some s→FnOK G0 Tryz.prog f s:=aF ⟨JO,tm,trivial⟩
def tn:aO:=⟨[0,5,6,7],abc,0,[0],aeg,[2],ae⟩
noncomputable def u7:List ay:=[tn.spec eR]
theorem Cy:bc bd E0 u6 (ba Tryz.f205 u7) Tryz.f205 0 tn eR:=fun x=>by kernel_rfl
theorem HV:FnOK G0 Tryz.prog 205 JP:=aH ao DE Tryz.func205 u7 (by kernel_rfl) (by exact⟨(Cy).lok,trivial⟩) fun x=>by kernel_rfl
abbrev abf:Ty:=(.pair (.box ac) (.pair (.int .i64) (.pair (.int .i64) (.pair (.box al) (.pair (.list al) ax)))))
abbrev acE:Ty:=agv
noncomputable def dZ(x:(Ty.T abf)):Option ((Ty.T abf) ⊕ ((Ty.T acE) ⊕ (Ty.T ae))):=
match(decide (x.2.2.2.2.2.2.2.2.1<x.2.2.2.2.2.2.2.1))with
|true=>
 match(x.2.1==(x.1.2.2.2.1.length:Int))with
 |true=>
  some (.inr (.inr (false,())))
 |false=>
  aa (aq x.1.2.2.2.1 x.2.1) fun v2=>
  if x.2.2.2.1.2.1=0 then none else
  if x.2.2.2.1.2.1=0 then none else
  match iK (v2,(x.2.2.1,(IntKind.i64.wrap (Int.tdiv x.2.2.2.2.2.2.2.2.1 x.2.2.2.1.2.1)),(Int.tmod x.2.2.2.2.2.2.2.2.1 x.2.2.2.1.2.1),((0:Int),(0:Int),(0:Int),(0:Int),false,()),()),())with
  |none=>none
  |some v3=>
  match(v3.1 != (0:Int))with
  |true=>
   some (.inr (.inr (false,())))
  |false=>
   some (.inl ((x.1.1,x.1.2.1,x.1.2.2.1,x.1.2.2.2.1,()),(IntKind.i64.wrap (x.2.1+(1:Int))),x.2.2.1,(x.2.2.2.1.1,x.2.2.2.1.2.1,x.2.2.2.1.2.2.1,()),x.2.2.2.2.1,x.2.2.2.2.2.1,x.2.2.2.2.2.2.1,x.2.2.2.2.2.2.2.1,(IntKind.i64.wrap (x.2.2.2.2.2.2.2.2.1+(1:Int))),()))
|false=>
 some (.inr (.inl ((x.1.1,x.1.2.1,x.1.2.2.1,x.1.2.2.2.1,()),x.2.1,x.2.2.2.2.1,x.2.2.2.2.2.1,x.2.2.2.2.2.2.1,())))
abbrev abg:Ty:=agv
abbrev acF:Ty:=aeR
noncomputable def dq(x:(Ty.T abg)):Option ((Ty.T abg) ⊕ ((Ty.T acF) ⊕ (Ty.T ae))):=
match(decide (x.2.2.2.2.1<x.2.2.2.1))with
|true=>
 aa (aq x.2.2.1 x.2.2.2.2.1) fun v1=>
 match ag dZ ((x.1.1,x.1.2.1,x.1.2.2.1,x.1.2.2.2.1,()),x.2.1,x.2.2.2.2.1,(v1.1,v1.2.1,v1.2.2.1,()),x.2.2.1,x.2.2.2.1,x.2.2.2.2.1,(IntKind.i64.wrap (v1.1*v1.2.1)),(0:Int),())with
 |none=>none
 |some (.inl v2)=>
  some (.inl ((v2.1.1,v2.1.2.1,v2.1.2.2.1,v2.1.2.2.2.1,()),v2.2.1,v2.2.2.1,v2.2.2.2.1,(IntKind.i64.wrap (v2.2.2.2.2.1+(1:Int))),()))
 |some (.inr v3)=>
  some (.inr (.inr (v3.1,())))
|false=>
 some (.inr (.inl ((x.1.1,x.1.2.1,x.1.2.2.1,x.1.2.2.2.1,()),x.2.1,())))
noncomputable def mc(x:Ty.T abA):Option (Ty.T ae):=
match ag dq ((x.1.1,x.1.2.1,x.1.2.2.1,x.1.2.2.2.1,()),(0:Int),x.1.2.2.1,(x.1.2.2.1.length:Int),(0:Int),())with
|none=>none
|some (.inl v4)=>
 some ((v4.2.1==(v4.1.2.2.2.1.length:Int)),())
|some (.inr v5)=>
 some (v5.1,())
noncomputable def L2:Spec:=⟨_,ae,.unit,rfl,mc⟩
noncomputable def pK:FuncId→Option Spec:=bh [(257,ov)]
theorem FG:∀f s,pK f=some s→FnOK G0 Tryz.prog f s:=aF ⟨tm,trivial⟩
def u9:aO:=⟨[1,3,8,9,10],abg,0,[1,3],acF,[2],ae⟩
def va:aO:=⟨[1,3,4,5,8,9,10,19,20],abf,2,[1,3,8,9,10],acE,[2],ae⟩
noncomputable def pL:List ay:=[u9.spec dq,va.spec dZ]
theorem DF:bc bd E0 pK (ba Tryz.f206 pL) Tryz.f206 0 u9 dq:=fun x=>by kernel_rfl
theorem DG:bc bd E0 pK (ba Tryz.f206 pL) Tryz.f206 1 va dZ:=fun x=>by kernel_rfl
theorem JQ:FnOK G0 Tryz.prog 206 L2:=aH ao FG Tryz.func206 pL (by kernel_rfl) (by exact⟨(DF).lok,(DG).lok,trivial⟩) fun x=>by kernel_rfl
abbrev GT:Ty:=(.pair (.list aj) (.pair (.fn (.pair aj .unit) (.pair .bool .unit)) an))
noncomputable def b8(x:(Ty.T GT)):Option ((Ty.T GT) ⊕ ((Ty.T .unit) ⊕ (Ty.T et))):=
match(decide (x.2.2.2.1<x.2.2.1))with
|true=>
 aa (aq x.1 x.2.2.2.1) fun v1=>
 match x.2.1 (v1,())with
 |none=>none
 |some v2=>
 match v2.1 with
 |true=>
  some (.inr (.inr (x.2.2.2.1,())))
 |false=>
  some (.inl (x.1,x.2.1,x.2.2.1,(IntKind.i64.wrap (x.2.2.2.1+(1:Int))),()))
|false=>
 some (.inr (.inl (())))
noncomputable def cW(x:Ty.T agB):Option (Ty.T et):=
match ag b8 (x.1,x.2.1,(x.1.length:Int),(0:Int),())with
|none=>none
|some (.inl v3)=>
 some ((-1:Int),())
|some (.inr v4)=>
 some (v4.1,())
noncomputable def rK:Spec:=⟨_,et,.unit,rfl,cW⟩
noncomputable def kk:FuncId→Option Spec:=bh []
theorem pM:∀f s,kk f=some s→FnOK G0 Tryz.prog f s:=aF trivial
def jU:aO:=⟨[0,1,7,8],GT,0,[],.unit,[4],et⟩
noncomputable def kl:List ay:=[jU.spec b8]
theorem pj:bc bd E0 kk (ba Tryz.f199 kl) Tryz.f199 0 jU b8:=fun x=>by kernel_rfl
theorem km:FnOK G0 Tryz.prog 199 rK:=aH ao pM Tryz.func199 kl (by kernel_rfl) (by exact⟨(pj).lok,trivial⟩) fun x=>by kernel_rfl
noncomputable def cd(x:Ty.T agB):Option (Ty.T ae):=
match cW (x.1,x.2.1,())with
|none=>none
|some v1=>
some ((decide (v1.1≥(0:Int))),())
noncomputable def pN:Spec:=⟨_,ae,.unit,rfl,cd⟩
theorem pk:FnOK G0 Tryz.prog 207 pN:=ap ao (sg km (aJ)) Tryz.func207
noncomputable def pO(x:Ty.T (.pair aj (.pair (.ptr (.int .i64)) (.pair (.ptr (.int .i64)) (.pair (.ptr (.int .i64)) .unit))))):Option (Ty.T ae):=
match(x.1.1==x.2.1)with
|true=>
 match(x.1.2.1==x.2.2.1)with
 |true=>
  some ((x.1.2.2.1==x.2.2.2.1),())
 |false=>
  some (false,())
|false=>
 some (false,())
noncomputable def L3:Spec:=⟨_,ae,.unit,rfl,pO⟩
theorem JR:FnOK G0 Tryz.prog 200 L3:=ap ao aJ Tryz.func200
noncomputable def mQ(x:Ty.T agn):Option (Ty.T et):=
match cW (x.1,(fun z=>pO (z.1,x.2.1,x.2.2.1,x.2.2.2.1,())),())with
|none=>none
|some v1=>
some (v1.1,())
noncomputable def DH:Spec:=⟨_,et,.unit,rfl,mQ⟩
theorem Bm:FnOK G0 Tryz.prog 139 DH:=ap ao (sg km (sg JR (aJ))) Tryz.func139
abbrev abI:Ty:=(.pair (.box ac) (.pair (.list aj) an))
noncomputable def gu(x:(Ty.T abI)):Option ((Ty.T abI) ⊕ ((Ty.T .unit) ⊕ (Ty.T ae))):=
match(decide (x.2.2.2.1<x.2.2.1))with
|true=>
 aa (aq x.2.1 x.2.2.2.1) fun v1=>
 aI (
  match mQ (x.1.2.2.2.1,v1.1,(0:Int),v1.2.2.1,())with
  |none=>none
  |some v2=>
  aa (aq x.1.2.2.2.1 v2.1) fun v3=>
  match(v1.2.2.2.1.2.2.2.1 != v3.2.2.2.1.2.2.2.1)with
  |true=>
   some (.inr (.inr (false,())))
  |false=>
   some (.inl ((x.1.1,x.1.2.1,x.1.2.2.1,x.1.2.2.2.1,()),x.2.1,x.2.2.1,(IntKind.i64.wrap (x.2.2.2.1+(1:Int))),())))
|false=>
 some (.inr (.inl (())))
noncomputable def pP(x:Ty.T abA):Option (Ty.T ae):=
match ag gu ((x.1.1,x.1.2.1,x.1.2.2.1,x.1.2.2.2.1,()),x.1.2.2.2.1,(x.1.2.2.2.1.length:Int),(0:Int),())with
|none=>none
|some (.inl v4)=>
 some (true,())
|some (.inr v5)=>
 some (v5.1,())
noncomputable def Qe:Spec:=⟨_,ae,.unit,rfl,pP⟩
noncomputable def Bo:FuncId→Option Spec:=bh [(139,DH)]
theorem JS:∀f s,Bo f=some s→FnOK G0 Tryz.prog f s:=aF ⟨Bm,trivial⟩
def yD:aO:=⟨[1,7,8,9],abI,0,[],.unit,[2],ae⟩
noncomputable def Bp:List ay:=[yD.spec gu]
theorem HW:bc bd E0 Bo (ba Tryz.f208 Bp) Tryz.f208 0 yD gu:=fun x=>by kernel_rfl
theorem Od:FnOK G0 Tryz.prog 208 Qe:=aH ao JS Tryz.func208 Bp (by kernel_rfl) (by exact⟨(HW).lok,trivial⟩) fun x=>by kernel_rfl
abbrev aaW:Ty:=(.pair (.int .i64) (.pair (.list aj) an))
noncomputable def d4(x:(Ty.T aaW)):Option ((Ty.T aaW) ⊕ ((Ty.T et) ⊕ (Ty.T .unit))):=
match(decide (x.2.2.2.1<x.2.2.1))with
|true=>
 aa (aq x.2.1 x.2.2.2.1) fun v1=>
 some (.inl ((IntKind.i64.wrap (x.1+v1.2.2.2.1.2.2.2.1)),x.2.1,x.2.2.1,(IntKind.i64.wrap (x.2.2.2.1+(1:Int))),()))
|false=>
 some (.inr (.inl (x.1,())))
noncomputable def mR(x:Ty.T aeg):Option (Ty.T et):=
match ag d4 ((0:Int),x.1,(x.1.length:Int),(0:Int),())with
|none=>none
|some (.inl v2)=>
 some (v2.1,())
|some (.inr v4)=>
 none
noncomputable def vd:Spec:=⟨_,et,.unit,rfl,mR⟩
noncomputable def tp:FuncId→Option Spec:=bh []
theorem Cz:∀f s,tp f=some s→FnOK G0 Tryz.prog f s:=aF trivial
def rL:aO:=⟨[3,6,7,8],aaW,0,[3],et,[],.unit⟩
noncomputable def tq:List ay:=[rL.spec d4]
theorem Ai:bc bd E0 tp (ba Tryz.f258 tq) Tryz.f258 0 rL d4:=fun x=>by kernel_rfl
theorem FH:FnOK G0 Tryz.prog 258 vd:=aH ao Cz Tryz.func258 tq (by kernel_rfl) (by exact⟨(Ai).lok,trivial⟩) fun x=>by kernel_rfl
end Go.Proofs.YtkgcbbkodalfmaaGreatDoor
