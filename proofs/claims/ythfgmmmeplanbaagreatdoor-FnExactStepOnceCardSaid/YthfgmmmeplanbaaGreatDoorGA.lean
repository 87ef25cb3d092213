import Derived.Test.YthfgmmmeplanbaaGreatDoorSho
import Derived.Test.YthfgmmmeplanbaaGreatDoorDelW
import Derived.Test.YthfgmmmeplanbaaGreatDoorInsW
import Derived.Test.YthfgmmmeplanbaaGreatDoorLibS
import Derived.Test.YthfgmmmeplanbaaGreatDoorRepW
import Derived.Test.YthfgmmmeplanbaaGreatDoorSh
import Derived.Test.YthfgmmmeplanbaaGreatDoorTdW
import Derived.Test.YthfgmmmeplanbaaGreatDoorTrW
import Derived.Test.YthfgmmmeplanbaaGreatDoorProg
import Derived.KernelRfl
namespace Go.Proofs.YthfgmmmeplanbaaGreatDoor
open Go.RowKit
set_option linter.unusedVariables false
abbrev Ta:Ty:=(.pair .str (.pair (.int .u64) .unit))
abbrev ag:Ty:=(.pair (.int .i64) (.pair (.list (.pair (.int .i64) (.pair .str (.pair (.int .i64) (.pair .bool .unit))))) (.pair (.list (.pair (.int .i64) (.pair (.int .i64) (.pair (.list (.int .i64)) .unit)))) (.pair (.list (.pair (.int .i64) (.pair (.int .i64) (.pair (.int .i64) (.pair (.pair (.int .i64) (.pair (.int .i64) (.pair (.int .i64) (.pair (.int .i64) (.pair .bool .unit))))) .unit))))) .unit))))
abbrev ab:Ty:=(.pair (.int .i64) (.pair (.int .i64) (.pair (.int .i64) (.pair (.int .i64) (.pair (.int .i64) .unit)))))
abbrev aG:Ty:=(.pair (.int .i64) (.pair (.int .i64) (.pair ab (.pair (.list (.int .i64)) .unit))))
abbrev ba:Ty:=(.pair (.int .i64) (.pair aG .unit))
abbrev aH:Ty:=(.pair (.int .i64) (.pair (.int .i64) (.pair (.list (.pair (.int .i64) (.pair (.int .i64) (.pair (.int .i64) (.pair (.int .i64) .unit))))) (.pair (.list (.pair (.int .i64) (.pair (.int .i64) (.pair (.int .i64) (.pair (.int .i64) .unit))))) .unit))))
abbrev al:Ty:=(.pair (.int .i64) (.pair (.int .i64) (.pair (.int .i64) (.pair (.int .i64) .unit))))
abbrev aZ:Ty:=(.pair (.int .i64) (.pair (.int .i64) (.pair (.int .i64) (.pair (.int .i64) (.pair .bool .unit)))))
abbrev VE:Ty:=(.pair ab (.pair (.int .i64) (.pair (.int .i64) .unit)))
abbrev aj:Ty:=(.pair (.int .i64) (.pair .str (.pair (.int .i64) (.pair .bool .unit))))
abbrev ao:Ty:=(.pair (.int .i64) (.pair (.int .i64) (.pair (.list (.int .i64)) .unit)))
abbrev ae:Ty:=(.pair (.int .i64) (.pair (.int .i64) (.pair (.int .i64) (.pair aZ .unit))))
abbrev ly:Ty:=(.pair (.int .i64) (.pair (.list (.int .i64)) (.pair (.int .i64) .unit)))
abbrev ak:Ty:=(.pair (.int .i64) (.pair (.int .i64) .unit))
abbrev dg:Ty:=(.pair (.list (.int .i64)) (.pair (.int .i64) (.pair (.list (.int .i64)) .unit)))
abbrev W7:Ty:=(.pair (.int .u8) (.pair (.int .u8) .unit))
abbrev W8:Ty:=(.pair (.int .i64) (.pair (.int .i64) (.pair .bool (.pair (.int .u8) .unit))))
def aS:co:=[(2,(.int .i64)),(3,(.int .i64)),(4,.bool),(5,(.int .u8)),(9,.str),(22,(.list aj)),(23,(.list ao)),(24,(.list ae)),(26,ag),(28,ab),(29,(.list (.int .i64))),(32,(.list al)),(36,ab),(38,aG),(40,ba),(43,(.list aj)),(44,(.list ao)),(45,(.list ae)),(47,ag),(51,(.list al)),(66,(.list aH)),(71,aH),(76,aH),(105,al),(107,al),(124,aZ),(134,aj),(137,ao),(143,aj),(145,ao),(148,ae),(150,aZ),(152,ae),(181,(.list (.int .u8))),(189,(.int .u64)),(227,(.list (.list (.int .i64)))),(236,ly),(246,ak),(255,dg)]
def E0:bA:=[(22,134),(23,137),(24,152),(29,2),(32,107),(43,143),(44,145),(45,148),(51,105),(66,76),(181,5),(227,29)]
theorem ah:bZ Tryz.prog aS E0=true:=by kernel_rfl
def W9:co:=[(2,(.int .i64)),(22,(.list aj)),(23,(.list ao)),(24,(.list ae)),(26,ag),(29,(.list (.int .i64))),(43,(.list aj)),(44,(.list (.pair (.int .i64) (.pair (.int .i64) (.pair (.own 2 (.int .i64)) .unit))))),(45,(.list ae)),(47,ag),(137,ao),(145,ao)]
def E1:bA:=[(23,137),(44,145)]
theorem Ss:bZ Tryz.prog W9 E1=true:=by kernel_rfl
abbrev G0:Gl:=Gl.none
noncomputable def su(x:Ty.T (.pair aj (.pair (.int .i64) .unit))):Option (Ty.T (.pair (.int .i64) .unit)):=
match(decide ((IntKind.i64.wrap (x.2.1-(x.1.2.1.length:Int)))<(0:Int)))with
|true=>
 some ((-1:Int),())
|false=>
 some ((IntKind.i64.wrap (x.2.1-(x.1.2.1.length:Int))),())
noncomputable def wb:Spec:=⟨_,(.pair (.int .i64) .unit),.unit,rfl,su⟩
theorem G8:FnOK G0 Tryz.prog 84 wb:=ai ah az Tryz.func84
noncomputable def fm(x:(Ty.T (.pair (.list aj) ak))):Option ((Ty.T (.pair (.list aj) ak)) ⊕ ((Ty.T (.pair (.int .i64) .unit)) ⊕ (Ty.T (.pair (.int .i64) .unit)))):=
match(decide (x.2.2.1<(x.1.length:Int)))with
|true=>
 aa (aw x.1 x.2.2.1) fun v1=>
 match su (v1,x.2.1,())with
 |none=>none
 |some v2=>
 match(decide (v2.1<(0:Int)))with
 |true=>
  some (.inr (.inr ((-1:Int),())))
 |false=>
  some (.inl (x.1,v2.1,(IntKind.i64.wrap (x.2.2.1+(1:Int))),()))
|false=>
 some (.inr (.inl (x.2.1,())))
noncomputable def my(x:Ty.T (.pair (.list aj) (.pair (.int .i64) .unit))):Option (Ty.T (.pair (.int .i64) .unit)):=
match(decide ((IntKind.i64.wrap (x.2.1-(x.1.length:Int)))<(0:Int)))with
|true=>
 some ((-1:Int),())
|false=>
 match ac fm (x.1,(IntKind.i64.wrap (x.2.1-(x.1.length:Int))),(0:Int),())with
 |none=>none
 |some (.inl v3)=>
  some (v3.1,())
 |some (.inr v4)=>
  some (v4.1,())
noncomputable def G9:Spec:=⟨_,(.pair (.int .i64) .unit),.unit,rfl,my⟩
noncomputable def sv:FuncId→Option Spec:=a8 [(84,wb)]
theorem A8:∀f s,sv f=some s→FnOK G0 Tryz.prog f s:=au ⟨G8,trivial⟩
def qJ:aF:=⟨[0,1,5],(.pair (.list aj) ak),0,[1],(.pair (.int .i64) .unit),[4],(.pair (.int .i64) .unit)⟩
noncomputable def sx:List ar:=[qJ.spec fm]
theorem Ab:aX aS E0 sv (aW Tryz.f49 sx) Tryz.f49 0 qJ fm:=fun x=>by kernel_rfl
theorem Fc:FnOK G0 Tryz.prog 49 G9:=ax ah A8 Tryz.func49 sx (by kernel_rfl) (by exact⟨(Ab).lok,trivial⟩) fun x=>by kernel_rfl
noncomputable def rE(x:Ty.T (.pair (.list (.int .i64)) (.pair (.int .i64) .unit))):Option (Ty.T (.pair (.int .i64) .unit)):=
match(decide ((IntKind.i64.wrap (x.2.1-(x.1.length:Int)))<(0:Int)))with
|true=>
 some ((-1:Int),())
|false=>
 some ((IntKind.i64.wrap (x.2.1-(x.1.length:Int))),())
noncomputable def NR:Spec:=⟨_,(.pair (.int .i64) .unit),.unit,rfl,rE⟩
theorem LV:FnOK G0 Tryz.prog 52 NR:=ai ah az Tryz.func52
noncomputable def sy(x:Ty.T (.pair ao (.pair (.int .i64) .unit))):Option (Ty.T (.pair (.int .i64) .unit)):=
match rE (x.1.2.2.1,x.2.1,())with
|none=>none
|some v1=>
match(decide (v1.1<(0:Int)))with
|true=>
 some ((-1:Int),())
|false=>
 some (v1.1,())
noncomputable def wc:Spec:=⟨_,(.pair (.int .i64) .unit),.unit,rfl,sy⟩
theorem Ha:FnOK G0 Tryz.prog 85 wc:=ai ah (sg LV (az)) Tryz.func85
noncomputable def fo(x:(Ty.T (.pair (.list ao) ak))):Option ((Ty.T (.pair (.list ao) ak)) ⊕ ((Ty.T (.pair (.int .i64) .unit)) ⊕ (Ty.T (.pair (.int .i64) .unit)))):=
match(decide (x.2.2.1<(x.1.length:Int)))with
|true=>
 aa (aw x.1 x.2.2.1) fun v1=>
 match sy (v1,x.2.1,())with
 |none=>none
 |some v2=>
 match(decide (v2.1<(0:Int)))with
 |true=>
  some (.inr (.inr ((-1:Int),())))
 |false=>
  some (.inl (x.1,v2.1,(IntKind.i64.wrap (x.2.2.1+(1:Int))),()))
|false=>
 some (.inr (.inl (x.2.1,())))
noncomputable def mz(x:Ty.T (.pair (.list ao) (.pair (.int .i64) .unit))):Option (Ty.T (.pair (.int .i64) .unit)):=
match(decide ((IntKind.i64.wrap (x.2.1-(x.1.length:Int)))<(0:Int)))with
|true=>
 some ((-1:Int),())
|false=>
 match ac fo (x.1,(IntKind.i64.wrap (x.2.1-(x.1.length:Int))),(0:Int),())with
 |none=>none
 |some (.inl v3)=>
  some (v3.1,())
 |some (.inr v4)=>
  some (v4.1,())
noncomputable def Hb:Spec:=⟨_,(.pair (.int .i64) .unit),.unit,rfl,mz⟩
noncomputable def sz:FuncId→Option Spec:=a8 [(85,wc)]
theorem A9:∀f s,sz f=some s→FnOK G0 Tryz.prog f s:=au ⟨Ha,trivial⟩
def qK:aF:=⟨[0,1,5],(.pair (.list ao) ak),0,[1],(.pair (.int .i64) .unit),[4],(.pair (.int .i64) .unit)⟩
noncomputable def sA:List ar:=[qK.spec fo]
theorem Ac:aX aS E0 sz (aW Tryz.f50 sA) Tryz.f50 0 qK fo:=fun x=>by kernel_rfl
theorem Fd:FnOK G0 Tryz.prog 50 Hb:=ax ah A9 Tryz.func50 sA (by kernel_rfl) (by exact⟨(Ac).lok,trivial⟩) fun x=>by kernel_rfl
noncomputable def mA(x:Ty.T (.pair (.list ae) (.pair (.int .i64) .unit))):Option (Ty.T (.pair (.int .i64) .unit)):=
match(decide ((IntKind.i64.wrap (x.2.1-(x.1.length:Int)))<(0:Int)))with
|true=>
 some ((-1:Int),())
|false=>
 some ((IntKind.i64.wrap (x.2.1-(x.1.length:Int))),())
noncomputable def Hd:Spec:=⟨_,(.pair (.int .i64) .unit),.unit,rfl,mA⟩
theorem Fe:FnOK G0 Tryz.prog 51 Hd:=ai ah az Tryz.func51
noncomputable def o7(x:Ty.T (.pair ag (.pair (.int .i64) .unit))):Option (Ty.T (.pair (.int .i64) .unit)):=
match my (x.1.2.1,x.2.1,())with
|none=>none
|some v1=>
match(decide (v1.1<(0:Int)))with
|true=>
 some ((-1:Int),())
|false=>
 match mz (x.1.2.2.1,v1.1,())with
 |none=>none
 |some v2=>
 match(decide (v2.1<(0:Int)))with
 |true=>
  some ((-1:Int),())
 |false=>
  match mA (x.1.2.2.2.1,v2.1,())with
  |none=>none
  |some v3=>
  match(decide (v3.1<(0:Int)))with
  |true=>
   some ((-1:Int),())
  |false=>
   some (v3.1,())
noncomputable def He:Spec:=⟨_,(.pair (.int .i64) .unit),.unit,rfl,o7⟩
theorem PR:FnOK G0 Tryz.prog 8 He:=ai ah (sg Fc (sg Fd (sg Fe (az)))) Tryz.func8
noncomputable def sB(x:Ty.T (.pair aj .unit)):Option (Ty.T (.pair aj .unit)):=
some (x.1,())
noncomputable def wd:Spec:=⟨_,(.pair aj .unit),.unit,rfl,sB⟩
theorem Hf:FnOK G0 Tryz.prog 91 wd:=ai ah az Tryz.func91
noncomputable def fp(x:(Ty.T (.pair (.list aj) (.pair (.own 143 aj) (.pair (.int .i64) .unit))))):Option ((Ty.T (.pair (.list aj) (.pair (.own 143 aj) (.pair (.int .i64) .unit)))) ⊕ ((Ty.T (.pair (.own 143 aj) .unit)) ⊕ (Ty.T .unit))):=
match(decide (x.2.2.1<(x.1.length:Int)))with
|true=>
 aa (aw x.1 x.2.2.1) fun v1=>
 match sB (v1,())with
 |none=>none
 |some v2=>
 aa (aw x.2.1 x.2.2.1) fun _=>
 match x.2.1[x.2.2.1.toNat]? with
 |none=>none
 |some v4=>
 some (.inl (x.1,(x.2.1.set x.2.2.1.toNat v2.1),(IntKind.i64.wrap (x.2.2.1+(1:Int))),()))
|false=>
 some (.inr (.inl (x.2.1,())))
noncomputable def jU(x:Ty.T (.pair (.list aj) .unit)):Option (Ty.T (.pair (.own 143 aj) .unit)):=
if 0≤(x.1.length:Int)∧(x.1.length:Int)≤(x.1.length:Int)then
 a7 ((x.1.length:Int).toNat) (
  match ac fp (x.1,(List.replicate (x.1.length:Int).toNat ((0:Int),[],(0:Int),false,())),(0:Int),())with
  |none=>none
  |some (.inl v5)=>
   some (v5.1,())
  |some (.inr v7)=>
   none)
else none
noncomputable def Hg:Spec:=⟨_,(.pair (.own 143 aj) .unit),.unit,rfl,jU⟩
noncomputable def sC:FuncId→Option Spec:=a8 [(91,wd)]
theorem Ba:∀f s,sC f=some s→FnOK G0 Tryz.prog f s:=au ⟨Hf,trivial⟩
def qL:aF:=⟨[0,3,4],(.pair (.list aj) (.pair (.own 143 aj) (.pair (.int .i64) .unit))),0,[3],(.pair (.own 143 aj) .unit),[],.unit⟩
noncomputable def sD:List ar:=[qL.spec fp]
theorem Ad:aX aS E0 sC (aW Tryz.f55 sD) Tryz.f55 0 qL fp:=fun x=>by kernel_rfl
theorem Ff:FnOK G0 Tryz.prog 55 Hg:=ax ah Ba Tryz.func55 sD (by kernel_rfl) (by exact⟨(Ad).lok,trivial⟩) fun x=>by kernel_rfl
noncomputable def gS(x:(Ty.T (.pair (.list (.int .i64)) (.pair (.own 2 (.int .i64)) (.pair (.int .i64) .unit))))):Option ((Ty.T (.pair (.list (.int .i64)) (.pair (.own 2 (.int .i64)) (.pair (.int .i64) .unit)))) ⊕ ((Ty.T (.pair (.own 2 (.int .i64)) .unit)) ⊕ (Ty.T .unit))):=
match(decide (x.2.2.1<(x.1.length:Int)))with
|true=>
 aa (aw x.1 x.2.2.1) fun v1=>
 aa (aw x.2.1 x.2.2.1) fun _=>
 match x.2.1[x.2.2.1.toNat]? with
 |none=>none
 |some v3=>
 some (.inl (x.1,(x.2.1.set x.2.2.1.toNat v1),(IntKind.i64.wrap (x.2.2.1+(1:Int))),()))
|false=>
 some (.inr (.inl (x.2.1,())))
noncomputable def nQ(x:Ty.T (.pair (.list (.int .i64)) .unit)):Option (Ty.T (.pair (.own 2 (.int .i64)) .unit)):=
if 0≤(x.1.length:Int)∧(x.1.length:Int)≤(x.1.length:Int)then
 a7 ((x.1.length:Int).toNat) (
  match ac gS (x.1,(List.replicate (x.1.length:Int).toNat (0:Int)),(0:Int),())with
  |none=>none
  |some (.inl v4)=>
   some (v4.1,())
  |some (.inr v6)=>
   none)
else none
noncomputable def NS:Spec:=⟨_,(.pair (.own 2 (.int .i64)) .unit),.unit,rfl,nQ⟩
noncomputable def yV:FuncId→Option Spec:=a8 []
theorem Hh:∀f s,yV f=some s→FnOK G0 Tryz.prog f s:=au trivial
def we:aF:=⟨[0,3,4],(.pair (.list (.int .i64)) (.pair (.own 2 (.int .i64)) (.pair (.int .i64) .unit))),0,[3],(.pair (.own 2 (.int .i64)) .unit),[],.unit⟩
noncomputable def yW:List ar:=[we.spec gS]
theorem Fg:aX aS E0 yV (aW Tryz.f58 yW) Tryz.f58 0 we gS:=fun x=>by kernel_rfl
theorem LW:FnOK G0 Tryz.prog 58 NS:=ax ah Hh Tryz.func58 yW (by kernel_rfl) (by exact⟨(Fg).lok,trivial⟩) fun x=>by kernel_rfl
noncomputable def nR(x:Ty.T (.pair ao .unit)):Option (Ty.T (.pair (.pair (.int .i64) (.pair (.int .i64) (.pair (.own 2 (.int .i64)) .unit))) .unit)):=
match nQ (x.1.2.2.1,())with
|none=>none
|some v1=>
some ((x.1.1,x.1.2.1,v1.1,()),())
noncomputable def wg:Spec:=⟨_,(.pair (.pair (.int .i64) (.pair (.int .i64) (.pair (.own 2 (.int .i64)) .unit))) .unit),.unit,rfl,nR⟩
theorem Hi:FnOK G0 Tryz.prog 92 wg:=ai ah (sg LW (az)) Tryz.func92
noncomputable def fq(x:(Ty.T (.pair (.list ao) (.pair (.own 145 (.pair (.int .i64) (.pair (.int .i64) (.pair (.own 2 (.int .i64)) .unit)))) (.pair (.int .i64) .unit))))):Option ((Ty.T (.pair (.list ao) (.pair (.own 145 (.pair (.int .i64) (.pair (.int .i64) (.pair (.own 2 (.int .i64)) .unit)))) (.pair (.int .i64) .unit)))) ⊕ ((Ty.T (.pair (.own 145 (.pair (.int .i64) (.pair (.int .i64) (.pair (.own 2 (.int .i64)) .unit)))) .unit)) ⊕ (Ty.T .unit))):=
match(decide (x.2.2.1<(x.1.length:Int)))with
|true=>
 aa (aw x.1 x.2.2.1) fun v1=>
 match nR (v1,())with
 |none=>none
 |some v2=>
 aa (aw x.2.1 x.2.2.1) fun _=>
 match x.2.1[x.2.2.1.toNat]? with
 |none=>none
 |some v4=>
 some (.inl (x.1,(x.2.1.set x.2.2.1.toNat v2.1),(IntKind.i64.wrap (x.2.2.1+(1:Int))),()))
|false=>
 some (.inr (.inl (x.2.1,())))
noncomputable def jV(x:Ty.T (.pair (.list ao) .unit)):Option (Ty.T (.pair (.own 145 (.pair (.int .i64) (.pair (.int .i64) (.pair (.own 2 (.int .i64)) .unit)))) .unit)):=
if 0≤(x.1.length:Int)∧(x.1.length:Int)≤(x.1.length:Int)then
 a7 ((x.1.length:Int).toNat) (
  match ac fq (x.1,(List.replicate (x.1.length:Int).toNat ((0:Int),(0:Int),[],())),(0:Int),())with
  |none=>none
  |some (.inl v5)=>
   some (v5.1,())
  |some (.inr v7)=>
   none)
else none
noncomputable def Hj:Spec:=⟨_,(.pair (.own 145 (.pair (.int .i64) (.pair (.int .i64) (.pair (.own 2 (.int .i64)) .unit)))) .unit),.unit,rfl,jV⟩
noncomputable def sE:FuncId→Option Spec:=a8 [(92,wg)]
theorem Bb:∀f s,sE f=some s→FnOK G0 Tryz.prog f s:=au ⟨Hi,trivial⟩
def qM:aF:=⟨[0,3,4],(.pair (.list ao) (.pair (.own 145 (.pair (.int .i64) (.pair (.int .i64) (.pair (.own 2 (.int .i64)) .unit)))) (.pair (.int .i64) .unit))),0,[3],(.pair (.own 145 (.pair (.int .i64) (.pair (.int .i64) (.pair (.own 2 (.int .i64)) .unit)))) .unit),[],.unit⟩
noncomputable def sF:List ar:=[qM.spec fq]
theorem Ae:aX W9 E1 sE (aW Tryz.f56 sF) Tryz.f56 0 qM fq:=fun x=>by kernel_rfl
theorem Fh:FnOK G0 Tryz.prog 56 Hj:=ax Ss Bb Tryz.func56 sF (by kernel_rfl) (by exact⟨(Ae).lok,trivial⟩) fun x=>by kernel_rfl
noncomputable def o8(x:Ty.T (.pair aZ .unit)):Option (Ty.T (.pair aZ .unit)):=
some (x.1,())
noncomputable def Fi:Spec:=⟨_,(.pair aZ .unit),.unit,rfl,o8⟩
theorem Ds:FnOK G0 Tryz.prog 129 Fi:=ai ah az Tryz.func129
noncomputable def sG(x:Ty.T (.pair ae .unit)):Option (Ty.T (.pair ae .unit)):=
match o8 (x.1.2.2.2.1,())with
|none=>none
|some v1=>
some ((x.1.1,x.1.2.1,x.1.2.2.1,v1.1,()),())
noncomputable def wh:Spec:=⟨_,(.pair ae .unit),.unit,rfl,sG⟩
theorem Hk:FnOK G0 Tryz.prog 93 wh:=ai ah (sg Ds (az)) Tryz.func93
noncomputable def fu(x:(Ty.T (.pair (.list ae) (.pair (.own 148 ae) (.pair (.int .i64) .unit))))):Option ((Ty.T (.pair (.list ae) (.pair (.own 148 ae) (.pair (.int .i64) .unit)))) ⊕ ((Ty.T (.pair (.own 148 ae) .unit)) ⊕ (Ty.T .unit))):=
match(decide (x.2.2.1<(x.1.length:Int)))with
|true=>
 aa (aw x.1 x.2.2.1) fun v1=>
 match sG (v1,())with
 |none=>none
 |some v2=>
 aa (aw x.2.1 x.2.2.1) fun _=>
 match x.2.1[x.2.2.1.toNat]? with
 |none=>none
 |some v4=>
 some (.inl (x.1,(x.2.1.set x.2.2.1.toNat v2.1),(IntKind.i64.wrap (x.2.2.1+(1:Int))),()))
|false=>
 some (.inr (.inl (x.2.1,())))
noncomputable def jW(x:Ty.T (.pair (.list ae) .unit)):Option (Ty.T (.pair (.own 148 ae) .unit)):=
if 0≤(x.1.length:Int)∧(x.1.length:Int)≤(x.1.length:Int)then
 a7 ((x.1.length:Int).toNat) (
  match ac fu (x.1,(List.replicate (x.1.length:Int).toNat ((0:Int),(0:Int),(0:Int),((0:Int),(0:Int),(0:Int),(0:Int),false,()),())),(0:Int),())with
  |none=>none
  |some (.inl v5)=>
   some (v5.1,())
  |some (.inr v7)=>
   none)
else none
noncomputable def Hl:Spec:=⟨_,(.pair (.own 148 ae) .unit),.unit,rfl,jW⟩
noncomputable def sH:FuncId→Option Spec:=a8 [(93,wh)]
theorem Bc:∀f s,sH f=some s→FnOK G0 Tryz.prog f s:=au ⟨Hk,trivial⟩
def qN:aF:=⟨[0,3,4],(.pair (.list ae) (.pair (.own 148 ae) (.pair (.int .i64) .unit))),0,[3],(.pair (.own 148 ae) .unit),[],.unit⟩
noncomputable def sI:List ar:=[qN.spec fu]
theorem Af:aX aS E0 sH (aW Tryz.f57 sI) Tryz.f57 0 qN fu:=fun x=>by kernel_rfl
theorem Fj:FnOK G0 Tryz.prog 57 Hl:=ax ah Bc Tryz.func57 sI (by kernel_rfl) (by exact⟨(Af).lok,trivial⟩) fun x=>by kernel_rfl
noncomputable def g6(x:Ty.T (.pair ag .unit)):Option (Ty.T (.pair (.pair (.int .i64) (.pair (.own 143 aj) (.pair (.own 145 (.pair (.int .i64) (.pair (.int .i64) (.pair (.own 2 (.int .i64)) .unit)))) (.pair (.own 148 ae) .unit)))) .unit)):=
match jU (x.1.2.1,())with
|none=>none
|some v1=>
match jV (x.1.2.2.1,())with
|none=>none
|some v2=>
match jW (x.1.2.2.2.1,())with
|none=>none
|some v3=>
some ((x.1.1,v1.1,v2.1,v3.1,()),())
noncomputable def Hm:Spec:=⟨_,(.pair (.pair (.int .i64) (.pair (.own 143 aj) (.pair (.own 145 (.pair (.int .i64) (.pair (.int .i64) (.pair (.own 2 (.int .i64)) .unit)))) (.pair (.own 148 ae) .unit)))) .unit),.unit,rfl,g6⟩
theorem PS:FnOK G0 Tryz.prog 12 Hm:=ai Ss (sg Ff (sg Fh (sg Fj (az)))) Tryz.func12
noncomputable def cq(x:Ty.T (.pair ab .unit)):Option (Ty.T (.pair ab .unit)):=
some (x.1,())
noncomputable def Ef:Spec:=⟨_,(.pair ab .unit),.unit,rfl,cq⟩
theorem NT:FnOK G0 Tryz.prog 13 Ef:=ai ah az Tryz.func13
noncomputable def gQ(x:Ty.T (.pair ab (.pair ab .unit))):Option (Ty.T (.pair .bool .unit)):=
match(x.1.1 != x.2.1.1)with
|true=>
 some (false,())
|false=>
 match(x.1.2.1 != x.2.1.2.1)with
 |true=>
  some (false,())
 |false=>
  match(x.1.2.2.1 != x.2.1.2.2.1)with
  |true=>
   some (false,())
  |false=>
   match(x.1.2.2.2.1 != x.2.1.2.2.2.1)with
   |true=>
    some (false,())
   |false=>
    match(x.1.2.2.2.2.1 != x.2.1.2.2.2.2.1)with
    |true=>
     some (false,())
    |false=>
     some (true,())
noncomputable def Eg:Spec:=⟨_,(.pair .bool .unit),.unit,rfl,gQ⟩
theorem Bd:FnOK G0 Tryz.prog 35 Eg:=ai ah az Tryz.func35
noncomputable def gT(x:(Ty.T (.pair (.list (.int .i64)) (.pair (.list (.int .i64)) (.pair (.int .i64) .unit))))):Option ((Ty.T (.pair (.list (.int .i64)) (.pair (.list (.int .i64)) (.pair (.int .i64) .unit)))) ⊕ ((Ty.T .unit) ⊕ (Ty.T (.pair .bool .unit)))):=
match(decide (x.2.2.1<(x.1.length:Int)))with
|true=>
 aa (aw x.1 x.2.2.1) fun v1=>
 aa (aw x.2.1 x.2.2.1) fun v2=>
 match(v1 != v2)with
 |true=>
  some (.inr (.inr (false,())))
 |false=>
  some (.inl (x.1,x.2.1,(IntKind.i64.wrap (x.2.2.1+(1:Int))),()))
|false=>
 some (.inr (.inl (())))
noncomputable def jJ(x:Ty.T (.pair (.list (.int .i64)) (.pair (.list (.int .i64)) .unit))):Option (Ty.T (.pair .bool .unit)):=
match((x.1.length:Int) != (x.2.1.length:Int))with
|true=>
 some (false,())
|false=>
 match ac gT (x.1,x.2.1,(0:Int),())with
 |none=>none
 |some (.inl v3)=>
  some (true,())
 |some (.inr v4)=>
  some (v4.1,())
noncomputable def NU:Spec:=⟨_,(.pair .bool .unit),.unit,rfl,jJ⟩
noncomputable def yX:FuncId→Option Spec:=a8 []
theorem Hn:∀f s,yX f=some s→FnOK G0 Tryz.prog f s:=au trivial
def wi:aF:=⟨[0,1,5],(.pair (.list (.int .i64)) (.pair (.list (.int .i64)) (.pair (.int .i64) .unit))),0,[],.unit,[4],(.pair .bool .unit)⟩
noncomputable def yY:List ar:=[wi.spec gT]
theorem Fk:aX aS E0 yX (aW Tryz.f65 yY) Tryz.f65 0 wi gT:=fun x=>by kernel_rfl
theorem yZ:FnOK G0 Tryz.prog 65 NU:=ax ah Hn Tryz.func65 yY (by kernel_rfl) (by exact⟨(Fk).lok,trivial⟩) fun x=>by kernel_rfl
noncomputable def pJ(x:Ty.T (.pair aG (.pair aG .unit))):Option (Ty.T (.pair .bool .unit)):=
match(x.1.1 != x.2.1.1)with
|true=>
 some (false,())
|false=>
 match(x.1.2.1 != x.2.1.2.1)with
 |true=>
  some (false,())
 |false=>
  match gQ (x.1.2.2.1,x.2.1.2.2.1,())with
  |none=>none
  |some v1=>
  match(!v1.1)with
  |true=>
   some (false,())
  |false=>
   match jJ (x.1.2.2.2.1,x.2.1.2.2.2.1,())with
   |none=>none
   |some v2=>
   match(!v2.1)with
   |true=>
    some (false,())
   |false=>
    some (true,())
noncomputable def PT:Spec:=⟨_,(.pair .bool .unit),.unit,rfl,pJ⟩
theorem NV:FnOK G0 Tryz.prog 19 PT:=ai ah (sg Bd (sg yZ (az))) Tryz.func19
noncomputable def kq(x:Ty.T (.pair ba (.pair ba .unit))):Option (Ty.T (.pair .bool .unit)):=
match(x.1.1 != x.2.1.1)with
|true=>
 some (false,())
|false=>
 match pJ (x.1.2.1,x.2.1.2.1,())with
 |none=>none
 |some v1=>
 match(!v1.1)with
 |true=>
  some (false,())
 |false=>
  some (true,())
noncomputable def y3:Spec:=⟨_,(.pair .bool .unit),.unit,rfl,kq⟩
theorem JW:FnOK G0 Tryz.prog 17 y3:=ai ah (sg NV (az)) Tryz.func17
noncomputable def nS(x:Ty.T (.pair aj (.pair aj .unit))):Option (Ty.T (.pair .bool .unit)):=
match(x.1.1 != x.2.1.1)with
|true=>
 some (false,())
|false=>
 match(!(x.1.2.1==x.2.1.2.1))with
 |true=>
  some (false,())
 |false=>
  match(x.1.2.2.1 != x.2.1.2.2.1)with
  |true=>
   some (false,())
  |false=>
   match(x.1.2.2.2.1 != x.2.1.2.2.2.1)with
   |true=>
    some (false,())
   |false=>
    some (true,())
noncomputable def wj:Spec:=⟨_,(.pair .bool .unit),.unit,rfl,nS⟩
theorem Ho:FnOK G0 Tryz.prog 99 wj:=ai ah az Tryz.func99
noncomputable def fv(x:(Ty.T (.pair (.list aj) (.pair (.list aj) (.pair (.int .i64) .unit))))):Option ((Ty.T (.pair (.list aj) (.pair (.list aj) (.pair (.int .i64) .unit)))) ⊕ ((Ty.T .unit) ⊕ (Ty.T (.pair .bool .unit)))):=
match(decide (x.2.2.1<(x.1.length:Int)))with
|true=>
 aa (aw x.1 x.2.2.1) fun v1=>
 aa (aw x.2.1 x.2.2.1) fun v2=>
 match nS (v1,v2,())with
 |none=>none
 |some v3=>
 match(!v3.1)with
 |true=>
  some (.inr (.inr (false,())))
 |false=>
  some (.inl (x.1,x.2.1,(IntKind.i64.wrap (x.2.2.1+(1:Int))),()))
|false=>
 some (.inr (.inl (())))
noncomputable def jX(x:Ty.T (.pair (.list aj) (.pair (.list aj) .unit))):Option (Ty.T (.pair .bool .unit)):=
match((x.1.length:Int) != (x.2.1.length:Int))with
|true=>
 some (false,())
|false=>
 match ac fv (x.1,x.2.1,(0:Int),())with
 |none=>none
 |some (.inl v4)=>
  some (true,())
 |some (.inr v5)=>
  some (v5.1,())
noncomputable def Hp:Spec:=⟨_,(.pair .bool .unit),.unit,rfl,jX⟩
noncomputable def sJ:FuncId→Option Spec:=a8 [(99,wj)]
theorem Be:∀f s,sJ f=some s→FnOK G0 Tryz.prog f s:=au ⟨Ho,trivial⟩
def qO:aF:=⟨[0,1,5],(.pair (.list aj) (.pair (.list aj) (.pair (.int .i64) .unit))),0,[],.unit,[4],(.pair .bool .unit)⟩
noncomputable def sK:List ar:=[qO.spec fv]
theorem Ag:aX aS E0 sJ (aW Tryz.f62 sK) Tryz.f62 0 qO fv:=fun x=>by kernel_rfl
theorem Fl:FnOK G0 Tryz.prog 62 Hp:=ax ah Be Tryz.func62 sK (by kernel_rfl) (by exact⟨(Ag).lok,trivial⟩) fun x=>by kernel_rfl
noncomputable def nT(x:Ty.T (.pair ao (.pair ao .unit))):Option (Ty.T (.pair .bool .unit)):=
match(x.1.1 != x.2.1.1)with
|true=>
 some (false,())
|false=>
 match(x.1.2.1 != x.2.1.2.1)with
 |true=>
  some (false,())
 |false=>
  match jJ (x.1.2.2.1,x.2.1.2.2.1,())with
  |none=>none
  |some v1=>
  match(!v1.1)with
  |true=>
   some (false,())
  |false=>
   some (true,())
noncomputable def wk:Spec:=⟨_,(.pair .bool .unit),.unit,rfl,nT⟩
theorem Hq:FnOK G0 Tryz.prog 100 wk:=ai ah (sg yZ (az)) Tryz.func100
noncomputable def fw(x:(Ty.T (.pair (.list ao) (.pair (.list ao) (.pair (.int .i64) .unit))))):Option ((Ty.T (.pair (.list ao) (.pair (.list ao) (.pair (.int .i64) .unit)))) ⊕ ((Ty.T .unit) ⊕ (Ty.T (.pair .bool .unit)))):=
match(decide (x.2.2.1<(x.1.length:Int)))with
|true=>
 aa (aw x.1 x.2.2.1) fun v1=>
 aa (aw x.2.1 x.2.2.1) fun v2=>
 match nT (v1,v2,())with
 |none=>none
 |some v3=>
 match(!v3.1)with
 |true=>
  some (.inr (.inr (false,())))
 |false=>
  some (.inl (x.1,x.2.1,(IntKind.i64.wrap (x.2.2.1+(1:Int))),()))
|false=>
 some (.inr (.inl (())))
noncomputable def jY(x:Ty.T (.pair (.list ao) (.pair (.list ao) .unit))):Option (Ty.T (.pair .bool .unit)):=
match((x.1.length:Int) != (x.2.1.length:Int))with
|true=>
 some (false,())
|false=>
 match ac fw (x.1,x.2.1,(0:Int),())with
 |none=>none
 |some (.inl v4)=>
  some (true,())
 |some (.inr v5)=>
  some (v5.1,())
noncomputable def Hr:Spec:=⟨_,(.pair .bool .unit),.unit,rfl,jY⟩
noncomputable def sL:FuncId→Option Spec:=a8 [(100,wk)]
theorem Bf:∀f s,sL f=some s→FnOK G0 Tryz.prog f s:=au ⟨Hq,trivial⟩
def qP:aF:=⟨[0,1,5],(.pair (.list ao) (.pair (.list ao) (.pair (.int .i64) .unit))),0,[],.unit,[4],(.pair .bool .unit)⟩
noncomputable def sM:List ar:=[qP.spec fw]
theorem Ah:aX aS E0 sL (aW Tryz.f63 sM) Tryz.f63 0 qP fw:=fun x=>by kernel_rfl
theorem Fm:FnOK G0 Tryz.prog 63 Hr:=ax ah Bf Tryz.func63 sM (by kernel_rfl) (by exact⟨(Ah).lok,trivial⟩) fun x=>by kernel_rfl
noncomputable def lz(x:Ty.T (.pair aZ (.pair aZ .unit))):Option (Ty.T (.pair .bool .unit)):=
match(x.1.1 != x.2.1.1)with
|true=>
 some (false,())
|false=>
 match(x.1.2.1 != x.2.1.2.1)with
 |true=>
  some (false,())
 |false=>
  match(x.1.2.2.1 != x.2.1.2.2.1)with
  |true=>
   some (false,())
  |false=>
   match(x.1.2.2.2.1 != x.2.1.2.2.2.1)with
   |true=>
    some (false,())
   |false=>
    match(x.1.2.2.2.2.1 != x.2.1.2.2.2.2.1)with
    |true=>
     some (false,())
    |false=>
     some (true,())
noncomputable def Fo:Spec:=⟨_,(.pair .bool .unit),.unit,rfl,lz⟩
theorem Dt:FnOK G0 Tryz.prog 141 Fo:=ai ah az Tryz.func141
noncomputable def nU(x:Ty.T (.pair ae (.pair ae .unit))):Option (Ty.T (.pair .bool .unit)):=
match(x.1.1 != x.2.1.1)with
|true=>
 some (false,())
|false=>
 match(x.1.2.1 != x.2.1.2.1)with
 |true=>
  some (false,())
 |false=>
  match(x.1.2.2.1 != x.2.1.2.2.1)with
  |true=>
   some (false,())
  |false=>
   match lz (x.1.2.2.2.1,x.2.1.2.2.2.1,())with
   |none=>none
   |some v1=>
   match(!v1.1)with
   |true=>
    some (false,())
   |false=>
    some (true,())
noncomputable def wl:Spec:=⟨_,(.pair .bool .unit),.unit,rfl,nU⟩
theorem Hs:FnOK G0 Tryz.prog 101 wl:=ai ah (sg Dt (az)) Tryz.func101
noncomputable def fx(x:(Ty.T (.pair (.list ae) (.pair (.list ae) (.pair (.int .i64) .unit))))):Option ((Ty.T (.pair (.list ae) (.pair (.list ae) (.pair (.int .i64) .unit)))) ⊕ ((Ty.T .unit) ⊕ (Ty.T (.pair .bool .unit)))):=
match(decide (x.2.2.1<(x.1.length:Int)))with
|true=>
 aa (aw x.1 x.2.2.1) fun v1=>
 aa (aw x.2.1 x.2.2.1) fun v2=>
 match nU (v1,v2,())with
 |none=>none
 |some v3=>
 match(!v3.1)with
 |true=>
  some (.inr (.inr (false,())))
 |false=>
  some (.inl (x.1,x.2.1,(IntKind.i64.wrap (x.2.2.1+(1:Int))),()))
|false=>
 some (.inr (.inl (())))
noncomputable def jZ(x:Ty.T (.pair (.list ae) (.pair (.list ae) .unit))):Option (Ty.T (.pair .bool .unit)):=
match((x.1.length:Int) != (x.2.1.length:Int))with
|true=>
 some (false,())
|false=>
 match ac fx (x.1,x.2.1,(0:Int),())with
 |none=>none
 |some (.inl v4)=>
  some (true,())
 |some (.inr v5)=>
  some (v5.1,())
noncomputable def Ht:Spec:=⟨_,(.pair .bool .unit),.unit,rfl,jZ⟩
noncomputable def sN:FuncId→Option Spec:=a8 [(101,wl)]
theorem Bg:∀f s,sN f=some s→FnOK G0 Tryz.prog f s:=au ⟨Hs,trivial⟩
def qQ:aF:=⟨[0,1,5],(.pair (.list ae) (.pair (.list ae) (.pair (.int .i64) .unit))),0,[],.unit,[4],(.pair .bool .unit)⟩
noncomputable def sO:List ar:=[qQ.spec fx]
theorem Ai:aX aS E0 sN (aW Tryz.f64 sO) Tryz.f64 0 qQ fx:=fun x=>by kernel_rfl
theorem Fp:FnOK G0 Tryz.prog 64 Ht:=ax ah Bg Tryz.func64 sO (by kernel_rfl) (by exact⟨(Ai).lok,trivial⟩) fun x=>by kernel_rfl
noncomputable def x9(x:Ty.T (.pair ag (.pair ag .unit))):Option (Ty.T (.pair .bool .unit)):=
match(x.1.1 != x.2.1.1)with
|true=>
 some (false,())
|false=>
 match jX (x.1.2.1,x.2.1.2.1,())with
 |none=>none
 |some v1=>
 match(!v1.1)with
 |true=>
  some (false,())
 |false=>
  match jY (x.1.2.2.1,x.2.1.2.2.1,())with
  |none=>none
  |some v2=>
  match(!v2.1)with
  |true=>
   some (false,())
  |false=>
   match jZ (x.1.2.2.2.1,x.2.1.2.2.2.1,())with
   |none=>none
   |some v3=>
   match(!v3.1)with
   |true=>
    some (false,())
   |false=>
    some (true,())
noncomputable def Hu:Spec:=⟨_,(.pair .bool .unit),.unit,rfl,x9⟩
theorem PU:FnOK G0 Tryz.prog 18 Hu:=ai ah (sg Fl (sg Fm (sg Fp (az)))) Tryz.func18
noncomputable def jk(x:(Ty.T (.pair (.int .i64) (.pair .str .unit)))):Option ((Ty.T (.pair (.int .i64) (.pair .str .unit))) ⊕ ((Ty.T (.pair .str .unit)) ⊕ (Ty.T .unit))):=
match(decide (x.1>(0:Int)))with
|true=>
 a7 ((List.map (fun n=>UInt8.ofNat (Int.toNat n)) ([(IntKind.u8.wrap (IntKind.i64.wrap ((48:Int)+(Int.tmod x.1 (10:Int)))))]:List Int)).length+x.2.1.length) (
  some (.inl ((IntKind.i64.wrap (Int.tdiv x.1 (10:Int))),((List.map (fun n=>UInt8.ofNat (Int.toNat n)) ([(IntKind.u8.wrap (IntKind.i64.wrap ((48:Int)+(Int.tmod x.1 (10:Int)))))]:List Int))++x.2.1),())))
|false=>
 some (.inr (.inl (x.2.1,())))
noncomputable def rF(x:Ty.T (.pair (.int .i64) .unit)):Option (Ty.T (.pair .str .unit)):=
match(decide (x.1≤(0:Int)))with
|true=>
 some (([109,48]:List UInt8),())
|false=>
 match ac jk (x.1,[],())with
 |none=>none
 |some (.inl v1)=>
  a7 (([109]:List UInt8).length+v1.1.length) (
   some ((([109]:List UInt8)++v1.1),()))
 |some (.inr v3)=>
  none
noncomputable def Bh:Spec:=⟨_,(.pair .str .unit),.unit,rfl,rF⟩
noncomputable def y4:FuncId→Option Spec:=a8 []
theorem Hv:∀f s,y4 f=some s→FnOK G0 Tryz.prog f s:=au trivial
def wm:aF:=⟨[0,3],(.pair (.int .i64) (.pair .str .unit)),0,[3],(.pair .str .unit),[],.unit⟩
noncomputable def y5:List ar:=[wm.spec jk]
theorem Fq:aX aS E0 y4 (aW Tryz.f102 y5) Tryz.f102 0 wm jk:=fun x=>by kernel_rfl
theorem LX:FnOK G0 Tryz.prog 102 Bh:=ax ah Hv Tryz.func102 y5 (by kernel_rfl) (by exact⟨(Fq).lok,trivial⟩) fun x=>by kernel_rfl
noncomputable def di(x:(Ty.T (.pair (.own 143 aj) ak))):Option ((Ty.T (.pair (.own 143 aj) ak)) ⊕ ((Ty.T (.pair (.own 143 aj) (.pair (.int .i64) .unit))) ⊕ (Ty.T .unit))):=
match(decide (x.2.2.1<(x.1.length:Int)))with
|true=>
 aa (aw x.1 x.2.2.1) fun _=>
 match x.1[x.2.2.1.toNat]? with
 |none=>none
 |some v2=>
 match rF ((IntKind.i64.wrap (x.2.1+(1:Int))),())with
 |none=>none
 |some v3=>
 aa (aw (x.1.set x.2.2.1.toNat (x.2.1,v2.2.1,v2.2.2.1,v2.2.2.2.1,())) x.2.2.1) fun _=>
 match(x.1.set x.2.2.1.toNat (x.2.1,v2.2.1,v2.2.2.1,v2.2.2.2.1,()))[x.2.2.1.toNat]? with
 |none=>none
 |some v5=>
 aa (aw ((x.1.set x.2.2.1.toNat (x.2.1,v2.2.1,v2.2.2.1,v2.2.2.2.1,())).set x.2.2.1.toNat (v5.1,v3.1,v5.2.2.1,v5.2.2.2.1,())) x.2.2.1) fun _=>
 match((x.1.set x.2.2.1.toNat (x.2.1,v2.2.1,v2.2.2.1,v2.2.2.2.1,())).set x.2.2.1.toNat (v5.1,v3.1,v5.2.2.1,v5.2.2.2.1,()))[x.2.2.1.toNat]? with
 |none=>none
 |some v7=>
 aa (aw (((x.1.set x.2.2.1.toNat (x.2.1,v2.2.1,v2.2.2.1,v2.2.2.2.1,())).set x.2.2.1.toNat (v5.1,v3.1,v5.2.2.1,v5.2.2.2.1,())).set x.2.2.1.toNat (v7.1,v7.2.1,(IntKind.i64.wrap ((IntKind.i64.wrap (x.2.1+(1:Int)))+(1:Int))),v7.2.2.2.1,())) x.2.2.1) fun _=>
 match(((x.1.set x.2.2.1.toNat (x.2.1,v2.2.1,v2.2.2.1,v2.2.2.2.1,())).set x.2.2.1.toNat (v5.1,v3.1,v5.2.2.1,v5.2.2.2.1,())).set x.2.2.1.toNat (v7.1,v7.2.1,(IntKind.i64.wrap ((IntKind.i64.wrap (x.2.1+(1:Int)))+(1:Int))),v7.2.2.2.1,()))[x.2.2.1.toNat]? with
 |none=>none
 |some v9=>
 some (.inl (((((x.1.set x.2.2.1.toNat (x.2.1,v2.2.1,v2.2.2.1,v2.2.2.2.1,())).set x.2.2.1.toNat (v5.1,v3.1,v5.2.2.1,v5.2.2.2.1,())).set x.2.2.1.toNat (v7.1,v7.2.1,(IntKind.i64.wrap ((IntKind.i64.wrap (x.2.1+(1:Int)))+(1:Int))),v7.2.2.2.1,())).set x.2.2.1.toNat (v9.1,v9.2.1,v9.2.2.1,((Int.tmod (IntKind.i64.wrap ((IntKind.i64.wrap ((IntKind.i64.wrap (x.2.1+(1:Int)))+(1:Int)))+(1:Int))) (3:Int))==(0:Int)),())),(IntKind.i64.wrap ((IntKind.i64.wrap ((IntKind.i64.wrap ((IntKind.i64.wrap (x.2.1+(1:Int)))+(1:Int)))+(1:Int)))+(1:Int))),(IntKind.i64.wrap (x.2.2.1+(1:Int))),()))
|false=>
 some (.inr (.inl (x.1,x.2.1,())))
noncomputable def kw(x:Ty.T (.pair (.own 143 aj) (.pair (.int .i64) .unit))):Option (Ty.T (.pair (.int .i64) (.pair (.own 143 aj) .unit))):=
match ac di (x.1,x.2.1,(0:Int),())with
|none=>none
|some (.inl v10)=>
 some (v10.2.1,v10.1,())
|some (.inr v12)=>
 none
noncomputable def Du:Spec:=⟨_,(.pair (.int .i64) .unit),(.pair (.own 143 aj) .unit),rfl,kw⟩
noncomputable def pK:FuncId→Option Spec:=a8 [(102,Bh)]
theorem ya:∀f s,pK f=some s→FnOK G0 Tryz.prog f s:=au ⟨LX,trivial⟩
def oO:aF:=⟨[0,1,5],(.pair (.own 143 aj) ak),0,[0,1],(.pair (.own 143 aj) (.pair (.int .i64) .unit)),[],.unit⟩
noncomputable def pL:List ar:=[oO.spec di]
theorem wn:aX aS E0 pK (aW Tryz.f67 pL) Tryz.f67 0 oO di:=fun x=>by kernel_rfl
theorem Bi:FnOK G0 Tryz.prog 67 Du:=ax ah ya Tryz.func67 pL (by kernel_rfl) (by exact⟨(wn).lok,trivial⟩) fun x=>by kernel_rfl
noncomputable def fK(x:(Ty.T (.pair (.own 2 (.int .i64)) ak))):Option ((Ty.T (.pair (.own 2 (.int .i64)) ak)) ⊕ ((Ty.T (.pair (.own 2 (.int .i64)) (.pair (.int .i64) .unit))) ⊕ (Ty.T .unit))):=
match(decide (x.2.2.1<(x.1.length:Int)))with
|true=>
 aa (aw x.1 x.2.2.1) fun _=>
 match x.1[x.2.2.1.toNat]? with
 |none=>none
 |some v2=>
 some (.inl ((x.1.set x.2.2.1.toNat x.2.1),(IntKind.i64.wrap (x.2.1+(1:Int))),(IntKind.i64.wrap (x.2.2.1+(1:Int))),()))
|false=>
 some (.inr (.inl (x.1,x.2.1,())))
noncomputable def g7(x:Ty.T (.pair (.own 2 (.int .i64)) (.pair (.int .i64) .unit))):Option (Ty.T (.pair (.int .i64) (.pair (.own 2 (.int .i64)) .unit))):=
match ac fK (x.1,x.2.1,(0:Int),())with
|none=>none
|some (.inl v3)=>
 some (v3.2.1,v3.1,())
|some (.inr v5)=>
 none
noncomputable def wo:Spec:=⟨_,(.pair (.int .i64) .unit),(.pair (.own 2 (.int .i64)) .unit),rfl,g7⟩
noncomputable def uv:FuncId→Option Spec:=a8 []
theorem Dv:∀f s,uv f=some s→FnOK G0 Tryz.prog f s:=au trivial
def sP:aF:=⟨[0,1,5],(.pair (.own 2 (.int .i64)) ak),0,[0,1],(.pair (.own 2 (.int .i64)) (.pair (.int .i64) .unit)),[],.unit⟩
noncomputable def uw:List ar:=[sP.spec fK]
theorem Bj:aX aS E0 uv (aW Tryz.f70 uw) Tryz.f70 0 sP fK:=fun x=>by kernel_rfl
theorem ux:FnOK G0 Tryz.prog 70 wo:=ax ah Dv Tryz.func70 uw (by kernel_rfl) (by exact⟨(Bj).lok,trivial⟩) fun x=>by kernel_rfl
noncomputable def dj(x:(Ty.T (.pair (.own 145 (.pair (.int .i64) (.pair (.int .i64) (.pair (.own 2 (.int .i64)) .unit)))) ak))):Option ((Ty.T (.pair (.own 145 (.pair (.int .i64) (.pair (.int .i64) (.pair (.own 2 (.int .i64)) .unit)))) ak)) ⊕ ((Ty.T (.pair (.own 145 (.pair (.int .i64) (.pair (.int .i64) (.pair (.own 2 (.int .i64)) .unit)))) (.pair (.int .i64) .unit))) ⊕ (Ty.T .unit))):=
match(decide (x.2.2.1<(x.1.length:Int)))with
|true=>
 aa (aw x.1 x.2.2.1) fun _=>
 match x.1[x.2.2.1.toNat]? with
 |none=>none
 |some v2=>
 aa (aw (x.1.set x.2.2.1.toNat (x.2.1,v2.2)) x.2.2.1) fun _=>
 match(x.1.set x.2.2.1.toNat (x.2.1,v2.2))[x.2.2.1.toNat]? with
 |none=>none
 |some v4=>
 aa (aw ((x.1.set x.2.2.1.toNat (x.2.1,v2.2)).set x.2.2.1.toNat (v4.1,((IntKind.i64.wrap (x.2.1+(1:Int))),v4.2.2))) x.2.2.1) fun _=>
 match((x.1.set x.2.2.1.toNat (x.2.1,v2.2)).set x.2.2.1.toNat (v4.1,((IntKind.i64.wrap (x.2.1+(1:Int))),v4.2.2)))[x.2.2.1.toNat]? with
 |none=>none
 |some v6=>
 match g7 (v6.2.2.1,(IntKind.i64.wrap ((IntKind.i64.wrap (x.2.1+(1:Int)))+(1:Int))),())with
 |none=>none
 |some v7=>
 some (.inl ((((x.1.set x.2.2.1.toNat (x.2.1,v2.2)).set x.2.2.1.toNat (v4.1,((IntKind.i64.wrap (x.2.1+(1:Int))),v4.2.2))).set x.2.2.1.toNat (v6.1,(v6.2.1,(v7.2.1,v6.2.2.2)))),v7.1,(IntKind.i64.wrap (x.2.2.1+(1:Int))),()))
|false=>
 some (.inr (.inl (x.1,x.2.1,())))
noncomputable def kx(x:Ty.T (.pair (.own 145 (.pair (.int .i64) (.pair (.int .i64) (.pair (.own 2 (.int .i64)) .unit)))) (.pair (.int .i64) .unit))):Option (Ty.T (.pair (.int .i64) (.pair (.own 145 (.pair (.int .i64) (.pair (.int .i64) (.pair (.own 2 (.int .i64)) .unit)))) .unit))):=
match ac dj (x.1,x.2.1,(0:Int),())with
|none=>none
|some (.inl v8)=>
 some (v8.2.1,v8.1,())
|some (.inr v10)=>
 none
noncomputable def Dw:Spec:=⟨_,(.pair (.int .i64) .unit),(.pair (.own 145 (.pair (.int .i64) (.pair (.int .i64) (.pair (.own 2 (.int .i64)) .unit)))) .unit),rfl,kx⟩
noncomputable def pM:FuncId→Option Spec:=a8 [(70,wo)]
theorem yb:∀f s,pM f=some s→FnOK G0 Tryz.prog f s:=au ⟨ux,trivial⟩
def oP:aF:=⟨[0,1,5],(.pair (.own 145 (.pair (.int .i64) (.pair (.int .i64) (.pair (.own 2 (.int .i64)) .unit)))) ak),0,[0,1],(.pair (.own 145 (.pair (.int .i64) (.pair (.int .i64) (.pair (.own 2 (.int .i64)) .unit)))) (.pair (.int .i64) .unit)),[],.unit⟩
noncomputable def pN:List ar:=[oP.spec dj]
theorem wq:aX W9 E1 pM (aW Tryz.f68 pN) Tryz.f68 0 oP dj:=fun x=>by kernel_rfl
theorem Bk:FnOK G0 Tryz.prog 68 Dw:=ax Ss yb Tryz.func68 pN (by kernel_rfl) (by exact⟨(wq).lok,trivial⟩) fun x=>by kernel_rfl
noncomputable def dk(x:(Ty.T (.pair (.own 148 ae) ak))):Option ((Ty.T (.pair (.own 148 ae) ak)) ⊕ ((Ty.T (.pair (.own 148 ae) (.pair (.int .i64) .unit))) ⊕ (Ty.T .unit))):=
match(decide (x.2.2.1<(x.1.length:Int)))with
|true=>
 aa (aw x.1 x.2.2.1) fun _=>
 match x.1[x.2.2.1.toNat]? with
 |none=>none
 |some v2=>
 aa (aw (x.1.set x.2.2.1.toNat (x.2.1,v2.2.1,v2.2.2.1,v2.2.2.2.1,())) x.2.2.1) fun _=>
 match(x.1.set x.2.2.1.toNat (x.2.1,v2.2.1,v2.2.2.1,v2.2.2.2.1,()))[x.2.2.1.toNat]? with
 |none=>none
 |some v4=>
 aa (aw ((x.1.set x.2.2.1.toNat (x.2.1,v2.2.1,v2.2.2.1,v2.2.2.2.1,())).set x.2.2.1.toNat (v4.1,(IntKind.i64.wrap (x.2.1+(1:Int))),v4.2.2.1,v4.2.2.2.1,())) x.2.2.1) fun _=>
 match((x.1.set x.2.2.1.toNat (x.2.1,v2.2.1,v2.2.2.1,v2.2.2.2.1,())).set x.2.2.1.toNat (v4.1,(IntKind.i64.wrap (x.2.1+(1:Int))),v4.2.2.1,v4.2.2.2.1,()))[x.2.2.1.toNat]? with
 |none=>none
 |some v6=>
 aa (aw (((x.1.set x.2.2.1.toNat (x.2.1,v2.2.1,v2.2.2.1,v2.2.2.2.1,())).set x.2.2.1.toNat (v4.1,(IntKind.i64.wrap (x.2.1+(1:Int))),v4.2.2.1,v4.2.2.2.1,())).set x.2.2.1.toNat (v6.1,v6.2.1,(IntKind.i64.wrap ((IntKind.i64.wrap (x.2.1+(1:Int)))+(1:Int))),v6.2.2.2.1,())) x.2.2.1) fun _=>
 match(((x.1.set x.2.2.1.toNat (x.2.1,v2.2.1,v2.2.2.1,v2.2.2.2.1,())).set x.2.2.1.toNat (v4.1,(IntKind.i64.wrap (x.2.1+(1:Int))),v4.2.2.1,v4.2.2.2.1,())).set x.2.2.1.toNat (v6.1,v6.2.1,(IntKind.i64.wrap ((IntKind.i64.wrap (x.2.1+(1:Int)))+(1:Int))),v6.2.2.2.1,()))[x.2.2.1.toNat]? with
 |none=>none
 |some v8=>
 aa (aw ((((x.1.set x.2.2.1.toNat (x.2.1,v2.2.1,v2.2.2.1,v2.2.2.2.1,())).set x.2.2.1.toNat (v4.1,(IntKind.i64.wrap (x.2.1+(1:Int))),v4.2.2.1,v4.2.2.2.1,())).set x.2.2.1.toNat (v6.1,v6.2.1,(IntKind.i64.wrap ((IntKind.i64.wrap (x.2.1+(1:Int)))+(1:Int))),v6.2.2.2.1,())).set x.2.2.1.toNat (v8.1,v8.2.1,v8.2.2.1,((IntKind.i64.wrap ((IntKind.i64.wrap ((IntKind.i64.wrap (x.2.1+(1:Int)))+(1:Int)))+(1:Int))),v8.2.2.2.1.2.1,v8.2.2.2.1.2.2.1,v8.2.2.2.1.2.2.2.1,v8.2.2.2.1.2.2.2.2.1,()),())) x.2.2.1) fun _=>
 match((((x.1.set x.2.2.1.toNat (x.2.1,v2.2.1,v2.2.2.1,v2.2.2.2.1,())).set x.2.2.1.toNat (v4.1,(IntKind.i64.wrap (x.2.1+(1:Int))),v4.2.2.1,v4.2.2.2.1,())).set x.2.2.1.toNat (v6.1,v6.2.1,(IntKind.i64.wrap ((IntKind.i64.wrap (x.2.1+(1:Int)))+(1:Int))),v6.2.2.2.1,())).set x.2.2.1.toNat (v8.1,v8.2.1,v8.2.2.1,((IntKind.i64.wrap ((IntKind.i64.wrap ((IntKind.i64.wrap (x.2.1+(1:Int)))+(1:Int)))+(1:Int))),v8.2.2.2.1.2.1,v8.2.2.2.1.2.2.1,v8.2.2.2.1.2.2.2.1,v8.2.2.2.1.2.2.2.2.1,()),()))[x.2.2.1.toNat]? with
 |none=>none
 |some v10=>
 aa (aw (((((x.1.set x.2.2.1.toNat (x.2.1,v2.2.1,v2.2.2.1,v2.2.2.2.1,())).set x.2.2.1.toNat (v4.1,(IntKind.i64.wrap (x.2.1+(1:Int))),v4.2.2.1,v4.2.2.2.1,())).set x.2.2.1.toNat (v6.1,v6.2.1,(IntKind.i64.wrap ((IntKind.i64.wrap (x.2.1+(1:Int)))+(1:Int))),v6.2.2.2.1,())).set x.2.2.1.toNat (v8.1,v8.2.1,v8.2.2.1,((IntKind.i64.wrap ((IntKind.i64.wrap ((IntKind.i64.wrap (x.2.1+(1:Int)))+(1:Int)))+(1:Int))),v8.2.2.2.1.2.1,v8.2.2.2.1.2.2.1,v8.2.2.2.1.2.2.2.1,v8.2.2.2.1.2.2.2.2.1,()),())).set x.2.2.1.toNat (v10.1,v10.2.1,v10.2.2.1,(v10.2.2.2.1.1,(IntKind.i64.wrap ((IntKind.i64.wrap ((IntKind.i64.wrap ((IntKind.i64.wrap (x.2.1+(1:Int)))+(1:Int)))+(1:Int)))+(1:Int))),v10.2.2.2.1.2.2.1,v10.2.2.2.1.2.2.2.1,v10.2.2.2.1.2.2.2.2.1,()),())) x.2.2.1) fun _=>
 match(((((x.1.set x.2.2.1.toNat (x.2.1,v2.2.1,v2.2.2.1,v2.2.2.2.1,())).set x.2.2.1.toNat (v4.1,(IntKind.i64.wrap (x.2.1+(1:Int))),v4.2.2.1,v4.2.2.2.1,())).set x.2.2.1.toNat (v6.1,v6.2.1,(IntKind.i64.wrap ((IntKind.i64.wrap (x.2.1+(1:Int)))+(1:Int))),v6.2.2.2.1,())).set x.2.2.1.toNat (v8.1,v8.2.1,v8.2.2.1,((IntKind.i64.wrap ((IntKind.i64.wrap ((IntKind.i64.wrap (x.2.1+(1:Int)))+(1:Int)))+(1:Int))),v8.2.2.2.1.2.1,v8.2.2.2.1.2.2.1,v8.2.2.2.1.2.2.2.1,v8.2.2.2.1.2.2.2.2.1,()),())).set x.2.2.1.toNat (v10.1,v10.2.1,v10.2.2.1,(v10.2.2.2.1.1,(IntKind.i64.wrap ((IntKind.i64.wrap ((IntKind.i64.wrap ((IntKind.i64.wrap (x.2.1+(1:Int)))+(1:Int)))+(1:Int)))+(1:Int))),v10.2.2.2.1.2.2.1,v10.2.2.2.1.2.2.2.1,v10.2.2.2.1.2.2.2.2.1,()),()))[x.2.2.1.toNat]? with
 |none=>none
 |some v12=>
 aa (aw ((((((x.1.set x.2.2.1.toNat (x.2.1,v2.2.1,v2.2.2.1,v2.2.2.2.1,())).set x.2.2.1.toNat (v4.1,(IntKind.i64.wrap (x.2.1+(1:Int))),v4.2.2.1,v4.2.2.2.1,())).set x.2.2.1.toNat (v6.1,v6.2.1,(IntKind.i64.wrap ((IntKind.i64.wrap (x.2.1+(1:Int)))+(1:Int))),v6.2.2.2.1,())).set x.2.2.1.toNat (v8.1,v8.2.1,v8.2.2.1,((IntKind.i64.wrap ((IntKind.i64.wrap ((IntKind.i64.wrap (x.2.1+(1:Int)))+(1:Int)))+(1:Int))),v8.2.2.2.1.2.1,v8.2.2.2.1.2.2.1,v8.2.2.2.1.2.2.2.1,v8.2.2.2.1.2.2.2.2.1,()),())).set x.2.2.1.toNat (v10.1,v10.2.1,v10.2.2.1,(v10.2.2.2.1.1,(IntKind.i64.wrap ((IntKind.i64.wrap ((IntKind.i64.wrap ((IntKind.i64.wrap (x.2.1+(1:Int)))+(1:Int)))+(1:Int)))+(1:Int))),v10.2.2.2.1.2.2.1,v10.2.2.2.1.2.2.2.1,v10.2.2.2.1.2.2.2.2.1,()),())).set x.2.2.1.toNat (v12.1,v12.2.1,v12.2.2.1,(v12.2.2.2.1.1,v12.2.2.2.1.2.1,(IntKind.i64.wrap ((IntKind.i64.wrap ((IntKind.i64.wrap ((IntKind.i64.wrap ((IntKind.i64.wrap (x.2.1+(1:Int)))+(1:Int)))+(1:Int)))+(1:Int)))+(1:Int))),v12.2.2.2.1.2.2.2.1,v12.2.2.2.1.2.2.2.2.1,()),())) x.2.2.1) fun _=>
 match((((((x.1.set x.2.2.1.toNat (x.2.1,v2.2.1,v2.2.2.1,v2.2.2.2.1,())).set x.2.2.1.toNat (v4.1,(IntKind.i64.wrap (x.2.1+(1:Int))),v4.2.2.1,v4.2.2.2.1,())).set x.2.2.1.toNat (v6.1,v6.2.1,(IntKind.i64.wrap ((IntKind.i64.wrap (x.2.1+(1:Int)))+(1:Int))),v6.2.2.2.1,())).set x.2.2.1.toNat (v8.1,v8.2.1,v8.2.2.1,((IntKind.i64.wrap ((IntKind.i64.wrap ((IntKind.i64.wrap (x.2.1+(1:Int)))+(1:Int)))+(1:Int))),v8.2.2.2.1.2.1,v8.2.2.2.1.2.2.1,v8.2.2.2.1.2.2.2.1,v8.2.2.2.1.2.2.2.2.1,()),())).set x.2.2.1.toNat (v10.1,v10.2.1,v10.2.2.1,(v10.2.2.2.1.1,(IntKind.i64.wrap ((IntKind.i64.wrap ((IntKind.i64.wrap ((IntKind.i64.wrap (x.2.1+(1:Int)))+(1:Int)))+(1:Int)))+(1:Int))),v10.2.2.2.1.2.2.1,v10.2.2.2.1.2.2.2.1,v10.2.2.2.1.2.2.2.2.1,()),())).set x.2.2.1.toNat (v12.1,v12.2.1,v12.2.2.1,(v12.2.2.2.1.1,v12.2.2.2.1.2.1,(IntKind.i64.wrap ((IntKind.i64.wrap ((IntKind.i64.wrap ((IntKind.i64.wrap ((IntKind.i64.wrap (x.2.1+(1:Int)))+(1:Int)))+(1:Int)))+(1:Int)))+(1:Int))),v12.2.2.2.1.2.2.2.1,v12.2.2.2.1.2.2.2.2.1,()),()))[x.2.2.1.toNat]? with
 |none=>none
 |some v14=>
 aa (aw (((((((x.1.set x.2.2.1.toNat (x.2.1,v2.2.1,v2.2.2.1,v2.2.2.2.1,())).set x.2.2.1.toNat (v4.1,(IntKind.i64.wrap (x.2.1+(1:Int))),v4.2.2.1,v4.2.2.2.1,())).set x.2.2.1.toNat (v6.1,v6.2.1,(IntKind.i64.wrap ((IntKind.i64.wrap (x.2.1+(1:Int)))+(1:Int))),v6.2.2.2.1,())).set x.2.2.1.toNat (v8.1,v8.2.1,v8.2.2.1,((IntKind.i64.wrap ((IntKind.i64.wrap ((IntKind.i64.wrap (x.2.1+(1:Int)))+(1:Int)))+(1:Int))),v8.2.2.2.1.2.1,v8.2.2.2.1.2.2.1,v8.2.2.2.1.2.2.2.1,v8.2.2.2.1.2.2.2.2.1,()),())).set x.2.2.1.toNat (v10.1,v10.2.1,v10.2.2.1,(v10.2.2.2.1.1,(IntKind.i64.wrap ((IntKind.i64.wrap ((IntKind.i64.wrap ((IntKind.i64.wrap (x.2.1+(1:Int)))+(1:Int)))+(1:Int)))+(1:Int))),v10.2.2.2.1.2.2.1,v10.2.2.2.1.2.2.2.1,v10.2.2.2.1.2.2.2.2.1,()),())).set x.2.2.1.toNat (v12.1,v12.2.1,v12.2.2.1,(v12.2.2.2.1.1,v12.2.2.2.1.2.1,(IntKind.i64.wrap ((IntKind.i64.wrap ((IntKind.i64.wrap ((IntKind.i64.wrap ((IntKind.i64.wrap (x.2.1+(1:Int)))+(1:Int)))+(1:Int)))+(1:Int)))+(1:Int))),v12.2.2.2.1.2.2.2.1,v12.2.2.2.1.2.2.2.2.1,()),())).set x.2.2.1.toNat (v14.1,v14.2.1,v14.2.2.1,(v14.2.2.2.1.1,v14.2.2.2.1.2.1,v14.2.2.2.1.2.2.1,(IntKind.i64.wrap ((IntKind.i64.wrap ((IntKind.i64.wrap ((IntKind.i64.wrap ((IntKind.i64.wrap ((IntKind.i64.wrap (x.2.1+(1:Int)))+(1:Int)))+(1:Int)))+(1:Int)))+(1:Int)))+(1:Int))),v14.2.2.2.1.2.2.2.2.1,()),())) x.2.2.1) fun _=>
 match(((((((x.1.set x.2.2.1.toNat (x.2.1,v2.2.1,v2.2.2.1,v2.2.2.2.1,())).set x.2.2.1.toNat (v4.1,(IntKind.i64.wrap (x.2.1+(1:Int))),v4.2.2.1,v4.2.2.2.1,())).set x.2.2.1.toNat (v6.1,v6.2.1,(IntKind.i64.wrap ((IntKind.i64.wrap (x.2.1+(1:Int)))+(1:Int))),v6.2.2.2.1,())).set x.2.2.1.toNat (v8.1,v8.2.1,v8.2.2.1,((IntKind.i64.wrap ((IntKind.i64.wrap ((IntKind.i64.wrap (x.2.1+(1:Int)))+(1:Int)))+(1:Int))),v8.2.2.2.1.2.1,v8.2.2.2.1.2.2.1,v8.2.2.2.1.2.2.2.1,v8.2.2.2.1.2.2.2.2.1,()),())).set x.2.2.1.toNat (v10.1,v10.2.1,v10.2.2.1,(v10.2.2.2.1.1,(IntKind.i64.wrap ((IntKind.i64.wrap ((IntKind.i64.wrap ((IntKind.i64.wrap (x.2.1+(1:Int)))+(1:Int)))+(1:Int)))+(1:Int))),v10.2.2.2.1.2.2.1,v10.2.2.2.1.2.2.2.1,v10.2.2.2.1.2.2.2.2.1,()),())).set x.2.2.1.toNat (v12.1,v12.2.1,v12.2.2.1,(v12.2.2.2.1.1,v12.2.2.2.1.2.1,(IntKind.i64.wrap ((IntKind.i64.wrap ((IntKind.i64.wrap ((IntKind.i64.wrap ((IntKind.i64.wrap (x.2.1+(1:Int)))+(1:Int)))+(1:Int)))+(1:Int)))+(1:Int))),v12.2.2.2.1.2.2.2.1,v12.2.2.2.1.2.2.2.2.1,()),())).set x.2.2.1.toNat (v14.1,v14.2.1,v14.2.2.1,(v14.2.2.2.1.1,v14.2.2.2.1.2.1,v14.2.2.2.1.2.2.1,(IntKind.i64.wrap ((IntKind.i64.wrap ((IntKind.i64.wrap ((IntKind.i64.wrap ((IntKind.i64.wrap ((IntKind.i64.wrap (x.2.1+(1:Int)))+(1:Int)))+(1:Int)))+(1:Int)))+(1:Int)))+(1:Int))),v14.2.2.2.1.2.2.2.2.1,()),()))[x.2.2.1.toNat]? with
 |none=>none
 |some v16=>
 some (.inl (((((((((x.1.set x.2.2.1.toNat (x.2.1,v2.2.1,v2.2.2.1,v2.2.2.2.1,())).set x.2.2.1.toNat (v4.1,(IntKind.i64.wrap (x.2.1+(1:Int))),v4.2.2.1,v4.2.2.2.1,())).set x.2.2.1.toNat (v6.1,v6.2.1,(IntKind.i64.wrap ((IntKind.i64.wrap (x.2.1+(1:Int)))+(1:Int))),v6.2.2.2.1,())).set x.2.2.1.toNat (v8.1,v8.2.1,v8.2.2.1,((IntKind.i64.wrap ((IntKind.i64.wrap ((IntKind.i64.wrap (x.2.1+(1:Int)))+(1:Int)))+(1:Int))),v8.2.2.2.1.2.1,v8.2.2.2.1.2.2.1,v8.2.2.2.1.2.2.2.1,v8.2.2.2.1.2.2.2.2.1,()),())).set x.2.2.1.toNat (v10.1,v10.2.1,v10.2.2.1,(v10.2.2.2.1.1,(IntKind.i64.wrap ((IntKind.i64.wrap ((IntKind.i64.wrap ((IntKind.i64.wrap (x.2.1+(1:Int)))+(1:Int)))+(1:Int)))+(1:Int))),v10.2.2.2.1.2.2.1,v10.2.2.2.1.2.2.2.1,v10.2.2.2.1.2.2.2.2.1,()),())).set x.2.2.1.toNat (v12.1,v12.2.1,v12.2.2.1,(v12.2.2.2.1.1,v12.2.2.2.1.2.1,(IntKind.i64.wrap ((IntKind.i64.wrap ((IntKind.i64.wrap ((IntKind.i64.wrap ((IntKind.i64.wrap (x.2.1+(1:Int)))+(1:Int)))+(1:Int)))+(1:Int)))+(1:Int))),v12.2.2.2.1.2.2.2.1,v12.2.2.2.1.2.2.2.2.1,()),())).set x.2.2.1.toNat (v14.1,v14.2.1,v14.2.2.1,(v14.2.2.2.1.1,v14.2.2.2.1.2.1,v14.2.2.2.1.2.2.1,(IntKind.i64.wrap ((IntKind.i64.wrap ((IntKind.i64.wrap ((IntKind.i64.wrap ((IntKind.i64.wrap ((IntKind.i64.wrap (x.2.1+(1:Int)))+(1:Int)))+(1:Int)))+(1:Int)))+(1:Int)))+(1:Int))),v14.2.2.2.1.2.2.2.2.1,()),())).set x.2.2.1.toNat (v16.1,v16.2.1,v16.2.2.1,(v16.2.2.2.1.1,v16.2.2.2.1.2.1,v16.2.2.2.1.2.2.1,v16.2.2.2.1.2.2.2.1,((Int.tmod (IntKind.i64.wrap ((IntKind.i64.wrap ((IntKind.i64.wrap ((IntKind.i64.wrap ((IntKind.i64.wrap ((IntKind.i64.wrap ((IntKind.i64.wrap (x.2.1+(1:Int)))+(1:Int)))+(1:Int)))+(1:Int)))+(1:Int)))+(1:Int)))+(1:Int))) (3:Int))==(0:Int)),()),())),(IntKind.i64.wrap ((IntKind.i64.wrap ((IntKind.i64.wrap ((IntKind.i64.wrap ((IntKind.i64.wrap ((IntKind.i64.wrap ((IntKind.i64.wrap ((IntKind.i64.wrap (x.2.1+(1:Int)))+(1:Int)))+(1:Int)))+(1:Int)))+(1:Int)))+(1:Int)))+(1:Int)))+(1:Int))),(IntKind.i64.wrap (x.2.2.1+(1:Int))),()))
|false=>
 some (.inr (.inl (x.1,x.2.1,())))
noncomputable def ky(x:Ty.T (.pair (.own 148 ae) (.pair (.int .i64) .unit))):Option (Ty.T (.pair (.int .i64) (.pair (.own 148 ae) .unit))):=
match ac dk (x.1,x.2.1,(0:Int),())with
|none=>none
|some (.inl v17)=>
 some (v17.2.1,v17.1,())
|some (.inr v19)=>
 none
noncomputable def Dx:Spec:=⟨_,(.pair (.int .i64) .unit),(.pair (.own 148 ae) .unit),rfl,ky⟩
noncomputable def pO:FuncId→Option Spec:=a8 []
theorem yc:∀f s,pO f=some s→FnOK G0 Tryz.prog f s:=au trivial
def oQ:aF:=⟨[0,1,5],(.pair (.own 148 ae) ak),0,[0,1],(.pair (.own 148 ae) (.pair (.int .i64) .unit)),[],.unit⟩
noncomputable def pP:List ar:=[oQ.spec dk]
theorem ws:aX aS E0 pO (aW Tryz.f69 pP) Tryz.f69 0 oQ dk:=fun x=>by kernel_rfl
theorem Bl:FnOK G0 Tryz.prog 69 Dx:=ax ah yc Tryz.func69 pP (by kernel_rfl) (by exact⟨(ws).lok,trivial⟩) fun x=>by kernel_rfl
noncomputable def rG(x:Ty.T (.pair (.pair (.int .i64) (.pair (.own 143 aj) (.pair (.own 145 (.pair (.int .i64) (.pair (.int .i64) (.pair (.own 2 (.int .i64)) .unit)))) (.pair (.own 148 ae) .unit)))) (.pair (.int .i64) .unit))):Option (Ty.T (.pair (.int .i64) (.pair (.pair (.int .i64) (.pair (.own 143 aj) (.pair (.own 145 (.pair (.int .i64) (.pair (.int .i64) (.pair (.own 2 (.int .i64)) .unit)))) (.pair (.own 148 ae) .unit)))) .unit))):=
match kw (x.1.2.1,x.2.1,())with
|none=>none
|some v1=>
match kx (x.1.2.2.1,v1.1,())with
|none=>none
|some v2=>
match ky (x.1.2.2.2.1,v2.1,())with
|none=>none
|some v3=>
some (v3.1,(x.1.1,v1.2.1,v2.2.1,v3.2.1,()),())
noncomputable def Bm:Spec:=⟨_,(.pair (.int .i64) .unit),(.pair (.pair (.int .i64) (.pair (.own 143 aj) (.pair (.own 145 (.pair (.int .i64) (.pair (.int .i64) (.pair (.own 2 (.int .i64)) .unit)))) (.pair (.own 148 ae) .unit)))) .unit),rfl,rG⟩
theorem LY:FnOK G0 Tryz.prog 21 Bm:=ai Ss (sg Bi (sg Bk (sg Bl (az)))) Tryz.func21
noncomputable def vz(x:Ty.T (.pair (.pair (.int .i64) (.pair (.int .i64) (.pair ab (.pair (.own 2 (.int .i64)) .unit)))) (.pair (.int .i64) .unit))):Option (Ty.T (.pair (.int .i64) (.pair (.pair (.int .i64) (.pair (.int .i64) (.pair ab (.pair (.own 2 (.int .i64)) .unit)))) .unit))):=
match g7 (x.1.2.2.2.1,x.2.1,())with
|none=>none
|some v1=>
some (v1.1,(x.1.1,x.1.2.1,x.1.2.2.1,v1.2.1,()),())
noncomputable def LZ:Spec:=⟨_,(.pair (.int .i64) .unit),(.pair (.pair (.int .i64) (.pair (.int .i64) (.pair ab (.pair (.own 2 (.int .i64)) .unit)))) .unit),rfl,vz⟩
theorem JX:FnOK G0 Tryz.prog 22 LZ:=ai ah (sg ux (az)) Tryz.func22
noncomputable def mB(x:Ty.T (.pair (.pair (.int .i64) (.pair (.pair (.int .i64) (.pair (.int .i64) (.pair ab (.pair (.own 2 (.int .i64)) .unit)))) .unit)) (.pair (.int .i64) .unit))):Option (Ty.T (.pair (.int .i64) (.pair (.pair (.int .i64) (.pair (.pair (.int .i64) (.pair (.int .i64) (.pair ab (.pair (.own 2 (.int .i64)) .unit)))) .unit)) .unit))):=
match vz (x.1.2.1,x.2.1,())with
|none=>none
|some v1=>
some (v1.1,(x.1.1,(x.1.2.1.1,x.1.2.1.2.1,x.1.2.1.2.2.1,v1.2.1.2.2.2.1,()),()),())
noncomputable def uy:Spec:=⟨_,(.pair (.int .i64) .unit),(.pair (.pair (.int .i64) (.pair (.pair (.int .i64) (.pair (.int .i64) (.pair ab (.pair (.own 2 (.int .i64)) .unit)))) .unit)) .unit),rfl,mB⟩
theorem Fr:FnOK G0 Tryz.prog 24 uy:=ai ah (sg JX (az)) Tryz.func24
noncomputable def fL(x:(Ty.T (.pair (.list (.int .i64)) ak))):Option ((Ty.T (.pair (.list (.int .i64)) ak)) ⊕ ((Ty.T (.pair (.int .i64) .unit)) ⊕ (Ty.T (.pair (.int .i64) .unit)))):=
match(decide (x.2.2.1<(x.1.length:Int)))with
|true=>
 aa (aw x.1 x.2.2.1) fun v1=>
 match(v1 != x.2.1)with
 |true=>
  some (.inr (.inr ((-1:Int),())))
 |false=>
  some (.inl (x.1,(IntKind.i64.wrap (x.2.1+(1:Int))),(IntKind.i64.wrap (x.2.2.1+(1:Int))),()))
|false=>
 some (.inr (.inl (x.2.1,())))
noncomputable def kO(x:Ty.T (.pair (.list (.int .i64)) (.pair (.int .i64) .unit))):Option (Ty.T (.pair (.int .i64) .unit)):=
match ac fL (x.1,x.2.1,(0:Int),())with
|none=>none
|some (.inl v2)=>
 some (v2.1,())
|some (.inr v3)=>
 some (v3.1,())
noncomputable def JY:Spec:=⟨_,(.pair (.int .i64) .unit),.unit,rfl,kO⟩
noncomputable def uA:FuncId→Option Spec:=a8 []
theorem Dy:∀f s,uA f=some s→FnOK G0 Tryz.prog f s:=au trivial
def sQ:aF:=⟨[0,1,5],(.pair (.list (.int .i64)) ak),0,[1],(.pair (.int .i64) .unit),[4],(.pair (.int .i64) .unit)⟩
noncomputable def uB:List ar:=[sQ.spec fL]
theorem Bo:aX aS E0 uA (aW Tryz.f83 uB) Tryz.f83 0 sQ fL:=fun x=>by kernel_rfl
theorem Hw:FnOK G0 Tryz.prog 83 JY:=ax ah Dy Tryz.func83 uB (by kernel_rfl) (by exact⟨(Bo).lok,trivial⟩) fun x=>by kernel_rfl
noncomputable def vA(x:Ty.T (.pair aG (.pair (.int .i64) .unit))):Option (Ty.T (.pair (.int .i64) .unit)):=
match kO (x.1.2.2.2.1,x.2.1,())with
|none=>none
|some v1=>
match(decide (v1.1<(0:Int)))with
|true=>
 some ((-1:Int),())
|false=>
 some (v1.1,())
noncomputable def L0:Spec:=⟨_,(.pair (.int .i64) .unit),.unit,rfl,vA⟩
theorem JZ:FnOK G0 Tryz.prog 71 L0:=ai ah (sg Hw (az)) Tryz.func71
noncomputable def ka(x:Ty.T (.pair ba (.pair (.int .i64) .unit))):Option (Ty.T (.pair (.int .i64) .unit)):=
match vA (x.1.2.1,x.2.1,())with
|none=>none
|some v1=>
match(decide (v1.1<(0:Int)))with
|true=>
 some ((-1:Int),())
|false=>
 some (v1.1,())
noncomputable def uC:Spec:=⟨_,(.pair (.int .i64) .unit),.unit,rfl,ka⟩
theorem Fs:FnOK G0 Tryz.prog 25 uC:=ai ah (sg JZ (az)) Tryz.func25
noncomputable def lA(x:Ty.T (.pair (.list al) (.pair (.int .i64) .unit))):Option (Ty.T (.pair (.int .i64) .unit)):=
match(decide ((IntKind.i64.wrap (x.2.1-(x.1.length:Int)))<(0:Int)))with
|true=>
 some ((-1:Int),())
|false=>
 some ((IntKind.i64.wrap (x.2.1-(x.1.length:Int))),())
noncomputable def NW:Spec:=⟨_,(.pair (.int .i64) .unit),.unit,rfl,lA⟩
theorem L1:FnOK G0 Tryz.prog 10 NW:=ai ah az Tryz.func10
noncomputable def o9(x:Ty.T (.pair aH (.pair (.int .i64) .unit))):Option (Ty.T (.pair (.int .i64) .unit)):=
match lA (x.1.2.2.1,x.2.1,())with
|none=>none
|some v1=>
match(decide (v1.1<(0:Int)))with
|true=>
 some ((-1:Int),())
|false=>
 match lA (x.1.2.2.2.1,v1.1,())with
 |none=>none
 |some v2=>
 match(decide (v2.1<(0:Int)))with
 |true=>
  some ((-1:Int),())
 |false=>
  some (v2.1,())
noncomputable def Hx:Spec:=⟨_,(.pair (.int .i64) .unit),.unit,rfl,o9⟩
theorem PV:FnOK G0 Tryz.prog 31 Hx:=ai ah (sg L1 (az)) Tryz.func31
noncomputable def bg(x:Ty.T (.pair (.int .i64) ak)):Option (Ty.T (.pair .bool .unit)):=
match(decide (x.1≥x.2.1))with
|true=>
 some ((decide (x.1≤x.2.2.1)),())
|false=>
 some (false,())
noncomputable def kP:Spec:=⟨_,(.pair .bool .unit),.unit,rfl,bg⟩
theorem cp:FnOK G0 Tryz.prog 144 kP:=ai ah az Tryz.func144
noncomputable def pQ(x:Ty.T (.pair (.int .i64) .unit)):Option (Ty.T (.pair .bool .unit)):=
match bg (x.1,(0:Int),(31:Int),())with
|none=>none
|some v1=>
some (v1.1,())
noncomputable def PW:Spec:=⟨_,(.pair .bool .unit),.unit,rfl,pQ⟩
theorem Bp:FnOK G0 Tryz.prog 275 PW:=ai ah (sg cp (az)) Tryz.func275
noncomputable def gr(x:(Ty.T (.pair .str (.pair (.int .i64) .unit)))):Option ((Ty.T (.pair .str (.pair (.int .i64) .unit))) ⊕ ((Ty.T (.pair .str .unit)) ⊕ (Ty.T (.pair .bool .unit)))):=
match(decide (x.2.1<(x.1.length:Int)))with
|true=>
 aa (aw x.1 x.2.1) fun v1=>
 match(decide ((v1.toNat:Int)<(97:Int)))with
 |true=>
  aa (aw x.1 x.2.1) fun v2=>
  match(decide ((v2.toNat:Int)<(48:Int)))with
  |true=>
   some (.inr (.inr (false,())))
  |false=>
   aa (aw x.1 x.2.1) fun v3=>
   match(decide ((v3.toNat:Int)>(57:Int)))with
   |true=>
    some (.inr (.inr (false,())))
   |false=>
    some (.inl (x.1,(IntKind.i64.wrap (x.2.1+(1:Int))),()))
 |false=>
  aa (aw x.1 x.2.1) fun v4=>
  match(decide ((v4.toNat:Int)>(122:Int)))with
  |true=>
   aa (aw x.1 x.2.1) fun v5=>
   match(decide ((v5.toNat:Int)<(48:Int)))with
   |true=>
    some (.inr (.inr (false,())))
   |false=>
    aa (aw x.1 x.2.1) fun v6=>
    match(decide ((v6.toNat:Int)>(57:Int)))with
    |true=>
     some (.inr (.inr (false,())))
    |false=>
     some (.inl (x.1,(IntKind.i64.wrap (x.2.1+(1:Int))),()))
  |false=>
   some (.inl (x.1,(IntKind.i64.wrap (x.2.1+(1:Int))),()))
|false=>
 some (.inr (.inl (x.1,())))
noncomputable def uD(x:Ty.T (.pair .str .unit)):Option (Ty.T (.pair .bool .unit)):=
match ac gr (x.1,(0:Int),())with
|none=>none
|some (.inl v7)=>
 match(decide ((v7.1.length:Int)≥(1:Int)))with
 |true=>
  some ((decide ((v7.1.length:Int)≤(6:Int))),())
 |false=>
  some (false,())
|some (.inr v8)=>
 some (v8.1,())
noncomputable def PX:Spec:=⟨_,(.pair .bool .unit),.unit,rfl,uD⟩
noncomputable def Bq:FuncId→Option Spec:=a8 []
theorem J0:∀f s,Bq f=some s→FnOK G0 Tryz.prog f s:=au trivial
def y6:aF:=⟨[0,3],(.pair .str (.pair (.int .i64) .unit)),0,[0],(.pair .str .unit),[2],(.pair .bool .unit)⟩
noncomputable def Br:List ar:=[y6.spec gr]
theorem Hy:aX aS E0 Bq (aW Tryz.f304 Br) Tryz.f304 0 y6 gr:=fun x=>by kernel_rfl
theorem NX:FnOK G0 Tryz.prog 304 PX:=ax ah J0 Tryz.func304 Br (by kernel_rfl) (by exact⟨(Hy).lok,trivial⟩) fun x=>by kernel_rfl
noncomputable def nV(x:Ty.T (.pair aj .unit)):Option (Ty.T (.pair .bool .unit)):=
match pQ (x.1.1,())with
|none=>none
|some v1=>
match v1.1 with
|true=>
 match uD (x.1.2.1,())with
 |none=>none
 |some v2=>
 match v2.1 with
 |true=>
  match bg (x.1.2.2.1,(0:Int),(1000:Int),())with
  |none=>none
  |some v3=>
  some (v3.1,())
 |false=>
  some (false,())
|false=>
 some (false,())
noncomputable def wt:Spec:=⟨_,(.pair .bool .unit),.unit,rfl,nV⟩
theorem Hz:FnOK G0 Tryz.prog 271 wt:=ai ah (sg cp (sg Bp (sg NX (az)))) Tryz.func271
noncomputable def cH(x:(Ty.T (.pair (.list aj) ak))):Option ((Ty.T (.pair (.list aj) ak)) ⊕ ((Ty.T (.pair (.list aj) (.pair (.int .i64) .unit))) ⊕ (Ty.T (.pair .bool .unit)))):=
match(decide (x.2.2.1<x.2.1))with
|true=>
 aa (aw x.1 x.2.2.1) fun v6=>
 aa (aw x.1 x.2.1) fun v7=>
 match(v6.2.1==v7.2.1)with
 |true=>
  some (.inr (.inr (false,())))
 |false=>
  some (.inl (x.1,x.2.1,(IntKind.i64.wrap (x.2.2.1+(1:Int))),()))
|false=>
 some (.inr (.inl (x.1,x.2.1,())))
noncomputable def d6(x:(Ty.T (.pair (.list aj) (.pair (.int .i64) .unit)))):Option ((Ty.T (.pair (.list aj) (.pair (.int .i64) .unit))) ⊕ ((Ty.T .unit) ⊕ (Ty.T (.pair .bool .unit)))):=
match(decide (x.2.1<(x.1.length:Int)))with
|true=>
 aa (aw x.1 x.2.1) fun v2=>
 match nV (v2,())with
 |none=>none
 |some v3=>
 match(!v3.1)with
 |true=>
  some (.inr (.inr (false,())))
 |false=>
  match(decide (x.2.1>(0:Int)))with
  |true=>
   aa (aw x.1 x.2.1) fun v4=>
   aa (aw x.1 (IntKind.i64.wrap (x.2.1-(1:Int)))) fun v5=>
   match(decide (v4.1≤v5.1))with
   |true=>
    some (.inr (.inr (false,())))
   |false=>
    match ac cH (x.1,x.2.1,(0:Int),())with
    |none=>none
    |some (.inl v6)=>
     some (.inl (v6.1,(IntKind.i64.wrap (v6.2.1+(1:Int))),()))
    |some (.inr v7)=>
     some (.inr (.inr (v7.1,())))
  |false=>
   match ac cH (x.1,x.2.1,(0:Int),())with
   |none=>none
   |some (.inl v8)=>
    some (.inl (v8.1,(IntKind.i64.wrap (v8.2.1+(1:Int))),()))
   |some (.inr v9)=>
    some (.inr (.inr (v9.1,())))
|false=>
 some (.inr (.inl (())))
noncomputable def mC(x:Ty.T (.pair (.list aj) .unit)):Option (Ty.T (.pair .bool .unit)):=
match bg ((x.1.length:Int),(1:Int),(32:Int),())with
|none=>none
|some v1=>
match(!v1.1)with
|true=>
 some (false,())
|false=>
 match ac d6 (x.1,(0:Int),())with
 |none=>none
 |some (.inl v10)=>
  some (true,())
 |some (.inr v11)=>
  some (v11.1,())
noncomputable def uE:Spec:=⟨_,(.pair .bool .unit),.unit,rfl,mC⟩
noncomputable def mR:FuncId→Option Spec:=a8 [(144,kP),(271,wt)]
theorem Bt:∀f s,mR f=some s→FnOK G0 Tryz.prog f s:=au ⟨cp,Hz,trivial⟩
def qR:aF:=⟨[0,3],(.pair (.list aj) (.pair (.int .i64) .unit)),0,[],.unit,[2],(.pair .bool .unit)⟩
def qS:aF:=⟨[0,3,4],(.pair (.list aj) ak),2,[0,3],(.pair (.list aj) (.pair (.int .i64) .unit)),[2],(.pair .bool .unit)⟩
noncomputable def mS:List ar:=[qR.spec d6,qS.spec cH]
theorem Aj:aX aS E0 mR (aW Tryz.f224 mS) Tryz.f224 0 qR d6:=fun x=>by kernel_rfl
theorem Ak:aX aS E0 mR (aW Tryz.f224 mS) Tryz.f224 1 qS cH:=fun x=>by kernel_rfl
theorem Ft:FnOK G0 Tryz.prog 224 uE:=ax ah Bt Tryz.func224 mS (by kernel_rfl) (by exact⟨(Aj).lok,(Ak).lok,trivial⟩) fun x=>by kernel_rfl
noncomputable def g8(x:(Ty.T (.pair (.list (.int .i64)) ak))):Option ((Ty.T (.pair (.list (.int .i64)) ak)) ⊕ ((Ty.T .unit) ⊕ (Ty.T (.pair .bool .unit)))):=
match(decide (x.2.2.1<(x.1.length:Int)))with
|true=>
 aa (aw x.1 x.2.2.1) fun v1=>
 match(v1==x.2.1)with
 |true=>
  some (.inr (.inr (true,())))
 |false=>
  some (.inl (x.1,x.2.1,(IntKind.i64.wrap (x.2.2.1+(1:Int))),()))
|false=>
 some (.inr (.inl (())))
noncomputable def yd(x:Ty.T (.pair (.list (.int .i64)) (.pair (.int .i64) .unit))):Option (Ty.T (.pair .bool .unit)):=
match ac g8 (x.1,x.2.1,(0:Int),())with
|none=>none
|some (.inl v2)=>
 some (false,())
|some (.inr v3)=>
 some (v3.1,())
noncomputable def HA:Spec:=⟨_,(.pair .bool .unit),.unit,rfl,yd⟩
noncomputable def Eh:FuncId→Option Spec:=a8 []
theorem L2:∀f s,Eh f=some s→FnOK G0 Tryz.prog f s:=au trivial
def Bu:aF:=⟨[0,1,5],(.pair (.list (.int .i64)) ak),0,[],.unit,[4],(.pair .bool .unit)⟩
noncomputable def Ei:List ar:=[Bu.spec g8]
theorem J1:aX aS E0 Eh (aW Tryz.f105 Ei) Tryz.f105 0 Bu g8:=fun x=>by kernel_rfl
theorem PY:FnOK G0 Tryz.prog 105 HA:=ax ah L2 Tryz.func105 Ei (by kernel_rfl) (by exact⟨(J1).lok,trivial⟩) fun x=>by kernel_rfl
noncomputable def fM(x:(Ty.T (.pair (.list (.int .i64)) ak))):Option ((Ty.T (.pair (.list (.int .i64)) ak)) ⊕ ((Ty.T .unit) ⊕ (Ty.T (.pair .bool .unit)))):=
match(decide (x.2.2.1<(x.1.length:Int)))with
|true=>
 aa (aw x.1 x.2.2.1) fun v1=>
 match bg (v1,(0:Int),(IntKind.i64.wrap (x.2.1-(1:Int))),())with
 |none=>none
 |some v2=>
 match(!v2.1)with
 |true=>
  some (.inr (.inr (false,())))
 |false=>
  match(decide (x.2.2.1>(0:Int)))with
  |true=>
   aa (aw x.1 x.2.2.1) fun v3=>
   aa (aw x.1 (IntKind.i64.wrap (x.2.2.1-(1:Int)))) fun v4=>
   match(decide (v3≤v4))with
   |true=>
    some (.inr (.inr (false,())))
   |false=>
    some (.inl (x.1,x.2.1,(IntKind.i64.wrap (x.2.2.1+(1:Int))),()))
  |false=>
   some (.inl (x.1,x.2.1,(IntKind.i64.wrap (x.2.2.1+(1:Int))),()))
|false=>
 some (.inr (.inl (())))
noncomputable def rH(x:Ty.T (.pair (.list (.int .i64)) (.pair (.int .i64) .unit))):Option (Ty.T (.pair .bool .unit)):=
match ac fM (x.1,x.2.1,(0:Int),())with
|none=>none
|some (.inl v5)=>
 some (true,())
|some (.inr v6)=>
 some (v6.1,())
noncomputable def Bv:Spec:=⟨_,(.pair .bool .unit),.unit,rfl,rH⟩
noncomputable def y7:FuncId→Option Spec:=a8 [(144,kP)]
theorem HB:∀f s,y7 f=some s→FnOK G0 Tryz.prog f s:=au ⟨cp,trivial⟩
def wu:aF:=⟨[0,1,5],(.pair (.list (.int .i64)) ak),0,[],.unit,[4],(.pair .bool .unit)⟩
noncomputable def y8:List ar:=[wu.spec fM]
theorem Fu:aX aS E0 y7 (aW Tryz.f272 y8) Tryz.f272 0 wu fM:=fun x=>by kernel_rfl
theorem L3:FnOK G0 Tryz.prog 272 Bv:=ax ah HB Tryz.func272 y8 (by kernel_rfl) (by exact⟨(Fu).lok,trivial⟩) fun x=>by kernel_rfl
noncomputable def d7(x:(Ty.T (.pair (.list ao) (.pair (.int .i64) .unit)))):Option ((Ty.T (.pair (.list ao) (.pair (.int .i64) .unit))) ⊕ ((Ty.T .unit) ⊕ (Ty.T (.pair .bool .unit)))):=
match(decide (x.2.1<(x.1.length:Int)))with
|true=>
 aa (aw x.1 x.2.1) fun v2=>
 match bg (v2.1,(1:Int),(8:Int),())with
 |none=>none
 |some v3=>
 match(!v3.1)with
 |true=>
  some (.inr (.inr (false,())))
 |false=>
  match bg (v2.2.1,(1:Int),(16:Int),())with
  |none=>none
  |some v4=>
  match(!v4.1)with
  |true=>
   some (.inr (.inr (false,())))
  |false=>
   match rH (v2.2.2.1,(x.1.length:Int),())with
   |none=>none
   |some v5=>
   match(!v5.1)with
   |true=>
    some (.inr (.inr (false,())))
   |false=>
    match yd (v2.2.2.1,x.2.1,())with
    |none=>none
    |some v6=>
    match v6.1 with
    |true=>
     some (.inr (.inr (false,())))
    |false=>
     some (.inl (x.1,(IntKind.i64.wrap (x.2.1+(1:Int))),()))
|false=>
 some (.inr (.inl (())))
noncomputable def mD(x:Ty.T (.pair (.list ao) .unit)):Option (Ty.T (.pair .bool .unit)):=
match bg ((x.1.length:Int),(1:Int),(16:Int),())with
|none=>none
|some v1=>
match(!v1.1)with
|true=>
 some (false,())
|false=>
 match ac d7 (x.1,(0:Int),())with
 |none=>none
 |some (.inl v7)=>
  some (true,())
 |some (.inr v8)=>
  some (v8.1,())
noncomputable def uF:Spec:=⟨_,(.pair .bool .unit),.unit,rfl,mD⟩
noncomputable def sR:FuncId→Option Spec:=a8 [(105,HA),(144,kP),(272,Bv)]
theorem Bw:∀f s,sR f=some s→FnOK G0 Tryz.prog f s:=au ⟨PY,cp,L3,trivial⟩
def qT:aF:=⟨[0,3],(.pair (.list ao) (.pair (.int .i64) .unit)),0,[],.unit,[2],(.pair .bool .unit)⟩
noncomputable def sS:List ar:=[qT.spec d7]
theorem Al:aX aS E0 sR (aW Tryz.f225 sS) Tryz.f225 0 qT d7:=fun x=>by kernel_rfl
theorem Fv:FnOK G0 Tryz.prog 225 uF:=ax ah Bw Tryz.func225 sS (by kernel_rfl) (by exact⟨(Al).lok,trivial⟩) fun x=>by kernel_rfl
noncomputable def pR(x:Ty.T (.pair (.int .i64) .unit)):Option (Ty.T (.pair .bool .unit)):=
match bg (x.1,(0:Int),(3:Int),())with
|none=>none
|some v1=>
some (v1.1,())
noncomputable def PZ:Spec:=⟨_,(.pair .bool .unit),.unit,rfl,pR⟩
theorem Bx:FnOK G0 Tryz.prog 276 PZ:=ai ah (sg cp (az)) Tryz.func276
noncomputable def pS(x:Ty.T ak):Option (Ty.T (.pair .bool .unit)):=
match(x.1==(0:Int))with
|true=>
 match bg (x.2.1,(0:Int),(32:Int),())with
 |none=>none
 |some v1=>
 some (v1.1,())
|false=>
 match(x.1==(2:Int))with
 |true=>
  match bg (x.2.1,(1:Int),(32:Int),())with
  |none=>none
  |some v2=>
  some (v2.1,())
 |false=>
  some ((x.2.1==(0:Int)),())
noncomputable def P0:Spec:=⟨_,(.pair .bool .unit),.unit,rfl,pS⟩
theorem Bz:FnOK G0 Tryz.prog 277 P0:=ai ah (sg cp (az)) Tryz.func277
noncomputable def dR(x:Ty.T (.pair (.int .i64) .unit)):Option (Ty.T (.pair .bool .unit)):=
some ((x.1 != (0:Int)),())
noncomputable def NY:Spec:=⟨_,(.pair .bool .unit),.unit,rfl,dR⟩
theorem iy:FnOK G0 Tryz.prog 195 NY:=ai ah az Tryz.func195
noncomputable def jz(x:Ty.T (.pair (.int .i64) .unit)):Option (Ty.T (.pair .bool .unit)):=
match(x.1==(0:Int))with
|true=>
 some (true,())
|false=>
 some ((x.1==(2:Int)),())
noncomputable def P1:Spec:=⟨_,(.pair .bool .unit),.unit,rfl,jz⟩
theorem sU:FnOK G0 Tryz.prog 253 P1:=ai ah az Tryz.func253
noncomputable def mE(x:Ty.T ak):Option (Ty.T (.pair (.int .i64) .unit)):=
match dR (x.1,())with
|none=>none
|some v1=>
match v1.1 with
|true=>
 match jz (x.1,())with
 |none=>none
 |some v2=>
 match v2.1 with
 |true=>
  some ((IntKind.i64.wrap ((IntKind.i64.wrap ((IntKind.i64.wrap ((1:Int)+(8:Int)))+(1:Int)))+x.2.1)),())
 |false=>
  some ((IntKind.i64.wrap ((1:Int)+(8:Int))),())
|false=>
 match jz (x.1,())with
 |none=>none
 |some v3=>
 match v3.1 with
 |true=>
  some ((IntKind.i64.wrap ((IntKind.i64.wrap ((1:Int)+(1:Int)))+x.2.1)),())
 |false=>
  some ((1:Int),())
noncomputable def HD:Spec:=⟨_,(.pair (.int .i64) .unit),.unit,rfl,mE⟩
theorem Fw:FnOK G0 Tryz.prog 305 HD:=ai ah (sg iy (sg sU (az))) Tryz.func305
noncomputable def nW(x:Ty.T ak):Option (Ty.T (.pair (.int .i64) .unit)):=
match mE (x.1,x.2.1,())with
|none=>none
|some v1=>
some ((IntKind.i64.wrap ((11:Int)+(IntKind.i64.wrap ((10:Int)*(IntKind.i64.wrap (v1.1+(3:Int))))))),())
noncomputable def NZ:Spec:=⟨_,(.pair (.int .i64) .unit),.unit,rfl,nW⟩
theorem L4:FnOK G0 Tryz.prog 278 NZ:=ai ah (sg Fw (az)) Tryz.func278
noncomputable def dS(x:Ty.T (.pair aZ .unit)):Option (Ty.T (.pair .bool .unit)):=
match pQ (x.1.1,())with
|none=>none
|some v1=>
match(!v1.1)with
|true=>
 some (false,())
|false=>
 match pR (x.1.2.1,())with
 |none=>none
 |some v2=>
 match(!v2.1)with
 |true=>
  some (false,())
 |false=>
  match pS (x.1.2.1,x.1.2.2.1,())with
  |none=>none
  |some v3=>
  match(!v3.1)with
  |true=>
   some (false,())
  |false=>
   match(x.1.2.1==(3:Int))with
   |true=>
    match x.1.2.2.2.2.1 with
    |true=>
     some (false,())
    |false=>
     match nW (x.1.2.1,x.1.2.2.1,())with
     |none=>none
     |some v4=>
     match bg (x.1.2.2.2.1,(IntKind.i64.wrap (v4.1+(20:Int))),(1000:Int),())with
     |none=>none
     |some v5=>
     some (v5.1,())
   |false=>
    match nW (x.1.2.1,x.1.2.2.1,())with
    |none=>none
    |some v6=>
    match bg (x.1.2.2.2.1,(IntKind.i64.wrap (v6.1+(20:Int))),(1000:Int),())with
    |none=>none
    |some v7=>
    some (v7.1,())
noncomputable def Fx:Spec:=⟨_,(.pair .bool .unit),.unit,rfl,dS⟩
theorem qU:FnOK G0 Tryz.prog 232 Fx:=ai ah (sg cp (sg Bp (sg Bx (sg Bz (sg L4 (az)))))) Tryz.func232
noncomputable def Db(x:Ty.T (.pair ae .unit)):Option (Ty.T (.pair .bool .unit)):=
match bg (x.1.1,(0:Int),(15:Int),())with
|none=>none
|some v1=>
match v1.1 with
|true=>
 match bg (x.1.2.1,(0:Int),(7:Int),())with
 |none=>none
 |some v2=>
 match v2.1 with
 |true=>
  match bg (x.1.2.2.1,(0:Int),(15:Int),())with
  |none=>none
  |some v3=>
  match v3.1 with
  |true=>
   match dS ((x.1.2.2.2.1.1,x.1.2.2.2.1.2.1,x.1.2.2.2.1.2.2.1,x.1.2.2.2.1.2.2.2.1,x.1.2.2.2.1.2.2.2.2.1,()),())with
   |none=>none
   |some v4=>
   some (v4.1,())
  |false=>
   some (false,())
 |false=>
  some (false,())
|false=>
 some (false,())
noncomputable def Lv:Spec:=⟨_,(.pair .bool .unit),.unit,rfl,Db⟩
theorem Su:FnOK G0 Tryz.prog 273 Lv:=ai ah (sg cp (sg qU (az))) Tryz.func273
noncomputable def bQ(x:(Ty.T (.pair (.own 2 (.int .i64)) (.pair (.own 2 (.int .i64)) (.pair (.int .i64) .unit))))):Option ((Ty.T (.pair (.own 2 (.int .i64)) (.pair (.own 2 (.int .i64)) (.pair (.int .i64) .unit)))) ⊕ ((Ty.T .unit) ⊕ (Ty.T (.pair (.int .i64) .unit)))):=
match(decide (x.2.2.1<(3:Int)))with
|true=>
 aa (aw x.1 x.2.2.1) fun _=>
 match x.1[x.2.2.1.toNat]? with
 |none=>none
 |some v2=>
 aa (aw x.2.1 x.2.2.1) fun _=>
 match x.2.1[x.2.2.1.toNat]? with
 |none=>none
 |some v4=>
 match(decide (v2<v4))with
 |true=>
  some (.inr (.inr ((-1:Int),())))
 |false=>
  aa (aw x.1 x.2.2.1) fun _=>
  match x.1[x.2.2.1.toNat]? with
  |none=>none
  |some v6=>
  aa (aw x.2.1 x.2.2.1) fun _=>
  match x.2.1[x.2.2.1.toNat]? with
  |none=>none
  |some v8=>
  match(decide (v6>v8))with
  |true=>
   some (.inr (.inr ((1:Int),())))
  |false=>
   some (.inl (x.1,x.2.1,(IntKind.i64.wrap (x.2.2.1+(1:Int))),()))
|false=>
 some (.inr (.inl (())))
noncomputable def lB(x:Ty.T (.pair ae (.pair ae .unit))):Option (Ty.T (.pair (.int .i64) .unit)):=
aU (
 match ac bQ ([x.1.1,x.1.2.1,x.1.2.2.1],[x.2.1.1,x.2.1.2.1,x.2.1.2.2.1],(0:Int),())with
 |none=>none
 |some (.inl v9)=>
  some ((0:Int),())
 |some (.inr v10)=>
  some (v10.1,())) (
 match ac bQ ([x.1.1,x.1.2.1,x.1.2.2.1],[x.2.1.1,x.2.1.2.1,x.2.1.2.2.1],(0:Int),())with
 |none=>none
 |some (.inl v1)=>
  some ((0:Int),())
 |some (.inr v2)=>
  some (v2.1,()))
noncomputable def sV:Spec:=⟨_,(.pair (.int .i64) .unit),.unit,rfl,lB⟩
noncomputable def qV:FuncId→Option Spec:=a8 []
theorem Am:∀f s,qV f=some s→FnOK G0 Tryz.prog f s:=au trivial
def pT:aF:=⟨[5,6,7],(.pair (.own 2 (.int .i64)) (.pair (.own 2 (.int .i64)) (.pair (.int .i64) .unit))),0,[],.unit,[4],(.pair (.int .i64) .unit)⟩
noncomputable def qW:List ar:=[pT.spec bQ]
theorem ye:aX aS E0 qV (aW Tryz.f274 qW) Tryz.f274 0 pT bQ:=fun x=>by kernel_rfl
theorem Dz:FnOK G0 Tryz.prog 274 sV:=ax ah Am Tryz.func274 qW (by kernel_rfl) (by exact⟨(ye).lok,trivial⟩) fun x=>by kernel_rfl
noncomputable def d8(x:(Ty.T (.pair (.list ae) (.pair (.int .i64) .unit)))):Option ((Ty.T (.pair (.list ae) (.pair (.int .i64) .unit))) ⊕ ((Ty.T .unit) ⊕ (Ty.T (.pair .bool .unit)))):=
match(decide (x.2.1<(x.1.length:Int)))with
|true=>
 aa (aw x.1 x.2.1) fun v1=>
 match Db (v1,())with
 |none=>none
 |some v2=>
 match(!v2.1)with
 |true=>
  some (.inr (.inr (false,())))
 |false=>
  match(decide (x.2.1>(0:Int)))with
  |true=>
   aa (aw x.1 (IntKind.i64.wrap (x.2.1-(1:Int)))) fun v3=>
   aa (aw x.1 x.2.1) fun v4=>
   match lB (v3,v4,())with
   |none=>none
   |some v5=>
   match(decide (v5.1≥(0:Int)))with
   |true=>
    some (.inr (.inr (false,())))
   |false=>
    some (.inl (x.1,(IntKind.i64.wrap (x.2.1+(1:Int))),()))
  |false=>
   some (.inl (x.1,(IntKind.i64.wrap (x.2.1+(1:Int))),()))
|false=>
 some (.inr (.inl (())))
noncomputable def mF(x:Ty.T (.pair (.list ae) .unit)):Option (Ty.T (.pair .bool .unit)):=
match(decide ((x.1.length:Int)>(120:Int)))with
|true=>
 some (false,())
|false=>
 match ac d8 (x.1,(0:Int),())with
 |none=>none
 |some (.inl v6)=>
  some (true,())
 |some (.inr v7)=>
  some (v7.1,())
noncomputable def uG:Spec:=⟨_,(.pair .bool .unit),.unit,rfl,mF⟩
noncomputable def sW:FuncId→Option Spec:=a8 [(273,Lv),(274,sV)]
theorem BA:∀f s,sW f=some s→FnOK G0 Tryz.prog f s:=au ⟨Su,Dz,trivial⟩
def qX:aF:=⟨[0,3],(.pair (.list ae) (.pair (.int .i64) .unit)),0,[],.unit,[2],(.pair .bool .unit)⟩
noncomputable def sX:List ar:=[qX.spec d8]
theorem An:aX aS E0 sW (aW Tryz.f226 sX) Tryz.f226 0 qX d8:=fun x=>by kernel_rfl
theorem Fy:FnOK G0 Tryz.prog 226 uG:=ax ah BA Tryz.func226 sX (by kernel_rfl) (by exact⟨(An).lok,trivial⟩) fun x=>by kernel_rfl
noncomputable def gt(x:(Ty.T (.pair (.list ae) al))):Option ((Ty.T (.pair (.list ae) al)) ⊕ ((Ty.T .unit) ⊕ (Ty.T (.pair (.int .i64) .unit)))):=
match(decide (x.2.2.2.2.1<(x.1.length:Int)))with
|true=>
 aa (aw x.1 x.2.2.2.2.1) fun v1=>
 match(v1.1==x.2.1)with
 |true=>
  aa (aw x.1 x.2.2.2.2.1) fun v2=>
  match(v2.2.1==x.2.2.1)with
  |true=>
   aa (aw x.1 x.2.2.2.2.1) fun v3=>
   match(v3.2.2.1==x.2.2.2.1)with
   |true=>
    some (.inr (.inr (x.2.2.2.2.1,())))
   |false=>
    some (.inl (x.1,x.2.1,x.2.2.1,x.2.2.2.1,(IntKind.i64.wrap (x.2.2.2.2.1+(1:Int))),()))
  |false=>
   some (.inl (x.1,x.2.1,x.2.2.1,x.2.2.2.1,(IntKind.i64.wrap (x.2.2.2.2.1+(1:Int))),()))
 |false=>
  some (.inl (x.1,x.2.1,x.2.2.1,x.2.2.2.1,(IntKind.i64.wrap (x.2.2.2.2.1+(1:Int))),()))
|false=>
 some (.inr (.inl (())))
noncomputable def pU(x:Ty.T (.pair (.list ae) (.pair (.int .i64) ak))):Option (Ty.T (.pair (.int .i64) .unit)):=
match ac gt (x.1,x.2.1,x.2.2.1,x.2.2.2.1,(0:Int),())with
|none=>none
|some (.inl v4)=>
 some ((-1:Int),())
|some (.inr v5)=>
 some (v5.1,())
noncomputable def Ej:Spec:=⟨_,(.pair (.int .i64) .unit),.unit,rfl,pU⟩
noncomputable def BC:FuncId→Option Spec:=a8 []
theorem J2:∀f s,BC f=some s→FnOK G0 Tryz.prog f s:=au trivial
def y9:aF:=⟨[0,1,2,3,9],(.pair (.list ae) al),0,[],.unit,[8],(.pair (.int .i64) .unit)⟩
noncomputable def BD:List ar:=[y9.spec gt]
theorem HE:aX aS E0 BC (aW Tryz.f118 BD) Tryz.f118 0 y9 gt:=fun x=>by kernel_rfl
theorem BE:FnOK G0 Tryz.prog 118 Ej:=ax ah J2 Tryz.func118 BD (by kernel_rfl) (by exact⟨(HE).lok,trivial⟩) fun x=>by kernel_rfl
noncomputable def d9(x:(Ty.T (.pair (.box ag) al))):Option ((Ty.T (.pair (.box ag) al)) ⊕ ((Ty.T (.pair (.box ag) (.pair (.int .i64) ak))) ⊕ (Ty.T (.pair .bool .unit)))):=
aa (aw x.1.2.2.1 x.2.2.1) fun v2=>
match(decide (x.2.2.2.2.1<v2.2.1))with
|true=>
 match pU (x.1.2.2.2.1,x.2.2.1,x.2.2.2.1,x.2.2.2.2.1,())with
 |none=>none
 |some v3=>
 match(decide (v3.1<(0:Int)))with
 |true=>
  some (.inr (.inr (false,())))
 |false=>
  some (.inl ((x.1.1,x.1.2.1,x.1.2.2.1,x.1.2.2.2.1,()),(IntKind.i64.wrap (x.2.1+(1:Int))),x.2.2.1,x.2.2.2.1,(IntKind.i64.wrap (x.2.2.2.2.1+(1:Int))),()))
|false=>
 some (.inr (.inl ((x.1.1,x.1.2.1,x.1.2.2.1,x.1.2.2.2.1,()),x.2.1,x.2.2.1,x.2.2.2.1,())))
noncomputable def ef(x:(Ty.T (.pair (.box ag) (.pair (.int .i64) ak)))):Option ((Ty.T (.pair (.box ag) (.pair (.int .i64) ak))) ⊕ ((Ty.T (.pair (.box ag) ak)) ⊕ (Ty.T (.pair .bool .unit)))):=
aa (aw x.1.2.2.1 x.2.2.1) fun v1=>
match(decide (x.2.2.2.1<v1.1))with
|true=>
 match ac d9 ((x.1.1,x.1.2.1,x.1.2.2.1,x.1.2.2.2.1,()),x.2.1,x.2.2.1,x.2.2.2.1,(0:Int),())with
 |none=>none
 |some (.inl v2)=>
  some (.inl ((v2.1.1,v2.1.2.1,v2.1.2.2.1,v2.1.2.2.2.1,()),v2.2.1,v2.2.2.1,(IntKind.i64.wrap (v2.2.2.2.1+(1:Int))),()))
 |some (.inr v3)=>
  some (.inr (.inr (v3.1,())))
|false=>
 some (.inr (.inl ((x.1.1,x.1.2.1,x.1.2.2.1,x.1.2.2.2.1,()),x.2.1,x.2.2.1,())))
noncomputable def cI(x:(Ty.T (.pair (.box ag) ak))):Option ((Ty.T (.pair (.box ag) ak)) ⊕ ((Ty.T (.pair (.box ag) (.pair (.int .i64) .unit))) ⊕ (Ty.T (.pair .bool .unit)))):=
match(decide (x.2.2.1<(x.1.2.2.1.length:Int)))with
|true=>
 match ac ef ((x.1.1,x.1.2.1,x.1.2.2.1,x.1.2.2.2.1,()),x.2.1,x.2.2.1,(0:Int),())with
 |none=>none
 |some (.inl v1)=>
  some (.inl ((v1.1.1,v1.1.2.1,v1.1.2.2.1,v1.1.2.2.2.1,()),v1.2.1,(IntKind.i64.wrap (v1.2.2.1+(1:Int))),()))
 |some (.inr v2)=>
  some (.inr (.inr (v2.1,())))
|false=>
 some (.inr (.inl ((x.1.1,x.1.2.1,x.1.2.2.1,x.1.2.2.2.1,()),x.2.1,())))
noncomputable def kb(x:Ty.T (.pair ag .unit)):Option (Ty.T (.pair .bool .unit)):=
match ac cI ((x.1.1,x.1.2.1,x.1.2.2.1,x.1.2.2.2.1,()),(0:Int),(0:Int),())with
|none=>none
|some (.inl v3)=>
 some ((v3.2.1==(v3.1.2.2.2.1.length:Int)),())
|some (.inr v4)=>
 some (v4.1,())
noncomputable def uH:Spec:=⟨_,(.pair .bool .unit),.unit,rfl,kb⟩
noncomputable def jK:FuncId→Option Spec:=a8 [(118,Ej)]
theorem BF:∀f s,jK f=some s→FnOK G0 Tryz.prog f s:=au ⟨BE,trivial⟩
def qY:aF:=⟨[1,3,4],(.pair (.box ag) ak),0,[1,3],(.pair (.box ag) (.pair (.int .i64) .unit)),[2],(.pair .bool .unit)⟩
def qZ:aF:=⟨[1,3,4,5],(.pair (.box ag) (.pair (.int .i64) ak)),2,[1,3,4],(.pair (.box ag) ak),[2],(.pair .bool .unit)⟩
def q6:aF:=⟨[1,3,4,5,6],(.pair (.box ag) al),4,[1,3,4,5],(.pair (.box ag) (.pair (.int .i64) ak)),[2],(.pair .bool .unit)⟩
noncomputable def jL:List ar:=[qY.spec cI,qZ.spec ef,q6.spec d9]
theorem Ao:aX aS E0 jK (aW Tryz.f227 jL) Tryz.f227 0 qY cI:=fun x=>by kernel_rfl
theorem Ap:aX aS E0 jK (aW Tryz.f227 jL) Tryz.f227 1 qZ ef:=fun x=>by kernel_rfl
theorem Aq:aX aS E0 jK (aW Tryz.f227 jL) Tryz.f227 2 q6 d9:=fun x=>by kernel_rfl
theorem Fz:FnOK G0 Tryz.prog 227 uH:=ax ah BF Tryz.func227 jL (by kernel_rfl) (by exact⟨(Ao).lok,(Ap).lok,(Aq).lok,trivial⟩) fun x=>by kernel_rfl
noncomputable def kQ(x:Ty.T ak):Option (Ty.T (.pair .bool .unit)):=
if(IntKind.u64.wrap x.2.1)<0 then none else
some (((bits BinOp.and .i64 (Int.fdiv x.1 (2^min (IntKind.u64.wrap x.2.1).toNat IntKind.i64.bits)) (1:Int))==(1:Int)),())
noncomputable def yf:Spec:=⟨_,(.pair .bool .unit),.unit,rfl,kQ⟩
theorem vB:FnOK G0 Tryz.prog 150 yf:=ai ah az Tryz.func150
noncomputable def g9(x:Ty.T (.pair (.int .i64) (.pair (.int .i64) (.pair .bool .unit)))):Option (Ty.T (.pair (.int .i64) .unit)):=
match kQ (x.1,x.2.1,())with
|none=>none
|some v1=>
match(v1.1==x.2.2.1)with
|true=>
 some (x.1,())
|false=>
 if(IntKind.u64.wrap x.2.1)<0 then none else
 some ((bits BinOp.xor .i64 x.1 (IntKind.i64.wrap ((1:Int)*2^min (IntKind.u64.wrap x.2.1).toNat IntKind.i64.bits))),())
noncomputable def yg:Spec:=⟨_,(.pair (.int .i64) .unit),.unit,rfl,g9⟩
theorem vC:FnOK G0 Tryz.prog 109 yg:=ai ah (sg vB (az)) Tryz.func109
noncomputable def eZ(x:(Ty.T (.pair (.list aj) ak))):Option ((Ty.T (.pair (.list aj) ak)) ⊕ ((Ty.T (.pair (.int .i64) .unit)) ⊕ (Ty.T .unit))):=
match(decide (x.2.2.1<(x.1.length:Int)))with
|true=>
 aa (aw x.1 x.2.2.1) fun v1=>
 match(!v1.2.2.2.1)with
 |true=>
  aa (aw x.1 x.2.2.1) fun v2=>
  match g9 (x.2.1,v2.1,true,())with
  |none=>none
  |some v3=>
  some (.inl (x.1,v3.1,(IntKind.i64.wrap (x.2.2.1+(1:Int))),()))
 |false=>
  some (.inl (x.1,x.2.1,(IntKind.i64.wrap (x.2.2.1+(1:Int))),()))
|false=>
 some (.inr (.inl (x.2.1,())))
noncomputable def kr(x:Ty.T (.pair (.list aj) .unit)):Option (Ty.T (.pair (.int .i64) .unit)):=
match ac eZ (x.1,(0:Int),(0:Int),())with
|none=>none
|some (.inl v4)=>
 some (v4.1,())
|some (.inr v6)=>
 none
noncomputable def qw:Spec:=⟨_,(.pair (.int .i64) .unit),.unit,rfl,kr⟩
noncomputable def wv:FuncId→Option Spec:=a8 [(109,yg)]
theorem FA:∀f s,wv f=some s→FnOK G0 Tryz.prog f s:=au ⟨vC,trivial⟩
def uI:aF:=⟨[0,3,4],(.pair (.list aj) ak),0,[3],(.pair (.int .i64) .unit),[],.unit⟩
noncomputable def ww:List ar:=[uI.spec eZ]
theorem DA:aX aS E0 wv (aW Tryz.f194 ww) Tryz.f194 0 uI eZ:=fun x=>by kernel_rfl
theorem pb:FnOK G0 Tryz.prog 194 qw:=ax ah FA Tryz.func194 ww (by kernel_rfl) (by exact⟨(DA).lok,trivial⟩) fun x=>by kernel_rfl
noncomputable def eE(x:(Ty.T (.pair (.box ag) ak))):Option ((Ty.T (.pair (.box ag) ak)) ⊕ ((Ty.T .unit) ⊕ (Ty.T (.pair .bool .unit)))):=
match(decide (x.2.2.1<(x.1.2.2.2.1.length:Int)))with
|true=>
 aa (aw x.1.2.2.2.1 x.2.2.1) fun v2=>
 match kQ (x.2.1,v2.2.2.2.1.1,())with
 |none=>none
 |some v3=>
 match(!v3.1)with
 |true=>
  some (.inr (.inr (false,())))
 |false=>
  some (.inl ((x.1.1,x.1.2.1,x.1.2.2.1,x.1.2.2.2.1,()),x.2.1,(IntKind.i64.wrap (x.2.2.1+(1:Int))),()))
|false=>
 some (.inr (.inl (())))
noncomputable def kR(x:Ty.T (.pair ag .unit)):Option (Ty.T (.pair .bool .unit)):=
match kr (x.1.2.1,())with
|none=>none
|some v1=>
match ac eE ((x.1.1,x.1.2.1,x.1.2.2.1,x.1.2.2.2.1,()),v1.1,(0:Int),())with
|none=>none
|some (.inl v4)=>
 some (true,())
|some (.inr v5)=>
 some (v5.1,())
noncomputable def wA:Spec:=⟨_,(.pair .bool .unit),.unit,rfl,kR⟩
noncomputable def uJ:FuncId→Option Spec:=a8 [(150,yf),(194,qw)]
theorem DB:∀f s,uJ f=some s→FnOK G0 Tryz.prog f s:=au ⟨vB,pb,trivial⟩
def sY:aF:=⟨[1,3,4],(.pair (.box ag) ak),0,[],.unit,[2],(.pair .bool .unit)⟩
noncomputable def uK:List ar:=[sY.spec eE]
theorem BG:aX aS E0 uJ (aW Tryz.f228 uK) Tryz.f228 0 sY eE:=fun x=>by kernel_rfl
theorem HF:FnOK G0 Tryz.prog 228 wA:=ax ah DB Tryz.func228 uK (by kernel_rfl) (by exact⟨(BG).lok,trivial⟩) fun x=>by kernel_rfl
noncomputable def dB(x:(Ty.T (.pair (.ptr ag) ak))):Option ((Ty.T (.pair (.ptr ag) ak)) ⊕ ((Ty.T (.pair (.ptr ag) (.pair (.int .i64) .unit))) ⊕ (Ty.T (.pair .bool .unit)))):=
match(decide (x.2.2.1<x.2.1))with
|true=>
 aa (aw x.1.2.2.2.1 x.2.1) fun v1=>
 aa (aw x.1.2.2.2.1 x.2.2.1) fun v2=>
 aL (
  match(v1.1==v2.1)with
  |true=>
   match(v1.2.2.1==v2.2.2.1)with
   |true=>
    match(v1.2.2.2.1.2.2.2.1 != v2.2.2.2.1.2.2.2.1)with
    |true=>
     some (.inr (.inr (false,())))
    |false=>
     some (.inl (x.1,x.2.1,(IntKind.i64.wrap (x.2.2.1+(1:Int))),()))
   |false=>
    some (.inl (x.1,x.2.1,(IntKind.i64.wrap (x.2.2.1+(1:Int))),()))
  |false=>
   some (.inl (x.1,x.2.1,(IntKind.i64.wrap (x.2.2.1+(1:Int))),())))
|false=>
 some (.inr (.inl (x.1,x.2.1,())))
noncomputable def dC(x:(Ty.T (.pair (.ptr ag) (.pair (.int .i64) .unit)))):Option ((Ty.T (.pair (.ptr ag) (.pair (.int .i64) .unit))) ⊕ ((Ty.T .unit) ⊕ (Ty.T (.pair .bool .unit)))):=
match(decide (x.2.1<(x.1.2.2.2.1.length:Int)))with
|true=>
 match ac dB (x.1,x.2.1,(0:Int),())with
 |none=>none
 |some (.inl v1)=>
  some (.inl (v1.1,(IntKind.i64.wrap (v1.2.1+(1:Int))),()))
 |some (.inr v2)=>
  some (.inr (.inr (v2.1,())))
|false=>
 some (.inr (.inl (())))
noncomputable def jl(x:Ty.T (.pair ag .unit)):Option (Ty.T (.pair .bool .unit)):=
match ac dC ((x.1.1,x.1.2.1,x.1.2.2.1,x.1.2.2.2.1,()),(0:Int),())with
|none=>none
|some (.inl v3)=>
 some (true,())
|some (.inr v4)=>
 some (v4.1,())
noncomputable def sZ:Spec:=⟨_,(.pair .bool .unit),.unit,rfl,jl⟩
noncomputable def l0:FuncId→Option Spec:=a8 []
theorem Ar:∀f s,l0 f=some s→FnOK G0 Tryz.prog f s:=au trivial
def pV:aF:=⟨[1,3],(.pair (.ptr ag) (.pair (.int .i64) .unit)),0,[],.unit,[2],(.pair .bool .unit)⟩
def pW:aF:=⟨[1,3,4],(.pair (.ptr ag) ak),2,[1,3],(.pair (.ptr ag) (.pair (.int .i64) .unit)),[2],(.pair .bool .unit)⟩
noncomputable def l3:List ar:=[pV.spec dC,pW.spec dB]
theorem yh:aX aS E0 l0 (aW Tryz.f229 l3) Tryz.f229 0 pV dC:=fun x=>by kernel_rfl
theorem yi:aX aS E0 l0 (aW Tryz.f229 l3) Tryz.f229 1 pW dB:=fun x=>by kernel_rfl
theorem DC:FnOK G0 Tryz.prog 229 sZ:=ax ah Ar Tryz.func229 l3 (by kernel_rfl) (by exact⟨(yh).lok,(yi).lok,trivial⟩) fun x=>by kernel_rfl
noncomputable def fN(x:(Ty.T (.pair (.int .i64) (.pair (.box ag) ak)))):Option ((Ty.T (.pair (.int .i64) (.pair (.box ag) ak))) ⊕ ((Ty.T (.pair (.int .i64) .unit)) ⊕ (Ty.T .unit))):=
match(decide (x.2.2.2.1<(x.2.1.2.2.2.1.length:Int)))with
|true=>
 aa (aw x.2.1.2.2.2.1 x.2.2.2.1) fun v1=>
 match(v1.1==x.1)with
 |true=>
  aa (aw x.2.1.2.2.2.1 x.2.2.2.1) fun v2=>
  some (.inl (x.1,(x.2.1.1,x.2.1.2.1,x.2.1.2.2.1,x.2.1.2.2.2.1,()),(IntKind.i64.wrap (x.2.2.1+v2.2.2.2.1.2.2.2.1)),(IntKind.i64.wrap (x.2.2.2.1+(1:Int))),()))
 |false=>
  some (.inl (x.1,(x.2.1.1,x.2.1.2.1,x.2.1.2.2.1,x.2.1.2.2.2.1,()),x.2.2.1,(IntKind.i64.wrap (x.2.2.2.1+(1:Int))),()))
|false=>
 some (.inr (.inl (x.2.2.1,())))
noncomputable def nX(x:Ty.T (.pair ag (.pair (.int .i64) .unit))):Option (Ty.T (.pair (.int .i64) .unit)):=
match ac fN (x.2.1,(x.1.1,x.1.2.1,x.1.2.2.1,x.1.2.2.2.1,()),(0:Int),(0:Int),())with
|none=>none
|some (.inl v3)=>
 some (v3.1,())
|some (.inr v5)=>
 none
noncomputable def BH:Spec:=⟨_,(.pair (.int .i64) .unit),.unit,rfl,nX⟩
noncomputable def za:FuncId→Option Spec:=a8 []
theorem HG:∀f s,za f=some s→FnOK G0 Tryz.prog f s:=au trivial
def wB:aF:=⟨[1,2,5,6],(.pair (.int .i64) (.pair (.box ag) ak)),0,[5],(.pair (.int .i64) .unit),[],.unit⟩
noncomputable def zb:List ar:=[wB.spec fN]
theorem FB:aX aS E0 za (aW Tryz.f230 zb) Tryz.f230 0 wB fN:=fun x=>by kernel_rfl
theorem L5:FnOK G0 Tryz.prog 230 BH:=ax ah HG Tryz.func230 zb (by kernel_rfl) (by exact⟨(FB).lok,trivial⟩) fun x=>by kernel_rfl
noncomputable def cV(x:(Ty.T (.pair (.box ag) ab))):Option ((Ty.T (.pair (.box ag) ab)) ⊕ ((Ty.T (.pair (.box ag) al)) ⊕ (Ty.T .unit))):=
match(decide (x.2.2.2.2.2.1<(x.1.2.2.2.1.length:Int)))with
|true=>
 aa (aw x.1.2.2.2.1 x.2.2.2.2.2.1) fun v3=>
 match(v3.1==x.2.2.1)with
 |true=>
  aa (aw x.1.2.2.2.1 x.2.2.2.2.2.1) fun v4=>
  match(v4.2.1==x.2.2.2.1)with
  |true=>
   aa (aw x.1.2.2.2.1 x.2.2.2.2.2.1) fun v5=>
   match g9 (x.2.2.2.2.1,v5.2.2.2.1.1,true,())with
   |none=>none
   |some v6=>
   some (.inl ((x.1.1,x.1.2.1,x.1.2.2.1,x.1.2.2.2.1,()),x.2.1,x.2.2.1,x.2.2.2.1,v6.1,(IntKind.i64.wrap (x.2.2.2.2.2.1+(1:Int))),()))
  |false=>
   some (.inl ((x.1.1,x.1.2.1,x.1.2.2.1,x.1.2.2.2.1,()),x.2.1,x.2.2.1,x.2.2.2.1,x.2.2.2.2.1,(IntKind.i64.wrap (x.2.2.2.2.2.1+(1:Int))),()))
 |false=>
  some (.inl ((x.1.1,x.1.2.1,x.1.2.2.1,x.1.2.2.2.1,()),x.2.1,x.2.2.1,x.2.2.2.1,x.2.2.2.2.1,(IntKind.i64.wrap (x.2.2.2.2.2.1+(1:Int))),()))
|false=>
 some (.inr (.inl ((x.1.1,x.1.2.1,x.1.2.2.1,x.1.2.2.2.1,()),x.2.1,x.2.2.1,x.2.2.2.1,x.2.2.2.2.1,())))
noncomputable def em(x:(Ty.T (.pair (.box ag) (.pair (.int .i64) ak)))):Option ((Ty.T (.pair (.box ag) (.pair (.int .i64) ak))) ⊕ ((Ty.T (.pair (.box ag) ak)) ⊕ (Ty.T (.pair .bool .unit)))):=
aa (aw x.1.2.2.1 x.2.2.1) fun v2=>
match(decide (x.2.2.2.1<v2.1))with
|true=>
 match ac cV ((x.1.1,x.1.2.1,x.1.2.2.1,x.1.2.2.2.1,()),x.2.1,x.2.2.1,x.2.2.2.1,(0:Int),(0:Int),())with
 |none=>none
 |some (.inl v3)=>
  match(v3.2.2.2.2.1 != v3.2.1)with
  |true=>
   some (.inr (.inr (false,())))
  |false=>
   some (.inl ((v3.1.1,v3.1.2.1,v3.1.2.2.1,v3.1.2.2.2.1,()),v3.2.1,v3.2.2.1,(IntKind.i64.wrap (v3.2.2.2.1+(1:Int))),()))
 |some (.inr v5)=>
  none
|false=>
 some (.inr (.inl ((x.1.1,x.1.2.1,x.1.2.2.1,x.1.2.2.2.1,()),x.2.1,x.2.2.1,())))
noncomputable def e6(x:(Ty.T (.pair (.box ag) ak))):Option ((Ty.T (.pair (.box ag) ak)) ⊕ ((Ty.T .unit) ⊕ (Ty.T (.pair .bool .unit)))):=
match(decide (x.2.2.1<(x.1.2.2.1.length:Int)))with
|true=>
 match ac em ((x.1.1,x.1.2.1,x.1.2.2.1,x.1.2.2.2.1,()),x.2.1,x.2.2.1,(0:Int),())with
 |none=>none
 |some (.inl v2)=>
  some (.inl ((v2.1.1,v2.1.2.1,v2.1.2.2.1,v2.1.2.2.2.1,()),v2.2.1,(IntKind.i64.wrap (v2.2.2.1+(1:Int))),()))
 |some (.inr v3)=>
  some (.inr (.inr (v3.1,())))
|false=>
 some (.inr (.inl (())))
noncomputable def mg(x:Ty.T (.pair ag .unit)):Option (Ty.T (.pair .bool .unit)):=
match kr (x.1.2.1,())with
|none=>none
|some v1=>
match ac e6 ((x.1.1,x.1.2.1,x.1.2.2.1,x.1.2.2.2.1,()),v1.1,(0:Int),())with
|none=>none
|some (.inl v4)=>
 some (true,())
|some (.inr v5)=>
 some (v5.1,())
noncomputable def zd:Spec:=⟨_,(.pair .bool .unit),.unit,rfl,mg⟩
noncomputable def lC:FuncId→Option Spec:=a8 [(109,yg),(194,qw)]
theorem FC:∀f s,lC f=some s→FnOK G0 Tryz.prog f s:=au ⟨vC,pb,trivial⟩
def uL:aF:=⟨[1,3,4],(.pair (.box ag) ak),0,[],.unit,[2],(.pair .bool .unit)⟩
def uM:aF:=⟨[1,3,4,5],(.pair (.box ag) (.pair (.int .i64) ak)),2,[1,3,4],(.pair (.box ag) ak),[2],(.pair .bool .unit)⟩
def s4:aF:=⟨[1,3,4,5,6,7],(.pair (.box ag) ab),4,[1,3,4,5,6],(.pair (.box ag) al),[],.unit⟩
noncomputable def lD:List ar:=[uL.spec e6,uM.spec em,s4.spec cV]
theorem DD:aX aS E0 lC (aW Tryz.f231 lD) Tryz.f231 0 uL e6:=fun x=>by kernel_rfl
theorem DE:aX aS E0 lC (aW Tryz.f231 lD) Tryz.f231 1 uM em:=fun x=>by kernel_rfl
theorem BI:aX aS E0 lC (aW Tryz.f231 lD) Tryz.f231 2 s4 cV:=fun x=>by kernel_rfl
theorem J3:FnOK G0 Tryz.prog 231 zd:=ax ah FC Tryz.func231 lD (by kernel_rfl) (by exact⟨(DD).lok,(DE).lok,(BI).lok,trivial⟩) fun x=>by kernel_rfl
noncomputable def dh(x:(Ty.T (.pair (.box ag) (.pair (.int .i64) .unit)))):Option ((Ty.T (.pair (.box ag) (.pair (.int .i64) .unit))) ⊕ ((Ty.T (.pair (.box ag) .unit)) ⊕ (Ty.T (.pair (.int .i64) .unit)))):=
match(decide (x.2.1<(x.1.2.2.1.length:Int)))with
|true=>
 match nX ((x.1.1,x.1.2.1,x.1.2.2.1,x.1.2.2.2.1,()),x.2.1,())with
 |none=>none
 |some v8=>
 match(decide (v8.1>(32000:Int)))with
 |true=>
  some (.inr (.inr ((8:Int),())))
 |false=>
  some (.inl ((x.1.1,x.1.2.1,x.1.2.2.1,x.1.2.2.2.1,()),(IntKind.i64.wrap (x.2.1+(1:Int))),()))
|false=>
 some (.inr (.inl ((x.1.1,x.1.2.1,x.1.2.2.1,x.1.2.2.2.1,()),())))
noncomputable def cJ(x:(Ty.T (.pair (.box ag) (.pair (.int .i64) .unit)))):Option ((Ty.T (.pair (.box ag) (.pair (.int .i64) .unit))) ⊕ ((Ty.T .unit) ⊕ (Ty.T (.pair (.int .i64) .unit)))):=
match(decide (x.2.1<(x.1.2.2.2.1.length:Int)))with
|true=>
 aa (aw x.1.2.2.2.1 x.2.1) fun v12=>
 match(v12.2.2.2.1.2.1==(3:Int))with
 |true=>
  aa (aw x.1.2.2.2.1 x.2.1) fun v13=>
  match(v13.1 != (0:Int))with
  |true=>
   some (.inr (.inr ((10:Int),())))
  |false=>
   some (.inl ((x.1.1,x.1.2.1,x.1.2.2.1,x.1.2.2.2.1,()),(IntKind.i64.wrap (x.2.1+(1:Int))),()))
 |false=>
  some (.inl ((x.1.1,x.1.2.1,x.1.2.2.1,x.1.2.2.2.1,()),(IntKind.i64.wrap (x.2.1+(1:Int))),()))
|false=>
 some (.inr (.inl (())))
noncomputable def kS(x:Ty.T (.pair ag .unit)):Option (Ty.T (.pair (.int .i64) .unit)):=
match bg (x.1.1,(1:Int),(16777215:Int),())with
|none=>none
|some v1=>
match(!v1.1)with
|true=>
 some ((1:Int),())
|false=>
 match mC (x.1.2.1,())with
 |none=>none
 |some v2=>
 match(!v2.1)with
 |true=>
  some ((2:Int),())
 |false=>
  match mD (x.1.2.2.1,())with
  |none=>none
  |some v3=>
  match(!v3.1)with
  |true=>
   some ((3:Int),())
  |false=>
   match mF (x.1.2.2.2.1,())with
   |none=>none
   |some v4=>
   match(!v4.1)with
   |true=>
    some ((4:Int),())
   |false=>
    match kb ((x.1.1,x.1.2.1,x.1.2.2.1,x.1.2.2.2.1,()),())with
    |none=>none
    |some v5=>
    match(!v5.1)with
    |true=>
     some ((5:Int),())
    |false=>
     match kR ((x.1.1,x.1.2.1,x.1.2.2.1,x.1.2.2.2.1,()),())with
     |none=>none
     |some v6=>
     match(!v6.1)with
     |true=>
      some ((6:Int),())
     |false=>
      match jl ((x.1.1,x.1.2.1,x.1.2.2.1,x.1.2.2.2.1,()),())with
      |none=>none
      |some v7=>
      match(!v7.1)with
      |true=>
       some ((7:Int),())
      |false=>
       match ac dh ((x.1.1,x.1.2.1,x.1.2.2.1,x.1.2.2.2.1,()),(0:Int),())with
       |none=>none
       |some (.inl v9)=>
        match mg ((v9.1.1,v9.1.2.1,v9.1.2.2.1,v9.1.2.2.2.1,()),())with
        |none=>none
        |some v11=>
        match(!v11.1)with
        |true=>
         some ((9:Int),())
        |false=>
         match ac cJ ((v9.1.1,v9.1.2.1,v9.1.2.2.1,v9.1.2.2.2.1,()),(0:Int),())with
         |none=>none
         |some (.inl v14)=>
          some ((0:Int),())
         |some (.inr v15)=>
          some (v15.1,())
       |some (.inr v10)=>
        some (v10.1,())
noncomputable def J4:Spec:=⟨_,(.pair (.int .i64) .unit),.unit,rfl,kS⟩
noncomputable def nY:FuncId→Option Spec:=a8 [(144,kP),(224,uE),(225,uF),(226,uG),(227,uH),(228,wA),(229,sZ),(230,BH),(231,zd)]
theorem DF:∀f s,nY f=some s→FnOK G0 Tryz.prog f s:=au ⟨cp,Ft,Fv,Fy,Fz,HF,DC,L5,J3,trivial⟩
def q8:aF:=⟨[1,3],(.pair (.box ag) (.pair (.int .i64) .unit)),1,[1],(.pair (.box ag) .unit),[2],(.pair (.int .i64) .unit)⟩
def q9:aF:=⟨[1,4],(.pair (.box ag) (.pair (.int .i64) .unit)),3,[],.unit,[2],(.pair (.int .i64) .unit)⟩
noncomputable def nZ:List ar:=[q8.spec dh,q9.spec cJ]
theorem As:aX aS E0 nY (aW Tryz.f191 nZ) Tryz.f191 0 q8 dh:=fun x=>by kernel_rfl
theorem Au:aX aS E0 nY (aW Tryz.f191 nZ) Tryz.f191 1 q9 cJ:=fun x=>by kernel_rfl
theorem HH:FnOK G0 Tryz.prog 191 J4:=ax ah DF Tryz.func191 nZ (by kernel_rfl) (by exact⟨(As).lok,(Au).lok,trivial⟩) fun x=>by kernel_rfl
noncomputable def pc(x:Ty.T (.pair ag .unit)):Option (Ty.T (.pair .bool .unit)):=
match kS ((x.1.1,x.1.2.1,x.1.2.2.1,x.1.2.2.2.1,()),())with
|none=>none
|some v1=>
some ((v1.1==(0:Int)),())
noncomputable def Sv:Spec:=⟨_,(.pair .bool .unit),.unit,rfl,pc⟩
theorem P2:FnOK G0 Tryz.prog 142 Sv:=ai ah (sg HH (az)) Tryz.func142
noncomputable def jA(x:Ty.T (.pair ab .unit)):Option (Ty.T (.pair .bool .unit)):=
match bg (x.1.1,(0:Int),(65535:Int),())with
|none=>none
|some v1=>
match v1.1 with
|true=>
 match bg (x.1.2.1,(0:Int),(15:Int),())with
 |none=>none
 |some v2=>
 match v2.1 with
 |true=>
  match bg (x.1.2.2.1,(0:Int),(15:Int),())with
  |none=>none
  |some v3=>
  match v3.1 with
  |true=>
   match bg (x.1.2.2.2.1,(0:Int),(255:Int),())with
   |none=>none
   |some v4=>
   match v4.1 with
   |true=>
    match bg (x.1.2.2.2.2.1,(0:Int),(4294967295:Int),())with
    |none=>none
    |some v5=>
    some (v5.1,())
   |false=>
    some (false,())
  |false=>
   some (false,())
 |false=>
  some (false,())
|false=>
 some (false,())
noncomputable def P3:Spec:=⟨_,(.pair .bool .unit),.unit,rfl,jA⟩
theorem BJ:FnOK G0 Tryz.prog 192 P3:=ai ah (sg cp (az)) Tryz.func192
noncomputable def BK(x:Ty.T (.pair (.list ao) (.pair (.int .i64) .unit))):Option (Ty.T (.pair .bool .unit)):=
match bg (x.2.1,(0:Int),(IntKind.i64.wrap ((x.1.length:Int)-(1:Int))),())with
|none=>none
|some v1=>
some (v1.1,())
noncomputable def P4:Spec:=⟨_,(.pair .bool .unit),.unit,rfl,BK⟩
theorem N0:FnOK G0 Tryz.prog 193 P4:=ai ah (sg cp (az)) Tryz.func193
noncomputable def kT(x:Ty.T (.pair ag (.pair ab .unit))):Option (Ty.T (.pair .bool .unit)):=
match jA ((x.2.1.1,x.2.1.2.1,x.2.1.2.2.1,x.2.1.2.2.2.1,x.2.1.2.2.2.2.1,()),())with
|none=>none
|some v1=>
match(!v1.1)with
|true=>
 some (false,())
|false=>
 match BK (x.1.2.2.1,x.2.1.2.1,())with
 |none=>none
 |some v2=>
 match(!v2.1)with
 |true=>
  some (false,())
 |false=>
  aa (aw x.1.2.2.1 x.2.1.2.1) fun v3=>
  match(decide (x.2.1.2.2.1≥v3.1))with
  |true=>
   some (false,())
  |false=>
   aa (aw x.1.2.2.1 x.2.1.2.1) fun v4=>
   match(decide (x.2.1.2.2.2.1≥v4.2.1))with
   |true=>
    some (false,())
   |false=>
    match kr (x.1.2.1,())with
    |none=>none
    |some v5=>
    some (((bits BinOp.and .i64 x.2.1.2.2.2.2.1 v5.1)==x.2.1.2.2.2.2.1),())
noncomputable def J5:Spec:=⟨_,(.pair .bool .unit),.unit,rfl,kT⟩
theorem HI:FnOK G0 Tryz.prog 143 J5:=ai ah (sg BJ (sg N0 (sg pb (az)))) Tryz.func143
noncomputable def uN(x:Ty.T (.pair ag (.pair ab .unit))):Option (Ty.T (.pair (.int .i64) .unit)):=
match pc ((x.1.1,x.1.2.1,x.1.2.2.1,x.1.2.2.2.1,()),())with
|none=>none
|some v1=>
match(!v1.1)with
|true=>
 some ((1:Int),())
|false=>
 match kT ((x.1.1,x.1.2.1,x.1.2.2.1,x.1.2.2.2.1,()),(x.2.1.1,x.2.1.2.1,x.2.1.2.2.1,x.2.1.2.2.2.1,x.2.1.2.2.2.2.1,()),())with
 |none=>none
 |some v2=>
 match(!v2.1)with
 |true=>
  some ((2:Int),())
 |false=>
  some ((0:Int),())
noncomputable def Ek:Spec:=⟨_,(.pair (.int .i64) .unit),.unit,rfl,uN⟩
theorem N1:FnOK G0 Tryz.prog 103 Ek:=ai ah (sg P2 (sg HI (az))) Tryz.func103
noncomputable def vD(x:Ty.T (.pair (.int .i64) .unit)):Option (Ty.T (.pair .bool (.pair .bool .unit))):=
match(x.1==(2:Int))with
|true=>
 some (true,false,())
|false=>
 match(x.1==(3:Int))with
 |true=>
  some (true,false,())
 |false=>
  match(x.1==(4:Int))with
  |true=>
   some (true,true,())
  |false=>
   match(x.1==(6:Int))with
   |true=>
    some (true,true,())
   |false=>
    some (false,false,())
noncomputable def L6:Spec:=⟨_,(.pair .bool (.pair .bool .unit)),.unit,rfl,vD⟩
theorem J6:FnOK G0 Tryz.prog 169 L6:=ai ah az Tryz.func169
noncomputable def pX(x:Ty.T (.pair al .unit)):Option (Ty.T (.pair .bool .unit)):=
match bg (x.1.1,(1:Int),(6:Int),())with
|none=>none
|some v1=>
match(!v1.1)with
|true=>
 some (false,())
|false=>
 match bg (x.1.2.1,(0:Int),(8192:Int),())with
 |none=>none
 |some v2=>
 match(!v2.1)with
 |true=>
  some (false,())
 |false=>
  match vD (x.1.1,())with
  |none=>none
  |some v3=>
  match v3.1 with
  |true=>
   match bg (x.1.2.2.1,(1:Int),(8192:Int),())with
   |none=>none
   |some v4=>
   match(!v4.1)with
   |true=>
    some (false,())
   |false=>
    match(!v3.1)with
    |true=>
     match(x.1.2.2.1 != (0:Int))with
     |true=>
      some (false,())
     |false=>
      match bg (x.1.2.2.2.1,(0:Int),(1:Int),())with
      |none=>none
      |some v5=>
      match v5.1 with
      |true=>
       match v3.2.1 with
       |true=>
        some (true,())
       |false=>
        some ((x.1.2.2.2.1==(0:Int)),())
      |false=>
       some (false,())
    |false=>
     match bg (x.1.2.2.2.1,(0:Int),(1:Int),())with
     |none=>none
     |some v6=>
     match v6.1 with
     |true=>
      match v3.2.1 with
      |true=>
       some (true,())
      |false=>
       some ((x.1.2.2.2.1==(0:Int)),())
     |false=>
      some (false,())
  |false=>
   match(!v3.1)with
   |true=>
    match(x.1.2.2.1 != (0:Int))with
    |true=>
     some (false,())
    |false=>
     match bg (x.1.2.2.2.1,(0:Int),(1:Int),())with
     |none=>none
     |some v7=>
     match v7.1 with
     |true=>
      match v3.2.1 with
      |true=>
       some (true,())
      |false=>
       some ((x.1.2.2.2.1==(0:Int)),())
     |false=>
      some (false,())
   |false=>
    match bg (x.1.2.2.2.1,(0:Int),(1:Int),())with
    |none=>none
    |some v8=>
    match v8.1 with
    |true=>
     match v3.2.1 with
     |true=>
      some (true,())
     |false=>
      some ((x.1.2.2.2.1==(0:Int)),())
    |false=>
     some (false,())
noncomputable def El:Spec:=⟨_,(.pair .bool .unit),.unit,rfl,pX⟩
theorem N2:FnOK G0 Tryz.prog 124 El:=ai ah (sg cp (sg J6 (az))) Tryz.func124
noncomputable def fO(x:(Ty.T (.pair (.list al) (.pair (.int .i64) .unit)))):Option ((Ty.T (.pair (.list al) (.pair (.int .i64) .unit))) ⊕ ((Ty.T (.pair (.list al) .unit)) ⊕ (Ty.T (.pair .bool .unit)))):=
match(decide (x.2.1<(x.1.length:Int)))with
|true=>
 aa (aw x.1 x.2.1) fun v1=>
 match pX (v1,())with
 |none=>none
 |some v2=>
 match(!v2.1)with
 |true=>
  some (.inr (.inr (false,())))
 |false=>
  some (.inl (x.1,(IntKind.i64.wrap (x.2.1+(1:Int))),()))
|false=>
 some (.inr (.inl (x.1,())))
noncomputable def n6(x:Ty.T (.pair (.list al) .unit)):Option (Ty.T (.pair .bool .unit)):=
match ac fO (x.1,(0:Int),())with
|none=>none
|some (.inl v3)=>
 some ((decide ((v3.1.length:Int)≤(30:Int))),())
|some (.inr v4)=>
 some (v4.1,())
noncomputable def N3:Spec:=⟨_,(.pair .bool .unit),.unit,rfl,n6⟩
noncomputable def ze:FuncId→Option Spec:=a8 [(124,El)]
theorem HJ:∀f s,ze f=some s→FnOK G0 Tryz.prog f s:=au ⟨N2,trivial⟩
def wC:aF:=⟨[0,3],(.pair (.list al) (.pair (.int .i64) .unit)),0,[0],(.pair (.list al) .unit),[2],(.pair .bool .unit)⟩
noncomputable def zf:List ar:=[wC.spec fO]
theorem FD:aX aS E0 ze (aW Tryz.f87 zf) Tryz.f87 0 wC fO:=fun x=>by kernel_rfl
theorem L7:FnOK G0 Tryz.prog 87 N3:=ax ah HJ Tryz.func87 zf (by kernel_rfl) (by exact⟨(FD).lok,trivial⟩) fun x=>by kernel_rfl
noncomputable def yj(x:Ty.T (.pair aH .unit)):Option (Ty.T (.pair .bool .unit)):=
match bg (x.1.1,(0:Int),(255:Int),())with
|none=>none
|some v1=>
match v1.1 with
|true=>
 match bg (x.1.2.1,(0:Int),(7:Int),())with
 |none=>none
 |some v2=>
 match v2.1 with
 |true=>
  match n6 (x.1.2.2.1,())with
  |none=>none
  |some v3=>
  match v3.1 with
  |true=>
   match n6 (x.1.2.2.2.1,())with
   |none=>none
   |some v4=>
   some (v4.1,())
  |false=>
   some (false,())
 |false=>
  some (false,())
|false=>
 some (false,())
noncomputable def HK:Spec:=⟨_,(.pair .bool .unit),.unit,rfl,yj⟩
theorem P5:FnOK G0 Tryz.prog 104 HK:=ai ah (sg L7 (sg cp (az))) Tryz.func104
noncomputable def b8(x:(Ty.T (.pair (.list aH) ak))):Option ((Ty.T (.pair (.list aH) ak)) ⊕ ((Ty.T (.pair (.int .i64) .unit)) ⊕ (Ty.T .unit))):=
match(decide (x.2.2.1<(x.1.length:Int)))with
|true=>
 match(x.2.1==(0:Int))with
 |true=>
  aa (aw x.1 x.2.2.1) fun v2=>
  match yj (v2,())with
  |none=>none
  |some v3=>
  match(!v3.1)with
  |true=>
   some (.inl (x.1,(5:Int),(IntKind.i64.wrap (x.2.2.1+(1:Int))),()))
  |false=>
   some (.inl (x.1,x.2.1,(IntKind.i64.wrap (x.2.2.1+(1:Int))),()))
 |false=>
  some (.inr (.inl (x.2.1,())))
|false=>
 some (.inr (.inl (x.2.1,())))
noncomputable def uO(x:Ty.T (.pair ag (.pair ab (.pair (.list aH) .unit)))):Option (Ty.T (.pair (.int .i64) .unit)):=
match uN (x.1,x.2.1,())with
|none=>none
|some v1=>
match(v1.1==(0:Int))with
|true=>
 match(decide ((x.2.2.1.length:Int)>(40:Int)))with
 |true=>
  match ac b8 (x.2.2.1,(3:Int),(0:Int),())with
  |none=>none
  |some (.inl v4)=>
   some (v4.1,())
  |some (.inr v6)=>
   none
 |false=>
  match ac b8 (x.2.2.1,v1.1,(0:Int),())with
  |none=>none
  |some (.inl v7)=>
   some (v7.1,())
  |some (.inr v9)=>
   none
|false=>
 match ac b8 (x.2.2.1,v1.1,(0:Int),())with
 |none=>none
 |some (.inl v10)=>
  some (v10.1,())
 |some (.inr v12)=>
  none
noncomputable def P6:Spec:=⟨_,(.pair (.int .i64) .unit),.unit,rfl,uO⟩
noncomputable def BL:FuncId→Option Spec:=a8 [(103,Ek),(104,HK)]
theorem J7:∀f s,BL f=some s→FnOK G0 Tryz.prog f s:=au ⟨N1,P5,trivial⟩
def zg:aF:=⟨[2,7,8],(.pair (.list aH) ak),0,[7],(.pair (.int .i64) .unit),[],.unit⟩
noncomputable def BM:List ar:=[zg.spec b8]
theorem HL:aX aS E0 BL (aW Tryz.f72 BM) Tryz.f72 0 zg b8:=fun x=>by kernel_rfl
theorem N4:FnOK G0 Tryz.prog 72 P6:=ax ah J7 Tryz.func72 BM (by kernel_rfl) (by exact⟨(HL).lok,trivial⟩) fun x=>by kernel_rfl
noncomputable def cG(x:Ty.T (.pair ag (.pair ab .unit))):Option (Ty.T (.pair aZ .unit)):=
match pU (x.1.2.2.2.1,x.2.1.2.1,x.2.1.2.2.1,x.2.1.2.2.2.1,())with
|none=>none
|some v1=>
aa (aw x.1.2.2.2.1 v1.1) fun v2=>
some ((v2.2.2.2.1.1,v2.2.2.2.1.2.1,v2.2.2.2.1.2.2.1,v2.2.2.2.1.2.2.2.1,v2.2.2.2.1.2.2.2.2.1,()),())
noncomputable def Em:Spec:=⟨_,(.pair aZ .unit),.unit,rfl,cG⟩
theorem hU:FnOK G0 Tryz.prog 79 Em:=ai ah (sg BE (az)) Tryz.func79
noncomputable def iU(x:Ty.T (.pair (.list (.int .i64)) .unit)):Option (Ty.T (.pair (.own 2 (.int .i64)) .unit)):=
a7 (([]:List (Ty.T (.int .i64))).length+x.1.length) (
 some ((([]:List (Ty.T (.int .i64)))++x.1),()))
noncomputable def yk:Spec:=⟨_,(.pair (.own 2 (.int .i64)) .unit),.unit,rfl,iU⟩
theorem vE:FnOK G0 Tryz.prog 125 yk:=ai ah az Tryz.func125
noncomputable def gU(x:(Ty.T (.pair (.int .i64) (.pair (.int .i64) (.pair (.own 2 (.int .i64)) .unit))))):Option ((Ty.T (.pair (.int .i64) (.pair (.int .i64) (.pair (.own 2 (.int .i64)) .unit)))) ⊕ ((Ty.T (.pair (.own 2 (.int .i64)) .unit)) ⊕ (Ty.T .unit))):=
match(decide (x.1>(0:Int)))with
|true=>
 a7 (x.2.2.1.length+ [x.2.1].length) (
  some (.inl ((IntKind.i64.wrap (x.1-(1:Int))),x.2.1,(x.2.2.1++ [x.2.1]),())))
|false=>
 some (.inr (.inl (x.2.2.1,())))
noncomputable def dp(x:Ty.T ak):Option (Ty.T (.pair (.own 2 (.int .i64)) .unit)):=
match ac gU (x.1,x.2.1,[],())with
|none=>none
|some (.inl v1)=>
 some (v1.1,())
|some (.inr v3)=>
 none
noncomputable def s5:Spec:=⟨_,(.pair (.own 2 (.int .i64)) .unit),.unit,rfl,dp⟩
noncomputable def zh:FuncId→Option Spec:=a8 []
theorem HM:∀f s,zh f=some s→FnOK G0 Tryz.prog f s:=au trivial
def wD:aF:=⟨[0,1,5],(.pair (.int .i64) (.pair (.int .i64) (.pair (.own 2 (.int .i64)) .unit))),0,[5],(.pair (.own 2 (.int .i64)) .unit),[],.unit⟩
noncomputable def zi:List ar:=[wD.spec gU]
theorem FE:aX aS E0 zh (aW Tryz.f147 zi) Tryz.f147 0 wD gU:=fun x=>by kernel_rfl
theorem kd:FnOK G0 Tryz.prog 147 s5:=ax ah HM Tryz.func147 zi (by kernel_rfl) (by exact⟨(FE).lok,trivial⟩) fun x=>by kernel_rfl
noncomputable def cO(x:(Ty.T (.pair (.box al) (.pair (.int .i64) (.pair (.own 2 (.int .i64)) (.pair (.int .i64) .unit)))))):Option ((Ty.T (.pair (.box al) (.pair (.int .i64) (.pair (.own 2 (.int .i64)) (.pair (.int .i64) .unit))))) ⊕ ((Ty.T (.pair (.own 2 (.int .i64)) .unit)) ⊕ (Ty.T .unit))):=
match(decide (x.2.2.2.1<x.2.1))with
|true=>
 match(x.1.1==(5:Int))with
 |true=>
  aa (aw x.2.2.1 x.2.2.2.1) fun _=>
  match x.2.2.1[x.2.2.2.1.toNat]? with
  |none=>none
  |some v3=>
  some (.inl ((x.1.1,x.1.2.1,x.1.2.2.1,x.1.2.2.2.1,()),x.2.1,(x.2.2.1.set x.2.2.2.1.toNat (1:Int)),(IntKind.i64.wrap (x.2.2.2.1+(1:Int))),()))
 |false=>
  match(x.1.1==(6:Int))with
  |true=>
   aa (aw x.2.2.1 x.2.2.2.1) fun _=>
   match x.2.2.1[x.2.2.2.1.toNat]? with
   |none=>none
   |some v5=>
   some (.inl ((x.1.1,x.1.2.1,x.1.2.2.1,x.1.2.2.2.1,()),x.2.1,(x.2.2.1.set x.2.2.2.1.toNat x.1.2.2.2.1),(IntKind.i64.wrap (x.2.2.2.1+(1:Int))),()))
  |false=>
   aa (aw x.2.2.1 x.2.2.2.1) fun _=>
   match x.2.2.1[x.2.2.2.1.toNat]? with
   |none=>none
   |some v7=>
   aa (aw x.2.2.1 x.2.2.2.1) fun _=>
   match x.2.2.1[x.2.2.2.1.toNat]? with
   |none=>none
   |some v9=>
   some (.inl ((x.1.1,x.1.2.1,x.1.2.2.1,x.1.2.2.2.1,()),x.2.1,(x.2.2.1.set x.2.2.2.1.toNat (IntKind.i64.wrap ((1:Int)-v7))),(IntKind.i64.wrap (x.2.2.2.1+(1:Int))),()))
|false=>
 some (.inr (.inl (x.2.2.1,())))
noncomputable def e7(x:Ty.T (.pair (.list (.int .i64)) (.pair (.box al) ak))):Option (Unit ⊕ (Ty.T (.pair (.list (.int .i64)) .unit))):=
match iU (x.1,())with
|none=>none
|some v1=>
match ac cO ((x.2.1.1,x.2.1.2.1,x.2.1.2.2.1,x.2.1.2.2.2.1,()),x.2.2.2.1,v1.1,x.2.2.1,())with
|none=>none
|some (.inl v2)=>
 some (.inr (v2.1,()))
|some (.inr v4)=>
 none
noncomputable def jm(x:Ty.T (.pair (.list (.int .i64)) (.pair (.box al) (.pair (.int .i64) ak)))):Option (Unit ⊕ (Ty.T (.pair (.list (.int .i64)) .unit))):=
match(x.2.1.1==(1:Int))with
|true=>
 match e7 (x.1,(x.2.1.1,x.2.1.2.1,x.2.1.2.2.1,x.2.1.2.2.2.1,()),x.2.2.2.1,(if(IntKind.i64.wrap (x.2.1.2.1+(1:Int)))<x.2.2.1 then(IntKind.i64.wrap (x.2.1.2.1+(1:Int)))else x.2.2.1),())with
 |none=>none
 |some (.inl v6)=>none
 |some (.inr v5)=>
  some (.inr (v5.1,()))
|false=>
 match(x.2.1.1==(5:Int))with
 |true=>
  match e7 (x.1,(x.2.1.1,x.2.1.2.1,x.2.1.2.2.1,x.2.1.2.2.2.1,()),x.2.2.2.1,x.2.2.1,())with
  |none=>none
  |some (.inl v8)=>none
  |some (.inr v7)=>
   some (.inr (v7.1,()))
 |false=>
  match(x.2.1.1==(3:Int))with
  |true=>
   aa (aC x.1.length none (some (.dat (.int .i64) x.2.2.2.1))) fun v9=>
   aa (aC x.1.length (some (.dat (.int .i64) x.2.2.2.2.1)) none) fun v10=>
   match iU ((List.drop v9.1 (List.take v9.2 x.1)),())with
   |none=>none
   |some v11=>
   a7 (v11.1.length+(List.drop v10.1 (List.take v10.2 x.1)).length) (
    some (.inr ((v11.1++(List.drop v10.1 (List.take v10.2 x.1))),())))
  |false=>
   match(x.2.1.1==(4:Int))with
   |true=>
    match(decide (x.2.1.2.1>x.2.2.1))with
    |true=>
     match iU (x.1,())with
     |none=>none
     |some v12=>
     some (.inr (v12.1,()))
    |false=>
     aa (aC x.1.length none (some (.dat (.int .i64) x.2.2.2.1))) fun v13=>
     match iU ((List.drop v13.1 (List.take v13.2 x.1)),())with
     |none=>none
     |some v14=>
     match dp (x.2.1.2.2.1,x.2.1.2.2.2.1,())with
     |none=>none
     |some v15=>
     a7 (v14.1.length+v15.1.length) (
      aa (aC x.1.length (some (.dat (.int .i64) x.2.2.2.1)) none) fun v16=>
      a7 ((v14.1++v15.1).length+(List.drop v16.1 (List.take v16.2 x.1)).length) (
       aa (aC ((v14.1++v15.1)++(List.drop v16.1 (List.take v16.2 x.1))).length none (some (.dat (.int .i64) (if(8192:Int)<(((v14.1++v15.1)++(List.drop v16.1 (List.take v16.2 x.1))).length:Int)then(8192:Int)else(((v14.1++v15.1)++(List.drop v16.1 (List.take v16.2 x.1))).length:Int))))) fun v17=>
       some (.inr ((List.drop v17.1 (List.take v17.2 ((v14.1++v15.1)++(List.drop v16.1 (List.take v16.2 x.1))))),()))))
   |false=>
    match e7 (x.1,(x.2.1.1,x.2.1.2.1,x.2.1.2.2.1,x.2.1.2.2.2.1,()),x.2.2.2.1,x.2.2.2.2.1,())with
    |none=>none
    |some (.inl v19)=>none
    |some (.inr v18)=>
     some (.inr (v18.1,()))
noncomputable def lE(x:Ty.T (.pair (.list (.int .i64)) (.pair al .unit))):Option (Ty.T (.pair (.list (.int .i64)) .unit)):=
aL (
 match jm (x.1,(x.2.1.1,x.2.1.2.1,x.2.1.2.2.1,x.2.1.2.2.2.1,()),(x.1.length:Int),(if x.2.1.2.1<(x.1.length:Int)then x.2.1.2.1 else(x.1.length:Int)),(if(IntKind.i64.wrap (x.2.1.2.1+x.2.1.2.2.1))<(x.1.length:Int)then(IntKind.i64.wrap (x.2.1.2.1+x.2.1.2.2.1))else(x.1.length:Int)),())with
 |none=>none
 |some (.inl v21)=>none
 |some (.inr v20)=>
  some (v20.1,()))
noncomputable def s6:Spec:=⟨_,(.pair (.list (.int .i64)) .unit),.unit,rfl,lE⟩
noncomputable def fB:FuncId→Option Spec:=a8 [(125,yk),(147,s5)]
theorem HN:∀f s,fB f=some s→FnOK G0 Tryz.prog f s:=au ⟨vE,kd,trivial⟩
noncomputable def uP:List (Nat×ar):=[(3,⟨[0,3,5,6,7],(.pair (.list (.int .i64)) (.pair (.box al) (.pair (.int .i64) ak))),1000003,[],.unit,[4],(.pair (.list (.int .i64)) .unit),jm⟩),(16,⟨[0,3,6,7],(.pair (.list (.int .i64)) (.pair (.box al) ak)),1000016,[],.unit,[4],(.pair (.list (.int .i64)) .unit),e7⟩)]
noncomputable def ke:Nat→Option ar:=JR (bF (eK Tryz.f126)) [⟨[3,7,9,10],(.pair (.box al) (.pair (.int .i64) (.pair (.own 2 (.int .i64)) (.pair (.int .i64) .unit)))),1,[9],(.pair (.own 2 (.int .i64)) .unit),[],.unit,ac cO⟩] uP
theorem FF(x):dl aS E0 fB ke Tryz.f126.ntmps (A6 Tryz.f126 2) (dA Tryz.f126.ntmps [0,3,5,6,7] (.pair (.list (.int .i64)) (.pair (.box al) (.pair (.int .i64) ak))) x) (pr fB Tryz.f126.ntmps 1000003 [] .unit [4] (.pair (.list (.int .i64)) .unit))=jm x:=by kernel_rfl
theorem DG(x):dl aS E0 fB ke Tryz.f126.ntmps (A6 Tryz.f126 3) (dA Tryz.f126.ntmps [0,3,6,7] (.pair (.list (.int .i64)) (.pair (.box al) ak)) x) (pr fB Tryz.f126.ntmps 1000016 [] .unit [4] (.pair (.list (.int .i64)) .unit))=e7 x:=by kernel_rfl
theorem DH(x):dl aS E0 fB ke Tryz.f126.ntmps (JS Tryz.f126 0) (dA Tryz.f126.ntmps [3,7,9,10] (.pair (.box al) (.pair (.int .i64) (.pair (.own 2 (.int .i64)) (.pair (.int .i64) .unit)))) x) (x8 fB Tryz.f126.ntmps [3,7,9,10] (.pair (.box al) (.pair (.int .i64) (.pair (.own 2 (.int .i64)) (.pair (.int .i64) .unit)))) 1 [9] (.pair (.own 2 (.int .i64)) .unit) [] .unit)=cO x:=by kernel_rfl
theorem L8:FnOK G0 Tryz.prog 126 s6:=TF (Λ:=ke) ah HN Tryz.func126 (by kernel_rfl) (show Tryz.f126.body=some (eK Tryz.f126) by kernel_rfl) [⟨[3,7,9,10],(.pair (.box al) (.pair (.int .i64) (.pair (.own 2 (.int .i64)) (.pair (.int .i64) .unit)))),1,[9],(.pair (.own 2 (.int .i64)) .unit),[],.unit,ac cO⟩] uP rfl (by kernel_rfl) (by exact⟨NG (DH),trivial⟩) (by exact⟨trivial,trivial,vY FF,vY DG,trivial,trivial,trivial,trivial,trivial,trivial,trivial,trivial,trivial,trivial,trivial,trivial,trivial,trivial,trivial,trivial,trivial,trivial,trivial,trivial,trivial,trivial,trivial⟩) (by kernel_rfl)
 fun x y h=>(show pF aS E0 fB ke Tryz.f126 s6 x=lE x by kernel_rfl).trans h
noncomputable def fP(x:(Ty.T (.pair (.list al) (.pair (.list (.int .i64)) (.pair (.int .i64) .unit))))):Option ((Ty.T (.pair (.list al) (.pair (.list (.int .i64)) (.pair (.int .i64) .unit)))) ⊕ ((Ty.T (.pair (.list (.int .i64)) .unit)) ⊕ (Ty.T .unit))):=
match(decide (x.2.2.1<(x.1.length:Int)))with
|true=>
 aa (aw x.1 x.2.2.1) fun v2=>
 match lE (x.2.1,v2,())with
 |none=>none
 |some v3=>
 some (.inl (x.1,v3.1,(IntKind.i64.wrap (x.2.2.1+(1:Int))),()))
|false=>
 some (.inr (.inl (x.2.1,())))
noncomputable def gK(x:Ty.T (.pair (.list (.int .i64)) (.pair (.list al) .unit))):Option (Ty.T (.pair (.list (.int .i64)) .unit)):=
match iU (x.1,())with
|none=>none
|some v1=>
match ac fP (x.2.1,v1.1,(0:Int),())with
|none=>none
|some (.inl v4)=>
 some (v4.1,())
|some (.inr v6)=>
 none
noncomputable def N5:Spec:=⟨_,(.pair (.list (.int .i64)) .unit),.unit,rfl,gK⟩
noncomputable def zj:FuncId→Option Spec:=a8 [(125,yk),(126,s6)]
theorem HO:∀f s,zj f=some s→FnOK G0 Tryz.prog f s:=au ⟨vE,L8,trivial⟩
def wE:aF:=⟨[1,5,6],(.pair (.list al) (.pair (.list (.int .i64)) (.pair (.int .i64) .unit))),0,[5],(.pair (.list (.int .i64)) .unit),[],.unit⟩
noncomputable def zk:List ar:=[wE.spec fP]
theorem FG:aX aS E0 zj (aW Tryz.f88 zk) Tryz.f88 0 wE fP:=fun x=>by kernel_rfl
theorem L9:FnOK G0 Tryz.prog 88 N5:=ax ah HO Tryz.func88 zk (by kernel_rfl) (by exact⟨(FG).lok,trivial⟩) fun x=>by kernel_rfl
noncomputable def gu(x:(Ty.T (.pair (.list (.int .i64)) (.pair (.list (.int .i64)) (.pair (.int .i64) .unit))))):Option ((Ty.T (.pair (.list (.int .i64)) (.pair (.list (.int .i64)) (.pair (.int .i64) .unit)))) ⊕ ((Ty.T .unit) ⊕ (Ty.T (.pair .bool .unit)))):=
match(decide (x.2.2.1<(x.1.length:Int)))with
|true=>
 aa (aw x.1 x.2.2.1) fun v1=>
 aa (aw x.2.1 x.2.2.1) fun v2=>
 match(v1 != v2)with
 |true=>
  some (.inr (.inr (false,())))
 |false=>
  some (.inl (x.1,x.2.1,(IntKind.i64.wrap (x.2.2.1+(1:Int))),()))
|false=>
 some (.inr (.inl (())))
noncomputable def bo(x:Ty.T (.pair (.list (.int .i64)) (.pair (.list (.int .i64)) .unit))):Option (Ty.T (.pair .bool .unit)):=
match((x.1.length:Int) != (x.2.1.length:Int))with
|true=>
 some (false,())
|false=>
 match ac gu (x.1,x.2.1,(0:Int),())with
 |none=>none
 |some (.inl v3)=>
  some (true,())
 |some (.inr v4)=>
  some (v4.1,())
noncomputable def P7:Spec:=⟨_,(.pair .bool .unit),.unit,rfl,bo⟩
noncomputable def BN:FuncId→Option Spec:=a8 []
theorem J8:∀f s,BN f=some s→FnOK G0 Tryz.prog f s:=au trivial
def zl:aF:=⟨[0,1,5],(.pair (.list (.int .i64)) (.pair (.list (.int .i64)) (.pair (.int .i64) .unit))),0,[],.unit,[4],(.pair .bool .unit)⟩
noncomputable def BO:List ar:=[zl.spec gu]
theorem HP:aX aS E0 BN (aW Tryz.f171 BO) Tryz.f171 0 zl gu:=fun x=>by kernel_rfl
theorem BP:FnOK G0 Tryz.prog 171 P7:=ax ah J8 Tryz.func171 BO (by kernel_rfl) (by exact⟨(HP).lok,trivial⟩) fun x=>by kernel_rfl
noncomputable def pY(x:Ty.T (.pair aG (.pair aG .unit))):Option (Ty.T (.pair .bool .unit)):=
match(x.1.1==x.2.1.1)with
|true=>
 match(x.1.2.1==x.2.1.2.1)with
 |true=>
  match(dz ab (x.1.2.2.1.1,x.1.2.2.1.2.1,x.1.2.2.1.2.2.1,x.1.2.2.1.2.2.2.1,x.1.2.2.1.2.2.2.2.1,()) (x.2.1.2.2.1.1,x.2.1.2.2.1.2.1,x.2.1.2.2.1.2.2.1,x.2.1.2.2.1.2.2.2.1,x.2.1.2.2.1.2.2.2.2.1,()))with
  |true=>
   match bo (x.1.2.2.2.1,x.2.1.2.2.2.1,())with
   |none=>none
   |some v1=>
   some (v1.1,())
  |false=>
   some (false,())
 |false=>
  some (false,())
|false=>
 some (false,())
noncomputable def P8:Spec:=⟨_,(.pair .bool .unit),.unit,rfl,pY⟩
theorem N6:FnOK G0 Tryz.prog 128 P8:=ai ah (sg BP (az)) Tryz.func128
noncomputable def jM(x:Ty.T (.pair (.pair (.int .i64) (.pair (.pair (.int .i64) (.pair (.int .i64) (.pair ab (.pair (.own 2 (.int .i64)) .unit)))) .unit)) (.pair (.pair (.int .i64) (.pair (.pair (.int .i64) (.pair (.int .i64) (.pair ab (.pair (.own 2 (.int .i64)) .unit)))) .unit)) .unit))):Option (Ty.T (.pair (.pair (.int .i64) (.pair (.pair (.int .i64) (.pair (.int .i64) (.pair ab (.pair (.own 2 (.int .i64)) .unit)))) .unit)) .unit)):=
match(x.1.1==(3:Int))with
|true=>
 match(x.2.1.1==(3:Int))with
 |true=>
  match pY ((x.1.2.1.1,x.1.2.1.2.1,(x.1.2.1.2.2.1.1,x.1.2.1.2.2.1.2.1,x.1.2.1.2.2.1.2.2.1,x.1.2.1.2.2.1.2.2.2.1,x.1.2.1.2.2.1.2.2.2.2.1,()),x.1.2.1.2.2.2.1,()),(x.2.1.2.1.1,x.2.1.2.1.2.1,(x.2.1.2.1.2.2.1.1,x.2.1.2.1.2.2.1.2.1,x.2.1.2.1.2.2.1.2.2.1,x.2.1.2.1.2.2.1.2.2.2.1,x.2.1.2.1.2.2.1.2.2.2.2.1,()),x.2.1.2.1.2.2.2.1,()),())with
  |none=>none
  |some v1=>
  match v1.1 with
  |true=>
   some ((x.1.1,(x.1.2.1.1,x.1.2.1.2.1,(x.1.2.1.2.2.1.1,x.1.2.1.2.2.1.2.1,x.1.2.1.2.2.1.2.2.1,x.1.2.1.2.2.1.2.2.2.1,x.1.2.1.2.2.1.2.2.2.2.1,()),x.1.2.1.2.2.2.1,()),()),())
  |false=>
   match(x.1.1==(3:Int))with
   |true=>
    match(x.2.1.1==(3:Int))with
    |true=>
     some (((4:Int),((0:Int),(0:Int),((0:Int),(0:Int),(0:Int),(0:Int),(0:Int),()),[],()),()),())
    |false=>
     match(x.1.1==(4:Int))with
     |true=>
      some (((4:Int),((0:Int),(0:Int),((0:Int),(0:Int),(0:Int),(0:Int),(0:Int),()),[],()),()),())
     |false=>
      match(x.2.1.1==(4:Int))with
      |true=>
       some (((4:Int),((0:Int),(0:Int),((0:Int),(0:Int),(0:Int),(0:Int),(0:Int),()),[],()),()),())
      |false=>
       match(x.1.1==(3:Int))with
       |true=>
        some ((x.1.1,(x.1.2.1.1,x.1.2.1.2.1,(x.1.2.1.2.2.1.1,x.1.2.1.2.2.1.2.1,x.1.2.1.2.2.1.2.2.1,x.1.2.1.2.2.1.2.2.2.1,x.1.2.1.2.2.1.2.2.2.2.1,()),x.1.2.1.2.2.2.1,()),()),())
       |false=>
        match(x.2.1.1==(3:Int))with
        |true=>
         some ((x.2.1.1,(x.2.1.2.1.1,x.2.1.2.1.2.1,(x.2.1.2.1.2.2.1.1,x.2.1.2.1.2.2.1.2.1,x.2.1.2.1.2.2.1.2.2.1,x.2.1.2.1.2.2.1.2.2.2.1,x.2.1.2.1.2.2.1.2.2.2.2.1,()),x.2.1.2.1.2.2.2.1,()),()),())
        |false=>
         some (((if x.2.1.1>x.1.1 then x.2.1.1 else x.1.1),((0:Int),(0:Int),((0:Int),(0:Int),(0:Int),(0:Int),(0:Int),()),[],()),()),())
   |false=>
    match(x.1.1==(4:Int))with
    |true=>
     some (((4:Int),((0:Int),(0:Int),((0:Int),(0:Int),(0:Int),(0:Int),(0:Int),()),[],()),()),())
    |false=>
     match(x.2.1.1==(4:Int))with
     |true=>
      some (((4:Int),((0:Int),(0:Int),((0:Int),(0:Int),(0:Int),(0:Int),(0:Int),()),[],()),()),())
     |false=>
      match(x.1.1==(3:Int))with
      |true=>
       some ((x.1.1,(x.1.2.1.1,x.1.2.1.2.1,(x.1.2.1.2.2.1.1,x.1.2.1.2.2.1.2.1,x.1.2.1.2.2.1.2.2.1,x.1.2.1.2.2.1.2.2.2.1,x.1.2.1.2.2.1.2.2.2.2.1,()),x.1.2.1.2.2.2.1,()),()),())
      |false=>
       match(x.2.1.1==(3:Int))with
       |true=>
        some ((x.2.1.1,(x.2.1.2.1.1,x.2.1.2.1.2.1,(x.2.1.2.1.2.2.1.1,x.2.1.2.1.2.2.1.2.1,x.2.1.2.1.2.2.1.2.2.1,x.2.1.2.1.2.2.1.2.2.2.1,x.2.1.2.1.2.2.1.2.2.2.2.1,()),x.2.1.2.1.2.2.2.1,()),()),())
       |false=>
        some (((if x.2.1.1>x.1.1 then x.2.1.1 else x.1.1),((0:Int),(0:Int),((0:Int),(0:Int),(0:Int),(0:Int),(0:Int),()),[],()),()),())
 |false=>
  match(x.1.1==(3:Int))with
  |true=>
   match(x.2.1.1==(3:Int))with
   |true=>
    some (((4:Int),((0:Int),(0:Int),((0:Int),(0:Int),(0:Int),(0:Int),(0:Int),()),[],()),()),())
   |false=>
    match(x.1.1==(4:Int))with
    |true=>
     some (((4:Int),((0:Int),(0:Int),((0:Int),(0:Int),(0:Int),(0:Int),(0:Int),()),[],()),()),())
    |false=>
     match(x.2.1.1==(4:Int))with
     |true=>
      some (((4:Int),((0:Int),(0:Int),((0:Int),(0:Int),(0:Int),(0:Int),(0:Int),()),[],()),()),())
     |false=>
      match(x.1.1==(3:Int))with
      |true=>
       some ((x.1.1,(x.1.2.1.1,x.1.2.1.2.1,(x.1.2.1.2.2.1.1,x.1.2.1.2.2.1.2.1,x.1.2.1.2.2.1.2.2.1,x.1.2.1.2.2.1.2.2.2.1,x.1.2.1.2.2.1.2.2.2.2.1,()),x.1.2.1.2.2.2.1,()),()),())
      |false=>
       match(x.2.1.1==(3:Int))with
       |true=>
        some ((x.2.1.1,(x.2.1.2.1.1,x.2.1.2.1.2.1,(x.2.1.2.1.2.2.1.1,x.2.1.2.1.2.2.1.2.1,x.2.1.2.1.2.2.1.2.2.1,x.2.1.2.1.2.2.1.2.2.2.1,x.2.1.2.1.2.2.1.2.2.2.2.1,()),x.2.1.2.1.2.2.2.1,()),()),())
       |false=>
        some (((if x.2.1.1>x.1.1 then x.2.1.1 else x.1.1),((0:Int),(0:Int),((0:Int),(0:Int),(0:Int),(0:Int),(0:Int),()),[],()),()),())
  |false=>
   match(x.1.1==(4:Int))with
   |true=>
    some (((4:Int),((0:Int),(0:Int),((0:Int),(0:Int),(0:Int),(0:Int),(0:Int),()),[],()),()),())
   |false=>
    match(x.2.1.1==(4:Int))with
    |true=>
     some (((4:Int),((0:Int),(0:Int),((0:Int),(0:Int),(0:Int),(0:Int),(0:Int),()),[],()),()),())
    |false=>
     match(x.1.1==(3:Int))with
     |true=>
      some ((x.1.1,(x.1.2.1.1,x.1.2.1.2.1,(x.1.2.1.2.2.1.1,x.1.2.1.2.2.1.2.1,x.1.2.1.2.2.1.2.2.1,x.1.2.1.2.2.1.2.2.2.1,x.1.2.1.2.2.1.2.2.2.2.1,()),x.1.2.1.2.2.2.1,()),()),())
     |false=>
      match(x.2.1.1==(3:Int))with
      |true=>
       some ((x.2.1.1,(x.2.1.2.1.1,x.2.1.2.1.2.1,(x.2.1.2.1.2.2.1.1,x.2.1.2.1.2.2.1.2.1,x.2.1.2.1.2.2.1.2.2.1,x.2.1.2.1.2.2.1.2.2.2.1,x.2.1.2.1.2.2.1.2.2.2.2.1,()),x.2.1.2.1.2.2.2.1,()),()),())
      |false=>
       some (((if x.2.1.1>x.1.1 then x.2.1.1 else x.1.1),((0:Int),(0:Int),((0:Int),(0:Int),(0:Int),(0:Int),(0:Int),()),[],()),()),())
|false=>
 match(x.1.1==(3:Int))with
 |true=>
  match(x.2.1.1==(3:Int))with
  |true=>
   some (((4:Int),((0:Int),(0:Int),((0:Int),(0:Int),(0:Int),(0:Int),(0:Int),()),[],()),()),())
  |false=>
   match(x.1.1==(4:Int))with
   |true=>
    some (((4:Int),((0:Int),(0:Int),((0:Int),(0:Int),(0:Int),(0:Int),(0:Int),()),[],()),()),())
   |false=>
    match(x.2.1.1==(4:Int))with
    |true=>
     some (((4:Int),((0:Int),(0:Int),((0:Int),(0:Int),(0:Int),(0:Int),(0:Int),()),[],()),()),())
    |false=>
     match(x.1.1==(3:Int))with
     |true=>
      some ((x.1.1,(x.1.2.1.1,x.1.2.1.2.1,(x.1.2.1.2.2.1.1,x.1.2.1.2.2.1.2.1,x.1.2.1.2.2.1.2.2.1,x.1.2.1.2.2.1.2.2.2.1,x.1.2.1.2.2.1.2.2.2.2.1,()),x.1.2.1.2.2.2.1,()),()),())
     |false=>
      match(x.2.1.1==(3:Int))with
      |true=>
       some ((x.2.1.1,(x.2.1.2.1.1,x.2.1.2.1.2.1,(x.2.1.2.1.2.2.1.1,x.2.1.2.1.2.2.1.2.1,x.2.1.2.1.2.2.1.2.2.1,x.2.1.2.1.2.2.1.2.2.2.1,x.2.1.2.1.2.2.1.2.2.2.2.1,()),x.2.1.2.1.2.2.2.1,()),()),())
      |false=>
       some (((if x.2.1.1>x.1.1 then x.2.1.1 else x.1.1),((0:Int),(0:Int),((0:Int),(0:Int),(0:Int),(0:Int),(0:Int),()),[],()),()),())
 |false=>
  match(x.1.1==(4:Int))with
  |true=>
   some (((4:Int),((0:Int),(0:Int),((0:Int),(0:Int),(0:Int),(0:Int),(0:Int),()),[],()),()),())
  |false=>
   match(x.2.1.1==(4:Int))with
   |true=>
    some (((4:Int),((0:Int),(0:Int),((0:Int),(0:Int),(0:Int),(0:Int),(0:Int),()),[],()),()),())
   |false=>
    match(x.1.1==(3:Int))with
    |true=>
     some ((x.1.1,(x.1.2.1.1,x.1.2.1.2.1,(x.1.2.1.2.2.1.1,x.1.2.1.2.2.1.2.1,x.1.2.1.2.2.1.2.2.1,x.1.2.1.2.2.1.2.2.2.1,x.1.2.1.2.2.1.2.2.2.2.1,()),x.1.2.1.2.2.2.1,()),()),())
    |false=>
     match(x.2.1.1==(3:Int))with
     |true=>
      some ((x.2.1.1,(x.2.1.2.1.1,x.2.1.2.1.2.1,(x.2.1.2.1.2.2.1.1,x.2.1.2.1.2.2.1.2.1,x.2.1.2.1.2.2.1.2.2.1,x.2.1.2.1.2.2.1.2.2.2.1,x.2.1.2.1.2.2.1.2.2.2.2.1,()),x.2.1.2.1.2.2.2.1,()),()),())
     |false=>
      some (((if x.2.1.1>x.1.1 then x.2.1.1 else x.1.1),((0:Int),(0:Int),((0:Int),(0:Int),(0:Int),(0:Int),(0:Int),()),[],()),()),())
noncomputable def N7:Spec:=⟨_,(.pair (.pair (.int .i64) (.pair (.pair (.int .i64) (.pair (.int .i64) (.pair ab (.pair (.own 2 (.int .i64)) .unit)))) .unit)) .unit),.unit,rfl,jM⟩
theorem Ma:FnOK G0 Tryz.prog 90 N7:=ai ah (sg N6 (az)) Tryz.func90
noncomputable def eF(x:(Ty.T (.pair (.list (.int .i64)) (.pair (.list (.int .i64)) (.pair (.own 2 (.int .i64)) ak))))):Option ((Ty.T (.pair (.list (.int .i64)) (.pair (.list (.int .i64)) (.pair (.own 2 (.int .i64)) ak)))) ⊕ ((Ty.T (.pair (.list (.int .i64)) (.pair (.list (.int .i64)) (.pair (.own 2 (.int .i64)) (.pair (.int .i64) .unit))))) ⊕ (Ty.T .unit))):=
aa (aw x.2.1 x.2.2.2.1) fun v1=>
match(decide (x.2.2.2.2.1<v1))with
|true=>
 aa (aw x.1 x.2.2.2.1) fun v2=>
 a7 (x.2.2.1.length+ [v2].length) (
  some (.inl (x.1,x.2.1,(x.2.2.1++ [v2]),x.2.2.2.1,(IntKind.i64.wrap (x.2.2.2.2.1+(1:Int))),())))
|false=>
 some (.inr (.inl (x.1,x.2.1,x.2.2.1,x.2.2.2.1,())))
noncomputable def eG(x:(Ty.T (.pair (.list (.int .i64)) (.pair (.list (.int .i64)) (.pair (.own 2 (.int .i64)) (.pair (.int .i64) .unit)))))):Option ((Ty.T (.pair (.list (.int .i64)) (.pair (.list (.int .i64)) (.pair (.own 2 (.int .i64)) (.pair (.int .i64) .unit))))) ⊕ ((Ty.T (.pair (.own 2 (.int .i64)) .unit)) ⊕ (Ty.T .unit))):=
match(decide (x.2.2.2.1<(x.1.length:Int)))with
|true=>
 match ac eF (x.1,x.2.1,x.2.2.1,x.2.2.2.1,(0:Int),())with
 |none=>none
 |some (.inl v1)=>
  some (.inl (v1.1,v1.2.1,v1.2.2.1,(IntKind.i64.wrap (v1.2.2.2.1+(1:Int))),()))
 |some (.inr v3)=>
  some (.inr (.inr (())))
|false=>
 some (.inr (.inl (x.2.2.1,())))
noncomputable def s7(x:Ty.T (.pair (.list (.int .i64)) (.pair (.list (.int .i64)) .unit))):Option (Ty.T (.pair (.own 2 (.int .i64)) .unit)):=
match ac eG (x.1,x.2.1,[],(0:Int),())with
|none=>none
|some (.inl v4)=>
 some (v4.1,())
|some (.inr v6)=>
 none
noncomputable def J9:Spec:=⟨_,(.pair (.own 2 (.int .i64)) .unit),.unit,rfl,s7⟩
noncomputable def n7:FuncId→Option Spec:=a8 []
theorem DI:∀f s,n7 f=some s→FnOK G0 Tryz.prog f s:=au trivial
def s8:aF:=⟨[0,1,5,6],(.pair (.list (.int .i64)) (.pair (.list (.int .i64)) (.pair (.own 2 (.int .i64)) (.pair (.int .i64) .unit)))),0,[5],(.pair (.own 2 (.int .i64)) .unit),[],.unit⟩
def s9:aF:=⟨[0,1,5,6,7],(.pair (.list (.int .i64)) (.pair (.list (.int .i64)) (.pair (.own 2 (.int .i64)) ak))),2,[0,1,5,6],(.pair (.list (.int .i64)) (.pair (.list (.int .i64)) (.pair (.own 2 (.int .i64)) (.pair (.int .i64) .unit)))),[],.unit⟩
noncomputable def n8:List ar:=[s8.spec eG,s9.spec eF]
theorem BQ:aX aS E0 n7 (aW Tryz.f166 n8) Tryz.f166 0 s8 eG:=fun x=>by kernel_rfl
theorem BR:aX aS E0 n7 (aW Tryz.f166 n8) Tryz.f166 1 s9 eF:=fun x=>by kernel_rfl
theorem HQ:FnOK G0 Tryz.prog 166 J9:=ax ah DI Tryz.func166 n8 (by kernel_rfl) (by exact⟨(BQ).lok,(BR).lok,trivial⟩) fun x=>by kernel_rfl
noncomputable def kU(x:Ty.T (.pair (.list (.int .i64)) .unit)):Option (Ty.T (.pair (.own 2 (.int .i64)) .unit)):=
match dp ((x.1.length:Int),(8:Int),())with
|none=>none
|some v1=>
match s7 (x.1,v1.1,())with
|none=>none
|some v2=>
some (v2.1,())
noncomputable def wF:Spec:=⟨_,(.pair (.own 2 (.int .i64)) .unit),.unit,rfl,kU⟩
theorem HR:FnOK G0 Tryz.prog 122 wF:=ai ah (sg kd (sg HQ (az))) Tryz.func122
noncomputable def gx(x:(Ty.T (.pair (.list (.int .i64)) (.pair (.own 2 (.int .i64)) ak)))):Option ((Ty.T (.pair (.list (.int .i64)) (.pair (.own 2 (.int .i64)) ak))) ⊕ ((Ty.T (.pair (.list (.int .i64)) (.pair (.own 2 (.int .i64)) (.pair (.int .i64) .unit)))) ⊕ (Ty.T .unit))):=
match(decide (x.2.2.2.1≥(0:Int)))with
|true=>
 aa (aw x.1 x.2.2.1) fun v1=>
 if(IntKind.u64.wrap x.2.2.2.1)<0 then none else
 a7 (x.2.1.length+ [(bits BinOp.and .i64 (Int.fdiv v1 (2^min (IntKind.u64.wrap x.2.2.2.1).toNat IntKind.i64.bits)) (1:Int))].length) (
  some (.inl (x.1,(x.2.1++ [(bits BinOp.and .i64 (Int.fdiv v1 (2^min (IntKind.u64.wrap x.2.2.2.1).toNat IntKind.i64.bits)) (1:Int))]),x.2.2.1,(IntKind.i64.wrap (x.2.2.2.1-(1:Int))),())))
|false=>
 some (.inr (.inl (x.1,x.2.1,x.2.2.1,())))
noncomputable def gy(x:(Ty.T (.pair (.list (.int .i64)) (.pair (.own 2 (.int .i64)) (.pair (.int .i64) .unit))))):Option ((Ty.T (.pair (.list (.int .i64)) (.pair (.own 2 (.int .i64)) (.pair (.int .i64) .unit)))) ⊕ ((Ty.T (.pair (.own 2 (.int .i64)) .unit)) ⊕ (Ty.T .unit))):=
match(decide (x.2.2.1<(x.1.length:Int)))with
|true=>
 match ac gx (x.1,x.2.1,x.2.2.1,(7:Int),())with
 |none=>none
 |some (.inl v1)=>
  some (.inl (v1.1,v1.2.1,(IntKind.i64.wrap (v1.2.2.1+(1:Int))),()))
 |some (.inr v3)=>
  some (.inr (.inr (())))
|false=>
 some (.inr (.inl (x.2.1,())))
noncomputable def jB(x:Ty.T (.pair (.list (.int .i64)) .unit)):Option (Ty.T (.pair (.own 2 (.int .i64)) .unit)):=
match ac gy (x.1,[],(0:Int),())with
|none=>none
|some (.inl v4)=>
 some (v4.1,())
|some (.inr v6)=>
 none
noncomputable def En:Spec:=⟨_,(.pair (.own 2 (.int .i64)) .unit),.unit,rfl,jB⟩
noncomputable def tc:FuncId→Option Spec:=a8 []
theorem Ka:∀f s,tc f=some s→FnOK G0 Tryz.prog f s:=au trivial
def zm:aF:=⟨[0,3,4],(.pair (.list (.int .i64)) (.pair (.own 2 (.int .i64)) (.pair (.int .i64) .unit))),0,[3],(.pair (.own 2 (.int .i64)) .unit),[],.unit⟩
def zn:aF:=⟨[0,3,4,5],(.pair (.list (.int .i64)) (.pair (.own 2 (.int .i64)) ak)),2,[0,3,4],(.pair (.list (.int .i64)) (.pair (.own 2 (.int .i64)) (.pair (.int .i64) .unit))),[],.unit⟩
noncomputable def td:List ar:=[zm.spec gy,zn.spec gx]
theorem HS:aX aS E0 tc (aW Tryz.f207 td) Tryz.f207 0 zm gy:=fun x=>by kernel_rfl
theorem HT:aX aS E0 tc (aW Tryz.f207 td) Tryz.f207 1 zn gx:=fun x=>by kernel_rfl
theorem tf:FnOK G0 Tryz.prog 207 En:=ax ah Ka Tryz.func207 td (by kernel_rfl) (by exact⟨(HS).lok,(HT).lok,trivial⟩) fun x=>by kernel_rfl
noncomputable def fQ(x:(Ty.T (.pair (.list (.int .i64)) (.pair (.own 2 (.int .i64)) (.pair (.int .i64) .unit))))):Option ((Ty.T (.pair (.list (.int .i64)) (.pair (.own 2 (.int .i64)) (.pair (.int .i64) .unit)))) ⊕ ((Ty.T (.pair (.own 2 (.int .i64)) .unit)) ⊕ (Ty.T .unit))):=
match(decide (x.2.2.1<(x.1.length:Int)))with
|true=>
 a7 (x.2.1.length+ [(1:Int),(0:Int)].length) (
  aa (aC x.1.length (some (.dat (.int .i64) x.2.2.1)) (some (.dat (.int .i64) (IntKind.i64.wrap (x.2.2.1+(1:Int)))))) fun v1=>
  match jB ((List.drop v1.1 (List.take v1.2 x.1)),())with
  |none=>none
  |some v2=>
  a7 ((x.2.1++ [(1:Int),(0:Int)]).length+v2.1.length) (
   some (.inl (x.1,((x.2.1++ [(1:Int),(0:Int)])++v2.1),(IntKind.i64.wrap (x.2.2.1+(1:Int))),()))))
|false=>
 some (.inr (.inl (x.2.1,())))
noncomputable def n9(x:Ty.T (.pair (.list (.int .i64)) (.pair (.int .i64) .unit))):Option (Ty.T (.pair (.own 2 (.int .i64)) .unit)):=
if 0≤x.2.1∧x.2.1≤x.2.1 then
 a7 (x.2.1.toNat) (
  a7 ((List.replicate x.2.1.toNat (0:Int)).length+ [(1:Int)].length) (
   match ac fQ (x.1,((List.replicate x.2.1.toNat (0:Int))++ [(1:Int)]),(0:Int),())with
   |none=>none
   |some (.inl v3)=>
    a7 (v3.1.length+ [(0:Int),(1:Int)].length) (
     some ((v3.1++ [(0:Int),(1:Int)]),()))
   |some (.inr v5)=>
    none))
else none
noncomputable def N8:Spec:=⟨_,(.pair (.own 2 (.int .i64)) .unit),.unit,rfl,n9⟩
noncomputable def zo:FuncId→Option Spec:=a8 [(207,En)]
theorem HU:∀f s,zo f=some s→FnOK G0 Tryz.prog f s:=au ⟨tf,trivial⟩
def wG:aF:=⟨[0,5,6],(.pair (.list (.int .i64)) (.pair (.own 2 (.int .i64)) (.pair (.int .i64) .unit))),0,[5],(.pair (.own 2 (.int .i64)) .unit),[],.unit⟩
noncomputable def zp:List ar:=[wG.spec fQ]
theorem FH:aX aS E0 zo (aW Tryz.f167 zp) Tryz.f167 0 wG fQ:=fun x=>by kernel_rfl
theorem Mb:FnOK G0 Tryz.prog 167 N8:=ax ah HU Tryz.func167 zp (by kernel_rfl) (by exact⟨(FH).lok,trivial⟩) fun x=>by kernel_rfl
noncomputable def e8(x:(Ty.T (.pair (.list (.int .i64)) al))):Option ((Ty.T (.pair (.list (.int .i64)) al)) ⊕ ((Ty.T (.pair (.int .i64) .unit)) ⊕ (Ty.T .unit))):=
match(decide (x.2.2.2.2.1<x.2.2.1))with
|true=>
 aa (aw x.1 (IntKind.i64.wrap (x.2.1+x.2.2.2.2.1))) fun v1=>
 some (.inl (x.1,x.2.1,x.2.2.1,(IntKind.i64.wrap ((IntKind.i64.wrap ((2:Int)*x.2.2.2.1))+v1)),(IntKind.i64.wrap (x.2.2.2.2.1+(1:Int))),()))
|false=>
 some (.inr (.inl (x.2.2.2.1,())))
noncomputable def cz(x:Ty.T (.pair (.list (.int .i64)) ak)):Option (Ty.T (.pair (.int .i64) .unit)):=
match ac e8 (x.1,x.2.1,x.2.2.1,(0:Int),(0:Int),())with
|none=>none
|some (.inl v2)=>
 some (v2.1,())
|some (.inr v4)=>
 none
noncomputable def zq:Spec:=⟨_,(.pair (.int .i64) .unit),.unit,rfl,cz⟩
noncomputable def wH:FuncId→Option Spec:=a8 []
theorem FI:∀f s,wH f=some s→FnOK G0 Tryz.prog f s:=au trivial
def uQ:aF:=⟨[0,1,2,7,8],(.pair (.list (.int .i64)) al),0,[7],(.pair (.int .i64) .unit),[],.unit⟩
noncomputable def wI:List ar:=[uQ.spec e8]
theorem DJ:aX aS E0 wH (aW Tryz.f293 wI) Tryz.f293 0 uQ e8:=fun x=>by kernel_rfl
theorem wJ:FnOK G0 Tryz.prog 293 zq:=ax ah FI Tryz.func293 wI (by kernel_rfl) (by exact⟨(DJ).lok,trivial⟩) fun x=>by kernel_rfl
noncomputable def fR(x:(Ty.T (.pair (.list (.int .i64)) (.pair (.own 2 (.int .i64)) (.pair (.int .i64) .unit))))):Option ((Ty.T (.pair (.list (.int .i64)) (.pair (.own 2 (.int .i64)) (.pair (.int .i64) .unit)))) ⊕ ((Ty.T (.pair (.own 2 (.int .i64)) .unit)) ⊕ (Ty.T .unit))):=
match(decide ((IntKind.i64.wrap (x.2.2.1+(8:Int)))≤(x.1.length:Int)))with
|true=>
 match cz (x.1,x.2.2.1,(8:Int),())with
 |none=>none
 |some v1=>
 a7 (x.2.1.length+ [v1.1].length) (
  some (.inl (x.1,(x.2.1++ [v1.1]),(IntKind.i64.wrap (x.2.2.1+(8:Int))),())))
|false=>
 some (.inr (.inl (x.2.1,())))
noncomputable def rI(x:Ty.T (.pair (.list (.int .i64)) .unit)):Option (Ty.T (.pair (.own 2 (.int .i64)) .unit)):=
match ac fR (x.1,[],(0:Int),())with
|none=>none
|some (.inl v2)=>
 some (v2.1,())
|some (.inr v4)=>
 none
noncomputable def N9:Spec:=⟨_,(.pair (.own 2 (.int .i64)) .unit),.unit,rfl,rI⟩
noncomputable def zr:FuncId→Option Spec:=a8 [(293,zq)]
theorem HV:∀f s,zr f=some s→FnOK G0 Tryz.prog f s:=au ⟨wJ,trivial⟩
def wK:aF:=⟨[0,3,4],(.pair (.list (.int .i64)) (.pair (.own 2 (.int .i64)) (.pair (.int .i64) .unit))),0,[3],(.pair (.own 2 (.int .i64)) .unit),[],.unit⟩
noncomputable def zt:List ar:=[wK.spec fR]
theorem FJ:aX aS E0 zr (aW Tryz.f251 zt) Tryz.f251 0 wK fR:=fun x=>by kernel_rfl
theorem Mc:FnOK G0 Tryz.prog 251 N9:=ax ah HV Tryz.func251 zt (by kernel_rfl) (by exact⟨(FJ).lok,trivial⟩) fun x=>by kernel_rfl
noncomputable def gl(x:(Ty.T (.pair (.int .i64) (.pair (.own 2 (.int .i64)) (.pair (.int .i64) .unit))))):Option ((Ty.T (.pair (.int .i64) (.pair (.own 2 (.int .i64)) (.pair (.int .i64) .unit)))) ⊕ ((Ty.T (.pair (.own 2 (.int .i64)) .unit)) ⊕ (Ty.T .unit))):=
match(decide (x.2.2.1≥(0:Int)))with
|true=>
 if(IntKind.u64.wrap x.2.2.1)<0 then none else
 a7 (x.2.1.length+ [(bits BinOp.and .i64 (Int.fdiv x.1 (2^min (IntKind.u64.wrap x.2.2.1).toNat IntKind.i64.bits)) (1:Int))].length) (
  some (.inl (x.1,(x.2.1++ [(bits BinOp.and .i64 (Int.fdiv x.1 (2^min (IntKind.u64.wrap x.2.2.1).toNat IntKind.i64.bits)) (1:Int))]),(IntKind.i64.wrap (x.2.2.1-(1:Int))),())))
|false=>
 some (.inr (.inl (x.2.1,())))
noncomputable def de(x:Ty.T (.pair (.list (.int .i64)) ak)):Option (Ty.T (.pair (.own 2 (.int .i64)) .unit)):=
a7 (([]:List (Ty.T (.int .i64))).length+x.1.length) (
 match ac gl (x.2.1,(([]:List (Ty.T (.int .i64)))++x.1),(IntKind.i64.wrap (x.2.2.1-(1:Int))),())with
 |none=>none
 |some (.inl v1)=>
  some (v1.1,())
 |some (.inr v3)=>
  none)
noncomputable def Md:Spec:=⟨_,(.pair (.own 2 (.int .i64)) .unit),.unit,rfl,de⟩
noncomputable def wL:FuncId→Option Spec:=a8 []
theorem FK:∀f s,wL f=some s→FnOK G0 Tryz.prog f s:=au trivial
def uR:aF:=⟨[1,7,8],(.pair (.int .i64) (.pair (.own 2 (.int .i64)) (.pair (.int .i64) .unit))),0,[7],(.pair (.own 2 (.int .i64)) .unit),[],.unit⟩
noncomputable def wM:List ar:=[uR.spec gl]
theorem DK:aX aS E0 wL (aW Tryz.f294 wM) Tryz.f294 0 uR gl:=fun x=>by kernel_rfl
theorem Kb:FnOK G0 Tryz.prog 294 Md:=ax ah FK Tryz.func294 wM (by kernel_rfl) (by exact⟨(DK).lok,trivial⟩) fun x=>by kernel_rfl
noncomputable def kV(x:Ty.T (.pair ab .unit)):Option (Ty.T (.pair (.own 2 (.int .i64)) .unit)):=
match de ([],x.1.1,(16:Int),())with
|none=>none
|some v1=>
match de (v1.1,x.1.2.1,(4:Int),())with
|none=>none
|some v2=>
match de (v2.1,x.1.2.2.1,(4:Int),())with
|none=>none
|some v3=>
match de (v3.1,x.1.2.2.2.1,(8:Int),())with
|none=>none
|some v4=>
match de (v4.1,x.1.2.2.2.2.1,(32:Int),())with
|none=>none
|some v5=>
some (v5.1,())
noncomputable def P9:Spec:=⟨_,(.pair (.own 2 (.int .i64)) .unit),.unit,rfl,kV⟩
theorem BS:FnOK G0 Tryz.prog 252 P9:=ai ah (sg Kb (az)) Tryz.func252
noncomputable def bp(x:Ty.T (.pair aG .unit)):Option (Ty.T (.pair (.own 2 (.int .i64)) .unit)):=
match dR (x.1.1,())with
|none=>none
|some v1=>
match v1.1 with
|true=>
 match kV ((x.1.2.2.1.1,x.1.2.2.1.2.1,x.1.2.2.1.2.2.1,x.1.2.2.1.2.2.2.1,x.1.2.2.1.2.2.2.2.1,()),())with
 |none=>none
 |some v2=>
 match rI (v2.1,())with
 |none=>none
 |some v3=>
 a7 ([(IntKind.i64.wrap ((IntKind.i64.wrap (x.1.1*(64:Int)))+(IntKind.i64.wrap (x.1.2.1*(8:Int)))))].length+v3.1.length) (
  match jz (x.1.1,())with
  |none=>none
  |some v4=>
  match v4.1 with
  |true=>
   a7 (([(IntKind.i64.wrap ((IntKind.i64.wrap (x.1.1*(64:Int)))+(IntKind.i64.wrap (x.1.2.1*(8:Int)))))]++v3.1).length+ [(x.1.2.2.2.1.length:Int)].length) (
    a7 ((([(IntKind.i64.wrap ((IntKind.i64.wrap (x.1.1*(64:Int)))+(IntKind.i64.wrap (x.1.2.1*(8:Int)))))]++v3.1)++ [(x.1.2.2.2.1.length:Int)]).length+x.1.2.2.2.1.length) (
     some (((([(IntKind.i64.wrap ((IntKind.i64.wrap (x.1.1*(64:Int)))+(IntKind.i64.wrap (x.1.2.1*(8:Int)))))]++v3.1)++ [(x.1.2.2.2.1.length:Int)])++x.1.2.2.2.1),())))
  |false=>
   some (([(IntKind.i64.wrap ((IntKind.i64.wrap (x.1.1*(64:Int)))+(IntKind.i64.wrap (x.1.2.1*(8:Int)))))]++v3.1),()))
|false=>
 match jz (x.1.1,())with
 |none=>none
 |some v5=>
 match v5.1 with
 |true=>
  a7 ([(IntKind.i64.wrap ((IntKind.i64.wrap (x.1.1*(64:Int)))+(IntKind.i64.wrap (x.1.2.1*(8:Int)))))].length+ [(x.1.2.2.2.1.length:Int)].length) (
   a7 (([(IntKind.i64.wrap ((IntKind.i64.wrap (x.1.1*(64:Int)))+(IntKind.i64.wrap (x.1.2.1*(8:Int)))))]++ [(x.1.2.2.2.1.length:Int)]).length+x.1.2.2.2.1.length) (
    some ((([(IntKind.i64.wrap ((IntKind.i64.wrap (x.1.1*(64:Int)))+(IntKind.i64.wrap (x.1.2.1*(8:Int)))))]++ [(x.1.2.2.2.1.length:Int)])++x.1.2.2.2.1),())))
 |false=>
  some ([(IntKind.i64.wrap ((IntKind.i64.wrap (x.1.1*(64:Int)))+(IntKind.i64.wrap (x.1.2.1*(8:Int)))))],())
noncomputable def Qa:Spec:=⟨_,(.pair (.own 2 (.int .i64)) .unit),.unit,rfl,bp⟩
theorem BT:FnOK G0 Tryz.prog 208 Qa:=ai ah (sg iy (sg Mc (sg BS (sg sU (az))))) Tryz.func208
noncomputable def ez(x:(Ty.T (.pair (.int .i64) (.pair (.list (.int .i64)) (.pair (.box ak) ak))))):Option ((Ty.T (.pair (.int .i64) (.pair (.list (.int .i64)) (.pair (.box ak) ak)))) ⊕ ((Ty.T (.pair (.int .i64) .unit)) ⊕ (Ty.T .unit))):=
match(decide (x.2.2.2.2.1<(x.2.1.length:Int)))with
|true=>
 if x.2.2.2.1=0 then none else
 aa (aw x.2.1 x.2.2.2.2.1) fun v1=>
 if x.2.2.2.1=0 then none else
 match((bits BinOp.xor .i64 (IntKind.i64.wrap (Int.tdiv x.1 x.2.2.2.1)) v1)==(1:Int))with
 |true=>
  some (.inl ((bits BinOp.xor .i64 (IntKind.i64.wrap ((Int.tmod x.1 x.2.2.2.1)*(2:Int))) x.2.2.1.2.1),x.2.1,(x.2.2.1.1,x.2.2.1.2.1,()),x.2.2.2.1,(IntKind.i64.wrap (x.2.2.2.2.1+(1:Int))),()))
 |false=>
  some (.inl ((IntKind.i64.wrap ((Int.tmod x.1 x.2.2.2.1)*(2:Int))),x.2.1,(x.2.2.1.1,x.2.2.1.2.1,()),x.2.2.2.1,(IntKind.i64.wrap (x.2.2.2.2.1+(1:Int))),()))
|false=>
 some (.inr (.inl (x.1,())))
noncomputable def nm(x:Ty.T (.pair ak (.pair (.int .i64) (.pair (.list (.int .i64)) .unit)))):Option (Ty.T (.pair (.int .i64) .unit)):=
if(IntKind.u64.wrap (IntKind.i64.wrap (x.1.1-(1:Int))))<0 then none else
match ac ez (x.2.1,x.2.2.1,(x.1.1,x.1.2.1,()),(IntKind.i64.wrap ((1:Int)*2^min (IntKind.u64.wrap (IntKind.i64.wrap (x.1.1-(1:Int)))).toNat IntKind.i64.bits)),(0:Int),())with
|none=>none
|some (.inl v2)=>
 some (v2.1,())
|some (.inr v4)=>
 none
noncomputable def Qb:Spec:=⟨_,(.pair (.int .i64) .unit),.unit,rfl,nm⟩
noncomputable def BU:FuncId→Option Spec:=a8 []
theorem Kc:∀f s,BU f=some s→FnOK G0 Tryz.prog f s:=au trivial
def zu:aF:=⟨[1,2,3,7,8],(.pair (.int .i64) (.pair (.list (.int .i64)) (.pair (.box ak) ak))),0,[1],(.pair (.int .i64) .unit),[],.unit⟩
noncomputable def BV:List ar:=[zu.spec ez]
theorem HW:aX aS E0 BU (aW Tryz.f254 BV) Tryz.f254 0 zu ez:=fun x=>by kernel_rfl
theorem Oa:FnOK G0 Tryz.prog 254 Qb:=ax ah Kc Tryz.func254 BV (by kernel_rfl) (by exact⟨(HW).lok,trivial⟩) fun x=>by kernel_rfl
noncomputable def kf(x:Ty.T .unit):Option (Ty.T (.pair ak .unit)):=
some (((24:Int),(6122955:Int),()),())
noncomputable def HX:Spec:=⟨_,(.pair ak .unit),.unit,rfl,kf⟩
theorem FL:FnOK G0 Tryz.prog 255 HX:=ai ah az Tryz.func255
noncomputable def iV(x:Ty.T (.pair (.int .i64) (.pair (.list (.int .i64)) (.pair (.int .i64) (.pair ab .unit))))):Option (Ty.T (.pair (.int .i64) .unit)):=
match(x.1==(0:Int))with
|true=>
 match kf (())with
 |none=>none
 |some v1=>
 match kV ((x.2.2.2.1.1,x.2.2.2.1.2.1,x.2.2.2.1.2.2.1,x.2.2.2.1.2.2.2.1,x.2.2.2.1.2.2.2.2.1,()),())with
 |none=>none
 |some v2=>
 match nm (v1.1,x.2.2.1,v2.1,())with
 |none=>none
 |some v3=>
 match kf (())with
 |none=>none
 |some v4=>
 match jB (x.2.1,())with
 |none=>none
 |some v5=>
 match nm (v4.1,v3.1,v5.1,())with
 |none=>none
 |some v6=>
 some (v6.1,())
|false=>
 match kf (())with
 |none=>none
 |some v7=>
 match jB (x.2.1,())with
 |none=>none
 |some v8=>
 match nm (v7.1,x.2.2.1,v8.1,())with
 |none=>none
 |some v9=>
 some (v9.1,())
noncomputable def Me:Spec:=⟨_,(.pair (.int .i64) .unit),.unit,rfl,iV⟩
theorem wN:FnOK G0 Tryz.prog 209 Me:=ai ah (sg tf (sg BS (sg Oa (sg FL (az))))) Tryz.func209
noncomputable def nn(x:Ty.T (.pair aG (.pair (.int .i64) (.pair ab .unit)))):Option (Ty.T (.pair (.own 2 (.int .i64)) .unit)):=
match bp ((x.1.1,x.1.2.1,(x.1.2.2.1.1,x.1.2.2.1.2.1,x.1.2.2.1.2.2.1,x.1.2.2.1.2.2.2.1,x.1.2.2.1.2.2.2.2.1,()),x.1.2.2.2.1,()),())with
|none=>none
|some v1=>
match iV (x.1.1,v1.1,x.2.1,(x.2.2.1.1,x.2.2.1.2.1,x.2.2.1.2.2.1,x.2.2.1.2.2.2.1,x.2.2.1.2.2.2.2.1,()),())with
|none=>none
|some v2=>
a7 (v1.1.length+ [(IntKind.i64.wrap (Int.tdiv v2.1 (65536:Int))),(Int.tmod (IntKind.i64.wrap (Int.tdiv v2.1 (256:Int))) (256:Int)),(Int.tmod v2.1 (256:Int))].length) (
 some ((v1.1++ [(IntKind.i64.wrap (Int.tdiv v2.1 (65536:Int))),(Int.tmod (IntKind.i64.wrap (Int.tdiv v2.1 (256:Int))) (256:Int)),(Int.tmod v2.1 (256:Int))]),()))
noncomputable def Qc:Spec:=⟨_,(.pair (.own 2 (.int .i64)) .unit),.unit,rfl,nn⟩
theorem Ob:FnOK G0 Tryz.prog 168 Qc:=ai ah (sg BT (sg wN (az))) Tryz.func168
noncomputable def oa(x:Ty.T (.pair ag (.pair ab (.pair aG .unit)))):Option (Ty.T (.pair (.own 2 (.int .i64)) .unit)):=
aL (
 match dp ((8:Int),(1:Int),())with
 |none=>none
 |some v1=>
 match nn ((x.2.2.1.1,x.2.2.1.2.1,(x.2.2.1.2.2.1.1,x.2.2.1.2.2.1.2.1,x.2.2.1.2.2.1.2.2.1,x.2.2.1.2.2.1.2.2.2.1,x.2.2.1.2.2.1.2.2.2.2.1,()),x.2.2.1.2.2.2.1,()),x.1.1,(x.2.1.1,x.2.1.2.1,x.2.1.2.2.1,x.2.1.2.2.2.1,x.2.1.2.2.2.2.1,()),())with
 |none=>none
 |some v2=>
 match n9 (v2.1,(8:Int),())with
 |none=>none
 |some v3=>
 a7 (v1.1.length+v3.1.length) (
  match cG ((x.1.1,x.1.2.1,x.1.2.2.1,x.1.2.2.2.1,()),(x.2.1.1,x.2.1.2.1,x.2.1.2.2.1,x.2.1.2.2.2.1,x.2.1.2.2.2.2.1,()),())with
  |none=>none
  |some v4=>
  match dp ((IntKind.i64.wrap (v4.1.2.2.2.1-((v1.1++v3.1).length:Int))),(1:Int),())with
  |none=>none
  |some v5=>
  a7 ((v1.1++v3.1).length+v5.1.length) (
   some (((v1.1++v3.1)++v5.1),()))))
noncomputable def BW:Spec:=⟨_,(.pair (.own 2 (.int .i64)) .unit),.unit,rfl,oa⟩
theorem Mf:FnOK G0 Tryz.prog 123 BW:=ai ah (sg hU (sg kd (sg Mb (sg Ob (az))))) Tryz.func123
noncomputable def rJ(x:Ty.T (.pair ag VE)):Option (Ty.T (.pair aG .unit)):=
match cG (x.1,x.2.1,())with
|none=>none
|some v1=>
aU (
 match dp (v1.1.2.2.1,x.2.2.1,())with
 |none=>none
 |some v2=>
 aL (
  match dR (v1.1.2.1,())with
  |none=>none
  |some v3=>
  match v3.1 with
  |true=>
   some ((v1.1.2.1,x.2.2.2.1,x.2.1,v2.1,()),())
  |false=>
   some ((v1.1.2.1,x.2.2.2.1,((0:Int),(0:Int),(0:Int),(0:Int),(0:Int),()),v2.1,()),()))) (
 match dp (v1.1.2.2.1,x.2.2.1,())with
 |none=>none
 |some v2=>
 match dR (v1.1.2.1,())with
 |none=>none
 |some v3=>
 match v3.1 with
 |true=>
  some ((v1.1.2.1,x.2.2.2.1,x.2.1,v2.1,()),())
 |false=>
  some ((v1.1.2.1,x.2.2.2.1,((0:Int),(0:Int),(0:Int),(0:Int),(0:Int),()),v2.1,()),()))
noncomputable def BX:Spec:=⟨_,(.pair aG .unit),.unit,rfl,rJ⟩
theorem Mg:FnOK G0 Tryz.prog 145 BX:=ai ah (sg hU (sg kd (sg iy (az)))) Tryz.func145
noncomputable def dD(x:(Ty.T (.pair (.list (.int .i64)) ak))):Option ((Ty.T (.pair (.list (.int .i64)) ak)) ⊕ ((Ty.T .unit) ⊕ (Ty.T (.pair .bool .unit)))):=
match(decide (x.2.2.1<(x.1.length:Int)))with
|true=>
 aa (aw x.1 x.2.2.1) fun v1=>
 match bg (v1,(0:Int),x.2.1,())with
 |none=>none
 |some v2=>
 match(!v2.1)with
 |true=>
  some (.inr (.inr (false,())))
 |false=>
  some (.inl (x.1,x.2.1,(IntKind.i64.wrap (x.2.2.1+(1:Int))),()))
|false=>
 some (.inr (.inl (())))
noncomputable def pd(x:Ty.T (.pair (.list (.int .i64)) ak)):Option (Ty.T (.pair .bool .unit)):=
match(decide ((x.1.length:Int)>x.2.1))with
|true=>
 some (false,())
|false=>
 match ac dD (x.1,x.2.2.1,(0:Int),())with
 |none=>none
 |some (.inl v3)=>
  some (true,())
 |some (.inr v4)=>
  some (v4.1,())
noncomputable def Sw:Spec:=⟨_,(.pair .bool .unit),.unit,rfl,pd⟩
noncomputable def Eo:FuncId→Option Spec:=a8 [(144,kP)]
theorem Mh:∀f s,Eo f=some s→FnOK G0 Tryz.prog f s:=au ⟨cp,trivial⟩
def BZ:aF:=⟨[0,2,7],(.pair (.list (.int .i64)) ak),0,[],.unit,[6],(.pair .bool .unit)⟩
noncomputable def Ep:List ar:=[BZ.spec dD]
theorem Kd:aX aS E0 Eo (aW Tryz.f210 Ep) Tryz.f210 0 BZ dD:=fun x=>by kernel_rfl
theorem Er:FnOK G0 Tryz.prog 210 Sw:=ax ah Mh Tryz.func210 Ep (by kernel_rfl) (by exact⟨(Kd).lok,trivial⟩) fun x=>by kernel_rfl
noncomputable def pZ(x:Ty.T (.pair (.list (.int .i64)) .unit)):Option (Ty.T (.pair .bool .unit)):=
match pd (x.1,(1024:Int),(255:Int),())with
|none=>none
|some v1=>
some (v1.1,())
noncomputable def Qd:Spec:=⟨_,(.pair .bool .unit),.unit,rfl,pZ⟩
theorem Oc:FnOK G0 Tryz.prog 279 Qd:=ai ah (sg Er (az)) Tryz.func279
noncomputable def e9(x:(Ty.T (.pair (.list (.int .i64)) (.pair (.int .i64) .unit)))):Option ((Ty.T (.pair (.list (.int .i64)) (.pair (.int .i64) .unit))) ⊕ ((Ty.T .unit) ⊕ (Ty.T (.pair .bool .unit)))):=
match(decide (x.2.1<(x.1.length:Int)))with
|true=>
 aa (aw x.1 x.2.1) fun v1=>
 match bg (v1,(0:Int),(4294967295:Int),())with
 |none=>none
 |some v2=>
 match(!v2.1)with
 |true=>
  some (.inr (.inr (false,())))
 |false=>
  some (.inl (x.1,(IntKind.i64.wrap (x.2.1+(1:Int))),()))
|false=>
 some (.inr (.inl (())))
noncomputable def mh(x:Ty.T (.pair (.list (.int .i64)) .unit)):Option (Ty.T (.pair .bool .unit)):=
match ac e9 (x.1,(0:Int),())with
|none=>none
|some (.inl v3)=>
 some (true,())
|some (.inr v4)=>
 some (v4.1,())
noncomputable def zw:Spec:=⟨_,(.pair .bool .unit),.unit,rfl,mh⟩
noncomputable def wO:FuncId→Option Spec:=a8 [(144,kP)]
theorem FM:∀f s,wO f=some s→FnOK G0 Tryz.prog f s:=au ⟨cp,trivial⟩
def uS:aF:=⟨[0,3],(.pair (.list (.int .i64)) (.pair (.int .i64) .unit)),0,[],.unit,[2],(.pair .bool .unit)⟩
noncomputable def wP:List ar:=[uS.spec e9]
theorem DL:aX aS E0 wO (aW Tryz.f306 wP) Tryz.f306 0 uS e9:=fun x=>by kernel_rfl
theorem Ke:FnOK G0 Tryz.prog 306 zw:=ax ah FM Tryz.func306 wP (by kernel_rfl) (by exact⟨(DL).lok,trivial⟩) fun x=>by kernel_rfl
noncomputable def fa(x:(Ty.T (.pair (.int .i64) (.pair (.own 2 (.int .i64)) (.pair (.int .i64) .unit))))):Option ((Ty.T (.pair (.int .i64) (.pair (.own 2 (.int .i64)) (.pair (.int .i64) .unit)))) ⊕ ((Ty.T (.pair (.own 2 (.int .i64)) .unit)) ⊕ (Ty.T .unit))):=
match(decide (x.2.2.1<(32:Int)))with
|true=>
 match kQ (x.1,x.2.2.1,())with
 |none=>none
 |some v2=>
 match v2.1 with
 |true=>
  a7 (x.2.1.length+ [x.2.2.1].length) (
   some (.inl (x.1,(x.2.1++ [x.2.2.1]),(IntKind.i64.wrap (x.2.2.1+(1:Int))),())))
 |false=>
  some (.inl (x.1,x.2.1,(IntKind.i64.wrap (x.2.2.1+(1:Int))),()))
|false=>
 some (.inr (.inl (x.2.1,())))
noncomputable def pu(x:Ty.T (.pair (.int .i64) .unit)):Option (Ty.T (.pair (.own 2 (.int .i64)) (.pair (.int .i64) .unit))):=
match mh ([x.1],())with
|none=>none
|some v1=>
match(!v1.1)with
|true=>
 some ([],(2:Int),())
|false=>
 match ac fa (x.1,[],(0:Int),())with
 |none=>none
 |some (.inl v3)=>
  some (v3.1,(0:Int),())
 |some (.inr v5)=>
  none
noncomputable def Mi:Spec:=⟨_,(.pair (.own 2 (.int .i64)) (.pair (.int .i64) .unit)),.unit,rfl,pu⟩
noncomputable def wQ:FuncId→Option Spec:=a8 [(150,yf),(306,zw)]
theorem FN:∀f s,wQ f=some s→FnOK G0 Tryz.prog f s:=au ⟨vB,Ke,trivial⟩
def uT:aF:=⟨[0,4,5],(.pair (.int .i64) (.pair (.own 2 (.int .i64)) (.pair (.int .i64) .unit))),0,[4],(.pair (.own 2 (.int .i64)) .unit),[],.unit⟩
noncomputable def wR:List ar:=[uT.spec fa]
theorem DM:aX aS E0 wQ (aW Tryz.f280 wR) Tryz.f280 0 uT fa:=fun x=>by kernel_rfl
theorem Kf:FnOK G0 Tryz.prog 280 Mi:=ax ah FN Tryz.func280 wR (by kernel_rfl) (by exact⟨(DM).lok,trivial⟩) fun x=>by kernel_rfl
noncomputable def ct(x:Ty.T (.pair aG .unit)):Option (Ty.T (.pair .bool .unit)):=
match pR (x.1.1,())with
|none=>none
|some v1=>
match(!v1.1)with
|true=>
 some (false,())
|false=>
 match bg (x.1.2.1,(0:Int),(7:Int),())with
 |none=>none
 |some v2=>
 match(!v2.1)with
 |true=>
  some (false,())
 |false=>
  match pS (x.1.1,(x.1.2.2.2.1.length:Int),())with
  |none=>none
  |some v3=>
  match(!v3.1)with
  |true=>
   some (false,())
  |false=>
   match pZ (x.1.2.2.2.1,())with
   |none=>none
   |some v4=>
   match(!v4.1)with
   |true=>
    some (false,())
   |false=>
    match(x.1.1==(0:Int))with
    |true=>
     some ((dz ab (x.1.2.2.1.1,x.1.2.2.1.2.1,x.1.2.2.1.2.2.1,x.1.2.2.1.2.2.2.1,x.1.2.2.1.2.2.2.2.1,()) ((0:Int),(0:Int),(0:Int),(0:Int),(0:Int),())),())
    |false=>
     match(x.1.1==(3:Int))with
     |true=>
      match pu (x.1.2.2.1.2.2.2.2.1,())with
      |none=>none
      |some v5=>
      match jA ((x.1.2.2.1.1,x.1.2.2.1.2.1,x.1.2.2.1.2.2.1,x.1.2.2.1.2.2.2.1,x.1.2.2.1.2.2.2.2.1,()),())with
      |none=>none
      |some v6=>
      match v6.1 with
      |true=>
       match(x.1.2.2.1.2.1==(0:Int))with
       |true=>
        match((v5.1.length:Int)==(1:Int))with
        |true=>
         some ((x.1.2.1==(0:Int)),())
        |false=>
         some (false,())
       |false=>
        some (false,())
      |false=>
       some (false,())
     |false=>
      match jA ((x.1.2.2.1.1,x.1.2.2.1.2.1,x.1.2.2.1.2.2.1,x.1.2.2.1.2.2.2.1,x.1.2.2.1.2.2.2.2.1,()),())with
      |none=>none
      |some v7=>
      some (v7.1,())
noncomputable def Qe:Spec:=⟨_,(.pair .bool .unit),.unit,rfl,ct⟩
theorem B0:FnOK G0 Tryz.prog 233 Qe:=ai ah (sg cp (sg BJ (sg Bx (sg Bz (sg Oc (sg Kf (az))))))) Tryz.func233
noncomputable def cW(x:Ty.T (.pair aZ (.pair aG .unit))):Option (Ty.T (.pair .bool .unit)):=
match dS ((x.1.1,x.1.2.1,x.1.2.2.1,x.1.2.2.2.1,x.1.2.2.2.2.1,()),())with
|none=>none
|some v1=>
match v1.1 with
|true=>
 match ct ((x.2.1.1,x.2.1.2.1,(x.2.1.2.2.1.1,x.2.1.2.2.1.2.1,x.2.1.2.2.1.2.2.1,x.2.1.2.2.1.2.2.2.1,x.2.1.2.2.1.2.2.2.2.1,()),x.2.1.2.2.2.1,()),())with
 |none=>none
 |some v2=>
 match v2.1 with
 |true=>
  match(x.2.1.1==x.1.2.1)with
  |true=>
   match((x.2.1.2.2.2.1.length:Int)==x.1.2.2.1)with
   |true=>
    match x.1.2.2.2.2.1 with
    |true=>
     some (true,())
    |false=>
     some ((x.2.1.2.1==(0:Int)),())
   |false=>
    some (false,())
  |false=>
   some (false,())
 |false=>
  some (false,())
|false=>
 some (false,())
noncomputable def B1:Spec:=⟨_,(.pair .bool .unit),.unit,rfl,cW⟩
theorem oS:FnOK G0 Tryz.prog 196 B1:=ai ah (sg qU (sg B0 (az))) Tryz.func196
noncomputable def kg(x:Ty.T (.pair ag (.pair ab (.pair aG .unit)))):Option (Ty.T (.pair .bool .unit)):=
match cG ((x.1.1,x.1.2.1,x.1.2.2.1,x.1.2.2.2.1,()),(x.2.1.1,x.2.1.2.1,x.2.1.2.2.1,x.2.1.2.2.2.1,x.2.1.2.2.2.2.1,()),())with
|none=>none
|some v1=>
match cW (v1.1,(x.2.2.1.1,x.2.2.1.2.1,(x.2.2.1.2.2.1.1,x.2.2.1.2.2.1.2.1,x.2.2.1.2.2.1.2.2.1,x.2.2.1.2.2.1.2.2.2.1,x.2.2.1.2.2.1.2.2.2.2.1,()),x.2.2.1.2.2.2.1,()),())with
|none=>none
|some v2=>
match v2.1 with
|true=>
 match dR (x.2.2.1.1,())with
 |none=>none
 |some v3=>
 match(!v3.1)with
 |true=>
  some (true,())
 |false=>
  some ((dz ab (x.2.2.1.2.2.1.1,x.2.2.1.2.2.1.2.1,x.2.2.1.2.2.1.2.2.1,x.2.2.1.2.2.1.2.2.2.1,x.2.2.1.2.2.1.2.2.2.2.1,()) (x.2.1.1,x.2.1.2.1,x.2.1.2.2.1,x.2.1.2.2.2.1,x.2.1.2.2.2.2.1,())),())
|false=>
 some (false,())
noncomputable def uU:Spec:=⟨_,(.pair .bool .unit),.unit,rfl,kg⟩
theorem FO:FnOK G0 Tryz.prog 146 uU:=ai ah (sg hU (sg iy (sg oS (az)))) Tryz.func146
noncomputable def cX(x:(Ty.T (.pair (.box ag) (.pair (.box ab) (.pair (.box aH) (.pair (.own 2 (.int .i64)) (.pair (.int .i64) .unit))))))):Option ((Ty.T (.pair (.box ag) (.pair (.box ab) (.pair (.box aH) (.pair (.own 2 (.int .i64)) (.pair (.int .i64) .unit)))))) ⊕ ((Ty.T (.pair (.box ag) (.pair (.box ab) .unit))) ⊕ (Ty.T (.pair (.own 2 (.int .i64)) .unit)))):=
match(decide (x.2.2.2.2.1<(2:Int)))with
|true=>
 aa (aw x.2.2.2.1 x.2.2.2.2.1) fun _=>
 match x.2.2.2.1[x.2.2.2.2.1.toNat]? with
 |none=>none
 |some v2=>
 aL (
  match rJ (x.1,x.2.1,x.2.2.1.1,v2,())with
  |none=>none
  |some v3=>
  match kg (x.1,x.2.1,v3.1,())with
  |none=>none
  |some v4=>
  match v4.1 with
  |true=>
   match oa (x.1,x.2.1,v3.1,())with
   |none=>none
   |some v5=>
   match kU (v5.1,())with
   |none=>none
   |some v6=>
   some (.inr (.inr (v6.1,())))
  |false=>
   some (.inl (x.1,x.2.1,x.2.2.1,x.2.2.2.1,(IntKind.i64.wrap (x.2.2.2.2.1+(1:Int))),())))
|false=>
 some (.inr (.inl (x.1,x.2.1,())))
noncomputable def ob(x:Ty.T (.pair ag (.pair ab (.pair aH .unit)))):Option (Ty.T (.pair (.own 2 (.int .i64)) .unit)):=
match ac cX (x.1,x.2.1,x.2.2.1,[x.2.2.1.2.1,(0:Int)],(0:Int),())with
|none=>none
|some (.inl v7)=>
 match cG v7 with
 |none=>none
 |some v9=>
 match dp ((IntKind.i64.wrap ((8:Int)*v9.1.2.2.2.1)),(1:Int),())with
 |none=>none
 |some v10=>
 some (v10.1,())
|some (.inr v8)=>
 some (v8.1,())
noncomputable def Kg:Spec:=⟨_,(.pair (.own 2 (.int .i64)) .unit),.unit,rfl,ob⟩
noncomputable def uV:FuncId→Option Spec:=a8 [(79,Em),(122,wF),(123,BW),(145,BX),(146,uU),(147,s5)]
theorem DN:∀f s,uV f=some s→FnOK G0 Tryz.prog f s:=au ⟨hU,HR,Mf,Mg,FO,kd,trivial⟩
def tg:aF:=⟨[3,4,5,7,8],(.pair (.box ag) (.pair (.box ab) (.pair (.box aH) (.pair (.own 2 (.int .i64)) (.pair (.int .i64) .unit))))),0,[3,4],(.pair (.box ag) (.pair (.box ab) .unit)),[6],(.pair (.own 2 (.int .i64)) .unit)⟩
noncomputable def uW:List ar:=[tg.spec cX]
theorem B2:aX aS E0 uV (aW Tryz.f107 uW) Tryz.f107 0 tg cX:=fun x=>by kernel_rfl
theorem HY:FnOK G0 Tryz.prog 107 Kg:=ax ah DN Tryz.func107 uW (by kernel_rfl) (by exact⟨(B2).lok,trivial⟩) fun x=>by kernel_rfl
noncomputable def th(x:Ty.T (.pair (.list (.int .i64)) .unit)):Option (Ty.T (.pair .bool .unit)):=
match pd (x.1,(8192:Int),(1:Int),())with
|none=>none
|some v1=>
some (v1.1,())
noncomputable def Sx:Spec:=⟨_,(.pair .bool .unit),.unit,rfl,th⟩
theorem Es:FnOK G0 Tryz.prog 170 Sx:=ai ah (sg Er (az)) Tryz.func170
noncomputable def eL(x:(Ty.T (.pair (.list (.int .i64)) ak))):Option ((Ty.T (.pair (.list (.int .i64)) ak)) ⊕ ((Ty.T .unit) ⊕ (Ty.T (.pair (.int .i64) .unit)))):=
match(decide (x.2.2.1<(x.1.length:Int)))with
|true=>
 aa (aw x.1 x.2.2.1) fun v1=>
 match(v1==x.2.1)with
 |true=>
  some (.inr (.inr (x.2.2.1,())))
 |false=>
  some (.inl (x.1,x.2.1,(IntKind.i64.wrap (x.2.2.1+(1:Int))),()))
|false=>
 some (.inr (.inl (())))
noncomputable def ci(x:Ty.T (.pair (.list (.int .i64)) ak)):Option (Ty.T (.pair (.int .i64) .unit)):=
match ac eL (x.1,x.2.2.1,(IntKind.i64.wrap (x.2.1+(1:Int))),())with
|none=>none
|some (.inl v2)=>
 some ((-1:Int),())
|some (.inr v3)=>
 some (v3.1,())
noncomputable def B3:Spec:=⟨_,(.pair (.int .i64) .unit),.unit,rfl,ci⟩
noncomputable def zx:FuncId→Option Spec:=a8 []
theorem HZ:∀f s,zx f=some s→FnOK G0 Tryz.prog f s:=au trivial
def wS:aF:=⟨[0,2,7],(.pair (.list (.int .i64)) ak),0,[],.unit,[6],(.pair (.int .i64) .unit)⟩
noncomputable def zy:List ar:=[wS.spec eL]
theorem FP:aX aS E0 zx (aW Tryz.f307 zy) Tryz.f307 0 wS eL:=fun x=>by kernel_rfl
theorem qx:FnOK G0 Tryz.prog 307 B3:=ax ah HZ Tryz.func307 zy (by kernel_rfl) (by exact⟨(FP).lok,trivial⟩) fun x=>by kernel_rfl
noncomputable def oc(x:Ty.T (.pair (.int .i64) .unit)):Option (Ty.T (.pair (.int .i64) .unit)):=
some ((IntKind.i64.wrap (Int.tdiv (IntKind.i64.wrap (x.1+(4:Int))) (8:Int))),())
noncomputable def Od:Spec:=⟨_,(.pair (.int .i64) .unit),.unit,rfl,oc⟩
theorem Mj:FnOK G0 Tryz.prog 308 Od:=ai ah az Tryz.func308
noncomputable def kh(x:Ty.T (.pair (.int .i64) .unit)):Option (Ty.T (.pair .bool .unit)):=
match bg (x.1,(3:Int),(15:Int),())with
|none=>none
|some v1=>
some (v1.1,())
noncomputable def H0:Spec:=⟨_,(.pair .bool .unit),.unit,rfl,kh⟩
theorem FQ:FnOK G0 Tryz.prog 309 H0:=ai ah (sg cp (az)) Tryz.func309
noncomputable def np(x:Ty.T (.pair (.list (.int .i64)) (.pair (.int .i64) .unit))):Option (Ty.T (.pair (.int .i64) .unit)):=
match ci (x.1,(IntKind.i64.wrap (x.2.1+(11:Int))),(0:Int),())with
|none=>none
|some v1=>
match(decide (v1.1≥(0:Int)))with
|true=>
 some ((6:Int),())
|false=>
 some ((0:Int),())
noncomputable def Et:Spec:=⟨_,(.pair (.int .i64) .unit),.unit,rfl,np⟩
theorem B4:FnOK G0 Tryz.prog 310 Et:=ai ah (sg qx (az)) Tryz.func310
noncomputable def wT(x:Ty.T (.pair (.list (.int .i64)) (.pair (.int .i64) .unit))):Option (Ty.T (.pair (.int .i64) .unit)):=
match(decide (x.2.1≥(x.1.length:Int)))with
|true=>
 some ((1:Int),())
|false=>
 aa (aw x.1 x.2.1) fun v1=>
 some (v1,())
noncomputable def B5:Spec:=⟨_,(.pair (.int .i64) .unit),.unit,rfl,wT⟩
theorem H1:FnOK G0 Tryz.prog 282 B5:=ai ah az Tryz.func282
noncomputable def cM(x:(Ty.T (.pair (.list (.int .i64)) (.pair (.int .i64) (.pair (.own 2 (.int .i64)) .unit))))):Option ((Ty.T (.pair (.list (.int .i64)) (.pair (.int .i64) (.pair (.own 2 (.int .i64)) .unit)))) ⊕ ((Ty.T .unit) ⊕ (Ty.T (.pair (.own 2 (.int .i64)) (.pair (.int .i64) .unit))))):=
a7 (x.2.2.1.length+ [x.2.1].length) (
 match wT (x.1,(IntKind.i64.wrap (x.2.1+(76:Int))),())with
 |none=>none
 |some v1=>
 match(v1.1==(0:Int))with
 |true=>
  match np (x.1,(IntKind.i64.wrap (x.2.1+(72:Int))),())with
  |none=>none
  |some v2=>
  some (.inr (.inr ((x.2.2.1++ [x.2.1]),v2.1,())))
 |false=>
  match ci (x.1,(IntKind.i64.wrap (x.2.1+(76:Int))),(0:Int),())with
  |none=>none
  |some v3=>
  match(decide (v3.1<(0:Int)))with
  |true=>
   some (.inr (.inr ([],(6:Int),())))
  |false=>
   match(decide (v3.1>(IntKind.i64.wrap (x.2.1+(84:Int)))))with
   |true=>
    some (.inr (.inr ([],(6:Int),())))
   |false=>
    some (.inl (x.1,v3.1,(x.2.2.1++ [x.2.1]),())))
noncomputable def oe(x:Ty.T (.pair (.list (.int .i64)) (.pair (.int .i64) .unit))):Option (Ty.T (.pair (.own 2 (.int .i64)) (.pair (.int .i64) .unit))):=
match ac cM (x.1,x.2.1,[],())with
|none=>none
|some (.inl v4)=>
 none
|some (.inr v5)=>
 some (v5.1,v5.2.1,())
noncomputable def Oe:Spec:=⟨_,(.pair (.own 2 (.int .i64)) (.pair (.int .i64) .unit)),.unit,rfl,oe⟩
noncomputable def zz:FuncId→Option Spec:=a8 [(282,B5),(307,B3),(310,Et)]
theorem H2:∀f s,zz f=some s→FnOK G0 Tryz.prog f s:=au ⟨H1,qx,B4,trivial⟩
def wU:aF:=⟨[0,1,6],(.pair (.list (.int .i64)) (.pair (.int .i64) (.pair (.own 2 (.int .i64)) .unit))),999999,[],.unit,[4,5],(.pair (.own 2 (.int .i64)) (.pair (.int .i64) .unit))⟩
noncomputable def zA:List ar:=[wU.spec cM]
theorem FR:aX aS E0 zz (aW Tryz.f311 zA) Tryz.f311 0 wU cM:=fun x=>by kernel_rfl
theorem Mk:FnOK G0 Tryz.prog 311 Oe:=ax ah H2 Tryz.func311 zA (by kernel_rfl) (by exact⟨(FR).lok,trivial⟩) fun x=>by kernel_rfl
noncomputable def yl(x:Ty.T (.pair (.list (.int .i64)) .unit)):Option (Ty.T (.pair ly .unit)):=
match ci (x.1,(-1:Int),(0:Int),())with
|none=>none
|some v1=>
match(decide (v1.1<(0:Int)))with
|true=>
 some (((0:Int),[],(4:Int),()),())
|false=>
 match ci (x.1,v1.1,(1:Int),())with
 |none=>none
 |some v2=>
 match(decide (v2.1<(0:Int)))with
 |true=>
  match oc ((IntKind.i64.wrap ((x.1.length:Int)-v1.1)),())with
  |none=>none
  |some v3=>
  match ci (x.1,(x.1.length:Int),(0:Int),())with
  |none=>none
  |some v4=>
  match kh (v3.1,())with
  |none=>none
  |some v5=>
  match(!v5.1)with
  |true=>
   some (((0:Int),[],(6:Int),()),())
  |false=>
   match(decide (v4.1<(0:Int)))with
   |true=>
    some (((0:Int),[],(6:Int),()),())
   |false=>
    match(decide ((IntKind.i64.wrap (v4.1-(x.1.length:Int)))>(19:Int)))with
    |true=>
     some (((0:Int),[],(6:Int),()),())
    |false=>
     match(decide ((IntKind.i64.wrap (v4.1-(x.1.length:Int)))<(5:Int)))with
     |true=>
      some (((0:Int),[],(6:Int),()),())
     |false=>
      match((IntKind.i64.wrap (v4.1-(x.1.length:Int)))==(12:Int))with
      |true=>
       some (((0:Int),[],(6:Int),()),())
      |false=>
       match(decide ((IntKind.i64.wrap (v4.1-(x.1.length:Int)))<(12:Int)))with
       |true=>
        match np (x.1,v4.1,())with
        |none=>none
        |some v6=>
        some ((v3.1,[],v6.1,()),())
       |false=>
        match oe (x.1,v4.1,())with
        |none=>none
        |some v7=>
        some ((v3.1,v7.1,v7.2.1,()),())
 |false=>
  match oc ((IntKind.i64.wrap (v2.1-v1.1)),())with
  |none=>none
  |some v8=>
  match ci (x.1,v2.1,(0:Int),())with
  |none=>none
  |some v9=>
  match kh (v8.1,())with
  |none=>none
  |some v10=>
  match(!v10.1)with
  |true=>
   some (((0:Int),[],(6:Int),()),())
  |false=>
   match(decide (v9.1<(0:Int)))with
   |true=>
    some (((0:Int),[],(6:Int),()),())
   |false=>
    match(decide ((IntKind.i64.wrap (v9.1-v2.1))>(19:Int)))with
    |true=>
     some (((0:Int),[],(6:Int),()),())
    |false=>
     match(decide ((IntKind.i64.wrap (v9.1-v2.1))<(5:Int)))with
     |true=>
      some (((0:Int),[],(6:Int),()),())
     |false=>
      match((IntKind.i64.wrap (v9.1-v2.1))==(12:Int))with
      |true=>
       some (((0:Int),[],(6:Int),()),())
      |false=>
       match(decide ((IntKind.i64.wrap (v9.1-v2.1))<(12:Int)))with
       |true=>
        match np (x.1,v9.1,())with
        |none=>none
        |some v11=>
        some ((v8.1,[],v11.1,()),())
       |false=>
        match oe (x.1,v9.1,())with
        |none=>none
        |some v12=>
        some ((v8.1,v12.1,v12.2.1,()),())
noncomputable def Sy:Spec:=⟨_,(.pair ly .unit),.unit,rfl,yl⟩
theorem Qf:FnOK G0 Tryz.prog 281 Sy:=ai ah (sg qx (sg Mj (sg FQ (sg B4 (sg Mk (az)))))) Tryz.func281
noncomputable def uX(x:Ty.T (.pair (.list (.int .i64)) .unit)):Option (Ty.T (.pair ly (.pair (.int .i64) .unit))):=
match th (x.1,())with
|none=>none
|some v1=>
match(!v1.1)with
|true=>
 some (((0:Int),[],(0:Int),()),(1:Int),())
|false=>
 match yl (x.1,())with
 |none=>none
 |some v2=>
 some ((v2.1.1,v2.1.2.1,v2.1.2.2.1,()),v2.1.2.2.1,())
noncomputable def Qg:Spec:=⟨_,(.pair ly (.pair (.int .i64) .unit)),.unit,rfl,uX⟩
theorem Og:FnOK G0 Tryz.prog 234 Qg:=ai ah (sg Es (sg Qf (az))) Tryz.func234
noncomputable def fS(x:(Ty.T (.pair (.list (.int .i64)) (.pair (.list (.int .i64)) (.pair (.own 2 (.int .i64)) (.pair (.int .i64) ak)))))):Option ((Ty.T (.pair (.list (.int .i64)) (.pair (.list (.int .i64)) (.pair (.own 2 (.int .i64)) (.pair (.int .i64) ak))))) ⊕ ((Ty.T (.pair (.list (.int .i64)) (.pair (.list (.int .i64)) (.pair (.own 2 (.int .i64)) ak)))) ⊕ (Ty.T .unit))):=
match(decide (x.2.2.2.2.2.1<(8:Int)))with
|true=>
 aa (aw x.2.1 x.2.2.2.1) fun v1=>
 match wT (x.1,(IntKind.i64.wrap ((IntKind.i64.wrap (v1+(IntKind.i64.wrap ((8:Int)*x.2.2.2.2.2.1))))+(12:Int))),())with
 |none=>none
 |some v2=>
 some (.inl (x.1,x.2.1,x.2.2.1,x.2.2.2.1,(IntKind.i64.wrap ((IntKind.i64.wrap ((2:Int)*x.2.2.2.2.1))+v2.1)),(IntKind.i64.wrap (x.2.2.2.2.2.1+(1:Int))),()))
|false=>
 some (.inr (.inl (x.1,x.2.1,x.2.2.1,x.2.2.2.1,x.2.2.2.2.1,())))
noncomputable def fT(x:(Ty.T (.pair (.list (.int .i64)) (.pair (.list (.int .i64)) (.pair (.own 2 (.int .i64)) (.pair (.int .i64) .unit)))))):Option ((Ty.T (.pair (.list (.int .i64)) (.pair (.list (.int .i64)) (.pair (.own 2 (.int .i64)) (.pair (.int .i64) .unit))))) ⊕ ((Ty.T (.pair (.own 2 (.int .i64)) .unit)) ⊕ (Ty.T .unit))):=
match(decide (x.2.2.2.1<(x.2.1.length:Int)))with
|true=>
 match ac fS (x.1,x.2.1,x.2.2.1,x.2.2.2.1,(0:Int),(0:Int),())with
 |none=>none
 |some (.inl v1)=>
  a7 (v1.2.2.1.length+ [v1.2.2.2.2.1].length) (
   some (.inl (v1.1,v1.2.1,(v1.2.2.1++ [v1.2.2.2.2.1]),(IntKind.i64.wrap (v1.2.2.2.1+(1:Int))),())))
 |some (.inr v3)=>
  some (.inr (.inr (())))
|false=>
 some (.inr (.inl (x.2.2.1,())))
noncomputable def og(x:Ty.T (.pair (.list (.int .i64)) (.pair (.list (.int .i64)) .unit))):Option (Ty.T (.pair (.own 2 (.int .i64)) .unit)):=
match ac fT (x.1,x.2.1,[],(0:Int),())with
|none=>none
|some (.inl v4)=>
 some (v4.1,())
|some (.inr v6)=>
 none
noncomputable def Oh:Spec:=⟨_,(.pair (.own 2 (.int .i64)) .unit),.unit,rfl,og⟩
noncomputable def qy:FuncId→Option Spec:=a8 [(282,B5)]
theorem H3:∀f s,qy f=some s→FnOK G0 Tryz.prog f s:=au ⟨H1,trivial⟩
def wV:aF:=⟨[0,1,5,6],(.pair (.list (.int .i64)) (.pair (.list (.int .i64)) (.pair (.own 2 (.int .i64)) (.pair (.int .i64) .unit)))),0,[5],(.pair (.own 2 (.int .i64)) .unit),[],.unit⟩
def wW:aF:=⟨[0,1,5,6,7,8],(.pair (.list (.int .i64)) (.pair (.list (.int .i64)) (.pair (.own 2 (.int .i64)) (.pair (.int .i64) ak)))),2,[0,1,5,6,7],(.pair (.list (.int .i64)) (.pair (.list (.int .i64)) (.pair (.own 2 (.int .i64)) ak))),[],.unit⟩
noncomputable def qz:List ar:=[wV.spec fT,wW.spec fS]
theorem FS:aX aS E0 qy (aW Tryz.f235 qz) Tryz.f235 0 wV fT:=fun x=>by kernel_rfl
theorem FT:aX aS E0 qy (aW Tryz.f235 qz) Tryz.f235 1 wW fS:=fun x=>by kernel_rfl
theorem Ml:FnOK G0 Tryz.prog 235 Oh:=ax ah H3 Tryz.func235 qz (by kernel_rfl) (by exact⟨(FS).lok,(FT).lok,trivial⟩) fun x=>by kernel_rfl
noncomputable def mG(x:Ty.T (.pair (.list (.int .i64)) .unit)):Option (Ty.T (.pair (.own 2 (.int .i64)) (.pair (.int .i64) .unit))):=
match uX (x.1,())with
|none=>none
|some v1=>
match(v1.2.1 != (0:Int))with
|true=>
 some ([],v1.2.1,())
|false=>
 match og (x.1,v1.1.2.1,())with
 |none=>none
 |some v2=>
 some (v2.1,(0:Int),())
noncomputable def H4:Spec:=⟨_,(.pair (.own 2 (.int .i64)) (.pair (.int .i64) .unit)),.unit,rfl,mG⟩
theorem FU:FnOK G0 Tryz.prog 197 H4:=ai ah (sg Og (sg Ml (az))) Tryz.func197
noncomputable def eA(x:(Ty.T (.pair (.list (.int .i64)) (.pair (.int .i64) ak)))):Option ((Ty.T (.pair (.list (.int .i64)) (.pair (.int .i64) ak))) ⊕ ((Ty.T (.pair (.int .i64) .unit)) ⊕ (Ty.T .unit))):=
match(decide (x.2.2.2.1≤x.2.1))with
|true=>
 match(decide (x.2.2.2.1<(0:Int)))with
 |true=>
  some (.inl (x.1,x.2.1,(IntKind.i64.wrap (x.2.2.1+(1:Int))),(IntKind.i64.wrap (x.2.2.2.1+(1:Int))),()))
 |false=>
  aa (aw x.1 x.2.2.2.1) fun v1=>
  some (.inl (x.1,x.2.1,(IntKind.i64.wrap (x.2.2.1+v1)),(IntKind.i64.wrap (x.2.2.2.1+(1:Int))),()))
|false=>
 some (.inr (.inl (x.2.2.1,())))
noncomputable def uY(x:Ty.T (.pair (.list (.int .i64)) (.pair (.int .i64) .unit))):Option (Ty.T (.pair (.int .i64) .unit)):=
match ac eA (x.1,x.2.1,(0:Int),(IntKind.i64.wrap ((IntKind.i64.wrap (x.2.1-(5:Int)))+(1:Int))),())with
|none=>none
|some (.inl v2)=>
 some (v2.1,())
|some (.inr v4)=>
 none
noncomputable def Eu:Spec:=⟨_,(.pair (.int .i64) .unit),.unit,rfl,uY⟩
noncomputable def B6:FuncId→Option Spec:=a8 []
theorem Kh:∀f s,B6 f=some s→FnOK G0 Tryz.prog f s:=au trivial
def zB:aF:=⟨[0,1,5,6],(.pair (.list (.int .i64)) (.pair (.int .i64) ak)),0,[5],(.pair (.int .i64) .unit),[],.unit⟩
noncomputable def B7:List ar:=[zB.spec eA]
theorem H5:aX aS E0 B6 (aW Tryz.f236 B7) Tryz.f236 0 zB eA:=fun x=>by kernel_rfl
theorem Oi:FnOK G0 Tryz.prog 236 Eu:=ax ah Kh Tryz.func236 B7 (by kernel_rfl) (by exact⟨(H5).lok,trivial⟩) fun x=>by kernel_rfl
noncomputable def gz(x:(Ty.T (.pair (.list (.int .i64)) (.pair (.own 2 (.int .i64)) (.pair (.int .i64) .unit))))):Option ((Ty.T (.pair (.list (.int .i64)) (.pair (.own 2 (.int .i64)) (.pair (.int .i64) .unit)))) ⊕ ((Ty.T (.pair (.own 2 (.int .i64)) .unit)) ⊕ (Ty.T .unit))):=
match(decide (x.2.2.1<(x.1.length:Int)))with
|true=>
 match uY (x.1,x.2.2.1,())with
 |none=>none
 |some v1=>
 match(decide (v1.1≥(3:Int)))with
 |true=>
  a7 (x.2.1.length+ [(1:Int)].length) (
   some (.inl (x.1,(x.2.1++ [(1:Int)]),(IntKind.i64.wrap (x.2.2.1+(1:Int))),())))
 |false=>
  a7 (x.2.1.length+ [(0:Int)].length) (
   some (.inl (x.1,(x.2.1++ [(0:Int)]),(IntKind.i64.wrap (x.2.2.1+(1:Int))),())))
|false=>
 some (.inr (.inl (x.2.1,())))
noncomputable def uZ(x:Ty.T (.pair (.list (.int .i64)) .unit)):Option (Ty.T (.pair (.own 2 (.int .i64)) .unit)):=
match ac gz (x.1,[],(0:Int),())with
|none=>none
|some (.inl v2)=>
 some (v2.1,())
|some (.inr v4)=>
 none
noncomputable def Qh:Spec:=⟨_,(.pair (.own 2 (.int .i64)) .unit),.unit,rfl,uZ⟩
noncomputable def B8:FuncId→Option Spec:=a8 [(236,Eu)]
theorem Ki:∀f s,B8 f=some s→FnOK G0 Tryz.prog f s:=au ⟨Oi,trivial⟩
def zC:aF:=⟨[0,3,4],(.pair (.list (.int .i64)) (.pair (.own 2 (.int .i64)) (.pair (.int .i64) .unit))),0,[3],(.pair (.own 2 (.int .i64)) .unit),[],.unit⟩
noncomputable def B9:List ar:=[zC.spec gz]
theorem H6:aX aS E0 B8 (aW Tryz.f198 B9) Tryz.f198 0 zC gz:=fun x=>by kernel_rfl
theorem Oj:FnOK G0 Tryz.prog 198 Qh:=ax ah Ki Tryz.func198 B9 (by kernel_rfl) (by exact⟨(H6).lok,trivial⟩) fun x=>by kernel_rfl
noncomputable def kz(x:Ty.T (.pair (.list (.int .i64)) .unit)):Option (Ty.T (.pair (.own 2 (.int .i64)) (.pair (.int .i64) .unit))):=
match th (x.1,())with
|none=>none
|some v1=>
match(!v1.1)with
|true=>
 some ([],(1:Int),())
|false=>
 match uZ (x.1,())with
 |none=>none
 |some v2=>
 match mG (v2.1,())with
 |none=>none
 |some v3=>
 some (v3.1,v3.2.1,())
noncomputable def DP:Spec:=⟨_,(.pair (.own 2 (.int .i64)) (.pair (.int .i64) .unit)),.unit,rfl,kz⟩
theorem Ca:FnOK G0 Tryz.prog 148 DP:=ai ah (sg Es (sg FU (sg Oj (az)))) Tryz.func148
noncomputable def rK(x:Ty.T (.pair (.list (.int .i64)) .unit)):Option (Ty.T (.pair ab .unit)):=
match cz (x.1,(0:Int),(16:Int),())with
|none=>none
|some v1=>
match cz (x.1,(16:Int),(4:Int),())with
|none=>none
|some v2=>
match cz (x.1,(20:Int),(4:Int),())with
|none=>none
|some v3=>
match cz (x.1,(24:Int),(8:Int),())with
|none=>none
|some v4=>
match cz (x.1,(32:Int),(32:Int),())with
|none=>none
|some v5=>
some ((v1.1,v2.1,v3.1,v4.1,v5.1,()),())
noncomputable def Ok:Spec:=⟨_,(.pair ab .unit),.unit,rfl,rK⟩
theorem Mm:FnOK G0 Tryz.prog 283 Ok:=ai ah (sg wJ (az)) Tryz.func283
noncomputable def rL(x:Ty.T (.pair (.list (.int .i64)) .unit)):Option (Ty.T (.pair (.pair (.int .i64) (.pair (.int .i64) (.pair ab (.pair (.own 2 (.int .i64)) .unit)))) (.pair .bool .unit))):=
match((x.1.length:Int)==(0:Int))with
|true=>
 some (((0:Int),(0:Int),((0:Int),(0:Int),(0:Int),(0:Int),(0:Int),()),[],()),false,())
|false=>
 aa (aw x.1 (0:Int)) fun v1=>
 aa (aw x.1 (0:Int)) fun v2=>
 aL (
  aa (aC x.1.length (some (.dat (.int .i64) (1:Int))) none) fun v3=>
  match dR ((IntKind.i64.wrap (Int.tdiv v1 (64:Int))),())with
  |none=>none
  |some v4=>
  match v4.1 with
  |true=>
   match(decide (((List.drop v3.1 (List.take v3.2 x.1)).length:Int)<(8:Int)))with
   |true=>
    some (((0:Int),(0:Int),((0:Int),(0:Int),(0:Int),(0:Int),(0:Int),()),[],()),false,())
   |false=>
    aa (aC (List.drop v3.1 (List.take v3.2 x.1)).length none (some (.dat (.int .i64) (8:Int)))) fun v5=>
    match jB ((List.drop v5.1 (List.take v5.2 (List.drop v3.1 (List.take v3.2 x.1)))),())with
    |none=>none
    |some v6=>
    match rK (v6.1,())with
    |none=>none
    |some v7=>
    aa (aC (List.drop v3.1 (List.take v3.2 x.1)).length (some (.dat (.int .i64) (8:Int))) none) fun v8=>
    match jz ((IntKind.i64.wrap (Int.tdiv v1 (64:Int))),())with
    |none=>none
    |some v9=>
    match v9.1 with
    |true=>
     match(((List.drop v8.1 (List.take v8.2 (List.drop v3.1 (List.take v3.2 x.1)))).length:Int)==(0:Int))with
     |true=>
      some (((0:Int),(0:Int),((0:Int),(0:Int),(0:Int),(0:Int),(0:Int),()),[],()),false,())
     |false=>
      aa (aC (List.drop v8.1 (List.take v8.2 (List.drop v3.1 (List.take v3.2 x.1)))).length (some (.dat (.int .i64) (1:Int))) none) fun v10=>
      match iU ((List.drop v10.1 (List.take v10.2 (List.drop v8.1 (List.take v8.2 (List.drop v3.1 (List.take v3.2 x.1)))))),())with
      |none=>none
      |some v11=>
      aU (
       match ct (((IntKind.i64.wrap (Int.tdiv v1 (64:Int))),(Int.tmod (IntKind.i64.wrap (Int.tdiv v2 (8:Int))) (8:Int)),(v7.1.1,v7.1.2.1,v7.1.2.2.1,v7.1.2.2.2.1,v7.1.2.2.2.2.1,()),v11.1,()),())with
       |none=>none
       |some v12=>
       match v12.1 with
       |true=>
        match bp (((IntKind.i64.wrap (Int.tdiv v1 (64:Int))),(Int.tmod (IntKind.i64.wrap (Int.tdiv v2 (8:Int))) (8:Int)),(v7.1.1,v7.1.2.1,v7.1.2.2.1,v7.1.2.2.2.1,v7.1.2.2.2.2.1,()),v11.1,()),())with
        |none=>none
        |some v13=>
        match bo (v13.1,x.1,())with
        |none=>none
        |some v14=>
        some (((IntKind.i64.wrap (Int.tdiv v1 (64:Int))),(Int.tmod (IntKind.i64.wrap (Int.tdiv v2 (8:Int))) (8:Int)),(v7.1.1,v7.1.2.1,v7.1.2.2.1,v7.1.2.2.2.1,v7.1.2.2.2.2.1,()),v11.1,()),v14.1,())
       |false=>
        some (((IntKind.i64.wrap (Int.tdiv v1 (64:Int))),(Int.tmod (IntKind.i64.wrap (Int.tdiv v2 (8:Int))) (8:Int)),(v7.1.1,v7.1.2.1,v7.1.2.2.1,v7.1.2.2.2.1,v7.1.2.2.2.2.1,()),v11.1,()),false,())) (
       aU (
        match ct (((IntKind.i64.wrap (Int.tdiv v1 (64:Int))),(Int.tmod (IntKind.i64.wrap (Int.tdiv v2 (8:Int))) (8:Int)),(v7.1.1,v7.1.2.1,v7.1.2.2.1,v7.1.2.2.2.1,v7.1.2.2.2.2.1,()),v11.1,()),())with
        |none=>none
        |some v12=>
        match v12.1 with
        |true=>
         match bp (((IntKind.i64.wrap (Int.tdiv v1 (64:Int))),(Int.tmod (IntKind.i64.wrap (Int.tdiv v2 (8:Int))) (8:Int)),(v7.1.1,v7.1.2.1,v7.1.2.2.1,v7.1.2.2.2.1,v7.1.2.2.2.2.1,()),v11.1,()),())with
         |none=>none
         |some v13=>
         match bo (v13.1,x.1,())with
         |none=>none
         |some v14=>
         some (((IntKind.i64.wrap (Int.tdiv v1 (64:Int))),(Int.tmod (IntKind.i64.wrap (Int.tdiv v2 (8:Int))) (8:Int)),(v7.1.1,v7.1.2.1,v7.1.2.2.1,v7.1.2.2.2.1,v7.1.2.2.2.2.1,()),v11.1,()),v14.1,())
        |false=>
         some (((IntKind.i64.wrap (Int.tdiv v1 (64:Int))),(Int.tmod (IntKind.i64.wrap (Int.tdiv v2 (8:Int))) (8:Int)),(v7.1.1,v7.1.2.1,v7.1.2.2.1,v7.1.2.2.2.1,v7.1.2.2.2.2.1,()),v11.1,()),false,())) (
        match ct (((IntKind.i64.wrap (Int.tdiv v1 (64:Int))),(Int.tmod (IntKind.i64.wrap (Int.tdiv v2 (8:Int))) (8:Int)),(v7.1.1,v7.1.2.1,v7.1.2.2.1,v7.1.2.2.2.1,v7.1.2.2.2.2.1,()),v11.1,()),())with
        |none=>none
        |some v12=>
        match v12.1 with
        |true=>
         aU (
          match bp (((IntKind.i64.wrap (Int.tdiv v1 (64:Int))),(Int.tmod (IntKind.i64.wrap (Int.tdiv v2 (8:Int))) (8:Int)),(v7.1.1,v7.1.2.1,v7.1.2.2.1,v7.1.2.2.2.1,v7.1.2.2.2.2.1,()),v11.1,()),())with
          |none=>none
          |some v13=>
          match bo (v13.1,x.1,())with
          |none=>none
          |some v14=>
          some (((IntKind.i64.wrap (Int.tdiv v1 (64:Int))),(Int.tmod (IntKind.i64.wrap (Int.tdiv v2 (8:Int))) (8:Int)),(v7.1.1,v7.1.2.1,v7.1.2.2.1,v7.1.2.2.2.1,v7.1.2.2.2.2.1,()),v11.1,()),v14.1,())) (
          aU (
           match bp (((IntKind.i64.wrap (Int.tdiv v1 (64:Int))),(Int.tmod (IntKind.i64.wrap (Int.tdiv v2 (8:Int))) (8:Int)),(v7.1.1,v7.1.2.1,v7.1.2.2.1,v7.1.2.2.2.1,v7.1.2.2.2.2.1,()),v11.1,()),())with
           |none=>none
           |some v13=>
           match bo (v13.1,x.1,())with
           |none=>none
           |some v14=>
           some (((IntKind.i64.wrap (Int.tdiv v1 (64:Int))),(Int.tmod (IntKind.i64.wrap (Int.tdiv v2 (8:Int))) (8:Int)),(v7.1.1,v7.1.2.1,v7.1.2.2.1,v7.1.2.2.2.1,v7.1.2.2.2.2.1,()),v11.1,()),v14.1,())) (
           match bp (((IntKind.i64.wrap (Int.tdiv v1 (64:Int))),(Int.tmod (IntKind.i64.wrap (Int.tdiv v2 (8:Int))) (8:Int)),(v7.1.1,v7.1.2.1,v7.1.2.2.1,v7.1.2.2.2.1,v7.1.2.2.2.2.1,()),v11.1,()),())with
           |none=>none
           |some v13=>
           aL (
            match bo (v13.1,x.1,())with
            |none=>none
            |some v14=>
            some (((IntKind.i64.wrap (Int.tdiv v1 (64:Int))),(Int.tmod (IntKind.i64.wrap (Int.tdiv v2 (8:Int))) (8:Int)),(v7.1.1,v7.1.2.1,v7.1.2.2.1,v7.1.2.2.2.1,v7.1.2.2.2.2.1,()),v11.1,()),v14.1,()))))
        |false=>
         aU (
          some (((IntKind.i64.wrap (Int.tdiv v1 (64:Int))),(Int.tmod (IntKind.i64.wrap (Int.tdiv v2 (8:Int))) (8:Int)),(v7.1.1,v7.1.2.1,v7.1.2.2.1,v7.1.2.2.2.1,v7.1.2.2.2.2.1,()),v11.1,()),false,())) (
          aU (
           some (((IntKind.i64.wrap (Int.tdiv v1 (64:Int))),(Int.tmod (IntKind.i64.wrap (Int.tdiv v2 (8:Int))) (8:Int)),(v7.1.1,v7.1.2.1,v7.1.2.2.1,v7.1.2.2.2.1,v7.1.2.2.2.2.1,()),v11.1,()),false,())) (
           aL (
            some (((IntKind.i64.wrap (Int.tdiv v1 (64:Int))),(Int.tmod (IntKind.i64.wrap (Int.tdiv v2 (8:Int))) (8:Int)),(v7.1.1,v7.1.2.1,v7.1.2.2.1,v7.1.2.2.2.1,v7.1.2.2.2.2.1,()),v11.1,()),false,()))))))
    |false=>
     aU (
      match ct (((IntKind.i64.wrap (Int.tdiv v1 (64:Int))),(Int.tmod (IntKind.i64.wrap (Int.tdiv v2 (8:Int))) (8:Int)),(v7.1.1,v7.1.2.1,v7.1.2.2.1,v7.1.2.2.2.1,v7.1.2.2.2.2.1,()),[],()),())with
      |none=>none
      |some v15=>
      match v15.1 with
      |true=>
       match bp (((IntKind.i64.wrap (Int.tdiv v1 (64:Int))),(Int.tmod (IntKind.i64.wrap (Int.tdiv v2 (8:Int))) (8:Int)),(v7.1.1,v7.1.2.1,v7.1.2.2.1,v7.1.2.2.2.1,v7.1.2.2.2.2.1,()),[],()),())with
       |none=>none
       |some v16=>
       match bo (v16.1,x.1,())with
       |none=>none
       |some v17=>
       some (((IntKind.i64.wrap (Int.tdiv v1 (64:Int))),(Int.tmod (IntKind.i64.wrap (Int.tdiv v2 (8:Int))) (8:Int)),(v7.1.1,v7.1.2.1,v7.1.2.2.1,v7.1.2.2.2.1,v7.1.2.2.2.2.1,()),[],()),v17.1,())
      |false=>
       some (((IntKind.i64.wrap (Int.tdiv v1 (64:Int))),(Int.tmod (IntKind.i64.wrap (Int.tdiv v2 (8:Int))) (8:Int)),(v7.1.1,v7.1.2.1,v7.1.2.2.1,v7.1.2.2.2.1,v7.1.2.2.2.2.1,()),[],()),false,())) (
      aU (
       match ct (((IntKind.i64.wrap (Int.tdiv v1 (64:Int))),(Int.tmod (IntKind.i64.wrap (Int.tdiv v2 (8:Int))) (8:Int)),(v7.1.1,v7.1.2.1,v7.1.2.2.1,v7.1.2.2.2.1,v7.1.2.2.2.2.1,()),[],()),())with
       |none=>none
       |some v15=>
       match v15.1 with
       |true=>
        match bp (((IntKind.i64.wrap (Int.tdiv v1 (64:Int))),(Int.tmod (IntKind.i64.wrap (Int.tdiv v2 (8:Int))) (8:Int)),(v7.1.1,v7.1.2.1,v7.1.2.2.1,v7.1.2.2.2.1,v7.1.2.2.2.2.1,()),[],()),())with
        |none=>none
        |some v16=>
        match bo (v16.1,x.1,())with
        |none=>none
        |some v17=>
        some (((IntKind.i64.wrap (Int.tdiv v1 (64:Int))),(Int.tmod (IntKind.i64.wrap (Int.tdiv v2 (8:Int))) (8:Int)),(v7.1.1,v7.1.2.1,v7.1.2.2.1,v7.1.2.2.2.1,v7.1.2.2.2.2.1,()),[],()),v17.1,())
       |false=>
        some (((IntKind.i64.wrap (Int.tdiv v1 (64:Int))),(Int.tmod (IntKind.i64.wrap (Int.tdiv v2 (8:Int))) (8:Int)),(v7.1.1,v7.1.2.1,v7.1.2.2.1,v7.1.2.2.2.1,v7.1.2.2.2.2.1,()),[],()),false,())) (
       match ct (((IntKind.i64.wrap (Int.tdiv v1 (64:Int))),(Int.tmod (IntKind.i64.wrap (Int.tdiv v2 (8:Int))) (8:Int)),(v7.1.1,v7.1.2.1,v7.1.2.2.1,v7.1.2.2.2.1,v7.1.2.2.2.2.1,()),[],()),())with
       |none=>none
       |some v15=>
       match v15.1 with
       |true=>
        aU (
         match bp (((IntKind.i64.wrap (Int.tdiv v1 (64:Int))),(Int.tmod (IntKind.i64.wrap (Int.tdiv v2 (8:Int))) (8:Int)),(v7.1.1,v7.1.2.1,v7.1.2.2.1,v7.1.2.2.2.1,v7.1.2.2.2.2.1,()),[],()),())with
         |none=>none
         |some v16=>
         match bo (v16.1,x.1,())with
         |none=>none
         |some v17=>
         some (((IntKind.i64.wrap (Int.tdiv v1 (64:Int))),(Int.tmod (IntKind.i64.wrap (Int.tdiv v2 (8:Int))) (8:Int)),(v7.1.1,v7.1.2.1,v7.1.2.2.1,v7.1.2.2.2.1,v7.1.2.2.2.2.1,()),[],()),v17.1,())) (
         aU (
          match bp (((IntKind.i64.wrap (Int.tdiv v1 (64:Int))),(Int.tmod (IntKind.i64.wrap (Int.tdiv v2 (8:Int))) (8:Int)),(v7.1.1,v7.1.2.1,v7.1.2.2.1,v7.1.2.2.2.1,v7.1.2.2.2.2.1,()),[],()),())with
          |none=>none
          |some v16=>
          match bo (v16.1,x.1,())with
          |none=>none
          |some v17=>
          some (((IntKind.i64.wrap (Int.tdiv v1 (64:Int))),(Int.tmod (IntKind.i64.wrap (Int.tdiv v2 (8:Int))) (8:Int)),(v7.1.1,v7.1.2.1,v7.1.2.2.1,v7.1.2.2.2.1,v7.1.2.2.2.2.1,()),[],()),v17.1,())) (
          match bp (((IntKind.i64.wrap (Int.tdiv v1 (64:Int))),(Int.tmod (IntKind.i64.wrap (Int.tdiv v2 (8:Int))) (8:Int)),(v7.1.1,v7.1.2.1,v7.1.2.2.1,v7.1.2.2.2.1,v7.1.2.2.2.2.1,()),[],()),())with
          |none=>none
          |some v16=>
          aL (
           match bo (v16.1,x.1,())with
           |none=>none
           |some v17=>
           some (((IntKind.i64.wrap (Int.tdiv v1 (64:Int))),(Int.tmod (IntKind.i64.wrap (Int.tdiv v2 (8:Int))) (8:Int)),(v7.1.1,v7.1.2.1,v7.1.2.2.1,v7.1.2.2.2.1,v7.1.2.2.2.2.1,()),[],()),v17.1,()))))
       |false=>
        aU (
         some (((IntKind.i64.wrap (Int.tdiv v1 (64:Int))),(Int.tmod (IntKind.i64.wrap (Int.tdiv v2 (8:Int))) (8:Int)),(v7.1.1,v7.1.2.1,v7.1.2.2.1,v7.1.2.2.2.1,v7.1.2.2.2.2.1,()),[],()),false,())) (
         aU (
          some (((IntKind.i64.wrap (Int.tdiv v1 (64:Int))),(Int.tmod (IntKind.i64.wrap (Int.tdiv v2 (8:Int))) (8:Int)),(v7.1.1,v7.1.2.1,v7.1.2.2.1,v7.1.2.2.2.1,v7.1.2.2.2.2.1,()),[],()),false,())) (
          aL (
           some (((IntKind.i64.wrap (Int.tdiv v1 (64:Int))),(Int.tmod (IntKind.i64.wrap (Int.tdiv v2 (8:Int))) (8:Int)),(v7.1.1,v7.1.2.1,v7.1.2.2.1,v7.1.2.2.2.1,v7.1.2.2.2.2.1,()),[],()),false,()))))))
  |false=>
   match jz ((IntKind.i64.wrap (Int.tdiv v1 (64:Int))),())with
   |none=>none
   |some v18=>
   match v18.1 with
   |true=>
    match(((List.drop v3.1 (List.take v3.2 x.1)).length:Int)==(0:Int))with
    |true=>
     some (((0:Int),(0:Int),((0:Int),(0:Int),(0:Int),(0:Int),(0:Int),()),[],()),false,())
    |false=>
     aa (aC (List.drop v3.1 (List.take v3.2 x.1)).length (some (.dat (.int .i64) (1:Int))) none) fun v19=>
     match iU ((List.drop v19.1 (List.take v19.2 (List.drop v3.1 (List.take v3.2 x.1)))),())with
     |none=>none
     |some v20=>
     aU (
      match ct (((IntKind.i64.wrap (Int.tdiv v1 (64:Int))),(Int.tmod (IntKind.i64.wrap (Int.tdiv v2 (8:Int))) (8:Int)),((0:Int),(0:Int),(0:Int),(0:Int),(0:Int),()),v20.1,()),())with
      |none=>none
      |some v21=>
      match v21.1 with
      |true=>
       match bp (((IntKind.i64.wrap (Int.tdiv v1 (64:Int))),(Int.tmod (IntKind.i64.wrap (Int.tdiv v2 (8:Int))) (8:Int)),((0:Int),(0:Int),(0:Int),(0:Int),(0:Int),()),v20.1,()),())with
       |none=>none
       |some v22=>
       match bo (v22.1,x.1,())with
       |none=>none
       |some v23=>
       some (((IntKind.i64.wrap (Int.tdiv v1 (64:Int))),(Int.tmod (IntKind.i64.wrap (Int.tdiv v2 (8:Int))) (8:Int)),((0:Int),(0:Int),(0:Int),(0:Int),(0:Int),()),v20.1,()),v23.1,())
      |false=>
       some (((IntKind.i64.wrap (Int.tdiv v1 (64:Int))),(Int.tmod (IntKind.i64.wrap (Int.tdiv v2 (8:Int))) (8:Int)),((0:Int),(0:Int),(0:Int),(0:Int),(0:Int),()),v20.1,()),false,())) (
      aU (
       match ct (((IntKind.i64.wrap (Int.tdiv v1 (64:Int))),(Int.tmod (IntKind.i64.wrap (Int.tdiv v2 (8:Int))) (8:Int)),((0:Int),(0:Int),(0:Int),(0:Int),(0:Int),()),v20.1,()),())with
       |none=>none
       |some v21=>
       match v21.1 with
       |true=>
        match bp (((IntKind.i64.wrap (Int.tdiv v1 (64:Int))),(Int.tmod (IntKind.i64.wrap (Int.tdiv v2 (8:Int))) (8:Int)),((0:Int),(0:Int),(0:Int),(0:Int),(0:Int),()),v20.1,()),())with
        |none=>none
        |some v22=>
        match bo (v22.1,x.1,())with
        |none=>none
        |some v23=>
        some (((IntKind.i64.wrap (Int.tdiv v1 (64:Int))),(Int.tmod (IntKind.i64.wrap (Int.tdiv v2 (8:Int))) (8:Int)),((0:Int),(0:Int),(0:Int),(0:Int),(0:Int),()),v20.1,()),v23.1,())
       |false=>
        some (((IntKind.i64.wrap (Int.tdiv v1 (64:Int))),(Int.tmod (IntKind.i64.wrap (Int.tdiv v2 (8:Int))) (8:Int)),((0:Int),(0:Int),(0:Int),(0:Int),(0:Int),()),v20.1,()),false,())) (
       match ct (((IntKind.i64.wrap (Int.tdiv v1 (64:Int))),(Int.tmod (IntKind.i64.wrap (Int.tdiv v2 (8:Int))) (8:Int)),((0:Int),(0:Int),(0:Int),(0:Int),(0:Int),()),v20.1,()),())with
       |none=>none
       |some v21=>
       match v21.1 with
       |true=>
        aU (
         match bp (((IntKind.i64.wrap (Int.tdiv v1 (64:Int))),(Int.tmod (IntKind.i64.wrap (Int.tdiv v2 (8:Int))) (8:Int)),((0:Int),(0:Int),(0:Int),(0:Int),(0:Int),()),v20.1,()),())with
         |none=>none
         |some v22=>
         match bo (v22.1,x.1,())with
         |none=>none
         |some v23=>
         some (((IntKind.i64.wrap (Int.tdiv v1 (64:Int))),(Int.tmod (IntKind.i64.wrap (Int.tdiv v2 (8:Int))) (8:Int)),((0:Int),(0:Int),(0:Int),(0:Int),(0:Int),()),v20.1,()),v23.1,())) (
         aU (
          match bp (((IntKind.i64.wrap (Int.tdiv v1 (64:Int))),(Int.tmod (IntKind.i64.wrap (Int.tdiv v2 (8:Int))) (8:Int)),((0:Int),(0:Int),(0:Int),(0:Int),(0:Int),()),v20.1,()),())with
          |none=>none
          |some v22=>
          match bo (v22.1,x.1,())with
          |none=>none
          |some v23=>
          some (((IntKind.i64.wrap (Int.tdiv v1 (64:Int))),(Int.tmod (IntKind.i64.wrap (Int.tdiv v2 (8:Int))) (8:Int)),((0:Int),(0:Int),(0:Int),(0:Int),(0:Int),()),v20.1,()),v23.1,())) (
          match bp (((IntKind.i64.wrap (Int.tdiv v1 (64:Int))),(Int.tmod (IntKind.i64.wrap (Int.tdiv v2 (8:Int))) (8:Int)),((0:Int),(0:Int),(0:Int),(0:Int),(0:Int),()),v20.1,()),())with
          |none=>none
          |some v22=>
          aL (
           match bo (v22.1,x.1,())with
           |none=>none
           |some v23=>
           some (((IntKind.i64.wrap (Int.tdiv v1 (64:Int))),(Int.tmod (IntKind.i64.wrap (Int.tdiv v2 (8:Int))) (8:Int)),((0:Int),(0:Int),(0:Int),(0:Int),(0:Int),()),v20.1,()),v23.1,()))))
       |false=>
        aU (
         some (((IntKind.i64.wrap (Int.tdiv v1 (64:Int))),(Int.tmod (IntKind.i64.wrap (Int.tdiv v2 (8:Int))) (8:Int)),((0:Int),(0:Int),(0:Int),(0:Int),(0:Int),()),v20.1,()),false,())) (
         aU (
          some (((IntKind.i64.wrap (Int.tdiv v1 (64:Int))),(Int.tmod (IntKind.i64.wrap (Int.tdiv v2 (8:Int))) (8:Int)),((0:Int),(0:Int),(0:Int),(0:Int),(0:Int),()),v20.1,()),false,())) (
          aL (
           some (((IntKind.i64.wrap (Int.tdiv v1 (64:Int))),(Int.tmod (IntKind.i64.wrap (Int.tdiv v2 (8:Int))) (8:Int)),((0:Int),(0:Int),(0:Int),(0:Int),(0:Int),()),v20.1,()),false,()))))))
   |false=>
    aU (
     match ct (((IntKind.i64.wrap (Int.tdiv v1 (64:Int))),(Int.tmod (IntKind.i64.wrap (Int.tdiv v2 (8:Int))) (8:Int)),((0:Int),(0:Int),(0:Int),(0:Int),(0:Int),()),[],()),())with
     |none=>none
     |some v24=>
     match v24.1 with
     |true=>
      match bp (((IntKind.i64.wrap (Int.tdiv v1 (64:Int))),(Int.tmod (IntKind.i64.wrap (Int.tdiv v2 (8:Int))) (8:Int)),((0:Int),(0:Int),(0:Int),(0:Int),(0:Int),()),[],()),())with
      |none=>none
      |some v25=>
      match bo (v25.1,x.1,())with
      |none=>none
      |some v26=>
      some (((IntKind.i64.wrap (Int.tdiv v1 (64:Int))),(Int.tmod (IntKind.i64.wrap (Int.tdiv v2 (8:Int))) (8:Int)),((0:Int),(0:Int),(0:Int),(0:Int),(0:Int),()),[],()),v26.1,())
     |false=>
      some (((IntKind.i64.wrap (Int.tdiv v1 (64:Int))),(Int.tmod (IntKind.i64.wrap (Int.tdiv v2 (8:Int))) (8:Int)),((0:Int),(0:Int),(0:Int),(0:Int),(0:Int),()),[],()),false,())) (
     aU (
      match ct (((IntKind.i64.wrap (Int.tdiv v1 (64:Int))),(Int.tmod (IntKind.i64.wrap (Int.tdiv v2 (8:Int))) (8:Int)),((0:Int),(0:Int),(0:Int),(0:Int),(0:Int),()),[],()),())with
      |none=>none
      |some v24=>
      match v24.1 with
      |true=>
       match bp (((IntKind.i64.wrap (Int.tdiv v1 (64:Int))),(Int.tmod (IntKind.i64.wrap (Int.tdiv v2 (8:Int))) (8:Int)),((0:Int),(0:Int),(0:Int),(0:Int),(0:Int),()),[],()),())with
       |none=>none
       |some v25=>
       match bo (v25.1,x.1,())with
       |none=>none
       |some v26=>
       some (((IntKind.i64.wrap (Int.tdiv v1 (64:Int))),(Int.tmod (IntKind.i64.wrap (Int.tdiv v2 (8:Int))) (8:Int)),((0:Int),(0:Int),(0:Int),(0:Int),(0:Int),()),[],()),v26.1,())
      |false=>
       some (((IntKind.i64.wrap (Int.tdiv v1 (64:Int))),(Int.tmod (IntKind.i64.wrap (Int.tdiv v2 (8:Int))) (8:Int)),((0:Int),(0:Int),(0:Int),(0:Int),(0:Int),()),[],()),false,())) (
      match ct (((IntKind.i64.wrap (Int.tdiv v1 (64:Int))),(Int.tmod (IntKind.i64.wrap (Int.tdiv v2 (8:Int))) (8:Int)),((0:Int),(0:Int),(0:Int),(0:Int),(0:Int),()),[],()),())with
      |none=>none
      |some v24=>
      match v24.1 with
      |true=>
       aU (
        match bp (((IntKind.i64.wrap (Int.tdiv v1 (64:Int))),(Int.tmod (IntKind.i64.wrap (Int.tdiv v2 (8:Int))) (8:Int)),((0:Int),(0:Int),(0:Int),(0:Int),(0:Int),()),[],()),())with
        |none=>none
        |some v25=>
        match bo (v25.1,x.1,())with
        |none=>none
        |some v26=>
        some (((IntKind.i64.wrap (Int.tdiv v1 (64:Int))),(Int.tmod (IntKind.i64.wrap (Int.tdiv v2 (8:Int))) (8:Int)),((0:Int),(0:Int),(0:Int),(0:Int),(0:Int),()),[],()),v26.1,())) (
        aU (
         match bp (((IntKind.i64.wrap (Int.tdiv v1 (64:Int))),(Int.tmod (IntKind.i64.wrap (Int.tdiv v2 (8:Int))) (8:Int)),((0:Int),(0:Int),(0:Int),(0:Int),(0:Int),()),[],()),())with
         |none=>none
         |some v25=>
         match bo (v25.1,x.1,())with
         |none=>none
         |some v26=>
         some (((IntKind.i64.wrap (Int.tdiv v1 (64:Int))),(Int.tmod (IntKind.i64.wrap (Int.tdiv v2 (8:Int))) (8:Int)),((0:Int),(0:Int),(0:Int),(0:Int),(0:Int),()),[],()),v26.1,())) (
         match bp (((IntKind.i64.wrap (Int.tdiv v1 (64:Int))),(Int.tmod (IntKind.i64.wrap (Int.tdiv v2 (8:Int))) (8:Int)),((0:Int),(0:Int),(0:Int),(0:Int),(0:Int),()),[],()),())with
         |none=>none
         |some v25=>
         aL (
          match bo (v25.1,x.1,())with
          |none=>none
          |some v26=>
          some (((IntKind.i64.wrap (Int.tdiv v1 (64:Int))),(Int.tmod (IntKind.i64.wrap (Int.tdiv v2 (8:Int))) (8:Int)),((0:Int),(0:Int),(0:Int),(0:Int),(0:Int),()),[],()),v26.1,()))))
      |false=>
       aU (
        some (((IntKind.i64.wrap (Int.tdiv v1 (64:Int))),(Int.tmod (IntKind.i64.wrap (Int.tdiv v2 (8:Int))) (8:Int)),((0:Int),(0:Int),(0:Int),(0:Int),(0:Int),()),[],()),false,())) (
        aU (
         some (((IntKind.i64.wrap (Int.tdiv v1 (64:Int))),(Int.tmod (IntKind.i64.wrap (Int.tdiv v2 (8:Int))) (8:Int)),((0:Int),(0:Int),(0:Int),(0:Int),(0:Int),()),[],()),false,())) (
         aL (
          some (((IntKind.i64.wrap (Int.tdiv v1 (64:Int))),(Int.tmod (IntKind.i64.wrap (Int.tdiv v2 (8:Int))) (8:Int)),((0:Int),(0:Int),(0:Int),(0:Int),(0:Int),()),[],()),false,())))))))
noncomputable def Ol:Spec:=⟨_,(.pair (.pair (.int .i64) (.pair (.int .i64) (.pair ab (.pair (.own 2 (.int .i64)) .unit)))) (.pair .bool .unit)),.unit,rfl,rL⟩
theorem Mn:FnOK G0 Tryz.prog 237 Ol:=ai ah (sg vE (sg BP (sg iy (sg tf (sg BT (sg B0 (sg sU (sg Mm (az))))))))) Tryz.func237
noncomputable def nq(x:Ty.T (.pair (.list (.int .i64)) (.pair (.int .i64) (.pair ab .unit)))):Option (Ty.T (.pair (.pair (.int .i64) (.pair (.int .i64) (.pair ab (.pair (.own 2 (.int .i64)) .unit)))) (.pair (.int .i64) .unit))):=
match(decide ((IntKind.i64.wrap ((x.1.length:Int)-(3:Int)))<(1:Int)))with
|true=>
 some (((0:Int),(0:Int),((0:Int),(0:Int),(0:Int),(0:Int),(0:Int),()),[],()),(6:Int),())
|false=>
 aa (aw x.1 (IntKind.i64.wrap ((x.1.length:Int)-(3:Int)))) fun v1=>
 aa (aw x.1 (IntKind.i64.wrap ((IntKind.i64.wrap ((x.1.length:Int)-(3:Int)))+(1:Int)))) fun v2=>
 aa (aw x.1 (IntKind.i64.wrap ((IntKind.i64.wrap ((x.1.length:Int)-(3:Int)))+(2:Int)))) fun v3=>
 aa (aw x.1 (0:Int)) fun v4=>
 aa (aC x.1.length none (some (.dat (.int .i64) (IntKind.i64.wrap ((x.1.length:Int)-(3:Int)))))) fun v5=>
 match iV ((IntKind.i64.wrap (Int.tdiv v4 (64:Int))),(List.drop v5.1 (List.take v5.2 x.1)),x.2.1,(x.2.2.1.1,x.2.2.1.2.1,x.2.2.1.2.2.1,x.2.2.1.2.2.2.1,x.2.2.1.2.2.2.2.1,()),())with
 |none=>none
 |some v6=>
 match(v6.1 != (IntKind.i64.wrap ((IntKind.i64.wrap ((IntKind.i64.wrap (v1*(65536:Int)))+(IntKind.i64.wrap (v2*(256:Int)))))+v3)))with
 |true=>
  some (((0:Int),(0:Int),((0:Int),(0:Int),(0:Int),(0:Int),(0:Int),()),[],()),(7:Int),())
 |false=>
  aa (aC x.1.length none (some (.dat (.int .i64) (IntKind.i64.wrap ((x.1.length:Int)-(3:Int)))))) fun v7=>
  match rL ((List.drop v7.1 (List.take v7.2 x.1)),())with
  |none=>none
  |some v8=>
  match(!v8.2.1)with
  |true=>
   some (((0:Int),(0:Int),((0:Int),(0:Int),(0:Int),(0:Int),(0:Int),()),[],()),(6:Int),())
  |false=>
   match dR (v8.1.1,())with
   |none=>none
   |some v9=>
   match v9.1 with
   |true=>
    match(!(dz ab (v8.1.2.2.1.1,v8.1.2.2.1.2.1,v8.1.2.2.1.2.2.1,v8.1.2.2.1.2.2.2.1,v8.1.2.2.1.2.2.2.2.1,()) (x.2.2.1.1,x.2.2.1.2.1,x.2.2.1.2.2.1,x.2.2.1.2.2.2.1,x.2.2.1.2.2.2.2.1,())))with
    |true=>
     some (((0:Int),(0:Int),((0:Int),(0:Int),(0:Int),(0:Int),(0:Int),()),[],()),(5:Int),())
    |false=>
     some ((v8.1.1,v8.1.2.1,(v8.1.2.2.1.1,v8.1.2.2.1.2.1,v8.1.2.2.1.2.2.1,v8.1.2.2.1.2.2.2.1,v8.1.2.2.1.2.2.2.2.1,()),v8.1.2.2.2.1,()),(0:Int),())
   |false=>
    some ((v8.1.1,v8.1.2.1,(v8.1.2.2.1.1,v8.1.2.2.1.2.1,v8.1.2.2.1.2.2.1,v8.1.2.2.1.2.2.2.1,v8.1.2.2.1.2.2.2.2.1,()),v8.1.2.2.2.1,()),(0:Int),())
noncomputable def Qi:Spec:=⟨_,(.pair (.pair (.int .i64) (.pair (.int .i64) (.pair ab (.pair (.own 2 (.int .i64)) .unit)))) (.pair (.int .i64) .unit)),.unit,rfl,nq⟩
theorem Om:FnOK G0 Tryz.prog 199 Qi:=ai ah (sg iy (sg wN (sg Mn (az)))) Tryz.func199
noncomputable def oh(x:Ty.T (.pair ag (.pair ab (.pair (.list (.int .i64)) .unit)))):Option (Ty.T (.pair (.pair (.int .i64) (.pair (.pair (.int .i64) (.pair (.int .i64) (.pair ab (.pair (.own 2 (.int .i64)) .unit)))) .unit)) (.pair (.int .i64) .unit))):=
match nq (x.2.2.1,x.1.1,(x.2.1.1,x.2.1.2.1,x.2.1.2.2.1,x.2.1.2.2.2.1,x.2.1.2.2.2.2.1,()),())with
|none=>none
|some v1=>
match(v1.2.1==(0:Int))with
|true=>
 match cG ((x.1.1,x.1.2.1,x.1.2.2.1,x.1.2.2.2.1,()),(x.2.1.1,x.2.1.2.1,x.2.1.2.2.1,x.2.1.2.2.2.1,x.2.1.2.2.2.2.1,()),())with
 |none=>none
 |some v2=>
 match cW (v2.1,(v1.1.1,v1.1.2.1,(v1.1.2.2.1.1,v1.1.2.2.1.2.1,v1.1.2.2.1.2.2.1,v1.1.2.2.1.2.2.2.1,v1.1.2.2.1.2.2.2.2.1,()),v1.1.2.2.2.1,()),())with
 |none=>none
 |some v3=>
 match(!v3.1)with
 |true=>
  match((5:Int) != (0:Int))with
  |true=>
   some (((2:Int),((0:Int),(0:Int),((0:Int),(0:Int),(0:Int),(0:Int),(0:Int),()),[],()),()),(5:Int),())
  |false=>
   some (((3:Int),(v1.1.1,v1.1.2.1,(v1.1.2.2.1.1,v1.1.2.2.1.2.1,v1.1.2.2.1.2.2.1,v1.1.2.2.1.2.2.2.1,v1.1.2.2.1.2.2.2.2.1,()),v1.1.2.2.2.1,()),()),(0:Int),())
 |false=>
  match(v1.2.1 != (0:Int))with
  |true=>
   some (((2:Int),((0:Int),(0:Int),((0:Int),(0:Int),(0:Int),(0:Int),(0:Int),()),[],()),()),v1.2.1,())
  |false=>
   some (((3:Int),(v1.1.1,v1.1.2.1,(v1.1.2.2.1.1,v1.1.2.2.1.2.1,v1.1.2.2.1.2.2.1,v1.1.2.2.1.2.2.2.1,v1.1.2.2.1.2.2.2.2.1,()),v1.1.2.2.2.1,()),()),(0:Int),())
|false=>
 match(v1.2.1 != (0:Int))with
 |true=>
  some (((2:Int),((0:Int),(0:Int),((0:Int),(0:Int),(0:Int),(0:Int),(0:Int),()),[],()),()),v1.2.1,())
 |false=>
  some (((3:Int),(v1.1.1,v1.1.2.1,(v1.1.2.2.1.1,v1.1.2.2.1.2.1,v1.1.2.2.1.2.2.1,v1.1.2.2.1.2.2.2.1,v1.1.2.2.1.2.2.2.2.1,()),v1.1.2.2.2.1,()),()),(0:Int),())
noncomputable def On:Spec:=⟨_,(.pair (.pair (.int .i64) (.pair (.pair (.int .i64) (.pair (.int .i64) (.pair ab (.pair (.own 2 (.int .i64)) .unit)))) .unit)) (.pair (.int .i64) .unit)),.unit,rfl,oh⟩
theorem Mo:FnOK G0 Tryz.prog 149 On:=ai ah (sg hU (sg oS (sg Om (az)))) Tryz.func149
end Go.Proofs.YthfgmmmeplanbaaGreatDoor
