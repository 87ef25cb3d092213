import Derived.Test.YthfgmmmeplanbaaGreatDoorSho
import Derived.Test.YthfgmmmeplanbaaGreatDoorDelW
import Derived.Test.YthfgmmmeplanbaaGreatDoorInsW
import Derived.Test.YthfgmmmeplanbaaGreatDoorLibS
import Derived.Test.YthfgmmmeplanbaaGreatDoorRepW
import Derived.Test.YthfgmmmeplanbaaGreatDoorSh
import Derived.Test.YthfgmmmeplanbaaGreatDoorTdW
import Derived.Test.YthfgmmmeplanbaaGreatDoorTrW
import Derived.Test.YthfgmmmeplanbaaGreatDoorProg
import Derived.KernelRfl
namespace Go.Proofs.YthfgmmmeplanbaaGreatDoor
open Go.RowKit
set_option linter.unusedVariables false
abbrev VE:Ty:=(.pair .str (.pair (.int .u64) .unit))
abbrev ae:Ty:=(.pair (.int .i64) (.pair (.list (.pair (.int .i64) (.pair .str (.pair (.int .i64) (.pair .bool .unit))))) (.pair (.list (.pair (.int .i64) (.pair (.int .i64) (.pair (.list (.int .i64)) .unit)))) (.pair (.list (.pair (.int .i64) (.pair (.int .i64) (.pair (.int .i64) (.pair (.pair (.int .i64) (.pair (.int .i64) (.pair (.int .i64) (.pair (.int .i64) (.pair .bool .unit))))) .unit))))) .unit))))
abbrev ab:Ty:=(.pair (.int .i64) (.pair (.int .i64) (.pair (.int .i64) (.pair (.int .i64) (.pair (.int .i64) .unit)))))
abbrev aL:Ty:=(.pair (.int .i64) (.pair (.int .i64) (.pair ab (.pair (.list (.int .i64)) .unit))))
abbrev az:Ty:=(.pair (.int .i64) (.pair aL .unit))
abbrev ar:Ty:=(.pair (.int .i64) (.pair (.int .i64) (.pair (.list (.pair (.int .i64) (.pair (.int .i64) (.pair (.int .i64) (.pair (.int .i64) .unit))))) (.pair (.list (.pair (.int .i64) (.pair (.int .i64) (.pair (.int .i64) (.pair (.int .i64) .unit))))) .unit))))
abbrev al:Ty:=(.pair (.int .i64) (.pair (.int .i64) (.pair (.int .i64) (.pair (.int .i64) .unit))))
abbrev a7:Ty:=(.pair (.int .i64) (.pair (.int .i64) (.pair (.int .i64) (.pair (.int .i64) (.pair .bool .unit)))))
abbrev bk:Ty:=(.pair ab (.pair (.int .i64) (.pair (.int .i64) .unit)))
abbrev ak:Ty:=(.pair (.int .i64) (.pair .str (.pair (.int .i64) (.pair .bool .unit))))
abbrev ao:Ty:=(.pair (.int .i64) (.pair (.int .i64) (.pair (.list (.int .i64)) .unit)))
abbrev ag:Ty:=(.pair (.int .i64) (.pair (.int .i64) (.pair (.int .i64) (.pair a7 .unit))))
abbrev ma:Ty:=(.pair (.int .i64) (.pair (.list (.int .i64)) (.pair (.int .i64) .unit)))
abbrev ah:Ty:=(.pair (.int .i64) (.pair (.int .i64) .unit))
abbrev dl:Ty:=(.pair (.list (.int .i64)) (.pair (.int .i64) (.pair (.list (.int .i64)) .unit)))
abbrev ZE:Ty:=(.pair (.int .u8) (.pair (.int .u8) .unit))
abbrev ZF:Ty:=(.pair (.int .i64) (.pair (.int .i64) (.pair .bool (.pair (.int .u8) .unit))))
def aV:b7:=[(2,(.int .i64)),(3,(.int .i64)),(4,.bool),(5,(.int .u8)),(9,.str),(22,(.list ak)),(23,(.list ao)),(24,(.list ag)),(26,ae),(28,ab),(29,(.list (.int .i64))),(32,(.list al)),(36,ab),(38,aL),(40,az),(43,(.list ak)),(44,(.list ao)),(45,(.list ag)),(47,ae),(51,(.list al)),(62,(.list ar)),(66,(.list ar)),(71,ar),(76,ar),(88,(.list az)),(105,al),(107,al),(124,a7),(134,ak),(137,ao),(143,ak),(145,ao),(148,ag),(150,a7),(152,ag),(181,(.list (.int .u8))),(189,(.int .u64)),(227,(.list (.list (.int .i64)))),(236,ma),(246,ah),(255,dl)]
def E0:bq:=[(22,134),(23,137),(24,152),(29,2),(32,107),(43,143),(44,145),(45,148),(51,105),(62,71),(66,76),(88,40),(181,5),(227,29)]
theorem ai:bT Tryz.prog aV E0=true:=by kernel_rfl
def ZG:b7:=[(2,(.int .i64)),(22,(.list ak)),(23,(.list ao)),(24,(.list ag)),(26,ae),(29,(.list (.int .i64))),(43,(.list ak)),(44,(.list (.pair (.int .i64) (.pair (.int .i64) (.pair (.own 2 (.int .i64)) .unit))))),(45,(.list ag)),(47,ae),(137,ao),(145,ao)]
def E1:bq:=[(23,137),(44,145)]
theorem US:bT Tryz.prog ZG E1=true:=by kernel_rfl
def ZH:b7:=[(2,(.int .i64)),(51,(.list al)),(62,(.list ar)),(66,(.list (.pair (.int .i64) (.pair (.int .i64) (.pair (.own 105 al) (.pair (.own 105 al) .unit)))))),(71,ar),(76,ar)]
def E2:bq:=[(62,71),(66,76)]
theorem ZI:bT Tryz.prog ZH E2=true:=by kernel_rfl
def eU:b7:=[(2,(.int .i64)),(29,(.list (.int .i64))),(36,ab),(38,aL),(40,az),(44,(.list ao)),(47,ae),(66,(.list ar)),(76,ar),(88,(.list (.pair (.int .i64) (.pair (.pair (.int .i64) (.pair (.int .i64) (.pair ab (.pair (.own 2 (.int .i64)) .unit)))) .unit)))),(128,(.list ab)),(145,ao)]
def E3:bq:=[(44,145),(66,76),(88,40),(128,36)]
theorem ab6:bT Tryz.prog eU E3=true:=by kernel_rfl
abbrev G0:Gl:=Gl.none
noncomputable def tL(x:Ty.T (.pair ak (.pair (.int .i64) .unit))):Option (Ty.T (.pair (.int .i64) .unit)):=
match(decide ((IntKind.i64.wrap (x.2.1-(x.1.2.1.length:Int)))<(0:Int)))with
|true=>
 some ((-1:Int),())
|false=>
 some ((IntKind.i64.wrap (x.2.1-(x.1.2.1.length:Int))),())
noncomputable def xy:Spec:=⟨_,(.pair (.int .i64) .unit),.unit,rfl,tL⟩
theorem Ji:FnOK G0 Tryz.prog 84 xy:=aj ai aC Tryz.func84
noncomputable def fE(x:(Ty.T (.pair (.list ak) ah))):Option ((Ty.T (.pair (.list ak) ah)) ⊕ ((Ty.T (.pair (.int .i64) .unit)) ⊕ (Ty.T (.pair (.int .i64) .unit)))):=
match(decide (x.2.2.1<(x.1.length:Int)))with
|true=>
 aa (au x.1 x.2.2.1) fun v1=>
 match tL (v1,x.2.1,())with
 |none=>none
 |some v2=>
 match(decide (v2.1<(0:Int)))with
 |true=>
  some (.inr (.inr ((-1:Int),())))
 |false=>
  some (.inl (x.1,v2.1,(IntKind.i64.wrap (x.2.2.1+(1:Int))),()))
|false=>
 some (.inr (.inl (x.2.1,())))
noncomputable def nj(x:Ty.T (.pair (.list ak) (.pair (.int .i64) .unit))):Option (Ty.T (.pair (.int .i64) .unit)):=
match(decide ((IntKind.i64.wrap (x.2.1-(x.1.length:Int)))<(0:Int)))with
|true=>
 some ((-1:Int),())
|false=>
 match ac fE (x.1,(IntKind.i64.wrap (x.2.1-(x.1.length:Int))),(0:Int),())with
 |none=>none
 |some (.inl v3)=>
  some (v3.1,())
 |some (.inr v4)=>
  some (v4.1,())
noncomputable def Jj:Spec:=⟨_,(.pair (.int .i64) .unit),.unit,rfl,nj⟩
noncomputable def tM:FuncId→Option Spec:=aX [(84,xy)]
theorem CE:∀f s,tM f=some s→FnOK G0 Tryz.prog f s:=aw ⟨Ji,trivial⟩
def rS:aG:=⟨[0,1,5],(.pair (.list ak) ah),0,[1],(.pair (.int .i64) .unit),[4],(.pair (.int .i64) .unit)⟩
noncomputable def tN:List a9z:=[rS.spec fE]
theorem BL:aU aV E0 tM (aR Tryz.f49 tN) Tryz.f49 0 rS fE:=fun x=>by kernel_rfl
theorem Hh:FnOK G0 Tryz.prog 49 Jj:=ax ai CE Tryz.func49 tN (by kernel_rfl) (by exact⟨(BL).lok,trivial⟩) fun x=>by kernel_rfl
noncomputable def sQ(x:Ty.T (.pair (.list (.int .i64)) (.pair (.int .i64) .unit))):Option (Ty.T (.pair (.int .i64) .unit)):=
match(decide ((IntKind.i64.wrap (x.2.1-(x.1.length:Int)))<(0:Int)))with
|true=>
 some ((-1:Int),())
|false=>
 some ((IntKind.i64.wrap (x.2.1-(x.1.length:Int))),())
noncomputable def P5:Spec:=⟨_,(.pair (.int .i64) .unit),.unit,rfl,sQ⟩
theorem N2:FnOK G0 Tryz.prog 52 P5:=aj ai aC Tryz.func52
noncomputable def tO(x:Ty.T (.pair ao (.pair (.int .i64) .unit))):Option (Ty.T (.pair (.int .i64) .unit)):=
match sQ (x.1.2.2.1,x.2.1,())with
|none=>none
|some v1=>
match(decide (v1.1<(0:Int)))with
|true=>
 some ((-1:Int),())
|false=>
 some (v1.1,())
noncomputable def xz:Spec:=⟨_,(.pair (.int .i64) .unit),.unit,rfl,tO⟩
theorem Jk:FnOK G0 Tryz.prog 85 xz:=aj ai (sg N2 (aC)) Tryz.func85
noncomputable def fF(x:(Ty.T (.pair (.list ao) ah))):Option ((Ty.T (.pair (.list ao) ah)) ⊕ ((Ty.T (.pair (.int .i64) .unit)) ⊕ (Ty.T (.pair (.int .i64) .unit)))):=
match(decide (x.2.2.1<(x.1.length:Int)))with
|true=>
 aa (au x.1 x.2.2.1) fun v1=>
 match tO (v1,x.2.1,())with
 |none=>none
 |some v2=>
 match(decide (v2.1<(0:Int)))with
 |true=>
  some (.inr (.inr ((-1:Int),())))
 |false=>
  some (.inl (x.1,v2.1,(IntKind.i64.wrap (x.2.2.1+(1:Int))),()))
|false=>
 some (.inr (.inl (x.2.1,())))
noncomputable def nk(x:Ty.T (.pair (.list ao) (.pair (.int .i64) .unit))):Option (Ty.T (.pair (.int .i64) .unit)):=
match(decide ((IntKind.i64.wrap (x.2.1-(x.1.length:Int)))<(0:Int)))with
|true=>
 some ((-1:Int),())
|false=>
 match ac fF (x.1,(IntKind.i64.wrap (x.2.1-(x.1.length:Int))),(0:Int),())with
 |none=>none
 |some (.inl v3)=>
  some (v3.1,())
 |some (.inr v4)=>
  some (v4.1,())
noncomputable def Jl:Spec:=⟨_,(.pair (.int .i64) .unit),.unit,rfl,nk⟩
noncomputable def tP:FuncId→Option Spec:=aX [(85,xz)]
theorem CF:∀f s,tP f=some s→FnOK G0 Tryz.prog f s:=aw ⟨Jk,trivial⟩
def rT:aG:=⟨[0,1,5],(.pair (.list ao) ah),0,[1],(.pair (.int .i64) .unit),[4],(.pair (.int .i64) .unit)⟩
noncomputable def tQ:List a9z:=[rT.spec fF]
theorem BM:aU aV E0 tP (aR Tryz.f50 tQ) Tryz.f50 0 rT fF:=fun x=>by kernel_rfl
theorem Hi:FnOK G0 Tryz.prog 50 Jl:=ax ai CF Tryz.func50 tQ (by kernel_rfl) (by exact⟨(BM).lok,trivial⟩) fun x=>by kernel_rfl
noncomputable def nl(x:Ty.T (.pair (.list ag) (.pair (.int .i64) .unit))):Option (Ty.T (.pair (.int .i64) .unit)):=
match(decide ((IntKind.i64.wrap (x.2.1-(x.1.length:Int)))<(0:Int)))with
|true=>
 some ((-1:Int),())
|false=>
 some ((IntKind.i64.wrap (x.2.1-(x.1.length:Int))),())
noncomputable def Jm:Spec:=⟨_,(.pair (.int .i64) .unit),.unit,rfl,nl⟩
theorem Hj:FnOK G0 Tryz.prog 51 Jm:=aj ai aC Tryz.func51
noncomputable def nC(x:Ty.T (.pair ae (.pair (.int .i64) .unit))):Option (Ty.T (.pair (.int .i64) .unit)):=
match nj (x.1.2.1,x.2.1,())with
|none=>none
|some v1=>
match(decide (v1.1<(0:Int)))with
|true=>
 some ((-1:Int),())
|false=>
 match nk (x.1.2.2.1,v1.1,())with
 |none=>none
 |some v2=>
 match(decide (v2.1<(0:Int)))with
 |true=>
  some ((-1:Int),())
 |false=>
  match nl (x.1.2.2.2.1,v2.1,())with
  |none=>none
  |some v3=>
  match(decide (v3.1<(0:Int)))with
  |true=>
   some ((-1:Int),())
  |false=>
   some (v3.1,())
noncomputable def UT:Spec:=⟨_,(.pair (.int .i64) .unit),.unit,rfl,nC⟩
theorem Ga:FnOK G0 Tryz.prog 8 UT:=aj ai (sg Hh (sg Hi (sg Hj (aC)))) Tryz.func8
noncomputable def tR(x:Ty.T (.pair ak .unit)):Option (Ty.T (.pair ak .unit)):=
some (x.1,())
noncomputable def xA:Spec:=⟨_,(.pair ak .unit),.unit,rfl,tR⟩
theorem Jn:FnOK G0 Tryz.prog 91 xA:=aj ai aC Tryz.func91
noncomputable def fG(x:(Ty.T (.pair (.list ak) (.pair (.own 143 ak) (.pair (.int .i64) .unit))))):Option ((Ty.T (.pair (.list ak) (.pair (.own 143 ak) (.pair (.int .i64) .unit)))) ⊕ ((Ty.T (.pair (.own 143 ak) .unit)) ⊕ (Ty.T .unit))):=
match(decide (x.2.2.1<(x.1.length:Int)))with
|true=>
 aa (au x.1 x.2.2.1) fun v1=>
 match tR (v1,())with
 |none=>none
 |some v2=>
 aa (au x.2.1 x.2.2.1) fun _=>
 match x.2.1[x.2.2.1.toNat]? with
 |none=>none
 |some v4=>
 some (.inl (x.1,(x.2.1.set x.2.2.1.toNat v2.1),(IntKind.i64.wrap (x.2.2.1+(1:Int))),()))
|false=>
 some (.inr (.inl (x.2.1,())))
noncomputable def ku(x:Ty.T (.pair (.list ak) .unit)):Option (Ty.T (.pair (.own 143 ak) .unit)):=
if 0≤(x.1.length:Int)∧(x.1.length:Int)≤(x.1.length:Int)then
 aM ((x.1.length:Int).toNat) (
  match ac fG (x.1,(List.replicate (x.1.length:Int).toNat ((0:Int),[],(0:Int),false,())),(0:Int),())with
  |none=>none
  |some (.inl v5)=>
   some (v5.1,())
  |some (.inr v7)=>
   none)
else none
noncomputable def Jo:Spec:=⟨_,(.pair (.own 143 ak) .unit),.unit,rfl,ku⟩
noncomputable def tS:FuncId→Option Spec:=aX [(91,xA)]
theorem CG:∀f s,tS f=some s→FnOK G0 Tryz.prog f s:=aw ⟨Jn,trivial⟩
def rU:aG:=⟨[0,3,4],(.pair (.list ak) (.pair (.own 143 ak) (.pair (.int .i64) .unit))),0,[3],(.pair (.own 143 ak) .unit),[],.unit⟩
noncomputable def tT:List a9z:=[rU.spec fG]
theorem BN:aU aV E0 tS (aR Tryz.f55 tT) Tryz.f55 0 rU fG:=fun x=>by kernel_rfl
theorem Hk:FnOK G0 Tryz.prog 55 Jo:=ax ai CG Tryz.func55 tT (by kernel_rfl) (by exact⟨(BN).lok,trivial⟩) fun x=>by kernel_rfl
noncomputable def ig(x:(Ty.T (.pair (.list (.int .i64)) (.pair (.own 2 (.int .i64)) (.pair (.int .i64) .unit))))):Option ((Ty.T (.pair (.list (.int .i64)) (.pair (.own 2 (.int .i64)) (.pair (.int .i64) .unit)))) ⊕ ((Ty.T (.pair (.own 2 (.int .i64)) .unit)) ⊕ (Ty.T .unit))):=
match(decide (x.2.2.1<(x.1.length:Int)))with
|true=>
 aa (au x.1 x.2.2.1) fun v1=>
 aa (au x.2.1 x.2.2.1) fun _=>
 match x.2.1[x.2.2.1.toNat]? with
 |none=>none
 |some v3=>
 some (.inl (x.1,(x.2.1.set x.2.2.1.toNat v1),(IntKind.i64.wrap (x.2.2.1+(1:Int))),()))
|false=>
 some (.inr (.inl (x.2.1,())))
noncomputable def oL(x:Ty.T (.pair (.list (.int .i64)) .unit)):Option (Ty.T (.pair (.own 2 (.int .i64)) .unit)):=
if 0≤(x.1.length:Int)∧(x.1.length:Int)≤(x.1.length:Int)then
 aM ((x.1.length:Int).toNat) (
  match ac ig (x.1,(List.replicate (x.1.length:Int).toNat (0:Int)),(0:Int),())with
  |none=>none
  |some (.inl v4)=>
   some (v4.1,())
  |some (.inr v6)=>
   none)
else none
noncomputable def P6:Spec:=⟨_,(.pair (.own 2 (.int .i64)) .unit),.unit,rfl,oL⟩
noncomputable def Ar:FuncId→Option Spec:=aX []
theorem Jp:∀f s,Ar f=some s→FnOK G0 Tryz.prog f s:=aw trivial
def xB:aG:=⟨[0,3,4],(.pair (.list (.int .i64)) (.pair (.own 2 (.int .i64)) (.pair (.int .i64) .unit))),0,[3],(.pair (.own 2 (.int .i64)) .unit),[],.unit⟩
noncomputable def As:List a9z:=[xB.spec ig]
theorem Hl:aU aV E0 Ar (aR Tryz.f58 As) Tryz.f58 0 xB ig:=fun x=>by kernel_rfl
theorem N3:FnOK G0 Tryz.prog 58 P6:=ax ai Jp Tryz.func58 As (by kernel_rfl) (by exact⟨(Hl).lok,trivial⟩) fun x=>by kernel_rfl
noncomputable def oM(x:Ty.T (.pair ao .unit)):Option (Ty.T (.pair (.pair (.int .i64) (.pair (.int .i64) (.pair (.own 2 (.int .i64)) .unit))) .unit)):=
match oL (x.1.2.2.1,())with
|none=>none
|some v1=>
some ((x.1.1,x.1.2.1,v1.1,()),())
noncomputable def xC:Spec:=⟨_,(.pair (.pair (.int .i64) (.pair (.int .i64) (.pair (.own 2 (.int .i64)) .unit))) .unit),.unit,rfl,oM⟩
theorem Jq:FnOK G0 Tryz.prog 92 xC:=aj ai (sg N3 (aC)) Tryz.func92
noncomputable def fH(x:(Ty.T (.pair (.list ao) (.pair (.own 145 (.pair (.int .i64) (.pair (.int .i64) (.pair (.own 2 (.int .i64)) .unit)))) (.pair (.int .i64) .unit))))):Option ((Ty.T (.pair (.list ao) (.pair (.own 145 (.pair (.int .i64) (.pair (.int .i64) (.pair (.own 2 (.int .i64)) .unit)))) (.pair (.int .i64) .unit)))) ⊕ ((Ty.T (.pair (.own 145 (.pair (.int .i64) (.pair (.int .i64) (.pair (.own 2 (.int .i64)) .unit)))) .unit)) ⊕ (Ty.T .unit))):=
match(decide (x.2.2.1<(x.1.length:Int)))with
|true=>
 aa (au x.1 x.2.2.1) fun v1=>
 match oM (v1,())with
 |none=>none
 |some v2=>
 aa (au x.2.1 x.2.2.1) fun _=>
 match x.2.1[x.2.2.1.toNat]? with
 |none=>none
 |some v4=>
 some (.inl (x.1,(x.2.1.set x.2.2.1.toNat v2.1),(IntKind.i64.wrap (x.2.2.1+(1:Int))),()))
|false=>
 some (.inr (.inl (x.2.1,())))
noncomputable def kv(x:Ty.T (.pair (.list ao) .unit)):Option (Ty.T (.pair (.own 145 (.pair (.int .i64) (.pair (.int .i64) (.pair (.own 2 (.int .i64)) .unit)))) .unit)):=
if 0≤(x.1.length:Int)∧(x.1.length:Int)≤(x.1.length:Int)then
 aM ((x.1.length:Int).toNat) (
  match ac fH (x.1,(List.replicate (x.1.length:Int).toNat ((0:Int),(0:Int),[],())),(0:Int),())with
  |none=>none
  |some (.inl v5)=>
   some (v5.1,())
  |some (.inr v7)=>
   none)
else none
noncomputable def Jr:Spec:=⟨_,(.pair (.own 145 (.pair (.int .i64) (.pair (.int .i64) (.pair (.own 2 (.int .i64)) .unit)))) .unit),.unit,rfl,kv⟩
noncomputable def tU:FuncId→Option Spec:=aX [(92,xC)]
theorem CH:∀f s,tU f=some s→FnOK G0 Tryz.prog f s:=aw ⟨Jq,trivial⟩
def rV:aG:=⟨[0,3,4],(.pair (.list ao) (.pair (.own 145 (.pair (.int .i64) (.pair (.int .i64) (.pair (.own 2 (.int .i64)) .unit)))) (.pair (.int .i64) .unit))),0,[3],(.pair (.own 145 (.pair (.int .i64) (.pair (.int .i64) (.pair (.own 2 (.int .i64)) .unit)))) .unit),[],.unit⟩
noncomputable def tV:List a9z:=[rV.spec fH]
theorem BO:aU ZG E1 tU (aR Tryz.f56 tV) Tryz.f56 0 rV fH:=fun x=>by kernel_rfl
theorem Hm:FnOK G0 Tryz.prog 56 Jr:=ax US CH Tryz.func56 tV (by kernel_rfl) (by exact⟨(BO).lok,trivial⟩) fun x=>by kernel_rfl
noncomputable def pZ(x:Ty.T (.pair a7 .unit)):Option (Ty.T (.pair a7 .unit)):=
some (x.1,())
noncomputable def Hn:Spec:=⟨_,(.pair a7 .unit),.unit,rfl,pZ⟩
theorem Fh:FnOK G0 Tryz.prog 129 Hn:=aj ai aC Tryz.func129
noncomputable def tW(x:Ty.T (.pair ag .unit)):Option (Ty.T (.pair ag .unit)):=
match pZ (x.1.2.2.2.1,())with
|none=>none
|some v1=>
some ((x.1.1,x.1.2.1,x.1.2.2.1,v1.1,()),())
noncomputable def xD:Spec:=⟨_,(.pair ag .unit),.unit,rfl,tW⟩
theorem Js:FnOK G0 Tryz.prog 93 xD:=aj ai (sg Fh (aC)) Tryz.func93
noncomputable def fI(x:(Ty.T (.pair (.list ag) (.pair (.own 148 ag) (.pair (.int .i64) .unit))))):Option ((Ty.T (.pair (.list ag) (.pair (.own 148 ag) (.pair (.int .i64) .unit)))) ⊕ ((Ty.T (.pair (.own 148 ag) .unit)) ⊕ (Ty.T .unit))):=
match(decide (x.2.2.1<(x.1.length:Int)))with
|true=>
 aa (au x.1 x.2.2.1) fun v1=>
 match tW (v1,())with
 |none=>none
 |some v2=>
 aa (au x.2.1 x.2.2.1) fun _=>
 match x.2.1[x.2.2.1.toNat]? with
 |none=>none
 |some v4=>
 some (.inl (x.1,(x.2.1.set x.2.2.1.toNat v2.1),(IntKind.i64.wrap (x.2.2.1+(1:Int))),()))
|false=>
 some (.inr (.inl (x.2.1,())))
noncomputable def kw(x:Ty.T (.pair (.list ag) .unit)):Option (Ty.T (.pair (.own 148 ag) .unit)):=
if 0≤(x.1.length:Int)∧(x.1.length:Int)≤(x.1.length:Int)then
 aM ((x.1.length:Int).toNat) (
  match ac fI (x.1,(List.replicate (x.1.length:Int).toNat ((0:Int),(0:Int),(0:Int),((0:Int),(0:Int),(0:Int),(0:Int),false,()),())),(0:Int),())with
  |none=>none
  |some (.inl v5)=>
   some (v5.1,())
  |some (.inr v7)=>
   none)
else none
noncomputable def Jt:Spec:=⟨_,(.pair (.own 148 ag) .unit),.unit,rfl,kw⟩
noncomputable def tX:FuncId→Option Spec:=aX [(93,xD)]
theorem CI:∀f s,tX f=some s→FnOK G0 Tryz.prog f s:=aw ⟨Js,trivial⟩
def rX:aG:=⟨[0,3,4],(.pair (.list ag) (.pair (.own 148 ag) (.pair (.int .i64) .unit))),0,[3],(.pair (.own 148 ag) .unit),[],.unit⟩
noncomputable def tY:List a9z:=[rX.spec fI]
theorem BP:aU aV E0 tX (aR Tryz.f57 tY) Tryz.f57 0 rX fI:=fun x=>by kernel_rfl
theorem Ho:FnOK G0 Tryz.prog 57 Jt:=ax ai CI Tryz.func57 tY (by kernel_rfl) (by exact⟨(BP).lok,trivial⟩) fun x=>by kernel_rfl
noncomputable def jl(x:Ty.T (.pair ae .unit)):Option (Ty.T (.pair (.pair (.int .i64) (.pair (.own 143 ak) (.pair (.own 145 (.pair (.int .i64) (.pair (.int .i64) (.pair (.own 2 (.int .i64)) .unit)))) (.pair (.own 148 ag) .unit)))) .unit)):=
match ku (x.1.2.1,())with
|none=>none
|some v1=>
match kv (x.1.2.2.1,())with
|none=>none
|some v2=>
match kw (x.1.2.2.2.1,())with
|none=>none
|some v3=>
some ((x.1.1,v1.1,v2.1,v3.1,()),())
noncomputable def UU:Spec:=⟨_,(.pair (.pair (.int .i64) (.pair (.own 143 ak) (.pair (.own 145 (.pair (.int .i64) (.pair (.int .i64) (.pair (.own 2 (.int .i64)) .unit)))) (.pair (.own 148 ag) .unit)))) .unit),.unit,rfl,jl⟩
theorem Gb:FnOK G0 Tryz.prog 12 UU:=aj US (sg Hk (sg Hm (sg Ho (aC)))) Tryz.func12
noncomputable def jb(x:Ty.T (.pair ab .unit)):Option (Ty.T (.pair ab .unit)):=
some (x.1,())
noncomputable def Se:Spec:=⟨_,(.pair ab .unit),.unit,rfl,jb⟩
theorem CJ:FnOK G0 Tryz.prog 13 Se:=aj ai aC Tryz.func13
noncomputable def oN(x:Ty.T (.pair ak (.pair ak .unit))):Option (Ty.T (.pair .bool .unit)):=
match(x.1.1 != x.2.1.1)with
|true=>
 some (false,())
|false=>
 match(!(x.1.2.1==x.2.1.2.1))with
 |true=>
  some (false,())
 |false=>
  match(x.1.2.2.1 != x.2.1.2.2.1)with
  |true=>
   some (false,())
  |false=>
   match(x.1.2.2.2.1 != x.2.1.2.2.2.1)with
   |true=>
    some (false,())
   |false=>
    some (true,())
noncomputable def xE:Spec:=⟨_,(.pair .bool .unit),.unit,rfl,oN⟩
theorem Ju:FnOK G0 Tryz.prog 99 xE:=aj ai aC Tryz.func99
noncomputable def fJ(x:(Ty.T (.pair (.list ak) (.pair (.list ak) (.pair (.int .i64) .unit))))):Option ((Ty.T (.pair (.list ak) (.pair (.list ak) (.pair (.int .i64) .unit)))) ⊕ ((Ty.T .unit) ⊕ (Ty.T (.pair .bool .unit)))):=
match(decide (x.2.2.1<(x.1.length:Int)))with
|true=>
 aa (au x.1 x.2.2.1) fun v1=>
 aa (au x.2.1 x.2.2.1) fun v2=>
 match oN (v1,v2,())with
 |none=>none
 |some v3=>
 match(!v3.1)with
 |true=>
  some (.inr (.inr (false,())))
 |false=>
  some (.inl (x.1,x.2.1,(IntKind.i64.wrap (x.2.2.1+(1:Int))),()))
|false=>
 some (.inr (.inl (())))
noncomputable def kx(x:Ty.T (.pair (.list ak) (.pair (.list ak) .unit))):Option (Ty.T (.pair .bool .unit)):=
match((x.1.length:Int) != (x.2.1.length:Int))with
|true=>
 some (false,())
|false=>
 match ac fJ (x.1,x.2.1,(0:Int),())with
 |none=>none
 |some (.inl v4)=>
  some (true,())
 |some (.inr v5)=>
  some (v5.1,())
noncomputable def Jv:Spec:=⟨_,(.pair .bool .unit),.unit,rfl,kx⟩
noncomputable def tZ:FuncId→Option Spec:=aX [(99,xE)]
theorem CK:∀f s,tZ f=some s→FnOK G0 Tryz.prog f s:=aw ⟨Ju,trivial⟩
def rY:aG:=⟨[0,1,5],(.pair (.list ak) (.pair (.list ak) (.pair (.int .i64) .unit))),0,[],.unit,[4],(.pair .bool .unit)⟩
noncomputable def t6:List a9z:=[rY.spec fJ]
theorem BQ:aU aV E0 tZ (aR Tryz.f62 t6) Tryz.f62 0 rY fJ:=fun x=>by kernel_rfl
theorem Hp:FnOK G0 Tryz.prog 62 Jv:=ax ai CK Tryz.func62 t6 (by kernel_rfl) (by exact⟨(BQ).lok,trivial⟩) fun x=>by kernel_rfl
noncomputable def ii(x:(Ty.T (.pair (.list (.int .i64)) (.pair (.list (.int .i64)) (.pair (.int .i64) .unit))))):Option ((Ty.T (.pair (.list (.int .i64)) (.pair (.list (.int .i64)) (.pair (.int .i64) .unit)))) ⊕ ((Ty.T .unit) ⊕ (Ty.T (.pair .bool .unit)))):=
match(decide (x.2.2.1<(x.1.length:Int)))with
|true=>
 aa (au x.1 x.2.2.1) fun v1=>
 aa (au x.2.1 x.2.2.1) fun v2=>
 match(v1 != v2)with
 |true=>
  some (.inr (.inr (false,())))
 |false=>
  some (.inl (x.1,x.2.1,(IntKind.i64.wrap (x.2.2.1+(1:Int))),()))
|false=>
 some (.inr (.inl (())))
noncomputable def oO(x:Ty.T (.pair (.list (.int .i64)) (.pair (.list (.int .i64)) .unit))):Option (Ty.T (.pair .bool .unit)):=
match((x.1.length:Int) != (x.2.1.length:Int))with
|true=>
 some (false,())
|false=>
 match ac ii (x.1,x.2.1,(0:Int),())with
 |none=>none
 |some (.inl v3)=>
  some (true,())
 |some (.inr v4)=>
  some (v4.1,())
noncomputable def P7:Spec:=⟨_,(.pair .bool .unit),.unit,rfl,oO⟩
noncomputable def Au:FuncId→Option Spec:=aX []
theorem Jw:∀f s,Au f=some s→FnOK G0 Tryz.prog f s:=aw trivial
def xF:aG:=⟨[0,1,5],(.pair (.list (.int .i64)) (.pair (.list (.int .i64)) (.pair (.int .i64) .unit))),0,[],.unit,[4],(.pair .bool .unit)⟩
noncomputable def Aw:List a9z:=[xF.spec ii]
theorem Hq:aU aV E0 Au (aR Tryz.f65 Aw) Tryz.f65 0 xF ii:=fun x=>by kernel_rfl
theorem N4:FnOK G0 Tryz.prog 65 P7:=ax ai Jw Tryz.func65 Aw (by kernel_rfl) (by exact⟨(Hq).lok,trivial⟩) fun x=>by kernel_rfl
noncomputable def oP(x:Ty.T (.pair ao (.pair ao .unit))):Option (Ty.T (.pair .bool .unit)):=
match(x.1.1 != x.2.1.1)with
|true=>
 some (false,())
|false=>
 match(x.1.2.1 != x.2.1.2.1)with
 |true=>
  some (false,())
 |false=>
  match oO (x.1.2.2.1,x.2.1.2.2.1,())with
  |none=>none
  |some v1=>
  match(!v1.1)with
  |true=>
   some (false,())
  |false=>
   some (true,())
noncomputable def xG:Spec:=⟨_,(.pair .bool .unit),.unit,rfl,oP⟩
theorem Jy:FnOK G0 Tryz.prog 100 xG:=aj ai (sg N4 (aC)) Tryz.func100
noncomputable def fK(x:(Ty.T (.pair (.list ao) (.pair (.list ao) (.pair (.int .i64) .unit))))):Option ((Ty.T (.pair (.list ao) (.pair (.list ao) (.pair (.int .i64) .unit)))) ⊕ ((Ty.T .unit) ⊕ (Ty.T (.pair .bool .unit)))):=
match(decide (x.2.2.1<(x.1.length:Int)))with
|true=>
 aa (au x.1 x.2.2.1) fun v1=>
 aa (au x.2.1 x.2.2.1) fun v2=>
 match oP (v1,v2,())with
 |none=>none
 |some v3=>
 match(!v3.1)with
 |true=>
  some (.inr (.inr (false,())))
 |false=>
  some (.inl (x.1,x.2.1,(IntKind.i64.wrap (x.2.2.1+(1:Int))),()))
|false=>
 some (.inr (.inl (())))
noncomputable def ky(x:Ty.T (.pair (.list ao) (.pair (.list ao) .unit))):Option (Ty.T (.pair .bool .unit)):=
match((x.1.length:Int) != (x.2.1.length:Int))with
|true=>
 some (false,())
|false=>
 match ac fK (x.1,x.2.1,(0:Int),())with
 |none=>none
 |some (.inl v4)=>
  some (true,())
 |some (.inr v5)=>
  some (v5.1,())
noncomputable def Jz:Spec:=⟨_,(.pair .bool .unit),.unit,rfl,ky⟩
noncomputable def t7:FuncId→Option Spec:=aX [(100,xG)]
theorem CL:∀f s,t7 f=some s→FnOK G0 Tryz.prog f s:=aw ⟨Jy,trivial⟩
def rZ:aG:=⟨[0,1,5],(.pair (.list ao) (.pair (.list ao) (.pair (.int .i64) .unit))),0,[],.unit,[4],(.pair .bool .unit)⟩
noncomputable def t8:List a9z:=[rZ.spec fK]
theorem BR:aU aV E0 t7 (aR Tryz.f63 t8) Tryz.f63 0 rZ fK:=fun x=>by kernel_rfl
theorem Hr:FnOK G0 Tryz.prog 63 Jz:=ax ai CL Tryz.func63 t8 (by kernel_rfl) (by exact⟨(BR).lok,trivial⟩) fun x=>by kernel_rfl
noncomputable def mb(x:Ty.T (.pair a7 (.pair a7 .unit))):Option (Ty.T (.pair .bool .unit)):=
match(x.1.1 != x.2.1.1)with
|true=>
 some (false,())
|false=>
 match(x.1.2.1 != x.2.1.2.1)with
 |true=>
  some (false,())
 |false=>
  match(x.1.2.2.1 != x.2.1.2.2.1)with
  |true=>
   some (false,())
  |false=>
   match(x.1.2.2.2.1 != x.2.1.2.2.2.1)with
   |true=>
    some (false,())
   |false=>
    match(x.1.2.2.2.2.1 != x.2.1.2.2.2.2.1)with
    |true=>
     some (false,())
    |false=>
     some (true,())
noncomputable def Hs:Spec:=⟨_,(.pair .bool .unit),.unit,rfl,mb⟩
theorem Fi:FnOK G0 Tryz.prog 141 Hs:=aj ai aC Tryz.func141
noncomputable def oQ(x:Ty.T (.pair ag (.pair ag .unit))):Option (Ty.T (.pair .bool .unit)):=
match(x.1.1 != x.2.1.1)with
|true=>
 some (false,())
|false=>
 match(x.1.2.1 != x.2.1.2.1)with
 |true=>
  some (false,())
 |false=>
  match(x.1.2.2.1 != x.2.1.2.2.1)with
  |true=>
   some (false,())
  |false=>
   match mb (x.1.2.2.2.1,x.2.1.2.2.2.1,())with
   |none=>none
   |some v1=>
   match(!v1.1)with
   |true=>
    some (false,())
   |false=>
    some (true,())
noncomputable def xH:Spec:=⟨_,(.pair .bool .unit),.unit,rfl,oQ⟩
theorem JA:FnOK G0 Tryz.prog 101 xH:=aj ai (sg Fi (aC)) Tryz.func101
noncomputable def fL(x:(Ty.T (.pair (.list ag) (.pair (.list ag) (.pair (.int .i64) .unit))))):Option ((Ty.T (.pair (.list ag) (.pair (.list ag) (.pair (.int .i64) .unit)))) ⊕ ((Ty.T .unit) ⊕ (Ty.T (.pair .bool .unit)))):=
match(decide (x.2.2.1<(x.1.length:Int)))with
|true=>
 aa (au x.1 x.2.2.1) fun v1=>
 aa (au x.2.1 x.2.2.1) fun v2=>
 match oQ (v1,v2,())with
 |none=>none
 |some v3=>
 match(!v3.1)with
 |true=>
  some (.inr (.inr (false,())))
 |false=>
  some (.inl (x.1,x.2.1,(IntKind.i64.wrap (x.2.2.1+(1:Int))),()))
|false=>
 some (.inr (.inl (())))
noncomputable def kz(x:Ty.T (.pair (.list ag) (.pair (.list ag) .unit))):Option (Ty.T (.pair .bool .unit)):=
match((x.1.length:Int) != (x.2.1.length:Int))with
|true=>
 some (false,())
|false=>
 match ac fL (x.1,x.2.1,(0:Int),())with
 |none=>none
 |some (.inl v4)=>
  some (true,())
 |some (.inr v5)=>
  some (v5.1,())
noncomputable def JB:Spec:=⟨_,(.pair .bool .unit),.unit,rfl,kz⟩
noncomputable def ua:FuncId→Option Spec:=aX [(101,xH)]
theorem CM:∀f s,ua f=some s→FnOK G0 Tryz.prog f s:=aw ⟨JA,trivial⟩
def r0:aG:=⟨[0,1,5],(.pair (.list ag) (.pair (.list ag) (.pair (.int .i64) .unit))),0,[],.unit,[4],(.pair .bool .unit)⟩
noncomputable def ub:List a9z:=[r0.spec fL]
theorem BS:aU aV E0 ua (aR Tryz.f64 ub) Tryz.f64 0 r0 fL:=fun x=>by kernel_rfl
theorem Ht:FnOK G0 Tryz.prog 64 JB:=ax ai CM Tryz.func64 ub (by kernel_rfl) (by exact⟨(BS).lok,trivial⟩) fun x=>by kernel_rfl
noncomputable def uc(x:Ty.T (.pair ae (.pair ae .unit))):Option (Ty.T (.pair .bool .unit)):=
match(x.1.1 != x.2.1.1)with
|true=>
 some (false,())
|false=>
 match kx (x.1.2.1,x.2.1.2.1,())with
 |none=>none
 |some v1=>
 match(!v1.1)with
 |true=>
  some (false,())
 |false=>
  match ky (x.1.2.2.1,x.2.1.2.2.1,())with
  |none=>none
  |some v2=>
  match(!v2.1)with
  |true=>
   some (false,())
  |false=>
   match kz (x.1.2.2.2.1,x.2.1.2.2.2.1,())with
   |none=>none
   |some v3=>
   match(!v3.1)with
   |true=>
    some (false,())
   |false=>
    some (true,())
noncomputable def UV:Spec:=⟨_,(.pair .bool .unit),.unit,rfl,uc⟩
theorem Gc:FnOK G0 Tryz.prog 18 UV:=aj ai (sg Hp (sg Hr (sg Ht (aC)))) Tryz.func18
noncomputable def jS(x:(Ty.T (.pair (.int .i64) (.pair .str .unit)))):Option ((Ty.T (.pair (.int .i64) (.pair .str .unit))) ⊕ ((Ty.T (.pair .str .unit)) ⊕ (Ty.T .unit))):=
match(decide (x.1>(0:Int)))with
|true=>
 aM ((List.map (fun n=>UInt8.ofNat (Int.toNat n)) ([(IntKind.u8.wrap (IntKind.i64.wrap ((48:Int)+(Int.tmod x.1 (10:Int)))))]:List Int)).length+x.2.1.length) (
  some (.inl ((IntKind.i64.wrap (Int.tdiv x.1 (10:Int))),((List.map (fun n=>UInt8.ofNat (Int.toNat n)) ([(IntKind.u8.wrap (IntKind.i64.wrap ((48:Int)+(Int.tmod x.1 (10:Int)))))]:List Int))++x.2.1),())))
|false=>
 some (.inr (.inl (x.2.1,())))
noncomputable def tc(x:Ty.T (.pair (.int .i64) .unit)):Option (Ty.T (.pair .str .unit)):=
match(decide (x.1≤(0:Int)))with
|true=>
 some (([109,48]:List UInt8),())
|false=>
 match ac jS (x.1,[],())with
 |none=>none
 |some (.inl v1)=>
  aM (([109]:List UInt8).length+v1.1.length) (
   some ((([109]:List UInt8)++v1.1),()))
 |some (.inr v3)=>
  none
noncomputable def Eh:Spec:=⟨_,(.pair .str .unit),.unit,rfl,tc⟩
noncomputable def BG:FuncId→Option Spec:=aX []
theorem K3:∀f s,BG f=some s→FnOK G0 Tryz.prog f s:=aw trivial
def yK:aG:=⟨[0,3],(.pair (.int .i64) (.pair .str .unit)),0,[3],(.pair .str .unit),[],.unit⟩
noncomputable def BH:List a9z:=[yK.spec jS]
theorem Iw:aU aV E0 BG (aR Tryz.f102 BH) Tryz.f102 0 yK jS:=fun x=>by kernel_rfl
theorem O1:FnOK G0 Tryz.prog 102 Eh:=ax ai K3 Tryz.func102 BH (by kernel_rfl) (by exact⟨(Iw).lok,trivial⟩) fun x=>by kernel_rfl
noncomputable def dp(x:(Ty.T (.pair (.own 143 ak) ah))):Option ((Ty.T (.pair (.own 143 ak) ah)) ⊕ ((Ty.T (.pair (.own 143 ak) (.pair (.int .i64) .unit))) ⊕ (Ty.T .unit))):=
match(decide (x.2.2.1<(x.1.length:Int)))with
|true=>
 aa (au x.1 x.2.2.1) fun _=>
 match x.1[x.2.2.1.toNat]? with
 |none=>none
 |some v2=>
 match tc ((IntKind.i64.wrap (x.2.1+(1:Int))),())with
 |none=>none
 |some v3=>
 aa (au (x.1.set x.2.2.1.toNat (x.2.1,v2.2.1,v2.2.2.1,v2.2.2.2.1,())) x.2.2.1) fun _=>
 match(x.1.set x.2.2.1.toNat (x.2.1,v2.2.1,v2.2.2.1,v2.2.2.2.1,()))[x.2.2.1.toNat]? with
 |none=>none
 |some v5=>
 aa (au ((x.1.set x.2.2.1.toNat (x.2.1,v2.2.1,v2.2.2.1,v2.2.2.2.1,())).set x.2.2.1.toNat (v5.1,v3.1,v5.2.2.1,v5.2.2.2.1,())) x.2.2.1) fun _=>
 match((x.1.set x.2.2.1.toNat (x.2.1,v2.2.1,v2.2.2.1,v2.2.2.2.1,())).set x.2.2.1.toNat (v5.1,v3.1,v5.2.2.1,v5.2.2.2.1,()))[x.2.2.1.toNat]? with
 |none=>none
 |some v7=>
 aa (au (((x.1.set x.2.2.1.toNat (x.2.1,v2.2.1,v2.2.2.1,v2.2.2.2.1,())).set x.2.2.1.toNat (v5.1,v3.1,v5.2.2.1,v5.2.2.2.1,())).set x.2.2.1.toNat (v7.1,v7.2.1,(IntKind.i64.wrap ((IntKind.i64.wrap (x.2.1+(1:Int)))+(1:Int))),v7.2.2.2.1,())) x.2.2.1) fun _=>
 match(((x.1.set x.2.2.1.toNat (x.2.1,v2.2.1,v2.2.2.1,v2.2.2.2.1,())).set x.2.2.1.toNat (v5.1,v3.1,v5.2.2.1,v5.2.2.2.1,())).set x.2.2.1.toNat (v7.1,v7.2.1,(IntKind.i64.wrap ((IntKind.i64.wrap (x.2.1+(1:Int)))+(1:Int))),v7.2.2.2.1,()))[x.2.2.1.toNat]? with
 |none=>none
 |some v9=>
 some (.inl (((((x.1.set x.2.2.1.toNat (x.2.1,v2.2.1,v2.2.2.1,v2.2.2.2.1,())).set x.2.2.1.toNat (v5.1,v3.1,v5.2.2.1,v5.2.2.2.1,())).set x.2.2.1.toNat (v7.1,v7.2.1,(IntKind.i64.wrap ((IntKind.i64.wrap (x.2.1+(1:Int)))+(1:Int))),v7.2.2.2.1,())).set x.2.2.1.toNat (v9.1,v9.2.1,v9.2.2.1,((Int.tmod (IntKind.i64.wrap ((IntKind.i64.wrap ((IntKind.i64.wrap (x.2.1+(1:Int)))+(1:Int)))+(1:Int))) (3:Int))==(0:Int)),())),(IntKind.i64.wrap ((IntKind.i64.wrap ((IntKind.i64.wrap ((IntKind.i64.wrap (x.2.1+(1:Int)))+(1:Int)))+(1:Int)))+(1:Int))),(IntKind.i64.wrap (x.2.2.1+(1:Int))),()))
|false=>
 some (.inr (.inl (x.1,x.2.1,())))
noncomputable def lf(x:Ty.T (.pair (.own 143 ak) (.pair (.int .i64) .unit))):Option (Ty.T (.pair (.int .i64) (.pair (.own 143 ak) .unit))):=
match ac dp (x.1,x.2.1,(0:Int),())with
|none=>none
|some (.inl v10)=>
 some (v10.2.1,v10.1,())
|some (.inr v12)=>
 none
noncomputable def FO:Spec:=⟨_,(.pair (.int .i64) .unit),(.pair (.own 143 ak) .unit),rfl,lf⟩
noncomputable def rh:FuncId→Option Spec:=aX [(102,Eh)]
theorem zX:∀f s,rh f=some s→FnOK G0 Tryz.prog f s:=aw ⟨O1,trivial⟩
def pR:aG:=⟨[0,1,5],(.pair (.own 143 ak) ah),0,[0,1],(.pair (.own 143 ak) (.pair (.int .i64) .unit)),[],.unit⟩
noncomputable def ri:List a9z:=[pR.spec dp]
theorem yL:aU aV E0 rh (aR Tryz.f67 ri) Tryz.f67 0 pR dp:=fun x=>by kernel_rfl
theorem Ei:FnOK G0 Tryz.prog 67 FO:=ax ai zX Tryz.func67 ri (by kernel_rfl) (by exact⟨(yL).lok,trivial⟩) fun x=>by kernel_rfl
noncomputable def gh(x:(Ty.T (.pair (.own 2 (.int .i64)) ah))):Option ((Ty.T (.pair (.own 2 (.int .i64)) ah)) ⊕ ((Ty.T (.pair (.own 2 (.int .i64)) (.pair (.int .i64) .unit))) ⊕ (Ty.T .unit))):=
match(decide (x.2.2.1<(x.1.length:Int)))with
|true=>
 aa (au x.1 x.2.2.1) fun _=>
 match x.1[x.2.2.1.toNat]? with
 |none=>none
 |some v2=>
 some (.inl ((x.1.set x.2.2.1.toNat x.2.1),(IntKind.i64.wrap (x.2.1+(1:Int))),(IntKind.i64.wrap (x.2.2.1+(1:Int))),()))
|false=>
 some (.inr (.inl (x.1,x.2.1,())))
noncomputable def lV(x:Ty.T (.pair (.own 2 (.int .i64)) (.pair (.int .i64) .unit))):Option (Ty.T (.pair (.int .i64) (.pair (.own 2 (.int .i64)) .unit))):=
match ac gh (x.1,x.2.1,(0:Int),())with
|none=>none
|some (.inl v3)=>
 some (v3.2.1,v3.1,())
|some (.inr v5)=>
 none
noncomputable def yM:Spec:=⟨_,(.pair (.int .i64) .unit),(.pair (.own 2 (.int .i64)) .unit),rfl,lV⟩
noncomputable def wn:FuncId→Option Spec:=aX []
theorem FP:∀f s,wn f=some s→FnOK G0 Tryz.prog f s:=aw trivial
def u6:aG:=⟨[0,1,5],(.pair (.own 2 (.int .i64)) ah),0,[0,1],(.pair (.own 2 (.int .i64)) (.pair (.int .i64) .unit)),[],.unit⟩
noncomputable def wo:List a9z:=[u6.spec gh]
theorem Ej:aU aV E0 wn (aR Tryz.f70 wo) Tryz.f70 0 u6 gh:=fun x=>by kernel_rfl
theorem K4:FnOK G0 Tryz.prog 70 yM:=ax ai FP Tryz.func70 wo (by kernel_rfl) (by exact⟨(Ej).lok,trivial⟩) fun x=>by kernel_rfl
noncomputable def dq(x:(Ty.T (.pair (.own 145 (.pair (.int .i64) (.pair (.int .i64) (.pair (.own 2 (.int .i64)) .unit)))) ah))):Option ((Ty.T (.pair (.own 145 (.pair (.int .i64) (.pair (.int .i64) (.pair (.own 2 (.int .i64)) .unit)))) ah)) ⊕ ((Ty.T (.pair (.own 145 (.pair (.int .i64) (.pair (.int .i64) (.pair (.own 2 (.int .i64)) .unit)))) (.pair (.int .i64) .unit))) ⊕ (Ty.T .unit))):=
match(decide (x.2.2.1<(x.1.length:Int)))with
|true=>
 aa (au x.1 x.2.2.1) fun _=>
 match x.1[x.2.2.1.toNat]? with
 |none=>none
 |some v2=>
 aa (au (x.1.set x.2.2.1.toNat (x.2.1,v2.2)) x.2.2.1) fun _=>
 match(x.1.set x.2.2.1.toNat (x.2.1,v2.2))[x.2.2.1.toNat]? with
 |none=>none
 |some v4=>
 aa (au ((x.1.set x.2.2.1.toNat (x.2.1,v2.2)).set x.2.2.1.toNat (v4.1,((IntKind.i64.wrap (x.2.1+(1:Int))),v4.2.2))) x.2.2.1) fun _=>
 match((x.1.set x.2.2.1.toNat (x.2.1,v2.2)).set x.2.2.1.toNat (v4.1,((IntKind.i64.wrap (x.2.1+(1:Int))),v4.2.2)))[x.2.2.1.toNat]? with
 |none=>none
 |some v6=>
 match lV (v6.2.2.1,(IntKind.i64.wrap ((IntKind.i64.wrap (x.2.1+(1:Int)))+(1:Int))),())with
 |none=>none
 |some v7=>
 some (.inl ((((x.1.set x.2.2.1.toNat (x.2.1,v2.2)).set x.2.2.1.toNat (v4.1,((IntKind.i64.wrap (x.2.1+(1:Int))),v4.2.2))).set x.2.2.1.toNat (v6.1,(v6.2.1,(v7.2.1,v6.2.2.2)))),v7.1,(IntKind.i64.wrap (x.2.2.1+(1:Int))),()))
|false=>
 some (.inr (.inl (x.1,x.2.1,())))
noncomputable def lg(x:Ty.T (.pair (.own 145 (.pair (.int .i64) (.pair (.int .i64) (.pair (.own 2 (.int .i64)) .unit)))) (.pair (.int .i64) .unit))):Option (Ty.T (.pair (.int .i64) (.pair (.own 145 (.pair (.int .i64) (.pair (.int .i64) (.pair (.own 2 (.int .i64)) .unit)))) .unit))):=
match ac dq (x.1,x.2.1,(0:Int),())with
|none=>none
|some (.inl v8)=>
 some (v8.2.1,v8.1,())
|some (.inr v10)=>
 none
noncomputable def FQ:Spec:=⟨_,(.pair (.int .i64) .unit),(.pair (.own 145 (.pair (.int .i64) (.pair (.int .i64) (.pair (.own 2 (.int .i64)) .unit)))) .unit),rfl,lg⟩
noncomputable def rj:FuncId→Option Spec:=aX [(70,yM)]
theorem zY:∀f s,rj f=some s→FnOK G0 Tryz.prog f s:=aw ⟨K4,trivial⟩
def pS:aG:=⟨[0,1,5],(.pair (.own 145 (.pair (.int .i64) (.pair (.int .i64) (.pair (.own 2 (.int .i64)) .unit)))) ah),0,[0,1],(.pair (.own 145 (.pair (.int .i64) (.pair (.int .i64) (.pair (.own 2 (.int .i64)) .unit)))) (.pair (.int .i64) .unit)),[],.unit⟩
noncomputable def rk:List a9z:=[pS.spec dq]
theorem yN:aU ZG E1 rj (aR Tryz.f68 rk) Tryz.f68 0 pS dq:=fun x=>by kernel_rfl
theorem Ek:FnOK G0 Tryz.prog 68 FQ:=ax US zY Tryz.func68 rk (by kernel_rfl) (by exact⟨(yN).lok,trivial⟩) fun x=>by kernel_rfl
noncomputable def dr(x:(Ty.T (.pair (.own 148 ag) ah))):Option ((Ty.T (.pair (.own 148 ag) ah)) ⊕ ((Ty.T (.pair (.own 148 ag) (.pair (.int .i64) .unit))) ⊕ (Ty.T .unit))):=
match(decide (x.2.2.1<(x.1.length:Int)))with
|true=>
 aa (au x.1 x.2.2.1) fun _=>
 match x.1[x.2.2.1.toNat]? with
 |none=>none
 |some v2=>
 aa (au (x.1.set x.2.2.1.toNat (x.2.1,v2.2.1,v2.2.2.1,v2.2.2.2.1,())) x.2.2.1) fun _=>
 match(x.1.set x.2.2.1.toNat (x.2.1,v2.2.1,v2.2.2.1,v2.2.2.2.1,()))[x.2.2.1.toNat]? with
 |none=>none
 |some v4=>
 aa (au ((x.1.set x.2.2.1.toNat (x.2.1,v2.2.1,v2.2.2.1,v2.2.2.2.1,())).set x.2.2.1.toNat (v4.1,(IntKind.i64.wrap (x.2.1+(1:Int))),v4.2.2.1,v4.2.2.2.1,())) x.2.2.1) fun _=>
 match((x.1.set x.2.2.1.toNat (x.2.1,v2.2.1,v2.2.2.1,v2.2.2.2.1,())).set x.2.2.1.toNat (v4.1,(IntKind.i64.wrap (x.2.1+(1:Int))),v4.2.2.1,v4.2.2.2.1,()))[x.2.2.1.toNat]? with
 |none=>none
 |some v6=>
 aa (au (((x.1.set x.2.2.1.toNat (x.2.1,v2.2.1,v2.2.2.1,v2.2.2.2.1,())).set x.2.2.1.toNat (v4.1,(IntKind.i64.wrap (x.2.1+(1:Int))),v4.2.2.1,v4.2.2.2.1,())).set x.2.2.1.toNat (v6.1,v6.2.1,(IntKind.i64.wrap ((IntKind.i64.wrap (x.2.1+(1:Int)))+(1:Int))),v6.2.2.2.1,())) x.2.2.1) fun _=>
 match(((x.1.set x.2.2.1.toNat (x.2.1,v2.2.1,v2.2.2.1,v2.2.2.2.1,())).set x.2.2.1.toNat (v4.1,(IntKind.i64.wrap (x.2.1+(1:Int))),v4.2.2.1,v4.2.2.2.1,())).set x.2.2.1.toNat (v6.1,v6.2.1,(IntKind.i64.wrap ((IntKind.i64.wrap (x.2.1+(1:Int)))+(1:Int))),v6.2.2.2.1,()))[x.2.2.1.toNat]? with
 |none=>none
 |some v8=>
 aa (au ((((x.1.set x.2.2.1.toNat (x.2.1,v2.2.1,v2.2.2.1,v2.2.2.2.1,())).set x.2.2.1.toNat (v4.1,(IntKind.i64.wrap (x.2.1+(1:Int))),v4.2.2.1,v4.2.2.2.1,())).set x.2.2.1.toNat (v6.1,v6.2.1,(IntKind.i64.wrap ((IntKind.i64.wrap (x.2.1+(1:Int)))+(1:Int))),v6.2.2.2.1,())).set x.2.2.1.toNat (v8.1,v8.2.1,v8.2.2.1,((IntKind.i64.wrap ((IntKind.i64.wrap ((IntKind.i64.wrap (x.2.1+(1:Int)))+(1:Int)))+(1:Int))),v8.2.2.2.1.2.1,v8.2.2.2.1.2.2.1,v8.2.2.2.1.2.2.2.1,v8.2.2.2.1.2.2.2.2.1,()),())) x.2.2.1) fun _=>
 match((((x.1.set x.2.2.1.toNat (x.2.1,v2.2.1,v2.2.2.1,v2.2.2.2.1,())).set x.2.2.1.toNat (v4.1,(IntKind.i64.wrap (x.2.1+(1:Int))),v4.2.2.1,v4.2.2.2.1,())).set x.2.2.1.toNat (v6.1,v6.2.1,(IntKind.i64.wrap ((IntKind.i64.wrap (x.2.1+(1:Int)))+(1:Int))),v6.2.2.2.1,())).set x.2.2.1.toNat (v8.1,v8.2.1,v8.2.2.1,((IntKind.i64.wrap ((IntKind.i64.wrap ((IntKind.i64.wrap (x.2.1+(1:Int)))+(1:Int)))+(1:Int))),v8.2.2.2.1.2.1,v8.2.2.2.1.2.2.1,v8.2.2.2.1.2.2.2.1,v8.2.2.2.1.2.2.2.2.1,()),()))[x.2.2.1.toNat]? with
 |none=>none
 |some v10=>
 aa (au (((((x.1.set x.2.2.1.toNat (x.2.1,v2.2.1,v2.2.2.1,v2.2.2.2.1,())).set x.2.2.1.toNat (v4.1,(IntKind.i64.wrap (x.2.1+(1:Int))),v4.2.2.1,v4.2.2.2.1,())).set x.2.2.1.toNat (v6.1,v6.2.1,(IntKind.i64.wrap ((IntKind.i64.wrap (x.2.1+(1:Int)))+(1:Int))),v6.2.2.2.1,())).set x.2.2.1.toNat (v8.1,v8.2.1,v8.2.2.1,((IntKind.i64.wrap ((IntKind.i64.wrap ((IntKind.i64.wrap (x.2.1+(1:Int)))+(1:Int)))+(1:Int))),v8.2.2.2.1.2.1,v8.2.2.2.1.2.2.1,v8.2.2.2.1.2.2.2.1,v8.2.2.2.1.2.2.2.2.1,()),())).set x.2.2.1.toNat (v10.1,v10.2.1,v10.2.2.1,(v10.2.2.2.1.1,(IntKind.i64.wrap ((IntKind.i64.wrap ((IntKind.i64.wrap ((IntKind.i64.wrap (x.2.1+(1:Int)))+(1:Int)))+(1:Int)))+(1:Int))),v10.2.2.2.1.2.2.1,v10.2.2.2.1.2.2.2.1,v10.2.2.2.1.2.2.2.2.1,()),())) x.2.2.1) fun _=>
 match(((((x.1.set x.2.2.1.toNat (x.2.1,v2.2.1,v2.2.2.1,v2.2.2.2.1,())).set x.2.2.1.toNat (v4.1,(IntKind.i64.wrap (x.2.1+(1:Int))),v4.2.2.1,v4.2.2.2.1,())).set x.2.2.1.toNat (v6.1,v6.2.1,(IntKind.i64.wrap ((IntKind.i64.wrap (x.2.1+(1:Int)))+(1:Int))),v6.2.2.2.1,())).set x.2.2.1.toNat (v8.1,v8.2.1,v8.2.2.1,((IntKind.i64.wrap ((IntKind.i64.wrap ((IntKind.i64.wrap (x.2.1+(1:Int)))+(1:Int)))+(1:Int))),v8.2.2.2.1.2.1,v8.2.2.2.1.2.2.1,v8.2.2.2.1.2.2.2.1,v8.2.2.2.1.2.2.2.2.1,()),())).set x.2.2.1.toNat (v10.1,v10.2.1,v10.2.2.1,(v10.2.2.2.1.1,(IntKind.i64.wrap ((IntKind.i64.wrap ((IntKind.i64.wrap ((IntKind.i64.wrap (x.2.1+(1:Int)))+(1:Int)))+(1:Int)))+(1:Int))),v10.2.2.2.1.2.2.1,v10.2.2.2.1.2.2.2.1,v10.2.2.2.1.2.2.2.2.1,()),()))[x.2.2.1.toNat]? with
 |none=>none
 |some v12=>
 aa (au ((((((x.1.set x.2.2.1.toNat (x.2.1,v2.2.1,v2.2.2.1,v2.2.2.2.1,())).set x.2.2.1.toNat (v4.1,(IntKind.i64.wrap (x.2.1+(1:Int))),v4.2.2.1,v4.2.2.2.1,())).set x.2.2.1.toNat (v6.1,v6.2.1,(IntKind.i64.wrap ((IntKind.i64.wrap (x.2.1+(1:Int)))+(1:Int))),v6.2.2.2.1,())).set x.2.2.1.toNat (v8.1,v8.2.1,v8.2.2.1,((IntKind.i64.wrap ((IntKind.i64.wrap ((IntKind.i64.wrap (x.2.1+(1:Int)))+(1:Int)))+(1:Int))),v8.2.2.2.1.2.1,v8.2.2.2.1.2.2.1,v8.2.2.2.1.2.2.2.1,v8.2.2.2.1.2.2.2.2.1,()),())).set x.2.2.1.toNat (v10.1,v10.2.1,v10.2.2.1,(v10.2.2.2.1.1,(IntKind.i64.wrap ((IntKind.i64.wrap ((IntKind.i64.wrap ((IntKind.i64.wrap (x.2.1+(1:Int)))+(1:Int)))+(1:Int)))+(1:Int))),v10.2.2.2.1.2.2.1,v10.2.2.2.1.2.2.2.1,v10.2.2.2.1.2.2.2.2.1,()),())).set x.2.2.1.toNat (v12.1,v12.2.1,v12.2.2.1,(v12.2.2.2.1.1,v12.2.2.2.1.2.1,(IntKind.i64.wrap ((IntKind.i64.wrap ((IntKind.i64.wrap ((IntKind.i64.wrap ((IntKind.i64.wrap (x.2.1+(1:Int)))+(1:Int)))+(1:Int)))+(1:Int)))+(1:Int))),v12.2.2.2.1.2.2.2.1,v12.2.2.2.1.2.2.2.2.1,()),())) x.2.2.1) fun _=>
 match((((((x.1.set x.2.2.1.toNat (x.2.1,v2.2.1,v2.2.2.1,v2.2.2.2.1,())).set x.2.2.1.toNat (v4.1,(IntKind.i64.wrap (x.2.1+(1:Int))),v4.2.2.1,v4.2.2.2.1,())).set x.2.2.1.toNat (v6.1,v6.2.1,(IntKind.i64.wrap ((IntKind.i64.wrap (x.2.1+(1:Int)))+(1:Int))),v6.2.2.2.1,())).set x.2.2.1.toNat (v8.1,v8.2.1,v8.2.2.1,((IntKind.i64.wrap ((IntKind.i64.wrap ((IntKind.i64.wrap (x.2.1+(1:Int)))+(1:Int)))+(1:Int))),v8.2.2.2.1.2.1,v8.2.2.2.1.2.2.1,v8.2.2.2.1.2.2.2.1,v8.2.2.2.1.2.2.2.2.1,()),())).set x.2.2.1.toNat (v10.1,v10.2.1,v10.2.2.1,(v10.2.2.2.1.1,(IntKind.i64.wrap ((IntKind.i64.wrap ((IntKind.i64.wrap ((IntKind.i64.wrap (x.2.1+(1:Int)))+(1:Int)))+(1:Int)))+(1:Int))),v10.2.2.2.1.2.2.1,v10.2.2.2.1.2.2.2.1,v10.2.2.2.1.2.2.2.2.1,()),())).set x.2.2.1.toNat (v12.1,v12.2.1,v12.2.2.1,(v12.2.2.2.1.1,v12.2.2.2.1.2.1,(IntKind.i64.wrap ((IntKind.i64.wrap ((IntKind.i64.wrap ((IntKind.i64.wrap ((IntKind.i64.wrap (x.2.1+(1:Int)))+(1:Int)))+(1:Int)))+(1:Int)))+(1:Int))),v12.2.2.2.1.2.2.2.1,v12.2.2.2.1.2.2.2.2.1,()),()))[x.2.2.1.toNat]? with
 |none=>none
 |some v14=>
 aa (au (((((((x.1.set x.2.2.1.toNat (x.2.1,v2.2.1,v2.2.2.1,v2.2.2.2.1,())).set x.2.2.1.toNat (v4.1,(IntKind.i64.wrap (x.2.1+(1:Int))),v4.2.2.1,v4.2.2.2.1,())).set x.2.2.1.toNat (v6.1,v6.2.1,(IntKind.i64.wrap ((IntKind.i64.wrap (x.2.1+(1:Int)))+(1:Int))),v6.2.2.2.1,())).set x.2.2.1.toNat (v8.1,v8.2.1,v8.2.2.1,((IntKind.i64.wrap ((IntKind.i64.wrap ((IntKind.i64.wrap (x.2.1+(1:Int)))+(1:Int)))+(1:Int))),v8.2.2.2.1.2.1,v8.2.2.2.1.2.2.1,v8.2.2.2.1.2.2.2.1,v8.2.2.2.1.2.2.2.2.1,()),())).set x.2.2.1.toNat (v10.1,v10.2.1,v10.2.2.1,(v10.2.2.2.1.1,(IntKind.i64.wrap ((IntKind.i64.wrap ((IntKind.i64.wrap ((IntKind.i64.wrap (x.2.1+(1:Int)))+(1:Int)))+(1:Int)))+(1:Int))),v10.2.2.2.1.2.2.1,v10.2.2.2.1.2.2.2.1,v10.2.2.2.1.2.2.2.2.1,()),())).set x.2.2.1.toNat (v12.1,v12.2.1,v12.2.2.1,(v12.2.2.2.1.1,v12.2.2.2.1.2.1,(IntKind.i64.wrap ((IntKind.i64.wrap ((IntKind.i64.wrap ((IntKind.i64.wrap ((IntKind.i64.wrap (x.2.1+(1:Int)))+(1:Int)))+(1:Int)))+(1:Int)))+(1:Int))),v12.2.2.2.1.2.2.2.1,v12.2.2.2.1.2.2.2.2.1,()),())).set x.2.2.1.toNat (v14.1,v14.2.1,v14.2.2.1,(v14.2.2.2.1.1,v14.2.2.2.1.2.1,v14.2.2.2.1.2.2.1,(IntKind.i64.wrap ((IntKind.i64.wrap ((IntKind.i64.wrap ((IntKind.i64.wrap ((IntKind.i64.wrap ((IntKind.i64.wrap (x.2.1+(1:Int)))+(1:Int)))+(1:Int)))+(1:Int)))+(1:Int)))+(1:Int))),v14.2.2.2.1.2.2.2.2.1,()),())) x.2.2.1) fun _=>
 match(((((((x.1.set x.2.2.1.toNat (x.2.1,v2.2.1,v2.2.2.1,v2.2.2.2.1,())).set x.2.2.1.toNat (v4.1,(IntKind.i64.wrap (x.2.1+(1:Int))),v4.2.2.1,v4.2.2.2.1,())).set x.2.2.1.toNat (v6.1,v6.2.1,(IntKind.i64.wrap ((IntKind.i64.wrap (x.2.1+(1:Int)))+(1:Int))),v6.2.2.2.1,())).set x.2.2.1.toNat (v8.1,v8.2.1,v8.2.2.1,((IntKind.i64.wrap ((IntKind.i64.wrap ((IntKind.i64.wrap (x.2.1+(1:Int)))+(1:Int)))+(1:Int))),v8.2.2.2.1.2.1,v8.2.2.2.1.2.2.1,v8.2.2.2.1.2.2.2.1,v8.2.2.2.1.2.2.2.2.1,()),())).set x.2.2.1.toNat (v10.1,v10.2.1,v10.2.2.1,(v10.2.2.2.1.1,(IntKind.i64.wrap ((IntKind.i64.wrap ((IntKind.i64.wrap ((IntKind.i64.wrap (x.2.1+(1:Int)))+(1:Int)))+(1:Int)))+(1:Int))),v10.2.2.2.1.2.2.1,v10.2.2.2.1.2.2.2.1,v10.2.2.2.1.2.2.2.2.1,()),())).set x.2.2.1.toNat (v12.1,v12.2.1,v12.2.2.1,(v12.2.2.2.1.1,v12.2.2.2.1.2.1,(IntKind.i64.wrap ((IntKind.i64.wrap ((IntKind.i64.wrap ((IntKind.i64.wrap ((IntKind.i64.wrap (x.2.1+(1:Int)))+(1:Int)))+(1:Int)))+(1:Int)))+(1:Int))),v12.2.2.2.1.2.2.2.1,v12.2.2.2.1.2.2.2.2.1,()),())).set x.2.2.1.toNat (v14.1,v14.2.1,v14.2.2.1,(v14.2.2.2.1.1,v14.2.2.2.1.2.1,v14.2.2.2.1.2.2.1,(IntKind.i64.wrap ((IntKind.i64.wrap ((IntKind.i64.wrap ((IntKind.i64.wrap ((IntKind.i64.wrap ((IntKind.i64.wrap (x.2.1+(1:Int)))+(1:Int)))+(1:Int)))+(1:Int)))+(1:Int)))+(1:Int))),v14.2.2.2.1.2.2.2.2.1,()),()))[x.2.2.1.toNat]? with
 |none=>none
 |some v16=>
 some (.inl (((((((((x.1.set x.2.2.1.toNat (x.2.1,v2.2.1,v2.2.2.1,v2.2.2.2.1,())).set x.2.2.1.toNat (v4.1,(IntKind.i64.wrap (x.2.1+(1:Int))),v4.2.2.1,v4.2.2.2.1,())).set x.2.2.1.toNat (v6.1,v6.2.1,(IntKind.i64.wrap ((IntKind.i64.wrap (x.2.1+(1:Int)))+(1:Int))),v6.2.2.2.1,())).set x.2.2.1.toNat (v8.1,v8.2.1,v8.2.2.1,((IntKind.i64.wrap ((IntKind.i64.wrap ((IntKind.i64.wrap (x.2.1+(1:Int)))+(1:Int)))+(1:Int))),v8.2.2.2.1.2.1,v8.2.2.2.1.2.2.1,v8.2.2.2.1.2.2.2.1,v8.2.2.2.1.2.2.2.2.1,()),())).set x.2.2.1.toNat (v10.1,v10.2.1,v10.2.2.1,(v10.2.2.2.1.1,(IntKind.i64.wrap ((IntKind.i64.wrap ((IntKind.i64.wrap ((IntKind.i64.wrap (x.2.1+(1:Int)))+(1:Int)))+(1:Int)))+(1:Int))),v10.2.2.2.1.2.2.1,v10.2.2.2.1.2.2.2.1,v10.2.2.2.1.2.2.2.2.1,()),())).set x.2.2.1.toNat (v12.1,v12.2.1,v12.2.2.1,(v12.2.2.2.1.1,v12.2.2.2.1.2.1,(IntKind.i64.wrap ((IntKind.i64.wrap ((IntKind.i64.wrap ((IntKind.i64.wrap ((IntKind.i64.wrap (x.2.1+(1:Int)))+(1:Int)))+(1:Int)))+(1:Int)))+(1:Int))),v12.2.2.2.1.2.2.2.1,v12.2.2.2.1.2.2.2.2.1,()),())).set x.2.2.1.toNat (v14.1,v14.2.1,v14.2.2.1,(v14.2.2.2.1.1,v14.2.2.2.1.2.1,v14.2.2.2.1.2.2.1,(IntKind.i64.wrap ((IntKind.i64.wrap ((IntKind.i64.wrap ((IntKind.i64.wrap ((IntKind.i64.wrap ((IntKind.i64.wrap (x.2.1+(1:Int)))+(1:Int)))+(1:Int)))+(1:Int)))+(1:Int)))+(1:Int))),v14.2.2.2.1.2.2.2.2.1,()),())).set x.2.2.1.toNat (v16.1,v16.2.1,v16.2.2.1,(v16.2.2.2.1.1,v16.2.2.2.1.2.1,v16.2.2.2.1.2.2.1,v16.2.2.2.1.2.2.2.1,((Int.tmod (IntKind.i64.wrap ((IntKind.i64.wrap ((IntKind.i64.wrap ((IntKind.i64.wrap ((IntKind.i64.wrap ((IntKind.i64.wrap ((IntKind.i64.wrap (x.2.1+(1:Int)))+(1:Int)))+(1:Int)))+(1:Int)))+(1:Int)))+(1:Int)))+(1:Int))) (3:Int))==(0:Int)),()),())),(IntKind.i64.wrap ((IntKind.i64.wrap ((IntKind.i64.wrap ((IntKind.i64.wrap ((IntKind.i64.wrap ((IntKind.i64.wrap ((IntKind.i64.wrap ((IntKind.i64.wrap (x.2.1+(1:Int)))+(1:Int)))+(1:Int)))+(1:Int)))+(1:Int)))+(1:Int)))+(1:Int)))+(1:Int))),(IntKind.i64.wrap (x.2.2.1+(1:Int))),()))
|false=>
 some (.inr (.inl (x.1,x.2.1,())))
noncomputable def lh(x:Ty.T (.pair (.own 148 ag) (.pair (.int .i64) .unit))):Option (Ty.T (.pair (.int .i64) (.pair (.own 148 ag) .unit))):=
match ac dr (x.1,x.2.1,(0:Int),())with
|none=>none
|some (.inl v17)=>
 some (v17.2.1,v17.1,())
|some (.inr v19)=>
 none
noncomputable def FR:Spec:=⟨_,(.pair (.int .i64) .unit),(.pair (.own 148 ag) .unit),rfl,lh⟩
noncomputable def rl:FuncId→Option Spec:=aX []
theorem zZ:∀f s,rl f=some s→FnOK G0 Tryz.prog f s:=aw trivial
def pT:aG:=⟨[0,1,5],(.pair (.own 148 ag) ah),0,[0,1],(.pair (.own 148 ag) (.pair (.int .i64) .unit)),[],.unit⟩
noncomputable def rm:List a9z:=[pT.spec dr]
theorem yO:aU aV E0 rl (aR Tryz.f69 rm) Tryz.f69 0 pT dr:=fun x=>by kernel_rfl
theorem El:FnOK G0 Tryz.prog 69 FR:=ax ai zZ Tryz.func69 rm (by kernel_rfl) (by exact⟨(yO).lok,trivial⟩) fun x=>by kernel_rfl
noncomputable def td(x:Ty.T (.pair (.pair (.int .i64) (.pair (.own 143 ak) (.pair (.own 145 (.pair (.int .i64) (.pair (.int .i64) (.pair (.own 2 (.int .i64)) .unit)))) (.pair (.own 148 ag) .unit)))) (.pair (.int .i64) .unit))):Option (Ty.T (.pair (.int .i64) (.pair (.pair (.int .i64) (.pair (.own 143 ak) (.pair (.own 145 (.pair (.int .i64) (.pair (.int .i64) (.pair (.own 2 (.int .i64)) .unit)))) (.pair (.own 148 ag) .unit)))) .unit))):=
match lf (x.1.2.1,x.2.1,())with
|none=>none
|some v1=>
match lg (x.1.2.2.1,v1.1,())with
|none=>none
|some v2=>
match lh (x.1.2.2.2.1,v2.1,())with
|none=>none
|some v3=>
some (v3.1,(x.1.1,v1.2.1,v2.2.1,v3.2.1,()),())
noncomputable def Q0:Spec:=⟨_,(.pair (.int .i64) .unit),(.pair (.pair (.int .i64) (.pair (.own 143 ak) (.pair (.own 145 (.pair (.int .i64) (.pair (.int .i64) (.pair (.own 2 (.int .i64)) .unit)))) (.pair (.own 148 ag) .unit)))) .unit),rfl,td⟩
theorem O2:FnOK G0 Tryz.prog 21 Q0:=aj US (sg Ei (sg Ek (sg El (aC)))) Tryz.func21
noncomputable def mc(x:Ty.T (.pair (.list al) (.pair (.int .i64) .unit))):Option (Ty.T (.pair (.int .i64) .unit)):=
match(decide ((IntKind.i64.wrap (x.2.1-(x.1.length:Int)))<(0:Int)))with
|true=>
 some ((-1:Int),())
|false=>
 some ((IntKind.i64.wrap (x.2.1-(x.1.length:Int))),())
noncomputable def P8:Spec:=⟨_,(.pair (.int .i64) .unit),.unit,rfl,mc⟩
theorem N5:FnOK G0 Tryz.prog 10 P8:=aj ai aC Tryz.func10
noncomputable def p0(x:Ty.T (.pair ar (.pair (.int .i64) .unit))):Option (Ty.T (.pair (.int .i64) .unit)):=
match mc (x.1.2.2.1,x.2.1,())with
|none=>none
|some v1=>
match(decide (v1.1<(0:Int)))with
|true=>
 some ((-1:Int),())
|false=>
 match mc (x.1.2.2.2.1,v1.1,())with
 |none=>none
 |some v2=>
 match(decide (v2.1<(0:Int)))with
 |true=>
  some ((-1:Int),())
 |false=>
  some (v2.1,())
noncomputable def JC:Spec:=⟨_,(.pair (.int .i64) .unit),.unit,rfl,p0⟩
theorem Sf:FnOK G0 Tryz.prog 31 JC:=aj ai (sg N5 (aC)) Tryz.func31
noncomputable def cO(x:(Ty.T (.pair (.list ar) ah))):Option ((Ty.T (.pair (.list ar) ah)) ⊕ ((Ty.T (.pair (.int .i64) .unit)) ⊕ (Ty.T (.pair (.int .i64) .unit)))):=
match(decide (x.2.2.1<(x.1.length:Int)))with
|true=>
 aa (au x.1 x.2.2.1) fun v1=>
 match p0 (v1,x.2.1,())with
 |none=>none
 |some v2=>
 match(decide (v2.1<(0:Int)))with
 |true=>
  some (.inr (.inr ((-1:Int),())))
 |false=>
  some (.inl (x.1,v2.1,(IntKind.i64.wrap (x.2.2.1+(1:Int))),()))
|false=>
 some (.inr (.inl (x.2.1,())))
noncomputable def lv(x:Ty.T (.pair (.list ar) (.pair (.int .i64) .unit))):Option (Ty.T (.pair (.int .i64) .unit)):=
match(decide ((IntKind.i64.wrap (x.2.1-(x.1.length:Int)))<(0:Int)))with
|true=>
 some ((-1:Int),())
|false=>
 match ac cO (x.1,(IntKind.i64.wrap (x.2.1-(x.1.length:Int))),(0:Int),())with
 |none=>none
 |some (.inl v3)=>
  some (v3.1,())
 |some (.inr v4)=>
  some (v4.1,())
noncomputable def Sg:Spec:=⟨_,(.pair (.int .i64) .unit),.unit,rfl,lv⟩
noncomputable def CN:FuncId→Option Spec:=aX [(31,JC)]
theorem LR:∀f s,CN f=some s→FnOK G0 Tryz.prog f s:=aw ⟨Sf,trivial⟩
def Ax:aG:=⟨[0,1,5],(.pair (.list ar) ah),0,[1],(.pair (.int .i64) .unit),[4],(.pair (.int .i64) .unit)⟩
noncomputable def CO:List a9z:=[Ax.spec cO]
theorem JD:aU aV E0 CN (aR Tryz.f26 CO) Tryz.f26 0 Ax cO:=fun x=>by kernel_rfl
theorem CP:FnOK G0 Tryz.prog 26 Sg:=ax ai LR Tryz.func26 CO (by kernel_rfl) (by exact⟨(JD).lok,trivial⟩) fun x=>by kernel_rfl
noncomputable def DD(x:Ty.T (.pair al .unit)):Option (Ty.T (.pair al .unit)):=
some (x.1,())
noncomputable def Gw:Spec:=⟨_,(.pair al .unit),.unit,rfl,DD⟩
theorem QA:FnOK G0 Tryz.prog 59 Gw:=aj ai aC Tryz.func59
noncomputable def ik(x:(Ty.T (.pair (.list al) (.pair (.own 105 al) (.pair (.int .i64) .unit))))):Option ((Ty.T (.pair (.list al) (.pair (.own 105 al) (.pair (.int .i64) .unit)))) ⊕ ((Ty.T (.pair (.own 105 al) .unit)) ⊕ (Ty.T .unit))):=
match(decide (x.2.2.1<(x.1.length:Int)))with
|true=>
 aa (au x.1 x.2.2.1) fun v1=>
 match DD (v1,())with
 |none=>none
 |some v2=>
 aa (au x.2.1 x.2.2.1) fun _=>
 match x.2.1[x.2.2.1.toNat]? with
 |none=>none
 |some v4=>
 some (.inl (x.1,(x.2.1.set x.2.2.1.toNat v2.1),(IntKind.i64.wrap (x.2.2.1+(1:Int))),()))
|false=>
 some (.inr (.inl (x.2.1,())))
noncomputable def g9(x:Ty.T (.pair (.list al) .unit)):Option (Ty.T (.pair (.own 105 al) .unit)):=
if 0≤(x.1.length:Int)∧(x.1.length:Int)≤(x.1.length:Int)then
 aM ((x.1.length:Int).toNat) (
  match ac ik (x.1,(List.replicate (x.1.length:Int).toNat ((0:Int),(0:Int),(0:Int),(0:Int),())),(0:Int),())with
  |none=>none
  |some (.inl v5)=>
   some (v5.1,())
  |some (.inr v7)=>
   none)
else none
noncomputable def QB:Spec:=⟨_,(.pair (.own 105 al) .unit),.unit,rfl,g9⟩
noncomputable def A7:FuncId→Option Spec:=aX [(59,Gw)]
theorem Kd:∀f s,A7 f=some s→FnOK G0 Tryz.prog f s:=aw ⟨QA,trivial⟩
def yf:aG:=⟨[0,3,4],(.pair (.list al) (.pair (.own 105 al) (.pair (.int .i64) .unit))),0,[3],(.pair (.own 105 al) .unit),[],.unit⟩
noncomputable def A8:List a9z:=[yf.spec ik]
theorem HX:aU aV E0 A7 (aR Tryz.f15 A8) Tryz.f15 0 yf ik:=fun x=>by kernel_rfl
theorem Oy:FnOK G0 Tryz.prog 15 QB:=ax ai Kd Tryz.func15 A8 (by kernel_rfl) (by exact⟨(HX).lok,trivial⟩) fun x=>by kernel_rfl
noncomputable def zK(x:Ty.T (.pair ar .unit)):Option (Ty.T (.pair (.pair (.int .i64) (.pair (.int .i64) (.pair (.own 105 al) (.pair (.own 105 al) .unit)))) .unit)):=
match g9 (x.1.2.2.1,())with
|none=>none
|some v1=>
match g9 (x.1.2.2.2.1,())with
|none=>none
|some v2=>
some ((x.1.1,x.1.2.1,v1.1,v2.1,()),())
noncomputable def Ke:Spec:=⟨_,(.pair (.pair (.int .i64) (.pair (.int .i64) (.pair (.own 105 al) (.pair (.own 105 al) .unit)))) .unit),.unit,rfl,zK⟩
theorem SG:FnOK G0 Tryz.prog 33 Ke:=aj ai (sg Oy (aC)) Tryz.func33
noncomputable def gR(x:(Ty.T (.pair (.list ar) (.pair (.own 76 (.pair (.int .i64) (.pair (.int .i64) (.pair (.own 105 al) (.pair (.own 105 al) .unit))))) (.pair (.int .i64) .unit))))):Option ((Ty.T (.pair (.list ar) (.pair (.own 76 (.pair (.int .i64) (.pair (.int .i64) (.pair (.own 105 al) (.pair (.own 105 al) .unit))))) (.pair (.int .i64) .unit)))) ⊕ ((Ty.T (.pair (.own 76 (.pair (.int .i64) (.pair (.int .i64) (.pair (.own 105 al) (.pair (.own 105 al) .unit))))) .unit)) ⊕ (Ty.T .unit))):=
match(decide (x.2.2.1<(x.1.length:Int)))with
|true=>
 aa (au x.1 x.2.2.1) fun v1=>
 match zK (v1,())with
 |none=>none
 |some v2=>
 aa (au x.2.1 x.2.2.1) fun _=>
 match x.2.1[x.2.2.1.toNat]? with
 |none=>none
 |some v4=>
 some (.inl (x.1,(x.2.1.set x.2.2.1.toNat v2.1),(IntKind.i64.wrap (x.2.2.1+(1:Int))),()))
|false=>
 some (.inr (.inl (x.2.1,())))
noncomputable def ib(x:Ty.T (.pair (.list ar) .unit)):Option (Ty.T (.pair (.own 76 (.pair (.int .i64) (.pair (.int .i64) (.pair (.own 105 al) (.pair (.own 105 al) .unit))))) .unit)):=
if 0≤(x.1.length:Int)∧(x.1.length:Int)≤(x.1.length:Int)then
 aM ((x.1.length:Int).toNat) (
  match ac gR (x.1,(List.replicate (x.1.length:Int).toNat ((0:Int),(0:Int),[],[],())),(0:Int),())with
  |none=>none
  |some (.inl v5)=>
   some (v5.1,())
  |some (.inr v7)=>
   none)
else none
noncomputable def SH:Spec:=⟨_,(.pair (.own 76 (.pair (.int .i64) (.pair (.int .i64) (.pair (.own 105 al) (.pair (.own 105 al) .unit))))) .unit),.unit,rfl,ib⟩
noncomputable def DE:FuncId→Option Spec:=aX [(33,Ke)]
theorem Me:∀f s,DE f=some s→FnOK G0 Tryz.prog f s:=aw ⟨SG,trivial⟩
def A9:aG:=⟨[0,3,4],(.pair (.list ar) (.pair (.own 76 (.pair (.int .i64) (.pair (.int .i64) (.pair (.own 105 al) (.pair (.own 105 al) .unit))))) (.pair (.int .i64) .unit))),0,[3],(.pair (.own 76 (.pair (.int .i64) (.pair (.int .i64) (.pair (.own 105 al) (.pair (.own 105 al) .unit))))) .unit),[],.unit⟩
noncomputable def DF:List a9z:=[A9.spec gR]
theorem Kf:aU ZH E2 DE (aR Tryz.f28 DF) Tryz.f28 0 A9 gR:=fun x=>by kernel_rfl
theorem DG:FnOK G0 Tryz.prog 28 SH:=ax ZI Me Tryz.func28 DF (by kernel_rfl) (by exact⟨(Kf).lok,trivial⟩) fun x=>by kernel_rfl
noncomputable def wm(x:Ty.T (.pair al (.pair al .unit))):Option (Ty.T (.pair .bool .unit)):=
match(x.1.1 != x.2.1.1)with
|true=>
 some (false,())
|false=>
 match(x.1.2.1 != x.2.1.2.1)with
 |true=>
  some (false,())
 |false=>
  match(x.1.2.2.1 != x.2.1.2.2.1)with
  |true=>
   some (false,())
  |false=>
   match(x.1.2.2.2.1 != x.2.1.2.2.2.1)with
   |true=>
    some (false,())
   |false=>
    some (true,())
noncomputable def GL:Spec:=⟨_,(.pair .bool .unit),.unit,rfl,wm⟩
theorem QY:FnOK G0 Tryz.prog 66 GL:=aj ai aC Tryz.func66
noncomputable def ip(x:(Ty.T (.pair (.list al) (.pair (.list al) (.pair (.int .i64) .unit))))):Option ((Ty.T (.pair (.list al) (.pair (.list al) (.pair (.int .i64) .unit)))) ⊕ ((Ty.T .unit) ⊕ (Ty.T (.pair .bool .unit)))):=
match(decide (x.2.2.1<(x.1.length:Int)))with
|true=>
 aa (au x.1 x.2.2.1) fun v1=>
 aa (au x.2.1 x.2.2.1) fun v2=>
 match wm (v1,v2,())with
 |none=>none
 |some v3=>
 match(!v3.1)with
 |true=>
  some (.inr (.inr (false,())))
 |false=>
  some (.inl (x.1,x.2.1,(IntKind.i64.wrap (x.2.2.1+(1:Int))),()))
|false=>
 some (.inr (.inl (())))
noncomputable def kp(x:Ty.T (.pair (.list al) (.pair (.list al) .unit))):Option (Ty.T (.pair .bool .unit)):=
match((x.1.length:Int) != (x.2.1.length:Int))with
|true=>
 some (false,())
|false=>
 match ac ip (x.1,x.2.1,(0:Int),())with
 |none=>none
 |some (.inl v4)=>
  some (true,())
 |some (.inr v5)=>
  some (v5.1,())
noncomputable def QZ:Spec:=⟨_,(.pair .bool .unit),.unit,rfl,kp⟩
noncomputable def BD:FuncId→Option Spec:=aX [(66,GL)]
theorem K0:∀f s,BD f=some s→FnOK G0 Tryz.prog f s:=aw ⟨QY,trivial⟩
def yJ:aG:=⟨[0,1,5],(.pair (.list al) (.pair (.list al) (.pair (.int .i64) .unit))),0,[],.unit,[4],(.pair .bool .unit)⟩
noncomputable def BE:List a9z:=[yJ.spec ip]
theorem Iv:aU aV E0 BD (aR Tryz.f20 BE) Tryz.f20 0 yJ ip:=fun x=>by kernel_rfl
theorem O0:FnOK G0 Tryz.prog 20 QZ:=ax ai K0 Tryz.func20 BE (by kernel_rfl) (by exact⟨(Iv).lok,trivial⟩) fun x=>by kernel_rfl
noncomputable def zW(x:Ty.T (.pair ar (.pair ar .unit))):Option (Ty.T (.pair .bool .unit)):=
match(x.1.1 != x.2.1.1)with
|true=>
 some (false,())
|false=>
 match(x.1.2.1 != x.2.1.2.1)with
 |true=>
  some (false,())
 |false=>
  match kp (x.1.2.2.1,x.2.1.2.2.1,())with
  |none=>none
  |some v1=>
  match(!v1.1)with
  |true=>
   some (false,())
  |false=>
   match kp (x.1.2.2.2.1,x.2.1.2.2.2.1,())with
   |none=>none
   |some v2=>
   match(!v2.1)with
   |true=>
    some (false,())
   |false=>
    some (true,())
noncomputable def K1:Spec:=⟨_,(.pair .bool .unit),.unit,rfl,zW⟩
theorem S3:FnOK G0 Tryz.prog 36 K1:=aj ai (sg O0 (aC)) Tryz.func36
noncomputable def gW(x:(Ty.T (.pair (.list ar) (.pair (.list ar) (.pair (.int .i64) .unit))))):Option ((Ty.T (.pair (.list ar) (.pair (.list ar) (.pair (.int .i64) .unit)))) ⊕ ((Ty.T .unit) ⊕ (Ty.T (.pair .bool .unit)))):=
match(decide (x.2.2.1<(x.1.length:Int)))with
|true=>
 aa (au x.1 x.2.2.1) fun v1=>
 aa (au x.2.1 x.2.2.1) fun v2=>
 match zW (v1,v2,())with
 |none=>none
 |some v3=>
 match(!v3.1)with
 |true=>
  some (.inr (.inr (false,())))
 |false=>
  some (.inl (x.1,x.2.1,(IntKind.i64.wrap (x.2.2.1+(1:Int))),()))
|false=>
 some (.inr (.inl (())))
noncomputable def rg(x:Ty.T (.pair (.list ar) (.pair (.list ar) .unit))):Option (Ty.T (.pair .bool .unit)):=
match((x.1.length:Int) != (x.2.1.length:Int))with
|true=>
 some (false,())
|false=>
 match ac gW (x.1,x.2.1,(0:Int),())with
 |none=>none
 |some (.inl v4)=>
  some (true,())
 |some (.inr v5)=>
  some (v5.1,())
noncomputable def S4:Spec:=⟨_,(.pair .bool .unit),.unit,rfl,rg⟩
noncomputable def Ee:FuncId→Option Spec:=aX [(36,K1)]
theorem MI:∀f s,Ee f=some s→FnOK G0 Tryz.prog f s:=aw ⟨S3,trivial⟩
def BF:aG:=⟨[0,1,5],(.pair (.list ar) (.pair (.list ar) (.pair (.int .i64) .unit))),0,[],.unit,[4],(.pair .bool .unit)⟩
noncomputable def Ef:List a9z:=[BF.spec gW]
theorem K2:aU aV E0 Ee (aR Tryz.f30 Ef) Tryz.f30 0 BF gW:=fun x=>by kernel_rfl
theorem Eg:FnOK G0 Tryz.prog 30 S4:=ax ai MI Tryz.func30 Ef (by kernel_rfl) (by exact⟨(K2).lok,trivial⟩) fun x=>by kernel_rfl
noncomputable def wv(x:Ty.T (.pair ab (.pair ab .unit))):Option (Ty.T (.pair .bool .unit)):=
match(x.1.1 != x.2.1.1)with
|true=>
 some (false,())
|false=>
 match(x.1.2.1 != x.2.1.2.1)with
 |true=>
  some (false,())
 |false=>
  match(x.1.2.2.1 != x.2.1.2.2.1)with
  |true=>
   some (false,())
  |false=>
   match(x.1.2.2.2.1 != x.2.1.2.2.2.1)with
   |true=>
    some (false,())
   |false=>
    match(x.1.2.2.2.2.1 != x.2.1.2.2.2.2.1)with
    |true=>
     some (false,())
    |false=>
     some (true,())
noncomputable def S5:Spec:=⟨_,(.pair .bool .unit),.unit,rfl,wv⟩
theorem Q5:FnOK G0 Tryz.prog 35 S5:=aj ai aC Tryz.func35
noncomputable def gi(x:(Ty.T (.pair (.own 105 al) ah))):Option ((Ty.T (.pair (.own 105 al) ah)) ⊕ ((Ty.T (.pair (.own 105 al) (.pair (.int .i64) .unit))) ⊕ (Ty.T .unit))):=
match(decide (x.2.2.1<(x.1.length:Int)))with
|true=>
 aa (au x.1 x.2.2.1) fun _=>
 match x.1[x.2.2.1.toNat]? with
 |none=>none
 |some v2=>
 aa (au (x.1.set x.2.2.1.toNat (x.2.1,v2.2.1,v2.2.2.1,v2.2.2.2.1,())) x.2.2.1) fun _=>
 match(x.1.set x.2.2.1.toNat (x.2.1,v2.2.1,v2.2.2.1,v2.2.2.2.1,()))[x.2.2.1.toNat]? with
 |none=>none
 |some v4=>
 aa (au ((x.1.set x.2.2.1.toNat (x.2.1,v2.2.1,v2.2.2.1,v2.2.2.2.1,())).set x.2.2.1.toNat (v4.1,(IntKind.i64.wrap (x.2.1+(1:Int))),v4.2.2.1,v4.2.2.2.1,())) x.2.2.1) fun _=>
 match((x.1.set x.2.2.1.toNat (x.2.1,v2.2.1,v2.2.2.1,v2.2.2.2.1,())).set x.2.2.1.toNat (v4.1,(IntKind.i64.wrap (x.2.1+(1:Int))),v4.2.2.1,v4.2.2.2.1,()))[x.2.2.1.toNat]? with
 |none=>none
 |some v6=>
 aa (au (((x.1.set x.2.2.1.toNat (x.2.1,v2.2.1,v2.2.2.1,v2.2.2.2.1,())).set x.2.2.1.toNat (v4.1,(IntKind.i64.wrap (x.2.1+(1:Int))),v4.2.2.1,v4.2.2.2.1,())).set x.2.2.1.toNat (v6.1,v6.2.1,(IntKind.i64.wrap ((IntKind.i64.wrap (x.2.1+(1:Int)))+(1:Int))),v6.2.2.2.1,())) x.2.2.1) fun _=>
 match(((x.1.set x.2.2.1.toNat (x.2.1,v2.2.1,v2.2.2.1,v2.2.2.2.1,())).set x.2.2.1.toNat (v4.1,(IntKind.i64.wrap (x.2.1+(1:Int))),v4.2.2.1,v4.2.2.2.1,())).set x.2.2.1.toNat (v6.1,v6.2.1,(IntKind.i64.wrap ((IntKind.i64.wrap (x.2.1+(1:Int)))+(1:Int))),v6.2.2.2.1,()))[x.2.2.1.toNat]? with
 |none=>none
 |some v8=>
 some (.inl (((((x.1.set x.2.2.1.toNat (x.2.1,v2.2.1,v2.2.2.1,v2.2.2.2.1,())).set x.2.2.1.toNat (v4.1,(IntKind.i64.wrap (x.2.1+(1:Int))),v4.2.2.1,v4.2.2.2.1,())).set x.2.2.1.toNat (v6.1,v6.2.1,(IntKind.i64.wrap ((IntKind.i64.wrap (x.2.1+(1:Int)))+(1:Int))),v6.2.2.2.1,())).set x.2.2.1.toNat (v8.1,v8.2.1,v8.2.2.1,(IntKind.i64.wrap ((IntKind.i64.wrap ((IntKind.i64.wrap (x.2.1+(1:Int)))+(1:Int)))+(1:Int))),())),(IntKind.i64.wrap ((IntKind.i64.wrap ((IntKind.i64.wrap ((IntKind.i64.wrap (x.2.1+(1:Int)))+(1:Int)))+(1:Int)))+(1:Int))),(IntKind.i64.wrap (x.2.2.1+(1:Int))),()))
|false=>
 some (.inr (.inl (x.1,x.2.1,())))
noncomputable def iC(x:Ty.T (.pair (.own 105 al) (.pair (.int .i64) .unit))):Option (Ty.T (.pair (.int .i64) (.pair (.own 105 al) .unit))):=
match ac gi (x.1,x.2.1,(0:Int),())with
|none=>none
|some (.inl v9)=>
 some (v9.2.1,v9.1,())
|some (.inr v11)=>
 none
noncomputable def yP:Spec:=⟨_,(.pair (.int .i64) .unit),(.pair (.own 105 al) .unit),rfl,iC⟩
noncomputable def ww:FuncId→Option Spec:=aX []
theorem FU:∀f s,ww f=some s→FnOK G0 Tryz.prog f s:=aw trivial
def va:aG:=⟨[0,1,5],(.pair (.own 105 al) ah),0,[0,1],(.pair (.own 105 al) (.pair (.int .i64) .unit)),[],.unit⟩
noncomputable def wA:List a9z:=[va.spec gi]
theorem Es:aU aV E0 ww (aR Tryz.f23 wA) Tryz.f23 0 va gi:=fun x=>by kernel_rfl
theorem K9:FnOK G0 Tryz.prog 23 yP:=ax ai FU Tryz.func23 wA (by kernel_rfl) (by exact⟨(Es).lok,trivial⟩) fun x=>by kernel_rfl
noncomputable def fw(x:(Ty.T (.pair (.own 76 (.pair (.int .i64) (.pair (.int .i64) (.pair (.own 105 al) (.pair (.own 105 al) .unit))))) ah))):Option ((Ty.T (.pair (.own 76 (.pair (.int .i64) (.pair (.int .i64) (.pair (.own 105 al) (.pair (.own 105 al) .unit))))) ah)) ⊕ ((Ty.T (.pair (.own 76 (.pair (.int .i64) (.pair (.int .i64) (.pair (.own 105 al) (.pair (.own 105 al) .unit))))) (.pair (.int .i64) .unit))) ⊕ (Ty.T .unit))):=
match(decide (x.2.2.1<(x.1.length:Int)))with
|true=>
 aa (au x.1 x.2.2.1) fun _=>
 match x.1[x.2.2.1.toNat]? with
 |none=>none
 |some v2=>
 aa (au (x.1.set x.2.2.1.toNat (x.2.1,v2.2)) x.2.2.1) fun _=>
 match(x.1.set x.2.2.1.toNat (x.2.1,v2.2))[x.2.2.1.toNat]? with
 |none=>none
 |some v4=>
 aa (au ((x.1.set x.2.2.1.toNat (x.2.1,v2.2)).set x.2.2.1.toNat (v4.1,((IntKind.i64.wrap (x.2.1+(1:Int))),v4.2.2))) x.2.2.1) fun _=>
 match((x.1.set x.2.2.1.toNat (x.2.1,v2.2)).set x.2.2.1.toNat (v4.1,((IntKind.i64.wrap (x.2.1+(1:Int))),v4.2.2)))[x.2.2.1.toNat]? with
 |none=>none
 |some v6=>
 match iC (v6.2.2.1,(IntKind.i64.wrap ((IntKind.i64.wrap (x.2.1+(1:Int)))+(1:Int))),())with
 |none=>none
 |some v7=>
 aa (au (((x.1.set x.2.2.1.toNat (x.2.1,v2.2)).set x.2.2.1.toNat (v4.1,((IntKind.i64.wrap (x.2.1+(1:Int))),v4.2.2))).set x.2.2.1.toNat (v6.1,(v6.2.1,(v7.2.1,v6.2.2.2)))) x.2.2.1) fun _=>
 match(((x.1.set x.2.2.1.toNat (x.2.1,v2.2)).set x.2.2.1.toNat (v4.1,((IntKind.i64.wrap (x.2.1+(1:Int))),v4.2.2))).set x.2.2.1.toNat (v6.1,(v6.2.1,(v7.2.1,v6.2.2.2))))[x.2.2.1.toNat]? with
 |none=>none
 |some v9=>
 match iC (v9.2.2.2.1,v7.1,())with
 |none=>none
 |some v10=>
 some (.inl (((((x.1.set x.2.2.1.toNat (x.2.1,v2.2)).set x.2.2.1.toNat (v4.1,((IntKind.i64.wrap (x.2.1+(1:Int))),v4.2.2))).set x.2.2.1.toNat (v6.1,(v6.2.1,(v7.2.1,v6.2.2.2)))).set x.2.2.1.toNat (v9.1,(v9.2.1,(v9.2.2.1,(v10.2.1,v9.2.2.2.2))))),v10.1,(IntKind.i64.wrap (x.2.2.1+(1:Int))),()))
|false=>
 some (.inr (.inl (x.1,x.2.1,())))
noncomputable def qu(x:Ty.T (.pair (.own 76 (.pair (.int .i64) (.pair (.int .i64) (.pair (.own 105 al) (.pair (.own 105 al) .unit))))) (.pair (.int .i64) .unit))):Option (Ty.T (.pair (.int .i64) (.pair (.own 76 (.pair (.int .i64) (.pair (.int .i64) (.pair (.own 105 al) (.pair (.own 105 al) .unit))))) .unit))):=
match ac fw (x.1,x.2.1,(0:Int),())with
|none=>none
|some (.inl v11)=>
 some (v11.2.1,v11.1,())
|some (.inr v13)=>
 none
noncomputable def O4:Spec:=⟨_,(.pair (.int .i64) .unit),(.pair (.own 76 (.pair (.int .i64) (.pair (.int .i64) (.pair (.own 105 al) (.pair (.own 105 al) .unit))))) .unit),rfl,qu⟩
noncomputable def yQ:FuncId→Option Spec:=aX [(23,yP)]
theorem Ix:∀f s,yQ f=some s→FnOK G0 Tryz.prog f s:=aw ⟨K9,trivial⟩
def wB:aG:=⟨[0,1,5],(.pair (.own 76 (.pair (.int .i64) (.pair (.int .i64) (.pair (.own 105 al) (.pair (.own 105 al) .unit))))) ah),0,[0,1],(.pair (.own 76 (.pair (.int .i64) (.pair (.int .i64) (.pair (.own 105 al) (.pair (.own 105 al) .unit))))) (.pair (.int .i64) .unit)),[],.unit⟩
noncomputable def yR:List a9z:=[wB.spec fw]
theorem FV:aU ZH E2 yQ (aR Tryz.f41 yR) Tryz.f41 0 wB fw:=fun x=>by kernel_rfl
theorem MM:FnOK G0 Tryz.prog 41 O4:=ax ZI Ix Tryz.func41 yR (by kernel_rfl) (by exact⟨(FV).lok,trivial⟩) fun x=>by kernel_rfl
noncomputable def bh(x:Ty.T (.pair (.int .i64) ah)):Option (Ty.T (.pair .bool .unit)):=
match(decide (x.1≥x.2.1))with
|true=>
 some ((decide (x.1≤x.2.2.1)),())
|false=>
 some (false,())
noncomputable def lw:Spec:=⟨_,(.pair .bool .unit),.unit,rfl,bh⟩
theorem ct:FnOK G0 Tryz.prog 144 lw:=aj ai aC Tryz.func144
noncomputable def qG(x:Ty.T (.pair (.int .i64) .unit)):Option (Ty.T (.pair .bool .unit)):=
match bh (x.1,(0:Int),(31:Int),())with
|none=>none
|some v1=>
some (v1.1,())
noncomputable def Si:Spec:=⟨_,(.pair .bool .unit),.unit,rfl,qG⟩
theorem CQ:FnOK G0 Tryz.prog 275 Si:=aj ai (sg ct (aC)) Tryz.func275
noncomputable def gL(x:(Ty.T (.pair .str (.pair (.int .i64) .unit)))):Option ((Ty.T (.pair .str (.pair (.int .i64) .unit))) ⊕ ((Ty.T (.pair .str .unit)) ⊕ (Ty.T (.pair .bool .unit)))):=
match(decide (x.2.1<(x.1.length:Int)))with
|true=>
 aa (au x.1 x.2.1) fun v1=>
 match(decide ((v1.toNat:Int)<(97:Int)))with
 |true=>
  aa (au x.1 x.2.1) fun v2=>
  match(decide ((v2.toNat:Int)<(48:Int)))with
  |true=>
   some (.inr (.inr (false,())))
  |false=>
   aa (au x.1 x.2.1) fun v3=>
   match(decide ((v3.toNat:Int)>(57:Int)))with
   |true=>
    some (.inr (.inr (false,())))
   |false=>
    some (.inl (x.1,(IntKind.i64.wrap (x.2.1+(1:Int))),()))
 |false=>
  aa (au x.1 x.2.1) fun v4=>
  match(decide ((v4.toNat:Int)>(122:Int)))with
  |true=>
   aa (au x.1 x.2.1) fun v5=>
   match(decide ((v5.toNat:Int)<(48:Int)))with
   |true=>
    some (.inr (.inr (false,())))
   |false=>
    aa (au x.1 x.2.1) fun v6=>
    match(decide ((v6.toNat:Int)>(57:Int)))with
    |true=>
     some (.inr (.inr (false,())))
    |false=>
     some (.inl (x.1,(IntKind.i64.wrap (x.2.1+(1:Int))),()))
  |false=>
   some (.inl (x.1,(IntKind.i64.wrap (x.2.1+(1:Int))),()))
|false=>
 some (.inr (.inl (x.1,())))
noncomputable def vH(x:Ty.T (.pair .str .unit)):Option (Ty.T (.pair .bool .unit)):=
match ac gL (x.1,(0:Int),())with
|none=>none
|some (.inl v7)=>
 match(decide ((v7.1.length:Int)≥(1:Int)))with
 |true=>
  some ((decide ((v7.1.length:Int)≤(6:Int))),())
 |false=>
  some (false,())
|some (.inr v8)=>
 some (v8.1,())
noncomputable def Sj:Spec:=⟨_,(.pair .bool .unit),.unit,rfl,vH⟩
noncomputable def CS:FuncId→Option Spec:=aX []
theorem LS:∀f s,CS f=some s→FnOK G0 Tryz.prog f s:=aw trivial
def Ay:aG:=⟨[0,3],(.pair .str (.pair (.int .i64) .unit)),0,[0],(.pair .str .unit),[2],(.pair .bool .unit)⟩
noncomputable def CT:List a9z:=[Ay.spec gL]
theorem JE:aU aV E0 CS (aR Tryz.f304 CT) Tryz.f304 0 Ay gL:=fun x=>by kernel_rfl
theorem P9:FnOK G0 Tryz.prog 304 Sj:=ax ai LS Tryz.func304 CT (by kernel_rfl) (by exact⟨(JE).lok,trivial⟩) fun x=>by kernel_rfl
noncomputable def oS(x:Ty.T (.pair ak .unit)):Option (Ty.T (.pair .bool .unit)):=
match qG (x.1.1,())with
|none=>none
|some v1=>
match v1.1 with
|true=>
 match vH (x.1.2.1,())with
 |none=>none
 |some v2=>
 match v2.1 with
 |true=>
  match bh (x.1.2.2.1,(0:Int),(1000:Int),())with
  |none=>none
  |some v3=>
  some (v3.1,())
 |false=>
  some (false,())
|false=>
 some (false,())
noncomputable def xI:Spec:=⟨_,(.pair .bool .unit),.unit,rfl,oS⟩
theorem JF:FnOK G0 Tryz.prog 271 xI:=aj ai (sg ct (sg CQ (sg P9 (aC)))) Tryz.func271
noncomputable def cL(x:(Ty.T (.pair (.list ak) ah))):Option ((Ty.T (.pair (.list ak) ah)) ⊕ ((Ty.T (.pair (.list ak) (.pair (.int .i64) .unit))) ⊕ (Ty.T (.pair .bool .unit)))):=
match(decide (x.2.2.1<x.2.1))with
|true=>
 aa (au x.1 x.2.2.1) fun v6=>
 aa (au x.1 x.2.1) fun v7=>
 match(v6.2.1==v7.2.1)with
 |true=>
  some (.inr (.inr (false,())))
 |false=>
  some (.inl (x.1,x.2.1,(IntKind.i64.wrap (x.2.2.1+(1:Int))),()))
|false=>
 some (.inr (.inl (x.1,x.2.1,())))
noncomputable def d8(x:(Ty.T (.pair (.list ak) (.pair (.int .i64) .unit)))):Option ((Ty.T (.pair (.list ak) (.pair (.int .i64) .unit))) ⊕ ((Ty.T .unit) ⊕ (Ty.T (.pair .bool .unit)))):=
match(decide (x.2.1<(x.1.length:Int)))with
|true=>
 aa (au x.1 x.2.1) fun v2=>
 match oS (v2,())with
 |none=>none
 |some v3=>
 match(!v3.1)with
 |true=>
  some (.inr (.inr (false,())))
 |false=>
  match(decide (x.2.1>(0:Int)))with
  |true=>
   aa (au x.1 x.2.1) fun v4=>
   aa (au x.1 (IntKind.i64.wrap (x.2.1-(1:Int)))) fun v5=>
   match(decide (v4.1≤v5.1))with
   |true=>
    some (.inr (.inr (false,())))
   |false=>
    match ac cL (x.1,x.2.1,(0:Int),())with
    |none=>none
    |some (.inl v6)=>
     some (.inl (v6.1,(IntKind.i64.wrap (v6.2.1+(1:Int))),()))
    |some (.inr v7)=>
     some (.inr (.inr (v7.1,())))
  |false=>
   match ac cL (x.1,x.2.1,(0:Int),())with
   |none=>none
   |some (.inl v8)=>
    some (.inl (v8.1,(IntKind.i64.wrap (v8.2.1+(1:Int))),()))
   |some (.inr v9)=>
    some (.inr (.inr (v9.1,())))
|false=>
 some (.inr (.inl (())))
noncomputable def nm(x:Ty.T (.pair (.list ak) .unit)):Option (Ty.T (.pair .bool .unit)):=
match bh ((x.1.length:Int),(1:Int),(32:Int),())with
|none=>none
|some v1=>
match(!v1.1)with
|true=>
 some (false,())
|false=>
 match ac d8 (x.1,(0:Int),())with
 |none=>none
 |some (.inl v10)=>
  some (true,())
 |some (.inr v11)=>
  some (v11.1,())
noncomputable def vI:Spec:=⟨_,(.pair .bool .unit),.unit,rfl,nm⟩
noncomputable def nD:FuncId→Option Spec:=aX [(144,lw),(271,xI)]
theorem CU:∀f s,nD f=some s→FnOK G0 Tryz.prog f s:=aw ⟨ct,JF,trivial⟩
def r4:aG:=⟨[0,3],(.pair (.list ak) (.pair (.int .i64) .unit)),0,[],.unit,[2],(.pair .bool .unit)⟩
def r5:aG:=⟨[0,3,4],(.pair (.list ak) ah),2,[0,3],(.pair (.list ak) (.pair (.int .i64) .unit)),[2],(.pair .bool .unit)⟩
noncomputable def nF:List a9z:=[r4.spec d8,r5.spec cL]
theorem BT:aU aV E0 nD (aR Tryz.f224 nF) Tryz.f224 0 r4 d8:=fun x=>by kernel_rfl
theorem BU:aU aV E0 nD (aR Tryz.f224 nF) Tryz.f224 1 r5 cL:=fun x=>by kernel_rfl
theorem Hu:FnOK G0 Tryz.prog 224 vI:=ax ai CU Tryz.func224 nF (by kernel_rfl) (by exact⟨(BT).lok,(BU).lok,trivial⟩) fun x=>by kernel_rfl
noncomputable def iw(x:(Ty.T (.pair (.list (.int .i64)) ah))):Option ((Ty.T (.pair (.list (.int .i64)) ah)) ⊕ ((Ty.T .unit) ⊕ (Ty.T (.pair .bool .unit)))):=
match(decide (x.2.2.1<(x.1.length:Int)))with
|true=>
 aa (au x.1 x.2.2.1) fun v1=>
 match(v1==x.2.1)with
 |true=>
  some (.inr (.inr (true,())))
 |false=>
  some (.inl (x.1,x.2.1,(IntKind.i64.wrap (x.2.2.1+(1:Int))),()))
|false=>
 some (.inr (.inl (())))
noncomputable def nG(x:Ty.T (.pair (.list (.int .i64)) (.pair (.int .i64) .unit))):Option (Ty.T (.pair .bool .unit)):=
match ac iw (x.1,x.2.1,(0:Int),())with
|none=>none
|some (.inl v2)=>
 some (false,())
|some (.inr v3)=>
 some (v3.1,())
noncomputable def zz:Spec:=⟨_,(.pair .bool .unit),.unit,rfl,nG⟩
noncomputable def Gd:FuncId→Option Spec:=aX []
theorem N6:∀f s,Gd f=some s→FnOK G0 Tryz.prog f s:=aw trivial
def CV:aG:=⟨[0,1,5],(.pair (.list (.int .i64)) ah),0,[],.unit,[4],(.pair .bool .unit)⟩
noncomputable def Ge:List a9z:=[CV.spec iw]
theorem LT:aU aV E0 Gd (aR Tryz.f105 Ge) Tryz.f105 0 CV iw:=fun x=>by kernel_rfl
theorem Gf:FnOK G0 Tryz.prog 105 zz:=ax ai N6 Tryz.func105 Ge (by kernel_rfl) (by exact⟨(LT).lok,trivial⟩) fun x=>by kernel_rfl
noncomputable def fX(x:(Ty.T (.pair (.list (.int .i64)) ah))):Option ((Ty.T (.pair (.list (.int .i64)) ah)) ⊕ ((Ty.T .unit) ⊕ (Ty.T (.pair .bool .unit)))):=
match(decide (x.2.2.1<(x.1.length:Int)))with
|true=>
 aa (au x.1 x.2.2.1) fun v1=>
 match bh (v1,(0:Int),(IntKind.i64.wrap (x.2.1-(1:Int))),())with
 |none=>none
 |some v2=>
 match(!v2.1)with
 |true=>
  some (.inr (.inr (false,())))
 |false=>
  match(decide (x.2.2.1>(0:Int)))with
  |true=>
   aa (au x.1 x.2.2.1) fun v3=>
   aa (au x.1 (IntKind.i64.wrap (x.2.2.1-(1:Int)))) fun v4=>
   match(decide (v3≤v4))with
   |true=>
    some (.inr (.inr (false,())))
   |false=>
    some (.inl (x.1,x.2.1,(IntKind.i64.wrap (x.2.2.1+(1:Int))),()))
  |false=>
   some (.inl (x.1,x.2.1,(IntKind.i64.wrap (x.2.2.1+(1:Int))),()))
|false=>
 some (.inr (.inl (())))
noncomputable def sR(x:Ty.T (.pair (.list (.int .i64)) (.pair (.int .i64) .unit))):Option (Ty.T (.pair .bool .unit)):=
match ac fX (x.1,x.2.1,(0:Int),())with
|none=>none
|some (.inl v5)=>
 some (true,())
|some (.inr v6)=>
 some (v6.1,())
noncomputable def CW:Spec:=⟨_,(.pair .bool .unit),.unit,rfl,sR⟩
noncomputable def Az:FuncId→Option Spec:=aX [(144,lw)]
theorem JG:∀f s,Az f=some s→FnOK G0 Tryz.prog f s:=aw ⟨ct,trivial⟩
def xJ:aG:=⟨[0,1,5],(.pair (.list (.int .i64)) ah),0,[],.unit,[4],(.pair .bool .unit)⟩
noncomputable def AA:List a9z:=[xJ.spec fX]
theorem Hv:aU aV E0 Az (aR Tryz.f272 AA) Tryz.f272 0 xJ fX:=fun x=>by kernel_rfl
theorem N7:FnOK G0 Tryz.prog 272 CW:=ax ai JG Tryz.func272 AA (by kernel_rfl) (by exact⟨(Hv).lok,trivial⟩) fun x=>by kernel_rfl
noncomputable def d9(x:(Ty.T (.pair (.list ao) (.pair (.int .i64) .unit)))):Option ((Ty.T (.pair (.list ao) (.pair (.int .i64) .unit))) ⊕ ((Ty.T .unit) ⊕ (Ty.T (.pair .bool .unit)))):=
match(decide (x.2.1<(x.1.length:Int)))with
|true=>
 aa (au x.1 x.2.1) fun v2=>
 match bh (v2.1,(1:Int),(8:Int),())with
 |none=>none
 |some v3=>
 match(!v3.1)with
 |true=>
  some (.inr (.inr (false,())))
 |false=>
  match bh (v2.2.1,(1:Int),(16:Int),())with
  |none=>none
  |some v4=>
  match(!v4.1)with
  |true=>
   some (.inr (.inr (false,())))
  |false=>
   match sR (v2.2.2.1,(x.1.length:Int),())with
   |none=>none
   |some v5=>
   match(!v5.1)with
   |true=>
    some (.inr (.inr (false,())))
   |false=>
    match nG (v2.2.2.1,x.2.1,())with
    |none=>none
    |some v6=>
    match v6.1 with
    |true=>
     some (.inr (.inr (false,())))
    |false=>
     some (.inl (x.1,(IntKind.i64.wrap (x.2.1+(1:Int))),()))
|false=>
 some (.inr (.inl (())))
noncomputable def nn(x:Ty.T (.pair (.list ao) .unit)):Option (Ty.T (.pair .bool .unit)):=
match bh ((x.1.length:Int),(1:Int),(16:Int),())with
|none=>none
|some v1=>
match(!v1.1)with
|true=>
 some (false,())
|false=>
 match ac d9 (x.1,(0:Int),())with
 |none=>none
 |some (.inl v7)=>
  some (true,())
 |some (.inr v8)=>
  some (v8.1,())
noncomputable def vJ:Spec:=⟨_,(.pair .bool .unit),.unit,rfl,nn⟩
noncomputable def ud:FuncId→Option Spec:=aX [(105,zz),(144,lw),(272,CW)]
theorem CX:∀f s,ud f=some s→FnOK G0 Tryz.prog f s:=aw ⟨Gf,ct,N7,trivial⟩
def r6:aG:=⟨[0,3],(.pair (.list ao) (.pair (.int .i64) .unit)),0,[],.unit,[2],(.pair .bool .unit)⟩
noncomputable def ue:List a9z:=[r6.spec d9]
theorem BV:aU aV E0 ud (aR Tryz.f225 ue) Tryz.f225 0 r6 d9:=fun x=>by kernel_rfl
theorem Hw:FnOK G0 Tryz.prog 225 vJ:=ax ai CX Tryz.func225 ue (by kernel_rfl) (by exact⟨(BV).lok,trivial⟩) fun x=>by kernel_rfl
noncomputable def qH(x:Ty.T (.pair (.int .i64) .unit)):Option (Ty.T (.pair .bool .unit)):=
match bh (x.1,(0:Int),(3:Int),())with
|none=>none
|some v1=>
some (v1.1,())
noncomputable def Sk:Spec:=⟨_,(.pair .bool .unit),.unit,rfl,qH⟩
theorem CY:FnOK G0 Tryz.prog 276 Sk:=aj ai (sg ct (aC)) Tryz.func276
noncomputable def qI(x:Ty.T ah):Option (Ty.T (.pair .bool .unit)):=
match(x.1==(0:Int))with
|true=>
 match bh (x.2.1,(0:Int),(32:Int),())with
 |none=>none
 |some v1=>
 some (v1.1,())
|false=>
 match(x.1==(2:Int))with
 |true=>
  match bh (x.2.1,(1:Int),(32:Int),())with
  |none=>none
  |some v2=>
  some (v2.1,())
 |false=>
  some ((x.2.1==(0:Int)),())
noncomputable def Sl:Spec:=⟨_,(.pair .bool .unit),.unit,rfl,qI⟩
theorem CZ:FnOK G0 Tryz.prog 277 Sl:=aj ai (sg ct (aC)) Tryz.func277
noncomputable def dS(x:Ty.T (.pair (.int .i64) .unit)):Option (Ty.T (.pair .bool .unit)):=
some ((x.1 != (0:Int)),())
noncomputable def Qa:Spec:=⟨_,(.pair .bool .unit),.unit,rfl,dS⟩
theorem iX:FnOK G0 Tryz.prog 195 Qa:=aj ai aC Tryz.func195
noncomputable def jW(x:Ty.T (.pair (.int .i64) .unit)):Option (Ty.T (.pair .bool .unit)):=
match(x.1==(0:Int))with
|true=>
 some (true,())
|false=>
 some ((x.1==(2:Int)),())
noncomputable def Sm:Spec:=⟨_,(.pair .bool .unit),.unit,rfl,jW⟩
theorem uf:FnOK G0 Tryz.prog 253 Sm:=aj ai aC Tryz.func253
noncomputable def np(x:Ty.T ah):Option (Ty.T (.pair (.int .i64) .unit)):=
match dS (x.1,())with
|none=>none
|some v1=>
match v1.1 with
|true=>
 match jW (x.1,())with
 |none=>none
 |some v2=>
 match v2.1 with
 |true=>
  some ((IntKind.i64.wrap ((IntKind.i64.wrap ((IntKind.i64.wrap ((1:Int)+(8:Int)))+(1:Int)))+x.2.1)),())
 |false=>
  some ((IntKind.i64.wrap ((1:Int)+(8:Int))),())
|false=>
 match jW (x.1,())with
 |none=>none
 |some v3=>
 match v3.1 with
 |true=>
  some ((IntKind.i64.wrap ((IntKind.i64.wrap ((1:Int)+(1:Int)))+x.2.1)),())
 |false=>
  some ((1:Int),())
noncomputable def JH:Spec:=⟨_,(.pair (.int .i64) .unit),.unit,rfl,np⟩
theorem Hx:FnOK G0 Tryz.prog 305 JH:=aj ai (sg iX (sg uf (aC))) Tryz.func305
noncomputable def oT(x:Ty.T ah):Option (Ty.T (.pair (.int .i64) .unit)):=
match np (x.1,x.2.1,())with
|none=>none
|some v1=>
some ((IntKind.i64.wrap ((11:Int)+(IntKind.i64.wrap ((10:Int)*(IntKind.i64.wrap (v1.1+(3:Int))))))),())
noncomputable def Qb:Spec:=⟨_,(.pair (.int .i64) .unit),.unit,rfl,oT⟩
theorem N8:FnOK G0 Tryz.prog 278 Qb:=aj ai (sg Hx (aC)) Tryz.func278
noncomputable def dU(x:Ty.T (.pair a7 .unit)):Option (Ty.T (.pair .bool .unit)):=
match qG (x.1.1,())with
|none=>none
|some v1=>
match(!v1.1)with
|true=>
 some (false,())
|false=>
 match qH (x.1.2.1,())with
 |none=>none
 |some v2=>
 match(!v2.1)with
 |true=>
  some (false,())
 |false=>
  match qI (x.1.2.1,x.1.2.2.1,())with
  |none=>none
  |some v3=>
  match(!v3.1)with
  |true=>
   some (false,())
  |false=>
   match(x.1.2.1==(3:Int))with
   |true=>
    match x.1.2.2.2.2.1 with
    |true=>
     some (false,())
    |false=>
     match oT (x.1.2.1,x.1.2.2.1,())with
     |none=>none
     |some v4=>
     match bh (x.1.2.2.2.1,(IntKind.i64.wrap (v4.1+(20:Int))),(1000:Int),())with
     |none=>none
     |some v5=>
     some (v5.1,())
   |false=>
    match oT (x.1.2.1,x.1.2.2.1,())with
    |none=>none
    |some v6=>
    match bh (x.1.2.2.2.1,(IntKind.i64.wrap (v6.1+(20:Int))),(1000:Int),())with
    |none=>none
    |some v7=>
    some (v7.1,())
noncomputable def Hy:Spec:=⟨_,(.pair .bool .unit),.unit,rfl,dU⟩
theorem r7:FnOK G0 Tryz.prog 232 Hy:=aj ai (sg ct (sg CQ (sg CY (sg CZ (sg N8 (aC)))))) Tryz.func232
noncomputable def EW(x:Ty.T (.pair ag .unit)):Option (Ty.T (.pair .bool .unit)):=
match bh (x.1.1,(0:Int),(15:Int),())with
|none=>none
|some v1=>
match v1.1 with
|true=>
 match bh (x.1.2.1,(0:Int),(7:Int),())with
 |none=>none
 |some v2=>
 match v2.1 with
 |true=>
  match bh (x.1.2.2.1,(0:Int),(15:Int),())with
  |none=>none
  |some v3=>
  match v3.1 with
  |true=>
   match dU ((x.1.2.2.2.1.1,x.1.2.2.2.1.2.1,x.1.2.2.2.1.2.2.1,x.1.2.2.2.1.2.2.2.1,x.1.2.2.2.1.2.2.2.2.1,()),())with
   |none=>none
   |some v4=>
   some (v4.1,())
  |false=>
   some (false,())
 |false=>
  some (false,())
|false=>
 some (false,())
noncomputable def NB:Spec:=⟨_,(.pair .bool .unit),.unit,rfl,EW⟩
theorem UW:FnOK G0 Tryz.prog 273 NB:=aj ai (sg ct (sg r7 (aC))) Tryz.func273
noncomputable def bU(x:(Ty.T (.pair (.own 2 (.int .i64)) (.pair (.own 2 (.int .i64)) (.pair (.int .i64) .unit))))):Option ((Ty.T (.pair (.own 2 (.int .i64)) (.pair (.own 2 (.int .i64)) (.pair (.int .i64) .unit)))) ⊕ ((Ty.T .unit) ⊕ (Ty.T (.pair (.int .i64) .unit)))):=
match(decide (x.2.2.1<(3:Int)))with
|true=>
 aa (au x.1 x.2.2.1) fun _=>
 match x.1[x.2.2.1.toNat]? with
 |none=>none
 |some v2=>
 aa (au x.2.1 x.2.2.1) fun _=>
 match x.2.1[x.2.2.1.toNat]? with
 |none=>none
 |some v4=>
 match(decide (v2<v4))with
 |true=>
  some (.inr (.inr ((-1:Int),())))
 |false=>
  aa (au x.1 x.2.2.1) fun _=>
  match x.1[x.2.2.1.toNat]? with
  |none=>none
  |some v6=>
  aa (au x.2.1 x.2.2.1) fun _=>
  match x.2.1[x.2.2.1.toNat]? with
  |none=>none
  |some v8=>
  match(decide (v6>v8))with
  |true=>
   some (.inr (.inr ((1:Int),())))
  |false=>
   some (.inl (x.1,x.2.1,(IntKind.i64.wrap (x.2.2.1+(1:Int))),()))
|false=>
 some (.inr (.inl (())))
noncomputable def me(x:Ty.T (.pair ag (.pair ag .unit))):Option (Ty.T (.pair (.int .i64) .unit)):=
bf (
 match ac bU ([x.1.1,x.1.2.1,x.1.2.2.1],[x.2.1.1,x.2.1.2.1,x.2.1.2.2.1],(0:Int),())with
 |none=>none
 |some (.inl v9)=>
  some ((0:Int),())
 |some (.inr v10)=>
  some (v10.1,())) (
 match ac bU ([x.1.1,x.1.2.1,x.1.2.2.1],[x.2.1.1,x.2.1.2.1,x.2.1.2.2.1],(0:Int),())with
 |none=>none
 |some (.inl v1)=>
  some ((0:Int),())
 |some (.inr v2)=>
  some (v2.1,()))
noncomputable def ug:Spec:=⟨_,(.pair (.int .i64) .unit),.unit,rfl,me⟩
noncomputable def r8:FuncId→Option Spec:=aX []
theorem BW:∀f s,r8 f=some s→FnOK G0 Tryz.prog f s:=aw trivial
def qJ:aG:=⟨[5,6,7],(.pair (.own 2 (.int .i64)) (.pair (.own 2 (.int .i64)) (.pair (.int .i64) .unit))),0,[],.unit,[4],(.pair (.int .i64) .unit)⟩
noncomputable def r9:List a9z:=[qJ.spec bU]
theorem zA:aU aV E0 r8 (aR Tryz.f274 r9) Tryz.f274 0 qJ bU:=fun x=>by kernel_rfl
theorem Fj:FnOK G0 Tryz.prog 274 ug:=ax ai BW Tryz.func274 r9 (by kernel_rfl) (by exact⟨(zA).lok,trivial⟩) fun x=>by kernel_rfl
noncomputable def ef(x:(Ty.T (.pair (.list ag) (.pair (.int .i64) .unit)))):Option ((Ty.T (.pair (.list ag) (.pair (.int .i64) .unit))) ⊕ ((Ty.T .unit) ⊕ (Ty.T (.pair .bool .unit)))):=
match(decide (x.2.1<(x.1.length:Int)))with
|true=>
 aa (au x.1 x.2.1) fun v1=>
 match EW (v1,())with
 |none=>none
 |some v2=>
 match(!v2.1)with
 |true=>
  some (.inr (.inr (false,())))
 |false=>
  match(decide (x.2.1>(0:Int)))with
  |true=>
   aa (au x.1 (IntKind.i64.wrap (x.2.1-(1:Int)))) fun v3=>
   aa (au x.1 x.2.1) fun v4=>
   match me (v3,v4,())with
   |none=>none
   |some v5=>
   match(decide (v5.1≥(0:Int)))with
   |true=>
    some (.inr (.inr (false,())))
   |false=>
    some (.inl (x.1,(IntKind.i64.wrap (x.2.1+(1:Int))),()))
  |false=>
   some (.inl (x.1,(IntKind.i64.wrap (x.2.1+(1:Int))),()))
|false=>
 some (.inr (.inl (())))
noncomputable def nq(x:Ty.T (.pair (.list ag) .unit)):Option (Ty.T (.pair .bool .unit)):=
match(decide ((x.1.length:Int)>(120:Int)))with
|true=>
 some (false,())
|false=>
 match ac ef (x.1,(0:Int),())with
 |none=>none
 |some (.inl v6)=>
  some (true,())
 |some (.inr v7)=>
  some (v7.1,())
noncomputable def vK:Spec:=⟨_,(.pair .bool .unit),.unit,rfl,nq⟩
noncomputable def uh:FuncId→Option Spec:=aX [(273,NB),(274,ug)]
theorem C0:∀f s,uh f=some s→FnOK G0 Tryz.prog f s:=aw ⟨UW,Fj,trivial⟩
def sd:aG:=⟨[0,3],(.pair (.list ag) (.pair (.int .i64) .unit)),0,[],.unit,[2],(.pair .bool .unit)⟩
noncomputable def ui:List a9z:=[sd.spec ef]
theorem BX:aU aV E0 uh (aR Tryz.f226 ui) Tryz.f226 0 sd ef:=fun x=>by kernel_rfl
theorem Hz:FnOK G0 Tryz.prog 226 vK:=ax ai C0 Tryz.func226 ui (by kernel_rfl) (by exact⟨(BX).lok,trivial⟩) fun x=>by kernel_rfl
noncomputable def gM(x:(Ty.T (.pair (.list ag) al))):Option ((Ty.T (.pair (.list ag) al)) ⊕ ((Ty.T .unit) ⊕ (Ty.T (.pair (.int .i64) .unit)))):=
match(decide (x.2.2.2.2.1<(x.1.length:Int)))with
|true=>
 aa (au x.1 x.2.2.2.2.1) fun v1=>
 match(v1.1==x.2.1)with
 |true=>
  aa (au x.1 x.2.2.2.2.1) fun v2=>
  match(v2.2.1==x.2.2.1)with
  |true=>
   aa (au x.1 x.2.2.2.2.1) fun v3=>
   match(v3.2.2.1==x.2.2.2.1)with
   |true=>
    some (.inr (.inr (x.2.2.2.2.1,())))
   |false=>
    some (.inl (x.1,x.2.1,x.2.2.1,x.2.2.2.1,(IntKind.i64.wrap (x.2.2.2.2.1+(1:Int))),()))
  |false=>
   some (.inl (x.1,x.2.1,x.2.2.1,x.2.2.2.1,(IntKind.i64.wrap (x.2.2.2.2.1+(1:Int))),()))
 |false=>
  some (.inl (x.1,x.2.1,x.2.2.1,x.2.2.2.1,(IntKind.i64.wrap (x.2.2.2.2.1+(1:Int))),()))
|false=>
 some (.inr (.inl (())))
noncomputable def qK(x:Ty.T (.pair (.list ag) (.pair (.int .i64) ah))):Option (Ty.T (.pair (.int .i64) .unit)):=
match ac gM (x.1,x.2.1,x.2.2.1,x.2.2.2.1,(0:Int),())with
|none=>none
|some (.inl v4)=>
 some ((-1:Int),())
|some (.inr v5)=>
 some (v5.1,())
noncomputable def Gg:Spec:=⟨_,(.pair (.int .i64) .unit),.unit,rfl,qK⟩
noncomputable def C1:FuncId→Option Spec:=aX []
theorem LU:∀f s,C1 f=some s→FnOK G0 Tryz.prog f s:=aw trivial
def AB:aG:=⟨[0,1,2,3,9],(.pair (.list ag) al),0,[],.unit,[8],(.pair (.int .i64) .unit)⟩
noncomputable def C2:List a9z:=[AB.spec gM]
theorem JI:aU aV E0 C1 (aR Tryz.f118 C2) Tryz.f118 0 AB gM:=fun x=>by kernel_rfl
theorem C3:FnOK G0 Tryz.prog 118 Gg:=ax ai LU Tryz.func118 C2 (by kernel_rfl) (by exact⟨(JI).lok,trivial⟩) fun x=>by kernel_rfl
noncomputable def eg(x:(Ty.T (.pair (.box ae) al))):Option ((Ty.T (.pair (.box ae) al)) ⊕ ((Ty.T (.pair (.box ae) (.pair (.int .i64) ah))) ⊕ (Ty.T (.pair .bool .unit)))):=
aa (au x.1.2.2.1 x.2.2.1) fun v2=>
match(decide (x.2.2.2.2.1<v2.2.1))with
|true=>
 match qK (x.1.2.2.2.1,x.2.2.1,x.2.2.2.1,x.2.2.2.2.1,())with
 |none=>none
 |some v3=>
 match(decide (v3.1<(0:Int)))with
 |true=>
  some (.inr (.inr (false,())))
 |false=>
  some (.inl ((x.1.1,x.1.2.1,x.1.2.2.1,x.1.2.2.2.1,()),(IntKind.i64.wrap (x.2.1+(1:Int))),x.2.2.1,x.2.2.2.1,(IntKind.i64.wrap (x.2.2.2.2.1+(1:Int))),()))
|false=>
 some (.inr (.inl ((x.1.1,x.1.2.1,x.1.2.2.1,x.1.2.2.2.1,()),x.2.1,x.2.2.1,x.2.2.2.1,())))
noncomputable def eh(x:(Ty.T (.pair (.box ae) (.pair (.int .i64) ah)))):Option ((Ty.T (.pair (.box ae) (.pair (.int .i64) ah))) ⊕ ((Ty.T (.pair (.box ae) ah)) ⊕ (Ty.T (.pair .bool .unit)))):=
aa (au x.1.2.2.1 x.2.2.1) fun v1=>
match(decide (x.2.2.2.1<v1.1))with
|true=>
 match ac eg ((x.1.1,x.1.2.1,x.1.2.2.1,x.1.2.2.2.1,()),x.2.1,x.2.2.1,x.2.2.2.1,(0:Int),())with
 |none=>none
 |some (.inl v2)=>
  some (.inl ((v2.1.1,v2.1.2.1,v2.1.2.2.1,v2.1.2.2.2.1,()),v2.2.1,v2.2.2.1,(IntKind.i64.wrap (v2.2.2.2.1+(1:Int))),()))
 |some (.inr v3)=>
  some (.inr (.inr (v3.1,())))
|false=>
 some (.inr (.inl ((x.1.1,x.1.2.1,x.1.2.2.1,x.1.2.2.2.1,()),x.2.1,x.2.2.1,())))
noncomputable def cM(x:(Ty.T (.pair (.box ae) ah))):Option ((Ty.T (.pair (.box ae) ah)) ⊕ ((Ty.T (.pair (.box ae) (.pair (.int .i64) .unit))) ⊕ (Ty.T (.pair .bool .unit)))):=
match(decide (x.2.2.1<(x.1.2.2.1.length:Int)))with
|true=>
 match ac eh ((x.1.1,x.1.2.1,x.1.2.2.1,x.1.2.2.2.1,()),x.2.1,x.2.2.1,(0:Int),())with
 |none=>none
 |some (.inl v1)=>
  some (.inl ((v1.1.1,v1.1.2.1,v1.1.2.2.1,v1.1.2.2.2.1,()),v1.2.1,(IntKind.i64.wrap (v1.2.2.1+(1:Int))),()))
 |some (.inr v2)=>
  some (.inr (.inr (v2.1,())))
|false=>
 some (.inr (.inl ((x.1.1,x.1.2.1,x.1.2.2.1,x.1.2.2.2.1,()),x.2.1,())))
noncomputable def kA(x:Ty.T (.pair ae .unit)):Option (Ty.T (.pair .bool .unit)):=
match ac cM ((x.1.1,x.1.2.1,x.1.2.2.1,x.1.2.2.2.1,()),(0:Int),(0:Int),())with
|none=>none
|some (.inl v3)=>
 some ((v3.2.1==(v3.1.2.2.2.1.length:Int)),())
|some (.inr v4)=>
 some (v4.1,())
noncomputable def vL:Spec:=⟨_,(.pair .bool .unit),.unit,rfl,kA⟩
noncomputable def kj:FuncId→Option Spec:=aX [(118,Gg)]
theorem C4:∀f s,kj f=some s→FnOK G0 Tryz.prog f s:=aw ⟨C3,trivial⟩
def se:aG:=⟨[1,3,4],(.pair (.box ae) ah),0,[1,3],(.pair (.box ae) (.pair (.int .i64) .unit)),[2],(.pair .bool .unit)⟩
def sf:aG:=⟨[1,3,4,5],(.pair (.box ae) (.pair (.int .i64) ah)),2,[1,3,4],(.pair (.box ae) ah),[2],(.pair .bool .unit)⟩
def sh:aG:=⟨[1,3,4,5,6],(.pair (.box ae) al),4,[1,3,4,5],(.pair (.box ae) (.pair (.int .i64) ah)),[2],(.pair .bool .unit)⟩
noncomputable def kk:List a9z:=[se.spec cM,sf.spec eh,sh.spec eg]
theorem BZ:aU aV E0 kj (aR Tryz.f227 kk) Tryz.f227 0 se cM:=fun x=>by kernel_rfl
theorem B0:aU aV E0 kj (aR Tryz.f227 kk) Tryz.f227 1 sf eh:=fun x=>by kernel_rfl
theorem B1:aU aV E0 kj (aR Tryz.f227 kk) Tryz.f227 2 sh eg:=fun x=>by kernel_rfl
theorem HA:FnOK G0 Tryz.prog 227 vL:=ax ai C4 Tryz.func227 kk (by kernel_rfl) (by exact⟨(BZ).lok,(B0).lok,(B1).lok,trivial⟩) fun x=>by kernel_rfl
noncomputable def lx(x:Ty.T ah):Option (Ty.T (.pair .bool .unit)):=
if(IntKind.u64.wrap x.2.1)<0 then none else
some (((bits BinOp.and .i64 (Int.fdiv x.1 (2^min (IntKind.u64.wrap x.2.1).toNat IntKind.i64.bits)) (1:Int))==(1:Int)),())
noncomputable def zB:Spec:=⟨_,(.pair .bool .unit),.unit,rfl,lx⟩
theorem wW:FnOK G0 Tryz.prog 150 zB:=aj ai aC Tryz.func150
noncomputable def ix(x:Ty.T (.pair (.int .i64) (.pair (.int .i64) (.pair .bool .unit)))):Option (Ty.T (.pair (.int .i64) .unit)):=
match lx (x.1,x.2.1,())with
|none=>none
|some v1=>
match(v1.1==x.2.2.1)with
|true=>
 some (x.1,())
|false=>
 if(IntKind.u64.wrap x.2.1)<0 then none else
 some ((bits BinOp.xor .i64 x.1 (IntKind.i64.wrap ((1:Int)*2^min (IntKind.u64.wrap x.2.1).toNat IntKind.i64.bits))),())
noncomputable def zC:Spec:=⟨_,(.pair (.int .i64) .unit),.unit,rfl,ix⟩
theorem wX:FnOK G0 Tryz.prog 109 zC:=aj ai (sg wW (aC)) Tryz.func109
noncomputable def fi(x:(Ty.T (.pair (.list ak) ah))):Option ((Ty.T (.pair (.list ak) ah)) ⊕ ((Ty.T (.pair (.int .i64) .unit)) ⊕ (Ty.T .unit))):=
match(decide (x.2.2.1<(x.1.length:Int)))with
|true=>
 aa (au x.1 x.2.2.1) fun v1=>
 match(!v1.2.2.2.1)with
 |true=>
  aa (au x.1 x.2.2.1) fun v2=>
  match ix (x.2.1,v2.1,true,())with
  |none=>none
  |some v3=>
  some (.inl (x.1,v3.1,(IntKind.i64.wrap (x.2.2.1+(1:Int))),()))
 |false=>
  some (.inl (x.1,x.2.1,(IntKind.i64.wrap (x.2.2.1+(1:Int))),()))
|false=>
 some (.inr (.inl (x.2.1,())))
noncomputable def kQ(x:Ty.T (.pair (.list ak) .unit)):Option (Ty.T (.pair (.int .i64) .unit)):=
match ac fi (x.1,(0:Int),(0:Int),())with
|none=>none
|some (.inl v4)=>
 some (v4.1,())
|some (.inr v6)=>
 none
noncomputable def rE:Spec:=⟨_,(.pair (.int .i64) .unit),.unit,rfl,kQ⟩
noncomputable def xK:FuncId→Option Spec:=aX [(109,zC)]
theorem HB:∀f s,xK f=some s→FnOK G0 Tryz.prog f s:=aw ⟨wX,trivial⟩
def vM:aG:=⟨[0,3,4],(.pair (.list ak) ah),0,[3],(.pair (.int .i64) .unit),[],.unit⟩
noncomputable def xL:List a9z:=[vM.spec fi]
theorem Fk:aU aV E0 xK (aR Tryz.f194 xL) Tryz.f194 0 vM fi:=fun x=>by kernel_rfl
theorem p4:FnOK G0 Tryz.prog 194 rE:=ax ai HB Tryz.func194 xL (by kernel_rfl) (by exact⟨(Fk).lok,trivial⟩) fun x=>by kernel_rfl
noncomputable def eP(x:(Ty.T (.pair (.box ae) ah))):Option ((Ty.T (.pair (.box ae) ah)) ⊕ ((Ty.T .unit) ⊕ (Ty.T (.pair .bool .unit)))):=
match(decide (x.2.2.1<(x.1.2.2.2.1.length:Int)))with
|true=>
 aa (au x.1.2.2.2.1 x.2.2.1) fun v2=>
 match lx (x.2.1,v2.2.2.2.1.1,())with
 |none=>none
 |some v3=>
 match(!v3.1)with
 |true=>
  some (.inr (.inr (false,())))
 |false=>
  some (.inl ((x.1.1,x.1.2.1,x.1.2.2.1,x.1.2.2.2.1,()),x.2.1,(IntKind.i64.wrap (x.2.2.1+(1:Int))),()))
|false=>
 some (.inr (.inl (())))
noncomputable def ly(x:Ty.T (.pair ae .unit)):Option (Ty.T (.pair .bool .unit)):=
match kQ (x.1.2.1,())with
|none=>none
|some v1=>
match ac eP ((x.1.1,x.1.2.1,x.1.2.2.1,x.1.2.2.2.1,()),v1.1,(0:Int),())with
|none=>none
|some (.inl v4)=>
 some (true,())
|some (.inr v5)=>
 some (v5.1,())
noncomputable def xM:Spec:=⟨_,(.pair .bool .unit),.unit,rfl,ly⟩
noncomputable def vN:FuncId→Option Spec:=aX [(150,zB),(194,rE)]
theorem Fl:∀f s,vN f=some s→FnOK G0 Tryz.prog f s:=aw ⟨wW,p4,trivial⟩
def uj:aG:=⟨[1,3,4],(.pair (.box ae) ah),0,[],.unit,[2],(.pair .bool .unit)⟩
noncomputable def vO:List a9z:=[uj.spec eP]
theorem C5:aU aV E0 vN (aR Tryz.f228 vO) Tryz.f228 0 uj eP:=fun x=>by kernel_rfl
theorem JJ:FnOK G0 Tryz.prog 228 xM:=ax ai Fl Tryz.func228 vO (by kernel_rfl) (by exact⟨(C5).lok,trivial⟩) fun x=>by kernel_rfl
noncomputable def dD(x:(Ty.T (.pair (.ptr ae) ah))):Option ((Ty.T (.pair (.ptr ae) ah)) ⊕ ((Ty.T (.pair (.ptr ae) (.pair (.int .i64) .unit))) ⊕ (Ty.T (.pair .bool .unit)))):=
match(decide (x.2.2.1<x.2.1))with
|true=>
 aa (au x.1.2.2.2.1 x.2.1) fun v1=>
 aa (au x.1.2.2.2.1 x.2.2.1) fun v2=>
 ba (
  match(v1.1==v2.1)with
  |true=>
   match(v1.2.2.1==v2.2.2.1)with
   |true=>
    match(v1.2.2.2.1.2.2.2.1 != v2.2.2.2.1.2.2.2.1)with
    |true=>
     some (.inr (.inr (false,())))
    |false=>
     some (.inl (x.1,x.2.1,(IntKind.i64.wrap (x.2.2.1+(1:Int))),()))
   |false=>
    some (.inl (x.1,x.2.1,(IntKind.i64.wrap (x.2.2.1+(1:Int))),()))
  |false=>
   some (.inl (x.1,x.2.1,(IntKind.i64.wrap (x.2.2.1+(1:Int))),())))
|false=>
 some (.inr (.inl (x.1,x.2.1,())))
noncomputable def dE(x:(Ty.T (.pair (.ptr ae) (.pair (.int .i64) .unit)))):Option ((Ty.T (.pair (.ptr ae) (.pair (.int .i64) .unit))) ⊕ ((Ty.T .unit) ⊕ (Ty.T (.pair .bool .unit)))):=
match(decide (x.2.1<(x.1.2.2.2.1.length:Int)))with
|true=>
 match ac dD (x.1,x.2.1,(0:Int),())with
 |none=>none
 |some (.inl v1)=>
  some (.inl (v1.1,(IntKind.i64.wrap (v1.2.1+(1:Int))),()))
 |some (.inr v2)=>
  some (.inr (.inr (v2.1,())))
|false=>
 some (.inr (.inl (())))
noncomputable def jF(x:Ty.T (.pair ae .unit)):Option (Ty.T (.pair .bool .unit)):=
match ac dE ((x.1.1,x.1.2.1,x.1.2.2.1,x.1.2.2.2.1,()),(0:Int),())with
|none=>none
|some (.inl v3)=>
 some (true,())
|some (.inr v4)=>
 some (v4.1,())
noncomputable def uk:Spec:=⟨_,(.pair .bool .unit),.unit,rfl,jF⟩
noncomputable def mH:FuncId→Option Spec:=aX []
theorem B2:∀f s,mH f=some s→FnOK G0 Tryz.prog f s:=aw trivial
def qL:aG:=⟨[1,3],(.pair (.ptr ae) (.pair (.int .i64) .unit)),0,[],.unit,[2],(.pair .bool .unit)⟩
def qM:aG:=⟨[1,3,4],(.pair (.ptr ae) ah),2,[1,3],(.pair (.ptr ae) (.pair (.int .i64) .unit)),[2],(.pair .bool .unit)⟩
noncomputable def mI:List a9z:=[qL.spec dE,qM.spec dD]
theorem zD:aU aV E0 mH (aR Tryz.f229 mI) Tryz.f229 0 qL dE:=fun x=>by kernel_rfl
theorem zE:aU aV E0 mH (aR Tryz.f229 mI) Tryz.f229 1 qM dD:=fun x=>by kernel_rfl
theorem Fm:FnOK G0 Tryz.prog 229 uk:=ax ai B2 Tryz.func229 mI (by kernel_rfl) (by exact⟨(zD).lok,(zE).lok,trivial⟩) fun x=>by kernel_rfl
noncomputable def fY(x:(Ty.T (.pair (.int .i64) (.pair (.box ae) ah)))):Option ((Ty.T (.pair (.int .i64) (.pair (.box ae) ah))) ⊕ ((Ty.T (.pair (.int .i64) .unit)) ⊕ (Ty.T .unit))):=
match(decide (x.2.2.2.1<(x.2.1.2.2.2.1.length:Int)))with
|true=>
 aa (au x.2.1.2.2.2.1 x.2.2.2.1) fun v1=>
 match(v1.1==x.1)with
 |true=>
  aa (au x.2.1.2.2.2.1 x.2.2.2.1) fun v2=>
  some (.inl (x.1,(x.2.1.1,x.2.1.2.1,x.2.1.2.2.1,x.2.1.2.2.2.1,()),(IntKind.i64.wrap (x.2.2.1+v2.2.2.2.1.2.2.2.1)),(IntKind.i64.wrap (x.2.2.2.1+(1:Int))),()))
 |false=>
  some (.inl (x.1,(x.2.1.1,x.2.1.2.1,x.2.1.2.2.1,x.2.1.2.2.2.1,()),x.2.2.1,(IntKind.i64.wrap (x.2.2.2.1+(1:Int))),()))
|false=>
 some (.inr (.inl (x.2.2.1,())))
noncomputable def oU(x:Ty.T (.pair ae (.pair (.int .i64) .unit))):Option (Ty.T (.pair (.int .i64) .unit)):=
match ac fY (x.2.1,(x.1.1,x.1.2.1,x.1.2.2.1,x.1.2.2.2.1,()),(0:Int),(0:Int),())with
|none=>none
|some (.inl v3)=>
 some (v3.1,())
|some (.inr v5)=>
 none
noncomputable def C6:Spec:=⟨_,(.pair (.int .i64) .unit),.unit,rfl,oU⟩
noncomputable def AC:FuncId→Option Spec:=aX []
theorem JK:∀f s,AC f=some s→FnOK G0 Tryz.prog f s:=aw trivial
def xN:aG:=⟨[1,2,5,6],(.pair (.int .i64) (.pair (.box ae) ah)),0,[5],(.pair (.int .i64) .unit),[],.unit⟩
noncomputable def AD:List a9z:=[xN.spec fY]
theorem HD:aU aV E0 AC (aR Tryz.f230 AD) Tryz.f230 0 xN fY:=fun x=>by kernel_rfl
theorem N9:FnOK G0 Tryz.prog 230 C6:=ax ai JK Tryz.func230 AD (by kernel_rfl) (by exact⟨(HD).lok,trivial⟩) fun x=>by kernel_rfl
noncomputable def c7(x:(Ty.T (.pair (.box ae) ab))):Option ((Ty.T (.pair (.box ae) ab)) ⊕ ((Ty.T (.pair (.box ae) al)) ⊕ (Ty.T .unit))):=
match(decide (x.2.2.2.2.2.1<(x.1.2.2.2.1.length:Int)))with
|true=>
 aa (au x.1.2.2.2.1 x.2.2.2.2.2.1) fun v3=>
 match(v3.1==x.2.2.1)with
 |true=>
  aa (au x.1.2.2.2.1 x.2.2.2.2.2.1) fun v4=>
  match(v4.2.1==x.2.2.2.1)with
  |true=>
   aa (au x.1.2.2.2.1 x.2.2.2.2.2.1) fun v5=>
   match ix (x.2.2.2.2.1,v5.2.2.2.1.1,true,())with
   |none=>none
   |some v6=>
   some (.inl ((x.1.1,x.1.2.1,x.1.2.2.1,x.1.2.2.2.1,()),x.2.1,x.2.2.1,x.2.2.2.1,v6.1,(IntKind.i64.wrap (x.2.2.2.2.2.1+(1:Int))),()))
  |false=>
   some (.inl ((x.1.1,x.1.2.1,x.1.2.2.1,x.1.2.2.2.1,()),x.2.1,x.2.2.1,x.2.2.2.1,x.2.2.2.2.1,(IntKind.i64.wrap (x.2.2.2.2.2.1+(1:Int))),()))
 |false=>
  some (.inl ((x.1.1,x.1.2.1,x.1.2.2.1,x.1.2.2.2.1,()),x.2.1,x.2.2.1,x.2.2.2.1,x.2.2.2.2.1,(IntKind.i64.wrap (x.2.2.2.2.2.1+(1:Int))),()))
|false=>
 some (.inr (.inl ((x.1.1,x.1.2.1,x.1.2.2.1,x.1.2.2.2.1,()),x.2.1,x.2.2.1,x.2.2.2.1,x.2.2.2.2.1,())))
noncomputable def ex(x:(Ty.T (.pair (.box ae) (.pair (.int .i64) ah)))):Option ((Ty.T (.pair (.box ae) (.pair (.int .i64) ah))) ⊕ ((Ty.T (.pair (.box ae) ah)) ⊕ (Ty.T (.pair .bool .unit)))):=
aa (au x.1.2.2.1 x.2.2.1) fun v2=>
match(decide (x.2.2.2.1<v2.1))with
|true=>
 match ac c7 ((x.1.1,x.1.2.1,x.1.2.2.1,x.1.2.2.2.1,()),x.2.1,x.2.2.1,x.2.2.2.1,(0:Int),(0:Int),())with
 |none=>none
 |some (.inl v3)=>
  match(v3.2.2.2.2.1 != v3.2.1)with
  |true=>
   some (.inr (.inr (false,())))
  |false=>
   some (.inl ((v3.1.1,v3.1.2.1,v3.1.2.2.1,v3.1.2.2.2.1,()),v3.2.1,v3.2.2.1,(IntKind.i64.wrap (v3.2.2.2.1+(1:Int))),()))
 |some (.inr v5)=>
  none
|false=>
 some (.inr (.inl ((x.1.1,x.1.2.1,x.1.2.2.1,x.1.2.2.2.1,()),x.2.1,x.2.2.1,())))
noncomputable def fj(x:(Ty.T (.pair (.box ae) ah))):Option ((Ty.T (.pair (.box ae) ah)) ⊕ ((Ty.T .unit) ⊕ (Ty.T (.pair .bool .unit)))):=
match(decide (x.2.2.1<(x.1.2.2.1.length:Int)))with
|true=>
 match ac ex ((x.1.1,x.1.2.1,x.1.2.2.1,x.1.2.2.2.1,()),x.2.1,x.2.2.1,(0:Int),())with
 |none=>none
 |some (.inl v2)=>
  some (.inl ((v2.1.1,v2.1.2.1,v2.1.2.2.1,v2.1.2.2.2.1,()),v2.2.1,(IntKind.i64.wrap (v2.2.2.1+(1:Int))),()))
 |some (.inr v3)=>
  some (.inr (.inr (v3.1,())))
|false=>
 some (.inr (.inl (())))
noncomputable def mW(x:Ty.T (.pair ae .unit)):Option (Ty.T (.pair .bool .unit)):=
match kQ (x.1.2.1,())with
|none=>none
|some v1=>
match ac fj ((x.1.1,x.1.2.1,x.1.2.2.1,x.1.2.2.2.1,()),v1.1,(0:Int),())with
|none=>none
|some (.inl v4)=>
 some (true,())
|some (.inr v5)=>
 some (v5.1,())
noncomputable def AE:Spec:=⟨_,(.pair .bool .unit),.unit,rfl,mW⟩
noncomputable def mf:FuncId→Option Spec:=aX [(109,zC),(194,rE)]
theorem HE:∀f s,mf f=some s→FnOK G0 Tryz.prog f s:=aw ⟨wX,p4,trivial⟩
def vP:aG:=⟨[1,3,4],(.pair (.box ae) ah),0,[],.unit,[2],(.pair .bool .unit)⟩
def vQ:aG:=⟨[1,3,4,5],(.pair (.box ae) (.pair (.int .i64) ah)),2,[1,3,4],(.pair (.box ae) ah),[2],(.pair .bool .unit)⟩
def ul:aG:=⟨[1,3,4,5,6,7],(.pair (.box ae) ab),4,[1,3,4,5,6],(.pair (.box ae) al),[],.unit⟩
noncomputable def mg:List a9z:=[vP.spec fj,vQ.spec ex,ul.spec c7]
theorem Fo:aU aV E0 mf (aR Tryz.f231 mg) Tryz.f231 0 vP fj:=fun x=>by kernel_rfl
theorem Fp:aU aV E0 mf (aR Tryz.f231 mg) Tryz.f231 1 vQ ex:=fun x=>by kernel_rfl
theorem C7:aU aV E0 mf (aR Tryz.f231 mg) Tryz.f231 2 ul c7:=fun x=>by kernel_rfl
theorem LV:FnOK G0 Tryz.prog 231 AE:=ax ai HE Tryz.func231 mg (by kernel_rfl) (by exact⟨(Fo).lok,(Fp).lok,(C7).lok,trivial⟩) fun x=>by kernel_rfl
noncomputable def dm(x:(Ty.T (.pair (.box ae) (.pair (.int .i64) .unit)))):Option ((Ty.T (.pair (.box ae) (.pair (.int .i64) .unit))) ⊕ ((Ty.T (.pair (.box ae) .unit)) ⊕ (Ty.T (.pair (.int .i64) .unit)))):=
match(decide (x.2.1<(x.1.2.2.1.length:Int)))with
|true=>
 match oU ((x.1.1,x.1.2.1,x.1.2.2.1,x.1.2.2.2.1,()),x.2.1,())with
 |none=>none
 |some v8=>
 match(decide (v8.1>(32000:Int)))with
 |true=>
  some (.inr (.inr ((8:Int),())))
 |false=>
  some (.inl ((x.1.1,x.1.2.1,x.1.2.2.1,x.1.2.2.2.1,()),(IntKind.i64.wrap (x.2.1+(1:Int))),()))
|false=>
 some (.inr (.inl ((x.1.1,x.1.2.1,x.1.2.2.1,x.1.2.2.2.1,()),())))
noncomputable def cN(x:(Ty.T (.pair (.box ae) (.pair (.int .i64) .unit)))):Option ((Ty.T (.pair (.box ae) (.pair (.int .i64) .unit))) ⊕ ((Ty.T .unit) ⊕ (Ty.T (.pair (.int .i64) .unit)))):=
match(decide (x.2.1<(x.1.2.2.2.1.length:Int)))with
|true=>
 aa (au x.1.2.2.2.1 x.2.1) fun v12=>
 match(v12.2.2.2.1.2.1==(3:Int))with
 |true=>
  aa (au x.1.2.2.2.1 x.2.1) fun v13=>
  match(v13.1 != (0:Int))with
  |true=>
   some (.inr (.inr ((10:Int),())))
  |false=>
   some (.inl ((x.1.1,x.1.2.1,x.1.2.2.1,x.1.2.2.2.1,()),(IntKind.i64.wrap (x.2.1+(1:Int))),()))
 |false=>
  some (.inl ((x.1.1,x.1.2.1,x.1.2.2.1,x.1.2.2.2.1,()),(IntKind.i64.wrap (x.2.1+(1:Int))),()))
|false=>
 some (.inr (.inl (())))
noncomputable def lz(x:Ty.T (.pair ae .unit)):Option (Ty.T (.pair (.int .i64) .unit)):=
match bh (x.1.1,(1:Int),(16777215:Int),())with
|none=>none
|some v1=>
match(!v1.1)with
|true=>
 some ((1:Int),())
|false=>
 match nm (x.1.2.1,())with
 |none=>none
 |some v2=>
 match(!v2.1)with
 |true=>
  some ((2:Int),())
 |false=>
  match nn (x.1.2.2.1,())with
  |none=>none
  |some v3=>
  match(!v3.1)with
  |true=>
   some ((3:Int),())
  |false=>
   match nq (x.1.2.2.2.1,())with
   |none=>none
   |some v4=>
   match(!v4.1)with
   |true=>
    some ((4:Int),())
   |false=>
    match kA ((x.1.1,x.1.2.1,x.1.2.2.1,x.1.2.2.2.1,()),())with
    |none=>none
    |some v5=>
    match(!v5.1)with
    |true=>
     some ((5:Int),())
    |false=>
     match ly ((x.1.1,x.1.2.1,x.1.2.2.1,x.1.2.2.2.1,()),())with
     |none=>none
     |some v6=>
     match(!v6.1)with
     |true=>
      some ((6:Int),())
     |false=>
      match jF ((x.1.1,x.1.2.1,x.1.2.2.1,x.1.2.2.2.1,()),())with
      |none=>none
      |some v7=>
      match(!v7.1)with
      |true=>
       some ((7:Int),())
      |false=>
       match ac dm ((x.1.1,x.1.2.1,x.1.2.2.1,x.1.2.2.2.1,()),(0:Int),())with
       |none=>none
       |some (.inl v9)=>
        match mW ((v9.1.1,v9.1.2.1,v9.1.2.2.1,v9.1.2.2.2.1,()),())with
        |none=>none
        |some v11=>
        match(!v11.1)with
        |true=>
         some ((9:Int),())
        |false=>
         match ac cN ((v9.1.1,v9.1.2.1,v9.1.2.2.1,v9.1.2.2.2.1,()),(0:Int),())with
         |none=>none
         |some (.inl v14)=>
          some ((0:Int),())
         |some (.inr v15)=>
          some (v15.1,())
       |some (.inr v10)=>
        some (v10.1,())
noncomputable def LW:Spec:=⟨_,(.pair (.int .i64) .unit),.unit,rfl,lz⟩
noncomputable def oV:FuncId→Option Spec:=aX [(144,lw),(224,vI),(225,vJ),(226,vK),(227,vL),(228,xM),(229,uk),(230,C6),(231,AE)]
theorem Fq:∀f s,oV f=some s→FnOK G0 Tryz.prog f s:=aw ⟨ct,Hu,Hw,Hz,HA,JJ,Fm,N9,LV,trivial⟩
def si:aG:=⟨[1,3],(.pair (.box ae) (.pair (.int .i64) .unit)),1,[1],(.pair (.box ae) .unit),[2],(.pair (.int .i64) .unit)⟩
def sj:aG:=⟨[1,4],(.pair (.box ae) (.pair (.int .i64) .unit)),3,[],.unit,[2],(.pair (.int .i64) .unit)⟩
noncomputable def oW:List a9z:=[si.spec dm,sj.spec cN]
theorem B3:aU aV E0 oV (aR Tryz.f191 oW) Tryz.f191 0 si dm:=fun x=>by kernel_rfl
theorem B4:aU aV E0 oV (aR Tryz.f191 oW) Tryz.f191 1 sj cN:=fun x=>by kernel_rfl
theorem JL:FnOK G0 Tryz.prog 191 LW:=ax ai Fq Tryz.func191 oW (by kernel_rfl) (by exact⟨(B3).lok,(B4).lok,trivial⟩) fun x=>by kernel_rfl
noncomputable def p5(x:Ty.T (.pair ae .unit)):Option (Ty.T (.pair .bool .unit)):=
match lz ((x.1.1,x.1.2.1,x.1.2.2.1,x.1.2.2.2.1,()),())with
|none=>none
|some v1=>
some ((v1.1==(0:Int)),())
noncomputable def UX:Spec:=⟨_,(.pair .bool .unit),.unit,rfl,p5⟩
theorem Sn:FnOK G0 Tryz.prog 142 UX:=aj ai (sg JL (aC)) Tryz.func142
noncomputable def jX(x:Ty.T (.pair ab .unit)):Option (Ty.T (.pair .bool .unit)):=
match bh (x.1.1,(0:Int),(65535:Int),())with
|none=>none
|some v1=>
match v1.1 with
|true=>
 match bh (x.1.2.1,(0:Int),(15:Int),())with
 |none=>none
 |some v2=>
 match v2.1 with
 |true=>
  match bh (x.1.2.2.1,(0:Int),(15:Int),())with
  |none=>none
  |some v3=>
  match v3.1 with
  |true=>
   match bh (x.1.2.2.2.1,(0:Int),(255:Int),())with
   |none=>none
   |some v4=>
   match v4.1 with
   |true=>
    match bh (x.1.2.2.2.2.1,(0:Int),(4294967295:Int),())with
    |none=>none
    |some v5=>
    some (v5.1,())
   |false=>
    some (false,())
  |false=>
   some (false,())
 |false=>
  some (false,())
|false=>
 some (false,())
noncomputable def So:Spec:=⟨_,(.pair .bool .unit),.unit,rfl,jX⟩
theorem C8:FnOK G0 Tryz.prog 192 So:=aj ai (sg ct (aC)) Tryz.func192
noncomputable def C9(x:Ty.T (.pair (.list ao) (.pair (.int .i64) .unit))):Option (Ty.T (.pair .bool .unit)):=
match bh (x.2.1,(0:Int),(IntKind.i64.wrap ((x.1.length:Int)-(1:Int))),())with
|none=>none
|some v1=>
some (v1.1,())
noncomputable def Sq:Spec:=⟨_,(.pair .bool .unit),.unit,rfl,C9⟩
theorem Qc:FnOK G0 Tryz.prog 193 Sq:=aj ai (sg ct (aC)) Tryz.func193
noncomputable def lA(x:Ty.T (.pair ae (.pair ab .unit))):Option (Ty.T (.pair .bool .unit)):=
match jX ((x.2.1.1,x.2.1.2.1,x.2.1.2.2.1,x.2.1.2.2.2.1,x.2.1.2.2.2.2.1,()),())with
|none=>none
|some v1=>
match(!v1.1)with
|true=>
 some (false,())
|false=>
 match C9 (x.1.2.2.1,x.2.1.2.1,())with
 |none=>none
 |some v2=>
 match(!v2.1)with
 |true=>
  some (false,())
 |false=>
  aa (au x.1.2.2.1 x.2.1.2.1) fun v3=>
  match(decide (x.2.1.2.2.1≥v3.1))with
  |true=>
   some (false,())
  |false=>
   aa (au x.1.2.2.1 x.2.1.2.1) fun v4=>
   match(decide (x.2.1.2.2.2.1≥v4.2.1))with
   |true=>
    some (false,())
   |false=>
    match kQ (x.1.2.1,())with
    |none=>none
    |some v5=>
    some (((bits BinOp.and .i64 x.2.1.2.2.2.2.1 v5.1)==x.2.1.2.2.2.2.1),())
noncomputable def LX:Spec:=⟨_,(.pair .bool .unit),.unit,rfl,lA⟩
theorem JM:FnOK G0 Tryz.prog 143 LX:=aj ai (sg C8 (sg Qc (sg p4 (aC)))) Tryz.func143
noncomputable def vR(x:Ty.T (.pair ae (.pair ab .unit))):Option (Ty.T (.pair (.int .i64) .unit)):=
match p5 ((x.1.1,x.1.2.1,x.1.2.2.1,x.1.2.2.2.1,()),())with
|none=>none
|some v1=>
match(!v1.1)with
|true=>
 some ((1:Int),())
|false=>
 match lA ((x.1.1,x.1.2.1,x.1.2.2.1,x.1.2.2.2.1,()),(x.2.1.1,x.2.1.2.1,x.2.1.2.2.1,x.2.1.2.2.2.1,x.2.1.2.2.2.2.1,()),())with
 |none=>none
 |some v2=>
 match(!v2.1)with
 |true=>
  some ((2:Int),())
 |false=>
  some ((0:Int),())
noncomputable def Gh:Spec:=⟨_,(.pair (.int .i64) .unit),.unit,rfl,vR⟩
theorem Qd:FnOK G0 Tryz.prog 103 Gh:=aj ai (sg Sn (sg JM (aC))) Tryz.func103
noncomputable def wY(x:Ty.T (.pair (.int .i64) .unit)):Option (Ty.T (.pair .bool (.pair .bool .unit))):=
match(x.1==(2:Int))with
|true=>
 some (true,false,())
|false=>
 match(x.1==(3:Int))with
 |true=>
  some (true,false,())
 |false=>
  match(x.1==(4:Int))with
  |true=>
   some (true,true,())
  |false=>
   match(x.1==(6:Int))with
   |true=>
    some (true,true,())
   |false=>
    some (false,false,())
noncomputable def Oa:Spec:=⟨_,(.pair .bool (.pair .bool .unit)),.unit,rfl,wY⟩
theorem LY:FnOK G0 Tryz.prog 169 Oa:=aj ai aC Tryz.func169
noncomputable def qN(x:Ty.T (.pair al .unit)):Option (Ty.T (.pair .bool .unit)):=
match bh (x.1.1,(1:Int),(6:Int),())with
|none=>none
|some v1=>
match(!v1.1)with
|true=>
 some (false,())
|false=>
 match bh (x.1.2.1,(0:Int),(8192:Int),())with
 |none=>none
 |some v2=>
 match(!v2.1)with
 |true=>
  some (false,())
 |false=>
  match wY (x.1.1,())with
  |none=>none
  |some v3=>
  match v3.1 with
  |true=>
   match bh (x.1.2.2.1,(1:Int),(8192:Int),())with
   |none=>none
   |some v4=>
   match(!v4.1)with
   |true=>
    some (false,())
   |false=>
    match(!v3.1)with
    |true=>
     match(x.1.2.2.1 != (0:Int))with
     |true=>
      some (false,())
     |false=>
      match bh (x.1.2.2.2.1,(0:Int),(1:Int),())with
      |none=>none
      |some v5=>
      match v5.1 with
      |true=>
       match v3.2.1 with
       |true=>
        some (true,())
       |false=>
        some ((x.1.2.2.2.1==(0:Int)),())
      |false=>
       some (false,())
    |false=>
     match bh (x.1.2.2.2.1,(0:Int),(1:Int),())with
     |none=>none
     |some v6=>
     match v6.1 with
     |true=>
      match v3.2.1 with
      |true=>
       some (true,())
      |false=>
       some ((x.1.2.2.2.1==(0:Int)),())
     |false=>
      some (false,())
  |false=>
   match(!v3.1)with
   |true=>
    match(x.1.2.2.1 != (0:Int))with
    |true=>
     some (false,())
    |false=>
     match bh (x.1.2.2.2.1,(0:Int),(1:Int),())with
     |none=>none
     |some v7=>
     match v7.1 with
     |true=>
      match v3.2.1 with
      |true=>
       some (true,())
      |false=>
       some ((x.1.2.2.2.1==(0:Int)),())
     |false=>
      some (false,())
   |false=>
    match bh (x.1.2.2.2.1,(0:Int),(1:Int),())with
    |none=>none
    |some v8=>
    match v8.1 with
    |true=>
     match v3.2.1 with
     |true=>
      some (true,())
     |false=>
      some ((x.1.2.2.2.1==(0:Int)),())
    |false=>
     some (false,())
noncomputable def Gi:Spec:=⟨_,(.pair .bool .unit),.unit,rfl,qN⟩
theorem Qe:FnOK G0 Tryz.prog 124 Gi:=aj ai (sg ct (sg LY (aC))) Tryz.func124
noncomputable def fZ(x:(Ty.T (.pair (.list al) (.pair (.int .i64) .unit)))):Option ((Ty.T (.pair (.list al) (.pair (.int .i64) .unit))) ⊕ ((Ty.T (.pair (.list al) .unit)) ⊕ (Ty.T (.pair .bool .unit)))):=
match(decide (x.2.1<(x.1.length:Int)))with
|true=>
 aa (au x.1 x.2.1) fun v1=>
 match qN (v1,())with
 |none=>none
 |some v2=>
 match(!v2.1)with
 |true=>
  some (.inr (.inr (false,())))
 |false=>
  some (.inl (x.1,(IntKind.i64.wrap (x.2.1+(1:Int))),()))
|false=>
 some (.inr (.inl (x.1,())))
noncomputable def oX(x:Ty.T (.pair (.list al) .unit)):Option (Ty.T (.pair .bool .unit)):=
match ac fZ (x.1,(0:Int),())with
|none=>none
|some (.inl v3)=>
 some ((decide ((v3.1.length:Int)≤(30:Int))),())
|some (.inr v4)=>
 some (v4.1,())
noncomputable def Qf:Spec:=⟨_,(.pair .bool .unit),.unit,rfl,oX⟩
noncomputable def AG:FuncId→Option Spec:=aX [(124,Gi)]
theorem JN:∀f s,AG f=some s→FnOK G0 Tryz.prog f s:=aw ⟨Qe,trivial⟩
def xO:aG:=⟨[0,3],(.pair (.list al) (.pair (.int .i64) .unit)),0,[0],(.pair (.list al) .unit),[2],(.pair .bool .unit)⟩
noncomputable def AH:List a9z:=[xO.spec fZ]
theorem HF:aU aV E0 AG (aR Tryz.f87 AH) Tryz.f87 0 xO fZ:=fun x=>by kernel_rfl
theorem Ob:FnOK G0 Tryz.prog 87 Qf:=ax ai JN Tryz.func87 AH (by kernel_rfl) (by exact⟨(HF).lok,trivial⟩) fun x=>by kernel_rfl
noncomputable def zF(x:Ty.T (.pair ar .unit)):Option (Ty.T (.pair .bool .unit)):=
match bh (x.1.1,(0:Int),(255:Int),())with
|none=>none
|some v1=>
match v1.1 with
|true=>
 match bh (x.1.2.1,(0:Int),(7:Int),())with
 |none=>none
 |some v2=>
 match v2.1 with
 |true=>
  match oX (x.1.2.2.1,())with
  |none=>none
  |some v3=>
  match v3.1 with
  |true=>
   match oX (x.1.2.2.2.1,())with
   |none=>none
   |some v4=>
   some (v4.1,())
  |false=>
   some (false,())
 |false=>
  some (false,())
|false=>
 some (false,())
noncomputable def JO:Spec:=⟨_,(.pair .bool .unit),.unit,rfl,zF⟩
theorem Sr:FnOK G0 Tryz.prog 104 JO:=aj ai (sg Ob (sg ct (aC))) Tryz.func104
noncomputable def cd(x:(Ty.T (.pair (.list ar) ah))):Option ((Ty.T (.pair (.list ar) ah)) ⊕ ((Ty.T (.pair (.int .i64) .unit)) ⊕ (Ty.T .unit))):=
match(decide (x.2.2.1<(x.1.length:Int)))with
|true=>
 match(x.2.1==(0:Int))with
 |true=>
  aa (au x.1 x.2.2.1) fun v2=>
  match zF (v2,())with
  |none=>none
  |some v3=>
  match(!v3.1)with
  |true=>
   some (.inl (x.1,(5:Int),(IntKind.i64.wrap (x.2.2.1+(1:Int))),()))
  |false=>
   some (.inl (x.1,x.2.1,(IntKind.i64.wrap (x.2.2.1+(1:Int))),()))
 |false=>
  some (.inr (.inl (x.2.1,())))
|false=>
 some (.inr (.inl (x.2.1,())))
noncomputable def n9(x:Ty.T (.pair ae (.pair ab (.pair (.list ar) .unit)))):Option (Ty.T (.pair (.int .i64) .unit)):=
match vR (x.1,x.2.1,())with
|none=>none
|some v1=>
match(v1.1==(0:Int))with
|true=>
 match(decide ((x.2.2.1.length:Int)>(40:Int)))with
 |true=>
  match ac cd (x.2.2.1,(3:Int),(0:Int),())with
  |none=>none
  |some (.inl v4)=>
   some (v4.1,())
  |some (.inr v6)=>
   none
 |false=>
  match ac cd (x.2.2.1,v1.1,(0:Int),())with
  |none=>none
  |some (.inl v7)=>
   some (v7.1,())
  |some (.inr v9)=>
   none
|false=>
 match ac cd (x.2.2.1,v1.1,(0:Int),())with
 |none=>none
 |some (.inl v10)=>
  some (v10.1,())
 |some (.inr v12)=>
  none
noncomputable def Gj:Spec:=⟨_,(.pair (.int .i64) .unit),.unit,rfl,n9⟩
noncomputable def Da:FuncId→Option Spec:=aX [(103,Gh),(104,JO)]
theorem LZ:∀f s,Da f=some s→FnOK G0 Tryz.prog f s:=aw ⟨Qd,Sr,trivial⟩
def AI:aG:=⟨[2,7,8],(.pair (.list ar) ah),0,[7],(.pair (.int .i64) .unit),[],.unit⟩
noncomputable def Db:List a9z:=[AI.spec cd]
theorem JP:aU aV E0 Da (aR Tryz.f72 Db) Tryz.f72 0 AI cd:=fun x=>by kernel_rfl
theorem Dc:FnOK G0 Tryz.prog 72 Gj:=ax ai LZ Tryz.func72 Db (by kernel_rfl) (by exact⟨(JP).lok,trivial⟩) fun x=>by kernel_rfl
noncomputable def cn(x:Ty.T (.pair ae (.pair ab .unit))):Option (Ty.T (.pair a7 .unit)):=
match qK (x.1.2.2.2.1,x.2.1.2.1,x.2.1.2.2.1,x.2.1.2.2.2.1,())with
|none=>none
|some v1=>
aa (au x.1.2.2.2.1 v1.1) fun v2=>
some ((v2.2.2.2.1.1,v2.2.2.2.1.2.1,v2.2.2.2.1.2.2.1,v2.2.2.2.1.2.2.2.1,v2.2.2.2.1.2.2.2.2.1,()),())
noncomputable def wZ:Spec:=⟨_,(.pair a7 .unit),.unit,rfl,cn⟩
theorem gx:FnOK G0 Tryz.prog 79 wZ:=aj ai (sg C3 (aC)) Tryz.func79
noncomputable def jm(x:Ty.T (.pair (.list (.int .i64)) .unit)):Option (Ty.T (.pair (.own 2 (.int .i64)) .unit)):=
aM (([]:List (Ty.T (.int .i64))).length+x.1.length) (
 some ((([]:List (Ty.T (.int .i64)))++x.1),()))
noncomputable def zG:Spec:=⟨_,(.pair (.own 2 (.int .i64)) .unit),.unit,rfl,jm⟩
theorem w9:FnOK G0 Tryz.prog 125 zG:=aj ai aC Tryz.func125
noncomputable def ij(x:(Ty.T (.pair (.int .i64) (.pair (.int .i64) (.pair (.own 2 (.int .i64)) .unit))))):Option ((Ty.T (.pair (.int .i64) (.pair (.int .i64) (.pair (.own 2 (.int .i64)) .unit)))) ⊕ ((Ty.T (.pair (.own 2 (.int .i64)) .unit)) ⊕ (Ty.T .unit))):=
match(decide (x.1>(0:Int)))with
|true=>
 aM (x.2.2.1.length+ [x.2.1].length) (
  some (.inl ((IntKind.i64.wrap (x.1-(1:Int))),x.2.1,(x.2.2.1++ [x.2.1]),())))
|false=>
 some (.inr (.inl (x.2.2.1,())))
noncomputable def du(x:Ty.T ah):Option (Ty.T (.pair (.own 2 (.int .i64)) .unit)):=
match ac ij (x.1,x.2.1,[],())with
|none=>none
|some (.inl v1)=>
 some (v1.1,())
|some (.inr v3)=>
 none
noncomputable def um:Spec:=⟨_,(.pair (.own 2 (.int .i64)) .unit),.unit,rfl,du⟩
noncomputable def AJ:FuncId→Option Spec:=aX []
theorem JQ:∀f s,AJ f=some s→FnOK G0 Tryz.prog f s:=aw trivial
def xP:aG:=⟨[0,1,5],(.pair (.int .i64) (.pair (.int .i64) (.pair (.own 2 (.int .i64)) .unit))),0,[5],(.pair (.own 2 (.int .i64)) .unit),[],.unit⟩
noncomputable def AK:List a9z:=[xP.spec ij]
theorem HG:aU aV E0 AJ (aR Tryz.f147 AK) Tryz.f147 0 xP ij:=fun x=>by kernel_rfl
theorem kB:FnOK G0 Tryz.prog 147 um:=ax ai JQ Tryz.func147 AK (by kernel_rfl) (by exact⟨(HG).lok,trivial⟩) fun x=>by kernel_rfl
noncomputable def cT(x:(Ty.T (.pair (.box al) (.pair (.int .i64) (.pair (.own 2 (.int .i64)) (.pair (.int .i64) .unit)))))):Option ((Ty.T (.pair (.box al) (.pair (.int .i64) (.pair (.own 2 (.int .i64)) (.pair (.int .i64) .unit))))) ⊕ ((Ty.T (.pair (.own 2 (.int .i64)) .unit)) ⊕ (Ty.T .unit))):=
match(decide (x.2.2.2.1<x.2.1))with
|true=>
 match(x.1.1==(5:Int))with
 |true=>
  aa (au x.2.2.1 x.2.2.2.1) fun _=>
  match x.2.2.1[x.2.2.2.1.toNat]? with
  |none=>none
  |some v3=>
  some (.inl ((x.1.1,x.1.2.1,x.1.2.2.1,x.1.2.2.2.1,()),x.2.1,(x.2.2.1.set x.2.2.2.1.toNat (1:Int)),(IntKind.i64.wrap (x.2.2.2.1+(1:Int))),()))
 |false=>
  match(x.1.1==(6:Int))with
  |true=>
   aa (au x.2.2.1 x.2.2.2.1) fun _=>
   match x.2.2.1[x.2.2.2.1.toNat]? with
   |none=>none
   |some v5=>
   some (.inl ((x.1.1,x.1.2.1,x.1.2.2.1,x.1.2.2.2.1,()),x.2.1,(x.2.2.1.set x.2.2.2.1.toNat x.1.2.2.2.1),(IntKind.i64.wrap (x.2.2.2.1+(1:Int))),()))
  |false=>
   aa (au x.2.2.1 x.2.2.2.1) fun _=>
   match x.2.2.1[x.2.2.2.1.toNat]? with
   |none=>none
   |some v7=>
   aa (au x.2.2.1 x.2.2.2.1) fun _=>
   match x.2.2.1[x.2.2.2.1.toNat]? with
   |none=>none
   |some v9=>
   some (.inl ((x.1.1,x.1.2.1,x.1.2.2.1,x.1.2.2.2.1,()),x.2.1,(x.2.2.1.set x.2.2.2.1.toNat (IntKind.i64.wrap ((1:Int)-v7))),(IntKind.i64.wrap (x.2.2.2.1+(1:Int))),()))
|false=>
 some (.inr (.inl (x.2.2.1,())))
noncomputable def fk(x:Ty.T (.pair (.list (.int .i64)) (.pair (.box al) ah))):Option (Unit ⊕ (Ty.T (.pair (.list (.int .i64)) .unit))):=
match jm (x.1,())with
|none=>none
|some v1=>
match ac cT ((x.2.1.1,x.2.1.2.1,x.2.1.2.2.1,x.2.1.2.2.2.1,()),x.2.2.2.1,v1.1,x.2.2.1,())with
|none=>none
|some (.inl v2)=>
 some (.inr (v2.1,()))
|some (.inr v4)=>
 none
noncomputable def jG(x:Ty.T (.pair (.list (.int .i64)) (.pair (.box al) (.pair (.int .i64) ah)))):Option (Unit ⊕ (Ty.T (.pair (.list (.int .i64)) .unit))):=
match(x.2.1.1==(1:Int))with
|true=>
 match fk (x.1,(x.2.1.1,x.2.1.2.1,x.2.1.2.2.1,x.2.1.2.2.2.1,()),x.2.2.2.1,(if(IntKind.i64.wrap (x.2.1.2.1+(1:Int)))<x.2.2.1 then(IntKind.i64.wrap (x.2.1.2.1+(1:Int)))else x.2.2.1),())with
 |none=>none
 |some (.inl v6)=>none
 |some (.inr v5)=>
  some (.inr (v5.1,()))
|false=>
 match(x.2.1.1==(5:Int))with
 |true=>
  match fk (x.1,(x.2.1.1,x.2.1.2.1,x.2.1.2.2.1,x.2.1.2.2.2.1,()),x.2.2.2.1,x.2.2.1,())with
  |none=>none
  |some (.inl v8)=>none
  |some (.inr v7)=>
   some (.inr (v7.1,()))
 |false=>
  match(x.2.1.1==(3:Int))with
  |true=>
   aa (aH x.1.length none (some (.dat (.int .i64) x.2.2.2.1))) fun v9=>
   aa (aH x.1.length (some (.dat (.int .i64) x.2.2.2.2.1)) none) fun v10=>
   match jm ((List.drop v9.1 (List.take v9.2 x.1)),())with
   |none=>none
   |some v11=>
   aM (v11.1.length+(List.drop v10.1 (List.take v10.2 x.1)).length) (
    some (.inr ((v11.1++(List.drop v10.1 (List.take v10.2 x.1))),())))
  |false=>
   match(x.2.1.1==(4:Int))with
   |true=>
    match(decide (x.2.1.2.1>x.2.2.1))with
    |true=>
     match jm (x.1,())with
     |none=>none
     |some v12=>
     some (.inr (v12.1,()))
    |false=>
     aa (aH x.1.length none (some (.dat (.int .i64) x.2.2.2.1))) fun v13=>
     match jm ((List.drop v13.1 (List.take v13.2 x.1)),())with
     |none=>none
     |some v14=>
     match du (x.2.1.2.2.1,x.2.1.2.2.2.1,())with
     |none=>none
     |some v15=>
     aM (v14.1.length+v15.1.length) (
      aa (aH x.1.length (some (.dat (.int .i64) x.2.2.2.1)) none) fun v16=>
      aM ((v14.1++v15.1).length+(List.drop v16.1 (List.take v16.2 x.1)).length) (
       aa (aH ((v14.1++v15.1)++(List.drop v16.1 (List.take v16.2 x.1))).length none (some (.dat (.int .i64) (if(8192:Int)<(((v14.1++v15.1)++(List.drop v16.1 (List.take v16.2 x.1))).length:Int)then(8192:Int)else(((v14.1++v15.1)++(List.drop v16.1 (List.take v16.2 x.1))).length:Int))))) fun v17=>
       some (.inr ((List.drop v17.1 (List.take v17.2 ((v14.1++v15.1)++(List.drop v16.1 (List.take v16.2 x.1))))),()))))
   |false=>
    match fk (x.1,(x.2.1.1,x.2.1.2.1,x.2.1.2.2.1,x.2.1.2.2.2.1,()),x.2.2.2.1,x.2.2.2.2.1,())with
    |none=>none
    |some (.inl v19)=>none
    |some (.inr v18)=>
     some (.inr (v18.1,()))
noncomputable def mh(x:Ty.T (.pair (.list (.int .i64)) (.pair al .unit))):Option (Ty.T (.pair (.list (.int .i64)) .unit)):=
ba (
 match jG (x.1,(x.2.1.1,x.2.1.2.1,x.2.1.2.2.1,x.2.1.2.2.2.1,()),(x.1.length:Int),(if x.2.1.2.1<(x.1.length:Int)then x.2.1.2.1 else(x.1.length:Int)),(if(IntKind.i64.wrap (x.2.1.2.1+x.2.1.2.2.1))<(x.1.length:Int)then(IntKind.i64.wrap (x.2.1.2.1+x.2.1.2.2.1))else(x.1.length:Int)),())with
 |none=>none
 |some (.inl v21)=>none
 |some (.inr v20)=>
  some (v20.1,()))
noncomputable def un:Spec:=⟨_,(.pair (.list (.int .i64)) .unit),.unit,rfl,mh⟩
noncomputable def fN:FuncId→Option Spec:=aX [(125,zG),(147,um)]
theorem JR:∀f s,fN f=some s→FnOK G0 Tryz.prog f s:=aw ⟨w9,kB,trivial⟩
noncomputable def vS:List (Nat×a9z):=[(3,⟨[0,3,5,6,7],(.pair (.list (.int .i64)) (.pair (.box al) (.pair (.int .i64) ah))),1000003,[],.unit,[4],(.pair (.list (.int .i64)) .unit),jG⟩),(16,⟨[0,3,6,7],(.pair (.list (.int .i64)) (.pair (.box al) ah)),1000016,[],.unit,[4],(.pair (.list (.int .i64)) .unit),fk⟩)]
noncomputable def kC:Nat→Option a9z:=PT (bM (fS Tryz.f126)) [⟨[3,7,9,10],(.pair (.box al) (.pair (.int .i64) (.pair (.own 2 (.int .i64)) (.pair (.int .i64) .unit)))),1,[9],(.pair (.own 2 (.int .i64)) .unit),[],.unit,ac cT⟩] vS
theorem HH(x):ew aV E0 fN kC Tryz.f126.ntmps (Wd Tryz.f126 2) (eu Tryz.f126.ntmps [0,3,5,6,7] (.pair (.list (.int .i64)) (.pair (.box al) (.pair (.int .i64) ah))) x) (zx fN Tryz.f126.ntmps 1000003 [] .unit [4] (.pair (.list (.int .i64)) .unit))=jG x:=by kernel_rfl
theorem Fr(x):ew aV E0 fN kC Tryz.f126.ntmps (Wd Tryz.f126 3) (eu Tryz.f126.ntmps [0,3,6,7] (.pair (.list (.int .i64)) (.pair (.box al) ah)) x) (zx fN Tryz.f126.ntmps 1000016 [] .unit [4] (.pair (.list (.int .i64)) .unit))=fk x:=by kernel_rfl
theorem Fs(x):ew aV E0 fN kC Tryz.f126.ntmps (LN Tryz.f126 0) (eu Tryz.f126.ntmps [3,7,9,10] (.pair (.box al) (.pair (.int .i64) (.pair (.own 2 (.int .i64)) (.pair (.int .i64) .unit)))) x) (zy fN Tryz.f126.ntmps [3,7,9,10] (.pair (.box al) (.pair (.int .i64) (.pair (.own 2 (.int .i64)) (.pair (.int .i64) .unit)))) 1 [9] (.pair (.own 2 (.int .i64)) .unit) [] .unit)=cT x:=by kernel_rfl
theorem Oc:FnOK G0 Tryz.prog 126 un:=ZB (Λ:=kC) ai JR Tryz.func126 (by kernel_rfl) (show Tryz.f126.body=some (fS Tryz.f126) by kernel_rfl) [⟨[3,7,9,10],(.pair (.box al) (.pair (.int .i64) (.pair (.own 2 (.int .i64)) (.pair (.int .i64) .unit)))),1,[9],(.pair (.own 2 (.int .i64)) .unit),[],.unit,ac cT⟩] vS rfl (by kernel_rfl) (by exact⟨PV (Fs),trivial⟩) (by exact⟨trivial,trivial,TN HH,TN Fr,trivial,trivial,trivial,trivial,trivial,trivial,trivial,trivial,trivial,trivial,trivial,trivial,trivial,trivial,trivial,trivial,trivial,trivial,trivial,trivial,trivial,trivial,trivial⟩) (by kernel_rfl)
 fun x y h=>(show tG aV E0 fN kC Tryz.f126 un x=mh x by kernel_rfl).trans h
noncomputable def f0(x:(Ty.T (.pair (.list al) (.pair (.list (.int .i64)) (.pair (.int .i64) .unit))))):Option ((Ty.T (.pair (.list al) (.pair (.list (.int .i64)) (.pair (.int .i64) .unit)))) ⊕ ((Ty.T (.pair (.list (.int .i64)) .unit)) ⊕ (Ty.T .unit))):=
match(decide (x.2.2.1<(x.1.length:Int)))with
|true=>
 aa (au x.1 x.2.2.1) fun v2=>
 match mh (x.2.1,v2,())with
 |none=>none
 |some v3=>
 some (.inl (x.1,v3.1,(IntKind.i64.wrap (x.2.2.1+(1:Int))),()))
|false=>
 some (.inr (.inl (x.2.1,())))
noncomputable def g8(x:Ty.T (.pair (.list (.int .i64)) (.pair (.list al) .unit))):Option (Ty.T (.pair (.list (.int .i64)) .unit)):=
match jm (x.1,())with
|none=>none
|some v1=>
match ac f0 (x.2.1,v1.1,(0:Int),())with
|none=>none
|some (.inl v4)=>
 some (v4.1,())
|some (.inr v6)=>
 none
noncomputable def Qg:Spec:=⟨_,(.pair (.list (.int .i64)) .unit),.unit,rfl,g8⟩
noncomputable def AL:FuncId→Option Spec:=aX [(125,zG),(126,un)]
theorem JS:∀f s,AL f=some s→FnOK G0 Tryz.prog f s:=aw ⟨w9,Oc,trivial⟩
def xQ:aG:=⟨[1,5,6],(.pair (.list al) (.pair (.list (.int .i64)) (.pair (.int .i64) .unit))),0,[5],(.pair (.list (.int .i64)) .unit),[],.unit⟩
noncomputable def AM:List a9z:=[xQ.spec f0]
theorem HI:aU aV E0 AL (aR Tryz.f88 AM) Tryz.f88 0 xQ f0:=fun x=>by kernel_rfl
theorem Od:FnOK G0 Tryz.prog 88 Qg:=ax ai JS Tryz.func88 AM (by kernel_rfl) (by exact⟨(HI).lok,trivial⟩) fun x=>by kernel_rfl
noncomputable def gN(x:(Ty.T (.pair (.list (.int .i64)) (.pair (.list (.int .i64)) (.pair (.int .i64) .unit))))):Option ((Ty.T (.pair (.list (.int .i64)) (.pair (.list (.int .i64)) (.pair (.int .i64) .unit)))) ⊕ ((Ty.T .unit) ⊕ (Ty.T (.pair .bool .unit)))):=
match(decide (x.2.2.1<(x.1.length:Int)))with
|true=>
 aa (au x.1 x.2.2.1) fun v1=>
 aa (au x.2.1 x.2.2.1) fun v2=>
 match(v1 != v2)with
 |true=>
  some (.inr (.inr (false,())))
 |false=>
  some (.inl (x.1,x.2.1,(IntKind.i64.wrap (x.2.2.1+(1:Int))),()))
|false=>
 some (.inr (.inl (())))
noncomputable def bu(x:Ty.T (.pair (.list (.int .i64)) (.pair (.list (.int .i64)) .unit))):Option (Ty.T (.pair .bool .unit)):=
match((x.1.length:Int) != (x.2.1.length:Int))with
|true=>
 some (false,())
|false=>
 match ac gN (x.1,x.2.1,(0:Int),())with
 |none=>none
 |some (.inl v3)=>
  some (true,())
 |some (.inr v4)=>
  some (v4.1,())
noncomputable def Ss:Spec:=⟨_,(.pair .bool .unit),.unit,rfl,bu⟩
noncomputable def Dd:FuncId→Option Spec:=aX []
theorem L0:∀f s,Dd f=some s→FnOK G0 Tryz.prog f s:=aw trivial
def AN:aG:=⟨[0,1,5],(.pair (.list (.int .i64)) (.pair (.list (.int .i64)) (.pair (.int .i64) .unit))),0,[],.unit,[4],(.pair .bool .unit)⟩
noncomputable def De:List a9z:=[AN.spec gN]
theorem JT:aU aV E0 Dd (aR Tryz.f171 De) Tryz.f171 0 AN gN:=fun x=>by kernel_rfl
theorem Df:FnOK G0 Tryz.prog 171 Ss:=ax ai L0 Tryz.func171 De (by kernel_rfl) (by exact⟨(JT).lok,trivial⟩) fun x=>by kernel_rfl
noncomputable def qO(x:Ty.T (.pair aL (.pair aL .unit))):Option (Ty.T (.pair .bool .unit)):=
match(x.1.1==x.2.1.1)with
|true=>
 match(x.1.2.1==x.2.1.2.1)with
 |true=>
  match(dC ab (x.1.2.2.1.1,x.1.2.2.1.2.1,x.1.2.2.1.2.2.1,x.1.2.2.1.2.2.2.1,x.1.2.2.1.2.2.2.2.1,()) (x.2.1.2.2.1.1,x.2.1.2.2.1.2.1,x.2.1.2.2.1.2.2.1,x.2.1.2.2.1.2.2.2.1,x.2.1.2.2.1.2.2.2.2.1,()))with
  |true=>
   match bu (x.1.2.2.2.1,x.2.1.2.2.2.1,())with
   |none=>none
   |some v1=>
   some (v1.1,())
  |false=>
   some (false,())
 |false=>
  some (false,())
|false=>
 some (false,())
noncomputable def Su:Spec:=⟨_,(.pair .bool .unit),.unit,rfl,qO⟩
theorem Qh:FnOK G0 Tryz.prog 128 Su:=aj ai (sg Df (aC)) Tryz.func128
noncomputable def kl(x:Ty.T (.pair (.pair (.int .i64) (.pair (.pair (.int .i64) (.pair (.int .i64) (.pair ab (.pair (.own 2 (.int .i64)) .unit)))) .unit)) (.pair (.pair (.int .i64) (.pair (.pair (.int .i64) (.pair (.int .i64) (.pair ab (.pair (.own 2 (.int .i64)) .unit)))) .unit)) .unit))):Option (Ty.T (.pair (.pair (.int .i64) (.pair (.pair (.int .i64) (.pair (.int .i64) (.pair ab (.pair (.own 2 (.int .i64)) .unit)))) .unit)) .unit)):=
match(x.1.1==(3:Int))with
|true=>
 match(x.2.1.1==(3:Int))with
 |true=>
  match qO ((x.1.2.1.1,x.1.2.1.2.1,(x.1.2.1.2.2.1.1,x.1.2.1.2.2.1.2.1,x.1.2.1.2.2.1.2.2.1,x.1.2.1.2.2.1.2.2.2.1,x.1.2.1.2.2.1.2.2.2.2.1,()),x.1.2.1.2.2.2.1,()),(x.2.1.2.1.1,x.2.1.2.1.2.1,(x.2.1.2.1.2.2.1.1,x.2.1.2.1.2.2.1.2.1,x.2.1.2.1.2.2.1.2.2.1,x.2.1.2.1.2.2.1.2.2.2.1,x.2.1.2.1.2.2.1.2.2.2.2.1,()),x.2.1.2.1.2.2.2.1,()),())with
  |none=>none
  |some v1=>
  match v1.1 with
  |true=>
   some ((x.1.1,(x.1.2.1.1,x.1.2.1.2.1,(x.1.2.1.2.2.1.1,x.1.2.1.2.2.1.2.1,x.1.2.1.2.2.1.2.2.1,x.1.2.1.2.2.1.2.2.2.1,x.1.2.1.2.2.1.2.2.2.2.1,()),x.1.2.1.2.2.2.1,()),()),())
  |false=>
   match(x.1.1==(3:Int))with
   |true=>
    match(x.2.1.1==(3:Int))with
    |true=>
     some (((4:Int),((0:Int),(0:Int),((0:Int),(0:Int),(0:Int),(0:Int),(0:Int),()),[],()),()),())
    |false=>
     match(x.1.1==(4:Int))with
     |true=>
      some (((4:Int),((0:Int),(0:Int),((0:Int),(0:Int),(0:Int),(0:Int),(0:Int),()),[],()),()),())
     |false=>
      match(x.2.1.1==(4:Int))with
      |true=>
       some (((4:Int),((0:Int),(0:Int),((0:Int),(0:Int),(0:Int),(0:Int),(0:Int),()),[],()),()),())
      |false=>
       match(x.1.1==(3:Int))with
       |true=>
        some ((x.1.1,(x.1.2.1.1,x.1.2.1.2.1,(x.1.2.1.2.2.1.1,x.1.2.1.2.2.1.2.1,x.1.2.1.2.2.1.2.2.1,x.1.2.1.2.2.1.2.2.2.1,x.1.2.1.2.2.1.2.2.2.2.1,()),x.1.2.1.2.2.2.1,()),()),())
       |false=>
        match(x.2.1.1==(3:Int))with
        |true=>
         some ((x.2.1.1,(x.2.1.2.1.1,x.2.1.2.1.2.1,(x.2.1.2.1.2.2.1.1,x.2.1.2.1.2.2.1.2.1,x.2.1.2.1.2.2.1.2.2.1,x.2.1.2.1.2.2.1.2.2.2.1,x.2.1.2.1.2.2.1.2.2.2.2.1,()),x.2.1.2.1.2.2.2.1,()),()),())
        |false=>
         some (((if x.2.1.1>x.1.1 then x.2.1.1 else x.1.1),((0:Int),(0:Int),((0:Int),(0:Int),(0:Int),(0:Int),(0:Int),()),[],()),()),())
   |false=>
    match(x.1.1==(4:Int))with
    |true=>
     some (((4:Int),((0:Int),(0:Int),((0:Int),(0:Int),(0:Int),(0:Int),(0:Int),()),[],()),()),())
    |false=>
     match(x.2.1.1==(4:Int))with
     |true=>
      some (((4:Int),((0:Int),(0:Int),((0:Int),(0:Int),(0:Int),(0:Int),(0:Int),()),[],()),()),())
     |false=>
      match(x.1.1==(3:Int))with
      |true=>
       some ((x.1.1,(x.1.2.1.1,x.1.2.1.2.1,(x.1.2.1.2.2.1.1,x.1.2.1.2.2.1.2.1,x.1.2.1.2.2.1.2.2.1,x.1.2.1.2.2.1.2.2.2.1,x.1.2.1.2.2.1.2.2.2.2.1,()),x.1.2.1.2.2.2.1,()),()),())
      |false=>
       match(x.2.1.1==(3:Int))with
       |true=>
        some ((x.2.1.1,(x.2.1.2.1.1,x.2.1.2.1.2.1,(x.2.1.2.1.2.2.1.1,x.2.1.2.1.2.2.1.2.1,x.2.1.2.1.2.2.1.2.2.1,x.2.1.2.1.2.2.1.2.2.2.1,x.2.1.2.1.2.2.1.2.2.2.2.1,()),x.2.1.2.1.2.2.2.1,()),()),())
       |false=>
        some (((if x.2.1.1>x.1.1 then x.2.1.1 else x.1.1),((0:Int),(0:Int),((0:Int),(0:Int),(0:Int),(0:Int),(0:Int),()),[],()),()),())
 |false=>
  match(x.1.1==(3:Int))with
  |true=>
   match(x.2.1.1==(3:Int))with
   |true=>
    some (((4:Int),((0:Int),(0:Int),((0:Int),(0:Int),(0:Int),(0:Int),(0:Int),()),[],()),()),())
   |false=>
    match(x.1.1==(4:Int))with
    |true=>
     some (((4:Int),((0:Int),(0:Int),((0:Int),(0:Int),(0:Int),(0:Int),(0:Int),()),[],()),()),())
    |false=>
     match(x.2.1.1==(4:Int))with
     |true=>
      some (((4:Int),((0:Int),(0:Int),((0:Int),(0:Int),(0:Int),(0:Int),(0:Int),()),[],()),()),())
     |false=>
      match(x.1.1==(3:Int))with
      |true=>
       some ((x.1.1,(x.1.2.1.1,x.1.2.1.2.1,(x.1.2.1.2.2.1.1,x.1.2.1.2.2.1.2.1,x.1.2.1.2.2.1.2.2.1,x.1.2.1.2.2.1.2.2.2.1,x.1.2.1.2.2.1.2.2.2.2.1,()),x.1.2.1.2.2.2.1,()),()),())
      |false=>
       match(x.2.1.1==(3:Int))with
       |true=>
        some ((x.2.1.1,(x.2.1.2.1.1,x.2.1.2.1.2.1,(x.2.1.2.1.2.2.1.1,x.2.1.2.1.2.2.1.2.1,x.2.1.2.1.2.2.1.2.2.1,x.2.1.2.1.2.2.1.2.2.2.1,x.2.1.2.1.2.2.1.2.2.2.2.1,()),x.2.1.2.1.2.2.2.1,()),()),())
       |false=>
        some (((if x.2.1.1>x.1.1 then x.2.1.1 else x.1.1),((0:Int),(0:Int),((0:Int),(0:Int),(0:Int),(0:Int),(0:Int),()),[],()),()),())
  |false=>
   match(x.1.1==(4:Int))with
   |true=>
    some (((4:Int),((0:Int),(0:Int),((0:Int),(0:Int),(0:Int),(0:Int),(0:Int),()),[],()),()),())
   |false=>
    match(x.2.1.1==(4:Int))with
    |true=>
     some (((4:Int),((0:Int),(0:Int),((0:Int),(0:Int),(0:Int),(0:Int),(0:Int),()),[],()),()),())
    |false=>
     match(x.1.1==(3:Int))with
     |true=>
      some ((x.1.1,(x.1.2.1.1,x.1.2.1.2.1,(x.1.2.1.2.2.1.1,x.1.2.1.2.2.1.2.1,x.1.2.1.2.2.1.2.2.1,x.1.2.1.2.2.1.2.2.2.1,x.1.2.1.2.2.1.2.2.2.2.1,()),x.1.2.1.2.2.2.1,()),()),())
     |false=>
      match(x.2.1.1==(3:Int))with
      |true=>
       some ((x.2.1.1,(x.2.1.2.1.1,x.2.1.2.1.2.1,(x.2.1.2.1.2.2.1.1,x.2.1.2.1.2.2.1.2.1,x.2.1.2.1.2.2.1.2.2.1,x.2.1.2.1.2.2.1.2.2.2.1,x.2.1.2.1.2.2.1.2.2.2.2.1,()),x.2.1.2.1.2.2.2.1,()),()),())
      |false=>
       some (((if x.2.1.1>x.1.1 then x.2.1.1 else x.1.1),((0:Int),(0:Int),((0:Int),(0:Int),(0:Int),(0:Int),(0:Int),()),[],()),()),())
|false=>
 match(x.1.1==(3:Int))with
 |true=>
  match(x.2.1.1==(3:Int))with
  |true=>
   some (((4:Int),((0:Int),(0:Int),((0:Int),(0:Int),(0:Int),(0:Int),(0:Int),()),[],()),()),())
  |false=>
   match(x.1.1==(4:Int))with
   |true=>
    some (((4:Int),((0:Int),(0:Int),((0:Int),(0:Int),(0:Int),(0:Int),(0:Int),()),[],()),()),())
   |false=>
    match(x.2.1.1==(4:Int))with
    |true=>
     some (((4:Int),((0:Int),(0:Int),((0:Int),(0:Int),(0:Int),(0:Int),(0:Int),()),[],()),()),())
    |false=>
     match(x.1.1==(3:Int))with
     |true=>
      some ((x.1.1,(x.1.2.1.1,x.1.2.1.2.1,(x.1.2.1.2.2.1.1,x.1.2.1.2.2.1.2.1,x.1.2.1.2.2.1.2.2.1,x.1.2.1.2.2.1.2.2.2.1,x.1.2.1.2.2.1.2.2.2.2.1,()),x.1.2.1.2.2.2.1,()),()),())
     |false=>
      match(x.2.1.1==(3:Int))with
      |true=>
       some ((x.2.1.1,(x.2.1.2.1.1,x.2.1.2.1.2.1,(x.2.1.2.1.2.2.1.1,x.2.1.2.1.2.2.1.2.1,x.2.1.2.1.2.2.1.2.2.1,x.2.1.2.1.2.2.1.2.2.2.1,x.2.1.2.1.2.2.1.2.2.2.2.1,()),x.2.1.2.1.2.2.2.1,()),()),())
      |false=>
       some (((if x.2.1.1>x.1.1 then x.2.1.1 else x.1.1),((0:Int),(0:Int),((0:Int),(0:Int),(0:Int),(0:Int),(0:Int),()),[],()),()),())
 |false=>
  match(x.1.1==(4:Int))with
  |true=>
   some (((4:Int),((0:Int),(0:Int),((0:Int),(0:Int),(0:Int),(0:Int),(0:Int),()),[],()),()),())
  |false=>
   match(x.2.1.1==(4:Int))with
   |true=>
    some (((4:Int),((0:Int),(0:Int),((0:Int),(0:Int),(0:Int),(0:Int),(0:Int),()),[],()),()),())
   |false=>
    match(x.1.1==(3:Int))with
    |true=>
     some ((x.1.1,(x.1.2.1.1,x.1.2.1.2.1,(x.1.2.1.2.2.1.1,x.1.2.1.2.2.1.2.1,x.1.2.1.2.2.1.2.2.1,x.1.2.1.2.2.1.2.2.2.1,x.1.2.1.2.2.1.2.2.2.2.1,()),x.1.2.1.2.2.2.1,()),()),())
    |false=>
     match(x.2.1.1==(3:Int))with
     |true=>
      some ((x.2.1.1,(x.2.1.2.1.1,x.2.1.2.1.2.1,(x.2.1.2.1.2.2.1.1,x.2.1.2.1.2.2.1.2.1,x.2.1.2.1.2.2.1.2.2.1,x.2.1.2.1.2.2.1.2.2.2.1,x.2.1.2.1.2.2.1.2.2.2.2.1,()),x.2.1.2.1.2.2.2.1,()),()),())
     |false=>
      some (((if x.2.1.1>x.1.1 then x.2.1.1 else x.1.1),((0:Int),(0:Int),((0:Int),(0:Int),(0:Int),(0:Int),(0:Int),()),[],()),()),())
noncomputable def Qi:Spec:=⟨_,(.pair (.pair (.int .i64) (.pair (.pair (.int .i64) (.pair (.int .i64) (.pair ab (.pair (.own 2 (.int .i64)) .unit)))) .unit)) .unit),.unit,rfl,kl⟩
theorem Oe:FnOK G0 Tryz.prog 90 Qi:=aj ai (sg Qh (aC)) Tryz.func90
noncomputable def eR(x:(Ty.T (.pair (.list (.int .i64)) (.pair (.list (.int .i64)) (.pair (.own 2 (.int .i64)) ah))))):Option ((Ty.T (.pair (.list (.int .i64)) (.pair (.list (.int .i64)) (.pair (.own 2 (.int .i64)) ah)))) ⊕ ((Ty.T (.pair (.list (.int .i64)) (.pair (.list (.int .i64)) (.pair (.own 2 (.int .i64)) (.pair (.int .i64) .unit))))) ⊕ (Ty.T .unit))):=
aa (au x.2.1 x.2.2.2.1) fun v1=>
match(decide (x.2.2.2.2.1<v1))with
|true=>
 aa (au x.1 x.2.2.2.1) fun v2=>
 aM (x.2.2.1.length+ [v2].length) (
  some (.inl (x.1,x.2.1,(x.2.2.1++ [v2]),x.2.2.2.1,(IntKind.i64.wrap (x.2.2.2.2.1+(1:Int))),())))
|false=>
 some (.inr (.inl (x.1,x.2.1,x.2.2.1,x.2.2.2.1,())))
noncomputable def eS(x:(Ty.T (.pair (.list (.int .i64)) (.pair (.list (.int .i64)) (.pair (.own 2 (.int .i64)) (.pair (.int .i64) .unit)))))):Option ((Ty.T (.pair (.list (.int .i64)) (.pair (.list (.int .i64)) (.pair (.own 2 (.int .i64)) (.pair (.int .i64) .unit))))) ⊕ ((Ty.T (.pair (.own 2 (.int .i64)) .unit)) ⊕ (Ty.T .unit))):=
match(decide (x.2.2.2.1<(x.1.length:Int)))with
|true=>
 match ac eR (x.1,x.2.1,x.2.2.1,x.2.2.2.1,(0:Int),())with
 |none=>none
 |some (.inl v1)=>
  some (.inl (v1.1,v1.2.1,v1.2.2.1,(IntKind.i64.wrap (v1.2.2.2.1+(1:Int))),()))
 |some (.inr v3)=>
  some (.inr (.inr (())))
|false=>
 some (.inr (.inl (x.2.2.1,())))
noncomputable def uo(x:Ty.T (.pair (.list (.int .i64)) (.pair (.list (.int .i64)) .unit))):Option (Ty.T (.pair (.own 2 (.int .i64)) .unit)):=
match ac eS (x.1,x.2.1,[],(0:Int),())with
|none=>none
|some (.inl v4)=>
 some (v4.1,())
|some (.inr v6)=>
 none
noncomputable def L1:Spec:=⟨_,(.pair (.own 2 (.int .i64)) .unit),.unit,rfl,uo⟩
noncomputable def oY:FuncId→Option Spec:=aX []
theorem Ft:∀f s,oY f=some s→FnOK G0 Tryz.prog f s:=aw trivial
def up:aG:=⟨[0,1,5,6],(.pair (.list (.int .i64)) (.pair (.list (.int .i64)) (.pair (.own 2 (.int .i64)) (.pair (.int .i64) .unit)))),0,[5],(.pair (.own 2 (.int .i64)) .unit),[],.unit⟩
def uq:aG:=⟨[0,1,5,6,7],(.pair (.list (.int .i64)) (.pair (.list (.int .i64)) (.pair (.own 2 (.int .i64)) ah))),2,[0,1,5,6],(.pair (.list (.int .i64)) (.pair (.list (.int .i64)) (.pair (.own 2 (.int .i64)) (.pair (.int .i64) .unit)))),[],.unit⟩
noncomputable def oZ:List a9z:=[up.spec eS,uq.spec eR]
theorem Dg:aU aV E0 oY (aR Tryz.f166 oZ) Tryz.f166 0 up eS:=fun x=>by kernel_rfl
theorem Dh:aU aV E0 oY (aR Tryz.f166 oZ) Tryz.f166 1 uq eR:=fun x=>by kernel_rfl
theorem JU:FnOK G0 Tryz.prog 166 L1:=ax ai Ft Tryz.func166 oZ (by kernel_rfl) (by exact⟨(Dg).lok,(Dh).lok,trivial⟩) fun x=>by kernel_rfl
noncomputable def lB(x:Ty.T (.pair (.list (.int .i64)) .unit)):Option (Ty.T (.pair (.own 2 (.int .i64)) .unit)):=
match du ((x.1.length:Int),(8:Int),())with
|none=>none
|some v1=>
match uo (x.1,v1.1,())with
|none=>none
|some v2=>
some (v2.1,())
noncomputable def xR:Spec:=⟨_,(.pair (.own 2 (.int .i64)) .unit),.unit,rfl,lB⟩
theorem JV:FnOK G0 Tryz.prog 122 xR:=aj ai (sg kB (sg JU (aC))) Tryz.func122
noncomputable def gO(x:(Ty.T (.pair (.list (.int .i64)) (.pair (.own 2 (.int .i64)) ah)))):Option ((Ty.T (.pair (.list (.int .i64)) (.pair (.own 2 (.int .i64)) ah))) ⊕ ((Ty.T (.pair (.list (.int .i64)) (.pair (.own 2 (.int .i64)) (.pair (.int .i64) .unit)))) ⊕ (Ty.T .unit))):=
match(decide (x.2.2.2.1≥(0:Int)))with
|true=>
 aa (au x.1 x.2.2.1) fun v1=>
 if(IntKind.u64.wrap x.2.2.2.1)<0 then none else
 aM (x.2.1.length+ [(bits BinOp.and .i64 (Int.fdiv v1 (2^min (IntKind.u64.wrap x.2.2.2.1).toNat IntKind.i64.bits)) (1:Int))].length) (
  some (.inl (x.1,(x.2.1++ [(bits BinOp.and .i64 (Int.fdiv v1 (2^min (IntKind.u64.wrap x.2.2.2.1).toNat IntKind.i64.bits)) (1:Int))]),x.2.2.1,(IntKind.i64.wrap (x.2.2.2.1-(1:Int))),())))
|false=>
 some (.inr (.inl (x.1,x.2.1,x.2.2.1,())))
noncomputable def gP(x:(Ty.T (.pair (.list (.int .i64)) (.pair (.own 2 (.int .i64)) (.pair (.int .i64) .unit))))):Option ((Ty.T (.pair (.list (.int .i64)) (.pair (.own 2 (.int .i64)) (.pair (.int .i64) .unit)))) ⊕ ((Ty.T (.pair (.own 2 (.int .i64)) .unit)) ⊕ (Ty.T .unit))):=
match(decide (x.2.2.1<(x.1.length:Int)))with
|true=>
 match ac gO (x.1,x.2.1,x.2.2.1,(7:Int),())with
 |none=>none
 |some (.inl v1)=>
  some (.inl (v1.1,v1.2.1,(IntKind.i64.wrap (v1.2.2.1+(1:Int))),()))
 |some (.inr v3)=>
  some (.inr (.inr (())))
|false=>
 some (.inr (.inl (x.2.1,())))
noncomputable def jY(x:Ty.T (.pair (.list (.int .i64)) .unit)):Option (Ty.T (.pair (.own 2 (.int .i64)) .unit)):=
match ac gP (x.1,[],(0:Int),())with
|none=>none
|some (.inl v4)=>
 some (v4.1,())
|some (.inr v6)=>
 none
noncomputable def Gk:Spec:=⟨_,(.pair (.own 2 (.int .i64)) .unit),.unit,rfl,jY⟩
noncomputable def ur:FuncId→Option Spec:=aX []
theorem L2:∀f s,ur f=some s→FnOK G0 Tryz.prog f s:=aw trivial
def AP:aG:=⟨[0,3,4],(.pair (.list (.int .i64)) (.pair (.own 2 (.int .i64)) (.pair (.int .i64) .unit))),0,[3],(.pair (.own 2 (.int .i64)) .unit),[],.unit⟩
def AQ:aG:=⟨[0,3,4,5],(.pair (.list (.int .i64)) (.pair (.own 2 (.int .i64)) ah)),2,[0,3,4],(.pair (.list (.int .i64)) (.pair (.own 2 (.int .i64)) (.pair (.int .i64) .unit))),[],.unit⟩
noncomputable def ut:List a9z:=[AP.spec gP,AQ.spec gO]
theorem JW:aU aV E0 ur (aR Tryz.f207 ut) Tryz.f207 0 AP gP:=fun x=>by kernel_rfl
theorem JX:aU aV E0 ur (aR Tryz.f207 ut) Tryz.f207 1 AQ gO:=fun x=>by kernel_rfl
theorem uu:FnOK G0 Tryz.prog 207 Gk:=ax ai L2 Tryz.func207 ut (by kernel_rfl) (by exact⟨(JW).lok,(JX).lok,trivial⟩) fun x=>by kernel_rfl
noncomputable def qR(x:(Ty.T (.pair (.list (.int .i64)) (.pair (.own 2 (.int .i64)) (.pair (.int .i64) .unit))))):Option ((Ty.T (.pair (.list (.int .i64)) (.pair (.own 2 (.int .i64)) (.pair (.int .i64) .unit)))) ⊕ ((Ty.T (.pair (.own 2 (.int .i64)) .unit)) ⊕ (Ty.T .unit))):=
match(decide (x.2.2.1<(x.1.length:Int)))with
|true=>
 aM (x.2.1.length+ [(1:Int),(0:Int)].length) (
  aa (aH x.1.length (some (.dat (.int .i64) x.2.2.1)) (some (.dat (.int .i64) (IntKind.i64.wrap (x.2.2.1+(1:Int)))))) fun v1=>
  match jY ((List.drop v1.1 (List.take v1.2 x.1)),())with
  |none=>none
  |some v2=>
  aM ((x.2.1++ [(1:Int),(0:Int)]).length+v2.1.length) (
   some (.inl (x.1,((x.2.1++ [(1:Int),(0:Int)])++v2.1),(IntKind.i64.wrap (x.2.2.1+(1:Int))),()))))
|false=>
 some (.inr (.inl (x.2.1,())))
noncomputable def o5(x:Ty.T (.pair (.list (.int .i64)) (.pair (.int .i64) .unit))):Option (Ty.T (.pair (.own 2 (.int .i64)) .unit)):=
if 0≤x.2.1∧x.2.1≤x.2.1 then
 aM (x.2.1.toNat) (
  aM ((List.replicate x.2.1.toNat (0:Int)).length+ [(1:Int)].length) (
   match ac qR (x.1,((List.replicate x.2.1.toNat (0:Int))++ [(1:Int)]),(0:Int),())with
   |none=>none
   |some (.inl v3)=>
    aM (v3.1.length+ [(0:Int),(1:Int)].length) (
     some ((v3.1++ [(0:Int),(1:Int)]),()))
   |some (.inr v5)=>
    none))
else none
noncomputable def Qj:Spec:=⟨_,(.pair (.own 2 (.int .i64)) .unit),.unit,rfl,o5⟩
noncomputable def AS:FuncId→Option Spec:=aX [(207,Gk)]
theorem JY:∀f s,AS f=some s→FnOK G0 Tryz.prog f s:=aw ⟨uu,trivial⟩
def xS:aG:=⟨[0,5,6],(.pair (.list (.int .i64)) (.pair (.own 2 (.int .i64)) (.pair (.int .i64) .unit))),0,[5],(.pair (.own 2 (.int .i64)) .unit),[],.unit⟩
noncomputable def AU:List a9z:=[xS.spec qR]
theorem HJ:aU aV E0 AS (aR Tryz.f167 AU) Tryz.f167 0 xS qR:=fun x=>by kernel_rfl
theorem Og:FnOK G0 Tryz.prog 167 Qj:=ax ai JY Tryz.func167 AU (by kernel_rfl) (by exact⟨(HJ).lok,trivial⟩) fun x=>by kernel_rfl
noncomputable def fl(x:(Ty.T (.pair (.list (.int .i64)) al))):Option ((Ty.T (.pair (.list (.int .i64)) al)) ⊕ ((Ty.T (.pair (.int .i64) .unit)) ⊕ (Ty.T .unit))):=
match(decide (x.2.2.2.2.1<x.2.2.1))with
|true=>
 aa (au x.1 (IntKind.i64.wrap (x.2.1+x.2.2.2.2.1))) fun v1=>
 some (.inl (x.1,x.2.1,x.2.2.1,(IntKind.i64.wrap ((IntKind.i64.wrap ((2:Int)*x.2.2.2.1))+v1)),(IntKind.i64.wrap (x.2.2.2.2.1+(1:Int))),()))
|false=>
 some (.inr (.inl (x.2.2.2.1,())))
noncomputable def cC(x:Ty.T (.pair (.list (.int .i64)) ah)):Option (Ty.T (.pair (.int .i64) .unit)):=
match ac fl (x.1,x.2.1,x.2.2.1,(0:Int),(0:Int),())with
|none=>none
|some (.inl v2)=>
 some (v2.1,())
|some (.inr v4)=>
 none
noncomputable def AW:Spec:=⟨_,(.pair (.int .i64) .unit),.unit,rfl,cC⟩
noncomputable def xT:FuncId→Option Spec:=aX []
theorem HK:∀f s,xT f=some s→FnOK G0 Tryz.prog f s:=aw trivial
def vT:aG:=⟨[0,1,2,7,8],(.pair (.list (.int .i64)) al),0,[7],(.pair (.int .i64) .unit),[],.unit⟩
noncomputable def xU:List a9z:=[vT.spec fl]
theorem Fu:aU aV E0 xT (aR Tryz.f293 xU) Tryz.f293 0 vT fl:=fun x=>by kernel_rfl
theorem xV:FnOK G0 Tryz.prog 293 AW:=ax ai HK Tryz.func293 xU (by kernel_rfl) (by exact⟨(Fu).lok,trivial⟩) fun x=>by kernel_rfl
noncomputable def qS(x:(Ty.T (.pair (.list (.int .i64)) (.pair (.own 2 (.int .i64)) (.pair (.int .i64) .unit))))):Option ((Ty.T (.pair (.list (.int .i64)) (.pair (.own 2 (.int .i64)) (.pair (.int .i64) .unit)))) ⊕ ((Ty.T (.pair (.own 2 (.int .i64)) .unit)) ⊕ (Ty.T .unit))):=
match(decide ((IntKind.i64.wrap (x.2.2.1+(8:Int)))≤(x.1.length:Int)))with
|true=>
 match cC (x.1,x.2.2.1,(8:Int),())with
 |none=>none
 |some v1=>
 aM (x.2.1.length+ [v1.1].length) (
  some (.inl (x.1,(x.2.1++ [v1.1]),(IntKind.i64.wrap (x.2.2.1+(8:Int))),())))
|false=>
 some (.inr (.inl (x.2.1,())))
noncomputable def sS(x:Ty.T (.pair (.list (.int .i64)) .unit)):Option (Ty.T (.pair (.own 2 (.int .i64)) .unit)):=
match ac qS (x.1,[],(0:Int),())with
|none=>none
|some (.inl v2)=>
 some (v2.1,())
|some (.inr v4)=>
 none
noncomputable def Qk:Spec:=⟨_,(.pair (.own 2 (.int .i64)) .unit),.unit,rfl,sS⟩
noncomputable def AX:FuncId→Option Spec:=aX [(293,AW)]
theorem JZ:∀f s,AX f=some s→FnOK G0 Tryz.prog f s:=aw ⟨xV,trivial⟩
def xW:aG:=⟨[0,3,4],(.pair (.list (.int .i64)) (.pair (.own 2 (.int .i64)) (.pair (.int .i64) .unit))),0,[3],(.pair (.own 2 (.int .i64)) .unit),[],.unit⟩
noncomputable def AY:List a9z:=[xW.spec qS]
theorem HL:aU aV E0 AX (aR Tryz.f251 AY) Tryz.f251 0 xW qS:=fun x=>by kernel_rfl
theorem Oh:FnOK G0 Tryz.prog 251 Qk:=ax ai JZ Tryz.func251 AY (by kernel_rfl) (by exact⟨(HL).lok,trivial⟩) fun x=>by kernel_rfl
noncomputable def gE(x:(Ty.T (.pair (.int .i64) (.pair (.own 2 (.int .i64)) (.pair (.int .i64) .unit))))):Option ((Ty.T (.pair (.int .i64) (.pair (.own 2 (.int .i64)) (.pair (.int .i64) .unit)))) ⊕ ((Ty.T (.pair (.own 2 (.int .i64)) .unit)) ⊕ (Ty.T .unit))):=
match(decide (x.2.2.1≥(0:Int)))with
|true=>
 if(IntKind.u64.wrap x.2.2.1)<0 then none else
 aM (x.2.1.length+ [(bits BinOp.and .i64 (Int.fdiv x.1 (2^min (IntKind.u64.wrap x.2.2.1).toNat IntKind.i64.bits)) (1:Int))].length) (
  some (.inl (x.1,(x.2.1++ [(bits BinOp.and .i64 (Int.fdiv x.1 (2^min (IntKind.u64.wrap x.2.2.1).toNat IntKind.i64.bits)) (1:Int))]),(IntKind.i64.wrap (x.2.2.1-(1:Int))),())))
|false=>
 some (.inr (.inl (x.2.1,())))
noncomputable def dk(x:Ty.T (.pair (.list (.int .i64)) ah)):Option (Ty.T (.pair (.own 2 (.int .i64)) .unit)):=
aM (([]:List (Ty.T (.int .i64))).length+x.1.length) (
 match ac gE (x.2.1,(([]:List (Ty.T (.int .i64)))++x.1),(IntKind.i64.wrap (x.2.2.1-(1:Int))),())with
 |none=>none
 |some (.inl v1)=>
  some (v1.1,())
 |some (.inr v3)=>
  none)
noncomputable def Oi:Spec:=⟨_,(.pair (.own 2 (.int .i64)) .unit),.unit,rfl,dk⟩
noncomputable def xX:FuncId→Option Spec:=aX []
theorem HM:∀f s,xX f=some s→FnOK G0 Tryz.prog f s:=aw trivial
def vU:aG:=⟨[1,7,8],(.pair (.int .i64) (.pair (.own 2 (.int .i64)) (.pair (.int .i64) .unit))),0,[7],(.pair (.own 2 (.int .i64)) .unit),[],.unit⟩
noncomputable def xY:List a9z:=[vU.spec gE]
theorem Fv:aU aV E0 xX (aR Tryz.f294 xY) Tryz.f294 0 vU gE:=fun x=>by kernel_rfl
theorem L3:FnOK G0 Tryz.prog 294 Oi:=ax ai HM Tryz.func294 xY (by kernel_rfl) (by exact⟨(Fv).lok,trivial⟩) fun x=>by kernel_rfl
noncomputable def lC(x:Ty.T (.pair ab .unit)):Option (Ty.T (.pair (.own 2 (.int .i64)) .unit)):=
match dk ([],x.1.1,(16:Int),())with
|none=>none
|some v1=>
match dk (v1.1,x.1.2.1,(4:Int),())with
|none=>none
|some v2=>
match dk (v2.1,x.1.2.2.1,(4:Int),())with
|none=>none
|some v3=>
match dk (v3.1,x.1.2.2.2.1,(8:Int),())with
|none=>none
|some v4=>
match dk (v4.1,x.1.2.2.2.2.1,(32:Int),())with
|none=>none
|some v5=>
some (v5.1,())
noncomputable def Sv:Spec:=⟨_,(.pair (.own 2 (.int .i64)) .unit),.unit,rfl,lC⟩
theorem Di:FnOK G0 Tryz.prog 252 Sv:=aj ai (sg L3 (aC)) Tryz.func252
noncomputable def bv(x:Ty.T (.pair aL .unit)):Option (Ty.T (.pair (.own 2 (.int .i64)) .unit)):=
match dS (x.1.1,())with
|none=>none
|some v1=>
match v1.1 with
|true=>
 match lC ((x.1.2.2.1.1,x.1.2.2.1.2.1,x.1.2.2.1.2.2.1,x.1.2.2.1.2.2.2.1,x.1.2.2.1.2.2.2.2.1,()),())with
 |none=>none
 |some v2=>
 match sS (v2.1,())with
 |none=>none
 |some v3=>
 aM ([(IntKind.i64.wrap ((IntKind.i64.wrap (x.1.1*(64:Int)))+(IntKind.i64.wrap (x.1.2.1*(8:Int)))))].length+v3.1.length) (
  match jW (x.1.1,())with
  |none=>none
  |some v4=>
  match v4.1 with
  |true=>
   aM (([(IntKind.i64.wrap ((IntKind.i64.wrap (x.1.1*(64:Int)))+(IntKind.i64.wrap (x.1.2.1*(8:Int)))))]++v3.1).length+ [(x.1.2.2.2.1.length:Int)].length) (
    aM ((([(IntKind.i64.wrap ((IntKind.i64.wrap (x.1.1*(64:Int)))+(IntKind.i64.wrap (x.1.2.1*(8:Int)))))]++v3.1)++ [(x.1.2.2.2.1.length:Int)]).length+x.1.2.2.2.1.length) (
     some (((([(IntKind.i64.wrap ((IntKind.i64.wrap (x.1.1*(64:Int)))+(IntKind.i64.wrap (x.1.2.1*(8:Int)))))]++v3.1)++ [(x.1.2.2.2.1.length:Int)])++x.1.2.2.2.1),())))
  |false=>
   some (([(IntKind.i64.wrap ((IntKind.i64.wrap (x.1.1*(64:Int)))+(IntKind.i64.wrap (x.1.2.1*(8:Int)))))]++v3.1),()))
|false=>
 match jW (x.1.1,())with
 |none=>none
 |some v5=>
 match v5.1 with
 |true=>
  aM ([(IntKind.i64.wrap ((IntKind.i64.wrap (x.1.1*(64:Int)))+(IntKind.i64.wrap (x.1.2.1*(8:Int)))))].length+ [(x.1.2.2.2.1.length:Int)].length) (
   aM (([(IntKind.i64.wrap ((IntKind.i64.wrap (x.1.1*(64:Int)))+(IntKind.i64.wrap (x.1.2.1*(8:Int)))))]++ [(x.1.2.2.2.1.length:Int)]).length+x.1.2.2.2.1.length) (
    some ((([(IntKind.i64.wrap ((IntKind.i64.wrap (x.1.1*(64:Int)))+(IntKind.i64.wrap (x.1.2.1*(8:Int)))))]++ [(x.1.2.2.2.1.length:Int)])++x.1.2.2.2.1),())))
 |false=>
  some ([(IntKind.i64.wrap ((IntKind.i64.wrap (x.1.1*(64:Int)))+(IntKind.i64.wrap (x.1.2.1*(8:Int)))))],())
noncomputable def Sw:Spec:=⟨_,(.pair (.own 2 (.int .i64)) .unit),.unit,rfl,bv⟩
theorem Dj:FnOK G0 Tryz.prog 208 Sw:=aj ai (sg iX (sg Oh (sg Di (sg uf (aC))))) Tryz.func208
noncomputable def eK(x:(Ty.T (.pair (.int .i64) (.pair (.list (.int .i64)) (.pair (.box ah) ah))))):Option ((Ty.T (.pair (.int .i64) (.pair (.list (.int .i64)) (.pair (.box ah) ah)))) ⊕ ((Ty.T (.pair (.int .i64) .unit)) ⊕ (Ty.T .unit))):=
match(decide (x.2.2.2.2.1<(x.2.1.length:Int)))with
|true=>
 if x.2.2.2.1=0 then none else
 aa (au x.2.1 x.2.2.2.2.1) fun v1=>
 if x.2.2.2.1=0 then none else
 match((bits BinOp.xor .i64 (IntKind.i64.wrap (Int.tdiv x.1 x.2.2.2.1)) v1)==(1:Int))with
 |true=>
  some (.inl ((bits BinOp.xor .i64 (IntKind.i64.wrap ((Int.tmod x.1 x.2.2.2.1)*(2:Int))) x.2.2.1.2.1),x.2.1,(x.2.2.1.1,x.2.2.1.2.1,()),x.2.2.2.1,(IntKind.i64.wrap (x.2.2.2.2.1+(1:Int))),()))
 |false=>
  some (.inl ((IntKind.i64.wrap ((Int.tmod x.1 x.2.2.2.1)*(2:Int))),x.2.1,(x.2.2.1.1,x.2.2.1.2.1,()),x.2.2.2.1,(IntKind.i64.wrap (x.2.2.2.2.1+(1:Int))),()))
|false=>
 some (.inr (.inl (x.1,())))
noncomputable def oa(x:Ty.T (.pair ah (.pair (.int .i64) (.pair (.list (.int .i64)) .unit)))):Option (Ty.T (.pair (.int .i64) .unit)):=
if(IntKind.u64.wrap (IntKind.i64.wrap (x.1.1-(1:Int))))<0 then none else
match ac eK (x.2.1,x.2.2.1,(x.1.1,x.1.2.1,()),(IntKind.i64.wrap ((1:Int)*2^min (IntKind.u64.wrap (IntKind.i64.wrap (x.1.1-(1:Int)))).toNat IntKind.i64.bits)),(0:Int),())with
|none=>none
|some (.inl v2)=>
 some (v2.1,())
|some (.inr v4)=>
 none
noncomputable def Sx:Spec:=⟨_,(.pair (.int .i64) .unit),.unit,rfl,oa⟩
noncomputable def Dk:FuncId→Option Spec:=aX []
theorem L4:∀f s,Dk f=some s→FnOK G0 Tryz.prog f s:=aw trivial
def AZ:aG:=⟨[1,2,3,7,8],(.pair (.int .i64) (.pair (.list (.int .i64)) (.pair (.box ah) ah))),0,[1],(.pair (.int .i64) .unit),[],.unit⟩
noncomputable def Dl:List a9z:=[AZ.spec eK]
theorem J0:aU aV E0 Dk (aR Tryz.f254 Dl) Tryz.f254 0 AZ eK:=fun x=>by kernel_rfl
theorem Ql:FnOK G0 Tryz.prog 254 Sx:=ax ai L4 Tryz.func254 Dl (by kernel_rfl) (by exact⟨(J0).lok,trivial⟩) fun x=>by kernel_rfl
noncomputable def kD(x:Ty.T .unit):Option (Ty.T (.pair ah .unit)):=
some (((24:Int),(6122955:Int),()),())
noncomputable def J1:Spec:=⟨_,(.pair ah .unit),.unit,rfl,kD⟩
theorem HN:FnOK G0 Tryz.prog 255 J1:=aj ai aC Tryz.func255
noncomputable def jn(x:Ty.T (.pair (.int .i64) (.pair (.list (.int .i64)) (.pair (.int .i64) (.pair ab .unit))))):Option (Ty.T (.pair (.int .i64) .unit)):=
match(x.1==(0:Int))with
|true=>
 match kD (())with
 |none=>none
 |some v1=>
 match lC ((x.2.2.2.1.1,x.2.2.2.1.2.1,x.2.2.2.1.2.2.1,x.2.2.2.1.2.2.2.1,x.2.2.2.1.2.2.2.2.1,()),())with
 |none=>none
 |some v2=>
 match oa (v1.1,x.2.2.1,v2.1,())with
 |none=>none
 |some v3=>
 match kD (())with
 |none=>none
 |some v4=>
 match jY (x.2.1,())with
 |none=>none
 |some v5=>
 match oa (v4.1,v3.1,v5.1,())with
 |none=>none
 |some v6=>
 some (v6.1,())
|false=>
 match kD (())with
 |none=>none
 |some v7=>
 match jY (x.2.1,())with
 |none=>none
 |some v8=>
 match oa (v7.1,x.2.2.1,v8.1,())with
 |none=>none
 |some v9=>
 some (v9.1,())
noncomputable def Oj:Spec:=⟨_,(.pair (.int .i64) .unit),.unit,rfl,jn⟩
theorem xZ:FnOK G0 Tryz.prog 209 Oj:=aj ai (sg uu (sg Di (sg Ql (sg HN (aC))))) Tryz.func209
noncomputable def ob(x:Ty.T (.pair aL (.pair (.int .i64) (.pair ab .unit)))):Option (Ty.T (.pair (.own 2 (.int .i64)) .unit)):=
match bv ((x.1.1,x.1.2.1,(x.1.2.2.1.1,x.1.2.2.1.2.1,x.1.2.2.1.2.2.1,x.1.2.2.1.2.2.2.1,x.1.2.2.1.2.2.2.2.1,()),x.1.2.2.2.1,()),())with
|none=>none
|some v1=>
match jn (x.1.1,v1.1,x.2.1,(x.2.2.1.1,x.2.2.1.2.1,x.2.2.1.2.2.1,x.2.2.1.2.2.2.1,x.2.2.1.2.2.2.2.1,()),())with
|none=>none
|some v2=>
aM (v1.1.length+ [(IntKind.i64.wrap (Int.tdiv v2.1 (65536:Int))),(Int.tmod (IntKind.i64.wrap (Int.tdiv v2.1 (256:Int))) (256:Int)),(Int.tmod v2.1 (256:Int))].length) (
 some ((v1.1++ [(IntKind.i64.wrap (Int.tdiv v2.1 (65536:Int))),(Int.tmod (IntKind.i64.wrap (Int.tdiv v2.1 (256:Int))) (256:Int)),(Int.tmod v2.1 (256:Int))]),()))
noncomputable def Sy:Spec:=⟨_,(.pair (.own 2 (.int .i64)) .unit),.unit,rfl,ob⟩
theorem Qm:FnOK G0 Tryz.prog 168 Sy:=aj ai (sg Dj (sg xZ (aC))) Tryz.func168
noncomputable def o6(x:Ty.T (.pair ae (.pair ab (.pair aL .unit)))):Option (Ty.T (.pair (.own 2 (.int .i64)) .unit)):=
ba (
 match du ((8:Int),(1:Int),())with
 |none=>none
 |some v1=>
 match ob ((x.2.2.1.1,x.2.2.1.2.1,(x.2.2.1.2.2.1.1,x.2.2.1.2.2.1.2.1,x.2.2.1.2.2.1.2.2.1,x.2.2.1.2.2.1.2.2.2.1,x.2.2.1.2.2.1.2.2.2.2.1,()),x.2.2.1.2.2.2.1,()),x.1.1,(x.2.1.1,x.2.1.2.1,x.2.1.2.2.1,x.2.1.2.2.2.1,x.2.1.2.2.2.2.1,()),())with
 |none=>none
 |some v2=>
 match o5 (v2.1,(8:Int),())with
 |none=>none
 |some v3=>
 aM (v1.1.length+v3.1.length) (
  match cn ((x.1.1,x.1.2.1,x.1.2.2.1,x.1.2.2.2.1,()),(x.2.1.1,x.2.1.2.1,x.2.1.2.2.1,x.2.1.2.2.2.1,x.2.1.2.2.2.2.1,()),())with
  |none=>none
  |some v4=>
  match du ((IntKind.i64.wrap (v4.1.2.2.2.1-((v1.1++v3.1).length:Int))),(1:Int),())with
  |none=>none
  |some v5=>
  aM ((v1.1++v3.1).length+v5.1.length) (
   some (((v1.1++v3.1)++v5.1),()))))
noncomputable def Dm:Spec:=⟨_,(.pair (.own 2 (.int .i64)) .unit),.unit,rfl,o6⟩
theorem Ok:FnOK G0 Tryz.prog 123 Dm:=aj ai (sg gx (sg kB (sg Og (sg Qm (aC))))) Tryz.func123
noncomputable def sU(x:Ty.T (.pair ae bk)):Option (Ty.T (.pair aL .unit)):=
match cn (x.1,x.2.1,())with
|none=>none
|some v1=>
bf (
 match du (v1.1.2.2.1,x.2.2.1,())with
 |none=>none
 |some v2=>
 ba (
  match dS (v1.1.2.1,())with
  |none=>none
  |some v3=>
  match v3.1 with
  |true=>
   some ((v1.1.2.1,x.2.2.2.1,x.2.1,v2.1,()),())
  |false=>
   some ((v1.1.2.1,x.2.2.2.1,((0:Int),(0:Int),(0:Int),(0:Int),(0:Int),()),v2.1,()),()))) (
 match du (v1.1.2.2.1,x.2.2.1,())with
 |none=>none
 |some v2=>
 match dS (v1.1.2.1,())with
 |none=>none
 |some v3=>
 match v3.1 with
 |true=>
  some ((v1.1.2.1,x.2.2.2.1,x.2.1,v2.1,()),())
 |false=>
  some ((v1.1.2.1,x.2.2.2.1,((0:Int),(0:Int),(0:Int),(0:Int),(0:Int),()),v2.1,()),()))
noncomputable def Dn:Spec:=⟨_,(.pair aL .unit),.unit,rfl,sU⟩
theorem Ol:FnOK G0 Tryz.prog 145 Dn:=aj ai (sg gx (sg kB (sg iX (aC)))) Tryz.func145
noncomputable def dF(x:(Ty.T (.pair (.list (.int .i64)) ah))):Option ((Ty.T (.pair (.list (.int .i64)) ah)) ⊕ ((Ty.T .unit) ⊕ (Ty.T (.pair .bool .unit)))):=
match(decide (x.2.2.1<(x.1.length:Int)))with
|true=>
 aa (au x.1 x.2.2.1) fun v1=>
 match bh (v1,(0:Int),x.2.1,())with
 |none=>none
 |some v2=>
 match(!v2.1)with
 |true=>
  some (.inr (.inr (false,())))
 |false=>
  some (.inl (x.1,x.2.1,(IntKind.i64.wrap (x.2.2.1+(1:Int))),()))
|false=>
 some (.inr (.inl (())))
noncomputable def p6(x:Ty.T (.pair (.list (.int .i64)) ah)):Option (Ty.T (.pair .bool .unit)):=
match(decide ((x.1.length:Int)>x.2.1))with
|true=>
 some (false,())
|false=>
 match ac dF (x.1,x.2.2.1,(0:Int),())with
 |none=>none
 |some (.inl v3)=>
  some (true,())
 |some (.inr v4)=>
  some (v4.1,())
noncomputable def UY:Spec:=⟨_,(.pair .bool .unit),.unit,rfl,p6⟩
noncomputable def Gm:FuncId→Option Spec:=aX [(144,lw)]
theorem Om:∀f s,Gm f=some s→FnOK G0 Tryz.prog f s:=aw ⟨ct,trivial⟩
def Dp:aG:=⟨[0,2,7],(.pair (.list (.int .i64)) ah),0,[],.unit,[6],(.pair .bool .unit)⟩
noncomputable def Gn:List a9z:=[Dp.spec dF]
theorem L5:aU aV E0 Gm (aR Tryz.f210 Gn) Tryz.f210 0 Dp dF:=fun x=>by kernel_rfl
theorem Gp:FnOK G0 Tryz.prog 210 UY:=ax ai Om Tryz.func210 Gn (by kernel_rfl) (by exact⟨(L5).lok,trivial⟩) fun x=>by kernel_rfl
noncomputable def qP(x:Ty.T (.pair (.list (.int .i64)) .unit)):Option (Ty.T (.pair .bool .unit)):=
match p6 (x.1,(1024:Int),(255:Int),())with
|none=>none
|some v1=>
some (v1.1,())
noncomputable def Sz:Spec:=⟨_,(.pair .bool .unit),.unit,rfl,qP⟩
theorem Qn:FnOK G0 Tryz.prog 279 Sz:=aj ai (sg Gp (aC)) Tryz.func279
noncomputable def fm(x:(Ty.T (.pair (.list (.int .i64)) (.pair (.int .i64) .unit)))):Option ((Ty.T (.pair (.list (.int .i64)) (.pair (.int .i64) .unit))) ⊕ ((Ty.T .unit) ⊕ (Ty.T (.pair .bool .unit)))):=
match(decide (x.2.1<(x.1.length:Int)))with
|true=>
 aa (au x.1 x.2.1) fun v1=>
 match bh (v1,(0:Int),(4294967295:Int),())with
 |none=>none
 |some v2=>
 match(!v2.1)with
 |true=>
  some (.inr (.inr (false,())))
 |false=>
  some (.inl (x.1,(IntKind.i64.wrap (x.2.1+(1:Int))),()))
|false=>
 some (.inr (.inl (())))
noncomputable def mX(x:Ty.T (.pair (.list (.int .i64)) .unit)):Option (Ty.T (.pair .bool .unit)):=
match ac fm (x.1,(0:Int),())with
|none=>none
|some (.inl v3)=>
 some (true,())
|some (.inr v4)=>
 some (v4.1,())
noncomputable def A0:Spec:=⟨_,(.pair .bool .unit),.unit,rfl,mX⟩
noncomputable def x5:FuncId→Option Spec:=aX [(144,lw)]
theorem HO:∀f s,x5 f=some s→FnOK G0 Tryz.prog f s:=aw ⟨ct,trivial⟩
def vV:aG:=⟨[0,3],(.pair (.list (.int .i64)) (.pair (.int .i64) .unit)),0,[],.unit,[2],(.pair .bool .unit)⟩
noncomputable def x6:List a9z:=[vV.spec fm]
theorem Fw:aU aV E0 x5 (aR Tryz.f306 x6) Tryz.f306 0 vV fm:=fun x=>by kernel_rfl
theorem L6:FnOK G0 Tryz.prog 306 A0:=ax ai HO Tryz.func306 x6 (by kernel_rfl) (by exact⟨(Fw).lok,trivial⟩) fun x=>by kernel_rfl
noncomputable def fo(x:(Ty.T (.pair (.int .i64) (.pair (.own 2 (.int .i64)) (.pair (.int .i64) .unit))))):Option ((Ty.T (.pair (.int .i64) (.pair (.own 2 (.int .i64)) (.pair (.int .i64) .unit)))) ⊕ ((Ty.T (.pair (.own 2 (.int .i64)) .unit)) ⊕ (Ty.T .unit))):=
match(decide (x.2.2.1<(32:Int)))with
|true=>
 match lx (x.1,x.2.2.1,())with
 |none=>none
 |some v2=>
 match v2.1 with
 |true=>
  aM (x.2.1.length+ [x.2.2.1].length) (
   some (.inl (x.1,(x.2.1++ [x.2.2.1]),(IntKind.i64.wrap (x.2.2.1+(1:Int))),())))
 |false=>
  some (.inl (x.1,x.2.1,(IntKind.i64.wrap (x.2.2.1+(1:Int))),()))
|false=>
 some (.inr (.inl (x.2.1,())))
noncomputable def qp(x:Ty.T (.pair (.int .i64) .unit)):Option (Ty.T (.pair (.own 2 (.int .i64)) (.pair (.int .i64) .unit))):=
match mX ([x.1],())with
|none=>none
|some v1=>
match(!v1.1)with
|true=>
 some ([],(2:Int),())
|false=>
 match ac fo (x.1,[],(0:Int),())with
 |none=>none
 |some (.inl v3)=>
  some (v3.1,(0:Int),())
 |some (.inr v5)=>
  none
noncomputable def On:Spec:=⟨_,(.pair (.own 2 (.int .i64)) (.pair (.int .i64) .unit)),.unit,rfl,qp⟩
noncomputable def x7:FuncId→Option Spec:=aX [(150,zB),(306,A0)]
theorem HP:∀f s,x7 f=some s→FnOK G0 Tryz.prog f s:=aw ⟨wW,L6,trivial⟩
def vW:aG:=⟨[0,4,5],(.pair (.int .i64) (.pair (.own 2 (.int .i64)) (.pair (.int .i64) .unit))),0,[4],(.pair (.own 2 (.int .i64)) .unit),[],.unit⟩
noncomputable def x8:List a9z:=[vW.spec fo]
theorem Fx:aU aV E0 x7 (aR Tryz.f280 x8) Tryz.f280 0 vW fo:=fun x=>by kernel_rfl
theorem L7:FnOK G0 Tryz.prog 280 On:=ax ai HP Tryz.func280 x8 (by kernel_rfl) (by exact⟨(Fx).lok,trivial⟩) fun x=>by kernel_rfl
noncomputable def cu(x:Ty.T (.pair aL .unit)):Option (Ty.T (.pair .bool .unit)):=
match qH (x.1.1,())with
|none=>none
|some v1=>
match(!v1.1)with
|true=>
 some (false,())
|false=>
 match bh (x.1.2.1,(0:Int),(7:Int),())with
 |none=>none
 |some v2=>
 match(!v2.1)with
 |true=>
  some (false,())
 |false=>
  match qI (x.1.1,(x.1.2.2.2.1.length:Int),())with
  |none=>none
  |some v3=>
  match(!v3.1)with
  |true=>
   some (false,())
  |false=>
   match qP (x.1.2.2.2.1,())with
   |none=>none
   |some v4=>
   match(!v4.1)with
   |true=>
    some (false,())
   |false=>
    match(x.1.1==(0:Int))with
    |true=>
     some ((dC ab (x.1.2.2.1.1,x.1.2.2.1.2.1,x.1.2.2.1.2.2.1,x.1.2.2.1.2.2.2.1,x.1.2.2.1.2.2.2.2.1,()) ((0:Int),(0:Int),(0:Int),(0:Int),(0:Int),())),())
    |false=>
     match(x.1.1==(3:Int))with
     |true=>
      match qp (x.1.2.2.1.2.2.2.2.1,())with
      |none=>none
      |some v5=>
      match jX ((x.1.2.2.1.1,x.1.2.2.1.2.1,x.1.2.2.1.2.2.1,x.1.2.2.1.2.2.2.1,x.1.2.2.1.2.2.2.2.1,()),())with
      |none=>none
      |some v6=>
      match v6.1 with
      |true=>
       match(x.1.2.2.1.2.1==(0:Int))with
       |true=>
        match((v5.1.length:Int)==(1:Int))with
        |true=>
         some ((x.1.2.1==(0:Int)),())
        |false=>
         some (false,())
       |false=>
        some (false,())
      |false=>
       some (false,())
     |false=>
      match jX ((x.1.2.2.1.1,x.1.2.2.1.2.1,x.1.2.2.1.2.2.1,x.1.2.2.1.2.2.2.1,x.1.2.2.1.2.2.2.2.1,()),())with
      |none=>none
      |some v7=>
      some (v7.1,())
noncomputable def SA:Spec:=⟨_,(.pair .bool .unit),.unit,rfl,cu⟩
theorem Dq:FnOK G0 Tryz.prog 233 SA:=aj ai (sg ct (sg C8 (sg CY (sg CZ (sg Qn (sg L7 (aC))))))) Tryz.func233
noncomputable def c8(x:Ty.T (.pair a7 (.pair aL .unit))):Option (Ty.T (.pair .bool .unit)):=
match dU ((x.1.1,x.1.2.1,x.1.2.2.1,x.1.2.2.2.1,x.1.2.2.2.2.1,()),())with
|none=>none
|some v1=>
match v1.1 with
|true=>
 match cu ((x.2.1.1,x.2.1.2.1,(x.2.1.2.2.1.1,x.2.1.2.2.1.2.1,x.2.1.2.2.1.2.2.1,x.2.1.2.2.1.2.2.2.1,x.2.1.2.2.1.2.2.2.2.1,()),x.2.1.2.2.2.1,()),())with
 |none=>none
 |some v2=>
 match v2.1 with
 |true=>
  match(x.2.1.1==x.1.2.1)with
  |true=>
   match((x.2.1.2.2.2.1.length:Int)==x.1.2.2.1)with
   |true=>
    match x.1.2.2.2.2.1 with
    |true=>
     some (true,())
    |false=>
     some ((x.2.1.2.1==(0:Int)),())
   |false=>
    some (false,())
  |false=>
   some (false,())
 |false=>
  some (false,())
|false=>
 some (false,())
noncomputable def Dr:Spec:=⟨_,(.pair .bool .unit),.unit,rfl,c8⟩
theorem pM:FnOK G0 Tryz.prog 196 Dr:=aj ai (sg r7 (sg Dq (aC))) Tryz.func196
noncomputable def kE(x:Ty.T (.pair ae (.pair ab (.pair aL .unit)))):Option (Ty.T (.pair .bool .unit)):=
match cn ((x.1.1,x.1.2.1,x.1.2.2.1,x.1.2.2.2.1,()),(x.2.1.1,x.2.1.2.1,x.2.1.2.2.1,x.2.1.2.2.2.1,x.2.1.2.2.2.2.1,()),())with
|none=>none
|some v1=>
match c8 (v1.1,(x.2.2.1.1,x.2.2.1.2.1,(x.2.2.1.2.2.1.1,x.2.2.1.2.2.1.2.1,x.2.2.1.2.2.1.2.2.1,x.2.2.1.2.2.1.2.2.2.1,x.2.2.1.2.2.1.2.2.2.2.1,()),x.2.2.1.2.2.2.1,()),())with
|none=>none
|some v2=>
match v2.1 with
|true=>
 match dS (x.2.2.1.1,())with
 |none=>none
 |some v3=>
 match(!v3.1)with
 |true=>
  some (true,())
 |false=>
  some ((dC ab (x.2.2.1.2.2.1.1,x.2.2.1.2.2.1.2.1,x.2.2.1.2.2.1.2.2.1,x.2.2.1.2.2.1.2.2.2.1,x.2.2.1.2.2.1.2.2.2.2.1,()) (x.2.1.1,x.2.1.2.1,x.2.1.2.2.1,x.2.1.2.2.2.1,x.2.1.2.2.2.2.1,())),())
|false=>
 some (false,())
noncomputable def vX:Spec:=⟨_,(.pair .bool .unit),.unit,rfl,kE⟩
theorem HQ:FnOK G0 Tryz.prog 146 vX:=aj ai (sg gx (sg iX (sg pM (aC)))) Tryz.func146
noncomputable def bQ(x:(Ty.T (.pair (.box ae) (.pair (.box ab) (.pair (.box ar) (.pair (.own 2 (.int .i64)) (.pair (.int .i64) .unit))))))):Option ((Ty.T (.pair (.box ae) (.pair (.box ab) (.pair (.box ar) (.pair (.own 2 (.int .i64)) (.pair (.int .i64) .unit)))))) ⊕ ((Ty.T (.pair (.box ae) (.pair (.box ab) .unit))) ⊕ (Ty.T (.pair (.own 2 (.int .i64)) .unit)))):=
match(decide (x.2.2.2.2.1<(2:Int)))with
|true=>
 aa (au x.2.2.2.1 x.2.2.2.2.1) fun _=>
 match x.2.2.2.1[x.2.2.2.2.1.toNat]? with
 |none=>none
 |some v2=>
 ba (
  match sU (x.1,x.2.1,x.2.2.1.1,v2,())with
  |none=>none
  |some v3=>
  match kE (x.1,x.2.1,v3.1,())with
  |none=>none
  |some v4=>
  match v4.1 with
  |true=>
   match o6 (x.1,x.2.1,v3.1,())with
   |none=>none
   |some v5=>
   match lB (v5.1,())with
   |none=>none
   |some v6=>
   some (.inr (.inr (v6.1,())))
  |false=>
   some (.inl (x.1,x.2.1,x.2.2.1,x.2.2.2.1,(IntKind.i64.wrap (x.2.2.2.2.1+(1:Int))),())))
|false=>
 some (.inr (.inl (x.1,x.2.1,())))
noncomputable def o7(x:Ty.T (.pair ae (.pair ab (.pair ar .unit)))):Option (Ty.T (.pair (.own 2 (.int .i64)) .unit)):=
match ac bQ (x.1,x.2.1,x.2.2.1,[x.2.2.1.2.1,(0:Int)],(0:Int),())with
|none=>none
|some (.inl v7)=>
 match cn v7 with
 |none=>none
 |some v9=>
 match du ((IntKind.i64.wrap ((8:Int)*v9.1.2.2.2.1)),(1:Int),())with
 |none=>none
 |some v10=>
 some (v10.1,())
|some (.inr v8)=>
 some (v8.1,())
noncomputable def L8:Spec:=⟨_,(.pair (.own 2 (.int .i64)) .unit),.unit,rfl,o7⟩
noncomputable def vY:FuncId→Option Spec:=aX [(79,wZ),(122,xR),(123,Dm),(145,Dn),(146,vX),(147,um)]
theorem Fy:∀f s,vY f=some s→FnOK G0 Tryz.prog f s:=aw ⟨gx,JV,Ok,Ol,HQ,kB,trivial⟩
def uv:aG:=⟨[3,4,5,7,8],(.pair (.box ae) (.pair (.box ab) (.pair (.box ar) (.pair (.own 2 (.int .i64)) (.pair (.int .i64) .unit))))),0,[3,4],(.pair (.box ae) (.pair (.box ab) .unit)),[6],(.pair (.own 2 (.int .i64)) .unit)⟩
noncomputable def vZ:List a9z:=[uv.spec bQ]
theorem Ds:aU aV E0 vY (aR Tryz.f107 vZ) Tryz.f107 0 uv bQ:=fun x=>by kernel_rfl
theorem J2:FnOK G0 Tryz.prog 107 L8:=ax ai Fy Tryz.func107 vZ (by kernel_rfl) (by exact⟨(Ds).lok,trivial⟩) fun x=>by kernel_rfl
noncomputable def uw(x:Ty.T (.pair (.list (.int .i64)) .unit)):Option (Ty.T (.pair .bool .unit)):=
match p6 (x.1,(8192:Int),(1:Int),())with
|none=>none
|some v1=>
some (v1.1,())
noncomputable def UZ:Spec:=⟨_,(.pair .bool .unit),.unit,rfl,uw⟩
theorem Gq:FnOK G0 Tryz.prog 170 UZ:=aj ai (sg Gp (aC)) Tryz.func170
noncomputable def eX(x:(Ty.T (.pair (.list (.int .i64)) ah))):Option ((Ty.T (.pair (.list (.int .i64)) ah)) ⊕ ((Ty.T .unit) ⊕ (Ty.T (.pair (.int .i64) .unit)))):=
match(decide (x.2.2.1<(x.1.length:Int)))with
|true=>
 aa (au x.1 x.2.2.1) fun v1=>
 match(v1==x.2.1)with
 |true=>
  some (.inr (.inr (x.2.2.1,())))
 |false=>
  some (.inl (x.1,x.2.1,(IntKind.i64.wrap (x.2.2.1+(1:Int))),()))
|false=>
 some (.inr (.inl (())))
noncomputable def cl(x:Ty.T (.pair (.list (.int .i64)) ah)):Option (Ty.T (.pair (.int .i64) .unit)):=
match ac eX (x.1,x.2.2.1,(IntKind.i64.wrap (x.2.1+(1:Int))),())with
|none=>none
|some (.inl v2)=>
 some ((-1:Int),())
|some (.inr v3)=>
 some (v3.1,())
noncomputable def Dt:Spec:=⟨_,(.pair (.int .i64) .unit),.unit,rfl,cl⟩
noncomputable def A1:FuncId→Option Spec:=aX []
theorem J3:∀f s,A1 f=some s→FnOK G0 Tryz.prog f s:=aw trivial
def x9:aG:=⟨[0,2,7],(.pair (.list (.int .i64)) ah),0,[],.unit,[6],(.pair (.int .i64) .unit)⟩
noncomputable def A2:List a9z:=[x9.spec eX]
theorem HR:aU aV E0 A1 (aR Tryz.f307 A2) Tryz.f307 0 x9 eX:=fun x=>by kernel_rfl
theorem rF:FnOK G0 Tryz.prog 307 Dt:=ax ai J3 Tryz.func307 A2 (by kernel_rfl) (by exact⟨(HR).lok,trivial⟩) fun x=>by kernel_rfl
noncomputable def o8(x:Ty.T (.pair (.int .i64) .unit)):Option (Ty.T (.pair (.int .i64) .unit)):=
some ((IntKind.i64.wrap (Int.tdiv (IntKind.i64.wrap (x.1+(4:Int))) (8:Int))),())
noncomputable def Qo:Spec:=⟨_,(.pair (.int .i64) .unit),.unit,rfl,o8⟩
theorem Oo:FnOK G0 Tryz.prog 308 Qo:=aj ai aC Tryz.func308
noncomputable def kF(x:Ty.T (.pair (.int .i64) .unit)):Option (Ty.T (.pair .bool .unit)):=
match bh (x.1,(3:Int),(15:Int),())with
|none=>none
|some v1=>
some (v1.1,())
noncomputable def J4:Spec:=⟨_,(.pair .bool .unit),.unit,rfl,kF⟩
theorem HS:FnOK G0 Tryz.prog 309 J4:=aj ai (sg ct (aC)) Tryz.func309
noncomputable def oc(x:Ty.T (.pair (.list (.int .i64)) (.pair (.int .i64) .unit))):Option (Ty.T (.pair (.int .i64) .unit)):=
match cl (x.1,(IntKind.i64.wrap (x.2.1+(11:Int))),(0:Int),())with
|none=>none
|some v1=>
match(decide (v1.1≥(0:Int)))with
|true=>
 some ((6:Int),())
|false=>
 some ((0:Int),())
noncomputable def Gr:Spec:=⟨_,(.pair (.int .i64) .unit),.unit,rfl,oc⟩
theorem Du:FnOK G0 Tryz.prog 310 Gr:=aj ai (sg rF (aC)) Tryz.func310
noncomputable def ya(x:Ty.T (.pair (.list (.int .i64)) (.pair (.int .i64) .unit))):Option (Ty.T (.pair (.int .i64) .unit)):=
match(decide (x.2.1≥(x.1.length:Int)))with
|true=>
 some ((1:Int),())
|false=>
 aa (au x.1 x.2.1) fun v1=>
 some (v1,())
noncomputable def Dv:Spec:=⟨_,(.pair (.int .i64) .unit),.unit,rfl,ya⟩
theorem J5:FnOK G0 Tryz.prog 282 Dv:=aj ai aC Tryz.func282
noncomputable def cR(x:(Ty.T (.pair (.list (.int .i64)) (.pair (.int .i64) (.pair (.own 2 (.int .i64)) .unit))))):Option ((Ty.T (.pair (.list (.int .i64)) (.pair (.int .i64) (.pair (.own 2 (.int .i64)) .unit)))) ⊕ ((Ty.T .unit) ⊕ (Ty.T (.pair (.own 2 (.int .i64)) (.pair (.int .i64) .unit))))):=
aM (x.2.2.1.length+ [x.2.1].length) (
 match ya (x.1,(IntKind.i64.wrap (x.2.1+(76:Int))),())with
 |none=>none
 |some v1=>
 match(v1.1==(0:Int))with
 |true=>
  match oc (x.1,(IntKind.i64.wrap (x.2.1+(72:Int))),())with
  |none=>none
  |some v2=>
  some (.inr (.inr ((x.2.2.1++ [x.2.1]),v2.1,())))
 |false=>
  match cl (x.1,(IntKind.i64.wrap (x.2.1+(76:Int))),(0:Int),())with
  |none=>none
  |some v3=>
  match(decide (v3.1<(0:Int)))with
  |true=>
   some (.inr (.inr ([],(6:Int),())))
  |false=>
   match(decide (v3.1>(IntKind.i64.wrap (x.2.1+(84:Int)))))with
   |true=>
    some (.inr (.inr ([],(6:Int),())))
   |false=>
    some (.inl (x.1,v3.1,(x.2.2.1++ [x.2.1]),())))
noncomputable def o9(x:Ty.T (.pair (.list (.int .i64)) (.pair (.int .i64) .unit))):Option (Ty.T (.pair (.own 2 (.int .i64)) (.pair (.int .i64) .unit))):=
match ac cR (x.1,x.2.1,[],())with
|none=>none
|some (.inl v4)=>
 none
|some (.inr v5)=>
 some (v5.1,v5.2.1,())
noncomputable def Qp:Spec:=⟨_,(.pair (.own 2 (.int .i64)) (.pair (.int .i64) .unit)),.unit,rfl,o9⟩
noncomputable def A3:FuncId→Option Spec:=aX [(282,Dv),(307,Dt),(310,Gr)]
theorem J6:∀f s,A3 f=some s→FnOK G0 Tryz.prog f s:=aw ⟨J5,rF,Du,trivial⟩
def yb:aG:=⟨[0,1,6],(.pair (.list (.int .i64)) (.pair (.int .i64) (.pair (.own 2 (.int .i64)) .unit))),999999,[],.unit,[4,5],(.pair (.own 2 (.int .i64)) (.pair (.int .i64) .unit))⟩
noncomputable def A4:List a9z:=[yb.spec cR]
theorem HT:aU aV E0 A3 (aR Tryz.f311 A4) Tryz.f311 0 yb cR:=fun x=>by kernel_rfl
theorem Oq:FnOK G0 Tryz.prog 311 Qp:=ax ai J6 Tryz.func311 A4 (by kernel_rfl) (by exact⟨(HT).lok,trivial⟩) fun x=>by kernel_rfl
noncomputable def zH(x:Ty.T (.pair (.list (.int .i64)) .unit)):Option (Ty.T (.pair ma .unit)):=
match cl (x.1,(-1:Int),(0:Int),())with
|none=>none
|some v1=>
match(decide (v1.1<(0:Int)))with
|true=>
 some (((0:Int),[],(4:Int),()),())
|false=>
 match cl (x.1,v1.1,(1:Int),())with
 |none=>none
 |some v2=>
 match(decide (v2.1<(0:Int)))with
 |true=>
  match o8 ((IntKind.i64.wrap ((x.1.length:Int)-v1.1)),())with
  |none=>none
  |some v3=>
  match cl (x.1,(x.1.length:Int),(0:Int),())with
  |none=>none
  |some v4=>
  match kF (v3.1,())with
  |none=>none
  |some v5=>
  match(!v5.1)with
  |true=>
   some (((0:Int),[],(6:Int),()),())
  |false=>
   match(decide (v4.1<(0:Int)))with
   |true=>
    some (((0:Int),[],(6:Int),()),())
   |false=>
    match(decide ((IntKind.i64.wrap (v4.1-(x.1.length:Int)))>(19:Int)))with
    |true=>
     some (((0:Int),[],(6:Int),()),())
    |false=>
     match(decide ((IntKind.i64.wrap (v4.1-(x.1.length:Int)))<(5:Int)))with
     |true=>
      some (((0:Int),[],(6:Int),()),())
     |false=>
      match((IntKind.i64.wrap (v4.1-(x.1.length:Int)))==(12:Int))with
      |true=>
       some (((0:Int),[],(6:Int),()),())
      |false=>
       match(decide ((IntKind.i64.wrap (v4.1-(x.1.length:Int)))<(12:Int)))with
       |true=>
        match oc (x.1,v4.1,())with
        |none=>none
        |some v6=>
        some ((v3.1,[],v6.1,()),())
       |false=>
        match o9 (x.1,v4.1,())with
        |none=>none
        |some v7=>
        some ((v3.1,v7.1,v7.2.1,()),())
 |false=>
  match o8 ((IntKind.i64.wrap (v2.1-v1.1)),())with
  |none=>none
  |some v8=>
  match cl (x.1,v2.1,(0:Int),())with
  |none=>none
  |some v9=>
  match kF (v8.1,())with
  |none=>none
  |some v10=>
  match(!v10.1)with
  |true=>
   some (((0:Int),[],(6:Int),()),())
  |false=>
   match(decide (v9.1<(0:Int)))with
   |true=>
    some (((0:Int),[],(6:Int),()),())
   |false=>
    match(decide ((IntKind.i64.wrap (v9.1-v2.1))>(19:Int)))with
    |true=>
     some (((0:Int),[],(6:Int),()),())
    |false=>
     match(decide ((IntKind.i64.wrap (v9.1-v2.1))<(5:Int)))with
     |true=>
      some (((0:Int),[],(6:Int),()),())
     |false=>
      match((IntKind.i64.wrap (v9.1-v2.1))==(12:Int))with
      |true=>
       some (((0:Int),[],(6:Int),()),())
      |false=>
       match(decide ((IntKind.i64.wrap (v9.1-v2.1))<(12:Int)))with
       |true=>
        match oc (x.1,v9.1,())with
        |none=>none
        |some v11=>
        some ((v8.1,[],v11.1,()),())
       |false=>
        match o9 (x.1,v9.1,())with
        |none=>none
        |some v12=>
        some ((v8.1,v12.1,v12.2.1,()),())
noncomputable def U0:Spec:=⟨_,(.pair ma .unit),.unit,rfl,zH⟩
theorem SB:FnOK G0 Tryz.prog 281 U0:=aj ai (sg rF (sg Oo (sg HS (sg Du (sg Oq (aC)))))) Tryz.func281
noncomputable def wa(x:Ty.T (.pair (.list (.int .i64)) .unit)):Option (Ty.T (.pair ma (.pair (.int .i64) .unit))):=
match uw (x.1,())with
|none=>none
|some v1=>
match(!v1.1)with
|true=>
 some (((0:Int),[],(0:Int),()),(1:Int),())
|false=>
 match zH (x.1,())with
 |none=>none
 |some v2=>
 some ((v2.1.1,v2.1.2.1,v2.1.2.2.1,()),v2.1.2.2.1,())
noncomputable def SC:Spec:=⟨_,(.pair ma (.pair (.int .i64) .unit)),.unit,rfl,wa⟩
theorem Qq:FnOK G0 Tryz.prog 234 SC:=aj ai (sg Gq (sg SB (aC))) Tryz.func234
noncomputable def ga(x:(Ty.T (.pair (.list (.int .i64)) (.pair (.list (.int .i64)) (.pair (.own 2 (.int .i64)) (.pair (.int .i64) ah)))))):Option ((Ty.T (.pair (.list (.int .i64)) (.pair (.list (.int .i64)) (.pair (.own 2 (.int .i64)) (.pair (.int .i64) ah))))) ⊕ ((Ty.T (.pair (.list (.int .i64)) (.pair (.list (.int .i64)) (.pair (.own 2 (.int .i64)) ah)))) ⊕ (Ty.T .unit))):=
match(decide (x.2.2.2.2.2.1<(8:Int)))with
|true=>
 aa (au x.2.1 x.2.2.2.1) fun v1=>
 match ya (x.1,(IntKind.i64.wrap ((IntKind.i64.wrap (v1+(IntKind.i64.wrap ((8:Int)*x.2.2.2.2.2.1))))+(12:Int))),())with
 |none=>none
 |some v2=>
 some (.inl (x.1,x.2.1,x.2.2.1,x.2.2.2.1,(IntKind.i64.wrap ((IntKind.i64.wrap ((2:Int)*x.2.2.2.2.1))+v2.1)),(IntKind.i64.wrap (x.2.2.2.2.2.1+(1:Int))),()))
|false=>
 some (.inr (.inl (x.1,x.2.1,x.2.2.1,x.2.2.2.1,x.2.2.2.2.1,())))
noncomputable def gb(x:(Ty.T (.pair (.list (.int .i64)) (.pair (.list (.int .i64)) (.pair (.own 2 (.int .i64)) (.pair (.int .i64) .unit)))))):Option ((Ty.T (.pair (.list (.int .i64)) (.pair (.list (.int .i64)) (.pair (.own 2 (.int .i64)) (.pair (.int .i64) .unit))))) ⊕ ((Ty.T (.pair (.own 2 (.int .i64)) .unit)) ⊕ (Ty.T .unit))):=
match(decide (x.2.2.2.1<(x.2.1.length:Int)))with
|true=>
 match ac ga (x.1,x.2.1,x.2.2.1,x.2.2.2.1,(0:Int),(0:Int),())with
 |none=>none
 |some (.inl v1)=>
  aM (v1.2.2.1.length+ [v1.2.2.2.2.1].length) (
   some (.inl (v1.1,v1.2.1,(v1.2.2.1++ [v1.2.2.2.2.1]),(IntKind.i64.wrap (v1.2.2.2.1+(1:Int))),())))
 |some (.inr v3)=>
  some (.inr (.inr (())))
|false=>
 some (.inr (.inl (x.2.2.1,())))
noncomputable def pb(x:Ty.T (.pair (.list (.int .i64)) (.pair (.list (.int .i64)) .unit))):Option (Ty.T (.pair (.own 2 (.int .i64)) .unit)):=
match ac gb (x.1,x.2.1,[],(0:Int),())with
|none=>none
|some (.inl v4)=>
 some (v4.1,())
|some (.inr v6)=>
 none
noncomputable def Qr:Spec:=⟨_,(.pair (.own 2 (.int .i64)) .unit),.unit,rfl,pb⟩
noncomputable def rG:FuncId→Option Spec:=aX [(282,Dv)]
theorem J7:∀f s,rG f=some s→FnOK G0 Tryz.prog f s:=aw ⟨J5,trivial⟩
def yc:aG:=⟨[0,1,5,6],(.pair (.list (.int .i64)) (.pair (.list (.int .i64)) (.pair (.own 2 (.int .i64)) (.pair (.int .i64) .unit)))),0,[5],(.pair (.own 2 (.int .i64)) .unit),[],.unit⟩
def yd:aG:=⟨[0,1,5,6,7,8],(.pair (.list (.int .i64)) (.pair (.list (.int .i64)) (.pair (.own 2 (.int .i64)) (.pair (.int .i64) ah)))),2,[0,1,5,6,7],(.pair (.list (.int .i64)) (.pair (.list (.int .i64)) (.pair (.own 2 (.int .i64)) ah))),[],.unit⟩
noncomputable def rH:List a9z:=[yc.spec gb,yd.spec ga]
theorem HU:aU aV E0 rG (aR Tryz.f235 rH) Tryz.f235 0 yc gb:=fun x=>by kernel_rfl
theorem HV:aU aV E0 rG (aR Tryz.f235 rH) Tryz.f235 1 yd ga:=fun x=>by kernel_rfl
theorem Ot:FnOK G0 Tryz.prog 235 Qr:=ax ai J7 Tryz.func235 rH (by kernel_rfl) (by exact⟨(HU).lok,(HV).lok,trivial⟩) fun x=>by kernel_rfl
noncomputable def nr(x:Ty.T (.pair (.list (.int .i64)) .unit)):Option (Ty.T (.pair (.own 2 (.int .i64)) (.pair (.int .i64) .unit))):=
match wa (x.1,())with
|none=>none
|some v1=>
match(v1.2.1 != (0:Int))with
|true=>
 some ([],v1.2.1,())
|false=>
 match pb (x.1,v1.1.2.1,())with
 |none=>none
 |some v2=>
 some (v2.1,(0:Int),())
noncomputable def J8:Spec:=⟨_,(.pair (.own 2 (.int .i64)) (.pair (.int .i64) .unit)),.unit,rfl,nr⟩
theorem HW:FnOK G0 Tryz.prog 197 J8:=aj ai (sg Qq (sg Ot (aC))) Tryz.func197
noncomputable def eL(x:(Ty.T (.pair (.list (.int .i64)) (.pair (.int .i64) ah)))):Option ((Ty.T (.pair (.list (.int .i64)) (.pair (.int .i64) ah))) ⊕ ((Ty.T (.pair (.int .i64) .unit)) ⊕ (Ty.T .unit))):=
match(decide (x.2.2.2.1≤x.2.1))with
|true=>
 match(decide (x.2.2.2.1<(0:Int)))with
 |true=>
  some (.inl (x.1,x.2.1,(IntKind.i64.wrap (x.2.2.1+(1:Int))),(IntKind.i64.wrap (x.2.2.2.1+(1:Int))),()))
 |false=>
  aa (au x.1 x.2.2.2.1) fun v1=>
  some (.inl (x.1,x.2.1,(IntKind.i64.wrap (x.2.2.1+v1)),(IntKind.i64.wrap (x.2.2.2.1+(1:Int))),()))
|false=>
 some (.inr (.inl (x.2.2.1,())))
noncomputable def wb(x:Ty.T (.pair (.list (.int .i64)) (.pair (.int .i64) .unit))):Option (Ty.T (.pair (.int .i64) .unit)):=
match ac eL (x.1,x.2.1,(0:Int),(IntKind.i64.wrap ((IntKind.i64.wrap (x.2.1-(5:Int)))+(1:Int))),())with
|none=>none
|some (.inl v2)=>
 some (v2.1,())
|some (.inr v4)=>
 none
noncomputable def Gs:Spec:=⟨_,(.pair (.int .i64) .unit),.unit,rfl,wb⟩
noncomputable def Dw:FuncId→Option Spec:=aX []
theorem L9:∀f s,Dw f=some s→FnOK G0 Tryz.prog f s:=aw trivial
def A5:aG:=⟨[0,1,5,6],(.pair (.list (.int .i64)) (.pair (.int .i64) ah)),0,[5],(.pair (.int .i64) .unit),[],.unit⟩
noncomputable def Dx:List a9z:=[A5.spec eL]
theorem J9:aU aV E0 Dw (aR Tryz.f236 Dx) Tryz.f236 0 A5 eL:=fun x=>by kernel_rfl
theorem Qs:FnOK G0 Tryz.prog 236 Gs:=ax ai L9 Tryz.func236 Dx (by kernel_rfl) (by exact⟨(J9).lok,trivial⟩) fun x=>by kernel_rfl
noncomputable def gQ(x:(Ty.T (.pair (.list (.int .i64)) (.pair (.own 2 (.int .i64)) (.pair (.int .i64) .unit))))):Option ((Ty.T (.pair (.list (.int .i64)) (.pair (.own 2 (.int .i64)) (.pair (.int .i64) .unit)))) ⊕ ((Ty.T (.pair (.own 2 (.int .i64)) .unit)) ⊕ (Ty.T .unit))):=
match(decide (x.2.2.1<(x.1.length:Int)))with
|true=>
 match wb (x.1,x.2.2.1,())with
 |none=>none
 |some v1=>
 match(decide (v1.1≥(3:Int)))with
 |true=>
  aM (x.2.1.length+ [(1:Int)].length) (
   some (.inl (x.1,(x.2.1++ [(1:Int)]),(IntKind.i64.wrap (x.2.2.1+(1:Int))),())))
 |false=>
  aM (x.2.1.length+ [(0:Int)].length) (
   some (.inl (x.1,(x.2.1++ [(0:Int)]),(IntKind.i64.wrap (x.2.2.1+(1:Int))),())))
|false=>
 some (.inr (.inl (x.2.1,())))
noncomputable def wc(x:Ty.T (.pair (.list (.int .i64)) .unit)):Option (Ty.T (.pair (.own 2 (.int .i64)) .unit)):=
match ac gQ (x.1,[],(0:Int),())with
|none=>none
|some (.inl v2)=>
 some (v2.1,())
|some (.inr v4)=>
 none
noncomputable def SD:Spec:=⟨_,(.pair (.own 2 (.int .i64)) .unit),.unit,rfl,wc⟩
noncomputable def Dy:FuncId→Option Spec:=aX [(236,Gs)]
theorem Ma:∀f s,Dy f=some s→FnOK G0 Tryz.prog f s:=aw ⟨Qs,trivial⟩
def A6:aG:=⟨[0,3,4],(.pair (.list (.int .i64)) (.pair (.own 2 (.int .i64)) (.pair (.int .i64) .unit))),0,[3],(.pair (.own 2 (.int .i64)) .unit),[],.unit⟩
noncomputable def Dz:List a9z:=[A6.spec gQ]
theorem Ka:aU aV E0 Dy (aR Tryz.f198 Dz) Tryz.f198 0 A6 gQ:=fun x=>by kernel_rfl
theorem Qt:FnOK G0 Tryz.prog 198 SD:=ax ai Ma Tryz.func198 Dz (by kernel_rfl) (by exact⟨(Ka).lok,trivial⟩) fun x=>by kernel_rfl
noncomputable def kW(x:Ty.T (.pair (.list (.int .i64)) .unit)):Option (Ty.T (.pair (.own 2 (.int .i64)) (.pair (.int .i64) .unit))):=
match uw (x.1,())with
|none=>none
|some v1=>
match(!v1.1)with
|true=>
 some ([],(1:Int),())
|false=>
 match wc (x.1,())with
 |none=>none
 |some v2=>
 match nr (v2.1,())with
 |none=>none
 |some v3=>
 some (v3.1,v3.2.1,())
noncomputable def Fz:Spec:=⟨_,(.pair (.own 2 (.int .i64)) (.pair (.int .i64) .unit)),.unit,rfl,kW⟩
theorem DA:FnOK G0 Tryz.prog 148 Fz:=aj ai (sg Gq (sg HW (sg Qt (aC)))) Tryz.func148
noncomputable def sV(x:Ty.T (.pair (.list (.int .i64)) .unit)):Option (Ty.T (.pair ab .unit)):=
match cC (x.1,(0:Int),(16:Int),())with
|none=>none
|some v1=>
match cC (x.1,(16:Int),(4:Int),())with
|none=>none
|some v2=>
match cC (x.1,(20:Int),(4:Int),())with
|none=>none
|some v3=>
match cC (x.1,(24:Int),(8:Int),())with
|none=>none
|some v4=>
match cC (x.1,(32:Int),(32:Int),())with
|none=>none
|some v5=>
some ((v1.1,v2.1,v3.1,v4.1,v5.1,()),())
noncomputable def Qu:Spec:=⟨_,(.pair ab .unit),.unit,rfl,sV⟩
theorem Ou:FnOK G0 Tryz.prog 283 Qu:=aj ai (sg xV (aC)) Tryz.func283
end Go.Proofs.YthfgmmmeplanbaaGreatDoor
