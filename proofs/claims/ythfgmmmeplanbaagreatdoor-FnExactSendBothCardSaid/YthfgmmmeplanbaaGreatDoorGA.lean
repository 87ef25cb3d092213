import Derived.Test.YthfgmmmeplanbaaGreatDoorSho
import Derived.Test.YthfgmmmeplanbaaGreatDoorDelW
import Derived.Test.YthfgmmmeplanbaaGreatDoorInsW
import Derived.Test.YthfgmmmeplanbaaGreatDoorLibS
import Derived.Test.YthfgmmmeplanbaaGreatDoorRepW
import Derived.Test.YthfgmmmeplanbaaGreatDoorSh
import Derived.Test.YthfgmmmeplanbaaGreatDoorTdW
import Derived.Test.YthfgmmmeplanbaaGreatDoorTrW
import Derived.Test.YthfgmmmeplanbaaGreatDoorProg
import Derived.KernelRfl
namespace Go.Proofs.YthfgmmmeplanbaaGreatDoor
open Go.RowKit
set_option linter.unusedVariables false
abbrev TerrorAddressString:Ty:=(.pair .str (.pair (.int .u64) .unit))
abbrev TMedl:Ty:=(.pair (.int .i64) (.pair (.list (.pair (.int .i64) (.pair .str (.pair (.int .i64) (.pair .bool .unit))))) (.pair (.list (.pair (.int .i64) (.pair (.int .i64) (.pair (.list (.int .i64)) .unit)))) (.pair (.list (.pair (.int .i64) (.pair (.int .i64) (.pair (.int .i64) (.pair (.pair (.int .i64) (.pair (.int .i64) (.pair (.int .i64) (.pair (.int .i64) (.pair .bool .unit))))) .unit))))) .unit))))
abbrev TState:Ty:=(.pair (.int .i64) (.pair (.int .i64) (.pair (.int .i64) (.pair (.int .i64) (.pair (.int .i64) .unit)))))
abbrev TFrame:Ty:=(.pair (.int .i64) (.pair (.int .i64) (.pair TState (.pair (.list (.int .i64)) .unit))))
abbrev TVerdict:Ty:=(.pair (.int .i64) (.pair TFrame .unit))
abbrev TStep:Ty:=(.pair (.int .i64) (.pair (.int .i64) (.pair (.list (.pair (.int .i64) (.pair (.int .i64) (.pair (.int .i64) (.pair (.int .i64) .unit))))) (.pair (.list (.pair (.int .i64) (.pair (.int .i64) (.pair (.int .i64) (.pair (.int .i64) .unit))))) .unit))))
abbrev TFault:Ty:=(.pair (.int .i64) (.pair (.int .i64) (.pair (.int .i64) (.pair (.int .i64) .unit))))
abbrev TDescriptor:Ty:=(.pair (.int .i64) (.pair (.int .i64) (.pair (.int .i64) (.pair (.int .i64) (.pair .bool .unit)))))
abbrev TMark:Ty:=(.pair TState (.pair (.int .i64) (.pair (.int .i64) .unit)))
abbrev TNodeInfo:Ty:=(.pair (.int .i64) (.pair .str (.pair (.int .i64) (.pair .bool .unit))))
abbrev TModeInfo:Ty:=(.pair (.int .i64) (.pair (.int .i64) (.pair (.list (.int .i64)) .unit)))
abbrev TSlotInfo:Ty:=(.pair (.int .i64) (.pair (.int .i64) (.pair (.int .i64) (.pair TDescriptor .unit))))
abbrev Tl23Result:Ty:=(.pair (.int .i64) (.pair (.list (.int .i64)) (.pair (.int .i64) .unit)))
abbrev TCrc:Ty:=(.pair (.int .i64) (.pair (.int .i64) .unit))
abbrev Tdecoding:Ty:=(.pair (.list (.int .i64)) (.pair (.int .i64) (.pair (.list (.int .i64)) .unit)))
abbrev TacceptRange:Ty:=(.pair (.int .u8) (.pair (.int .u8) .unit))
abbrev TboundsError:Ty:=(.pair (.int .i64) (.pair (.int .i64) (.pair .bool (.pair (.int .u8) .unit))))
def Γ0:Tab:=[(2,(.int .i64)),(3,(.int .i64)),(4,.bool),(5,(.int .u8)),(9,.str),(22,(.list TNodeInfo)),(23,(.list TModeInfo)),(24,(.list TSlotInfo)),(26,TMedl),(28,TState),(29,(.list (.int .i64))),(31,TFrame),(32,(.list TFault)),(36,TState),(38,TFrame),(40,TVerdict),(43,(.list TNodeInfo)),(44,(.list TModeInfo)),(45,(.list TSlotInfo)),(47,TMedl),(51,(.list TFault)),(105,TFault),(107,TFault),(124,TDescriptor),(134,TNodeInfo),(137,TModeInfo),(143,TNodeInfo),(145,TModeInfo),(148,TSlotInfo),(150,TDescriptor),(152,TSlotInfo),(181,(.list (.int .u8))),(189,(.int .u64)),(227,(.list (.list (.int .i64)))),(236,Tl23Result),(246,TCrc),(255,Tdecoding)]
def E0:Elems:=[(22,134),(23,137),(24,152),(29,2),(32,107),(43,143),(44,145),(45,148),(51,105),(181,5),(227,29)]
theorem tab0:tabB Tryz.prog Γ0 E0=true:=by kernel_rfl
def Γ1:Tab:=[(2,(.int .i64)),(22,(.list TNodeInfo)),(23,(.list TModeInfo)),(24,(.list TSlotInfo)),(26,TMedl),(29,(.list (.int .i64))),(43,(.list TNodeInfo)),(44,(.list (.pair (.int .i64) (.pair (.int .i64) (.pair (.own 2 (.int .i64)) .unit))))),(45,(.list TSlotInfo)),(47,TMedl),(137,TModeInfo),(145,TModeInfo)]
def E1:Elems:=[(23,137),(44,145)]
theorem tab1:tabB Tryz.prog Γ1 E1=true:=by kernel_rfl
abbrev G0:Gl:=Gl.none
noncomputable def l_szNodeInfo(x:Ty.T (.pair TNodeInfo (.pair (.int .i64) .unit))):Option (Ty.T (.pair (.int .i64) .unit)):=
match(decide ((IntKind.i64.wrap (x.2.1-(x.1.2.1.length:Int)))<(0:Int)))with
|true=>
 some ((-1:Int),())
|false=>
 some ((IntKind.i64.wrap (x.2.1-(x.1.2.1.length:Int))),())
noncomputable def S_l_szNodeInfo:Spec:=⟨(.pair TNodeInfo (.pair (.int .i64) .unit)),(.pair (.int .i64) .unit),.unit,rfl,l_szNodeInfo⟩
noncomputable def σ_l_szNodeInfo:FuncId→Option Spec:=sig []
theorem σok_l_szNodeInfo:∀f s,σ_l_szNodeInfo f=some s→FnOK G0 Tryz.prog f s:=sig_ok trivial
theorem ok_l_szNodeInfo:FnOK G0 Tryz.prog 84 S_l_szNodeInfo:=fn_okS tab0 σok_l_szNodeInfo Tryz.func84 [] (by kernel_rfl) (by exact trivial) fun x=>by kernel_rfl
noncomputable def b_l_szNodeInfoS_5(x:(Ty.T (.pair (.list TNodeInfo) TCrc))):Option ((Ty.T (.pair (.list TNodeInfo) TCrc)) ⊕ ((Ty.T (.pair (.int .i64) .unit)) ⊕ (Ty.T (.pair (.int .i64) .unit)))):=
match(decide (x.2.2.1<(x.1.length:Int)))with
|true=>
 onSome (idx x.1 x.2.2.1) fun v1=>
 match l_szNodeInfo (v1,x.2.1,())with
 |none=>none
 |some v2=>
 match(decide (v2.1<(0:Int)))with
 |true=>
  some (.inr (.inr ((-1:Int),())))
 |false=>
  some (.inl (x.1,v2.1,(IntKind.i64.wrap (x.2.2.1+(1:Int))),()))
|false=>
 some (.inr (.inl (x.2.1,())))
noncomputable def l_szNodeInfoS(x:Ty.T (.pair (.list TNodeInfo) (.pair (.int .i64) .unit))):Option (Ty.T (.pair (.int .i64) .unit)):=
match(decide ((IntKind.i64.wrap (x.2.1-(x.1.length:Int)))<(0:Int)))with
|true=>
 some ((-1:Int),())
|false=>
 match loopL b_l_szNodeInfoS_5 (x.1,(IntKind.i64.wrap (x.2.1-(x.1.length:Int))),(0:Int),())with
 |none=>none
 |some (.inl v3)=>
  some (v3.1,())
 |some (.inr v4)=>
  some (v4.1,())
noncomputable def S_l_szNodeInfoS:Spec:=⟨(.pair (.list TNodeInfo) (.pair (.int .i64) .unit)),(.pair (.int .i64) .unit),.unit,rfl,l_szNodeInfoS⟩
noncomputable def σ_l_szNodeInfoS:FuncId→Option Spec:=sig [(84,S_l_szNodeInfo)]
theorem σok_l_szNodeInfoS:∀f s,σ_l_szNodeInfoS f=some s→FnOK G0 Tryz.prog f s:=sig_ok ⟨ok_l_szNodeInfo,trivial⟩
def q_l_szNodeInfoS_5:LRow:=⟨[0,1,5],(.pair (.list TNodeInfo) TCrc),0,[1],(.pair (.int .i64) .unit),[4],(.pair (.int .i64) .unit)⟩
noncomputable def ls_l_szNodeInfoS:List LSpec:=[q_l_szNodeInfoS_5.spec b_l_szNodeInfoS_5]
theorem lok_l_szNodeInfoS_5:Lok Γ0 E0 σ_l_szNodeInfoS (lam Tryz.f49 ls_l_szNodeInfoS) Tryz.f49 0 q_l_szNodeInfoS_5 b_l_szNodeInfoS_5:=fun x=>by kernel_rfl
theorem ok_l_szNodeInfoS:FnOK G0 Tryz.prog 49 S_l_szNodeInfoS:=fn_okS tab0 σok_l_szNodeInfoS Tryz.func49 ls_l_szNodeInfoS (by kernel_rfl) (by exact⟨(lok_l_szNodeInfoS_5).lok,trivial⟩) fun x=>by kernel_rfl
noncomputable def l_szInt64S(x:Ty.T (.pair (.list (.int .i64)) (.pair (.int .i64) .unit))):Option (Ty.T (.pair (.int .i64) .unit)):=
match(decide ((IntKind.i64.wrap (x.2.1-(x.1.length:Int)))<(0:Int)))with
|true=>
 some ((-1:Int),())
|false=>
 some ((IntKind.i64.wrap (x.2.1-(x.1.length:Int))),())
noncomputable def S_l_szInt64S:Spec:=⟨(.pair (.list (.int .i64)) (.pair (.int .i64) .unit)),(.pair (.int .i64) .unit),.unit,rfl,l_szInt64S⟩
noncomputable def σ_l_szInt64S:FuncId→Option Spec:=sig []
theorem σok_l_szInt64S:∀f s,σ_l_szInt64S f=some s→FnOK G0 Tryz.prog f s:=sig_ok trivial
theorem ok_l_szInt64S:FnOK G0 Tryz.prog 52 S_l_szInt64S:=fn_okS tab0 σok_l_szInt64S Tryz.func52 [] (by kernel_rfl) (by exact trivial) fun x=>by kernel_rfl
noncomputable def l_szModeInfo(x:Ty.T (.pair TModeInfo (.pair (.int .i64) .unit))):Option (Ty.T (.pair (.int .i64) .unit)):=
match l_szInt64S (x.1.2.2.1,x.2.1,())with
|none=>none
|some v1=>
match(decide (v1.1<(0:Int)))with
|true=>
 some ((-1:Int),())
|false=>
 some (v1.1,())
noncomputable def S_l_szModeInfo:Spec:=⟨(.pair TModeInfo (.pair (.int .i64) .unit)),(.pair (.int .i64) .unit),.unit,rfl,l_szModeInfo⟩
noncomputable def σ_l_szModeInfo:FuncId→Option Spec:=sig [(52,S_l_szInt64S)]
theorem σok_l_szModeInfo:∀f s,σ_l_szModeInfo f=some s→FnOK G0 Tryz.prog f s:=sig_ok ⟨ok_l_szInt64S,trivial⟩
theorem ok_l_szModeInfo:FnOK G0 Tryz.prog 85 S_l_szModeInfo:=fn_okS tab0 σok_l_szModeInfo Tryz.func85 [] (by kernel_rfl) (by exact trivial) fun x=>by kernel_rfl
noncomputable def b_l_szModeInfoS_5(x:(Ty.T (.pair (.list TModeInfo) TCrc))):Option ((Ty.T (.pair (.list TModeInfo) TCrc)) ⊕ ((Ty.T (.pair (.int .i64) .unit)) ⊕ (Ty.T (.pair (.int .i64) .unit)))):=
match(decide (x.2.2.1<(x.1.length:Int)))with
|true=>
 onSome (idx x.1 x.2.2.1) fun v1=>
 match l_szModeInfo (v1,x.2.1,())with
 |none=>none
 |some v2=>
 match(decide (v2.1<(0:Int)))with
 |true=>
  some (.inr (.inr ((-1:Int),())))
 |false=>
  some (.inl (x.1,v2.1,(IntKind.i64.wrap (x.2.2.1+(1:Int))),()))
|false=>
 some (.inr (.inl (x.2.1,())))
noncomputable def l_szModeInfoS(x:Ty.T (.pair (.list TModeInfo) (.pair (.int .i64) .unit))):Option (Ty.T (.pair (.int .i64) .unit)):=
match(decide ((IntKind.i64.wrap (x.2.1-(x.1.length:Int)))<(0:Int)))with
|true=>
 some ((-1:Int),())
|false=>
 match loopL b_l_szModeInfoS_5 (x.1,(IntKind.i64.wrap (x.2.1-(x.1.length:Int))),(0:Int),())with
 |none=>none
 |some (.inl v3)=>
  some (v3.1,())
 |some (.inr v4)=>
  some (v4.1,())
noncomputable def S_l_szModeInfoS:Spec:=⟨(.pair (.list TModeInfo) (.pair (.int .i64) .unit)),(.pair (.int .i64) .unit),.unit,rfl,l_szModeInfoS⟩
noncomputable def σ_l_szModeInfoS:FuncId→Option Spec:=sig [(85,S_l_szModeInfo)]
theorem σok_l_szModeInfoS:∀f s,σ_l_szModeInfoS f=some s→FnOK G0 Tryz.prog f s:=sig_ok ⟨ok_l_szModeInfo,trivial⟩
def q_l_szModeInfoS_5:LRow:=⟨[0,1,5],(.pair (.list TModeInfo) TCrc),0,[1],(.pair (.int .i64) .unit),[4],(.pair (.int .i64) .unit)⟩
noncomputable def ls_l_szModeInfoS:List LSpec:=[q_l_szModeInfoS_5.spec b_l_szModeInfoS_5]
theorem lok_l_szModeInfoS_5:Lok Γ0 E0 σ_l_szModeInfoS (lam Tryz.f50 ls_l_szModeInfoS) Tryz.f50 0 q_l_szModeInfoS_5 b_l_szModeInfoS_5:=fun x=>by kernel_rfl
theorem ok_l_szModeInfoS:FnOK G0 Tryz.prog 50 S_l_szModeInfoS:=fn_okS tab0 σok_l_szModeInfoS Tryz.func50 ls_l_szModeInfoS (by kernel_rfl) (by exact⟨(lok_l_szModeInfoS_5).lok,trivial⟩) fun x=>by kernel_rfl
noncomputable def l_szSlotInfoS(x:Ty.T (.pair (.list TSlotInfo) (.pair (.int .i64) .unit))):Option (Ty.T (.pair (.int .i64) .unit)):=
match(decide ((IntKind.i64.wrap (x.2.1-(x.1.length:Int)))<(0:Int)))with
|true=>
 some ((-1:Int),())
|false=>
 some ((IntKind.i64.wrap (x.2.1-(x.1.length:Int))),())
noncomputable def S_l_szSlotInfoS:Spec:=⟨(.pair (.list TSlotInfo) (.pair (.int .i64) .unit)),(.pair (.int .i64) .unit),.unit,rfl,l_szSlotInfoS⟩
noncomputable def σ_l_szSlotInfoS:FuncId→Option Spec:=sig []
theorem σok_l_szSlotInfoS:∀f s,σ_l_szSlotInfoS f=some s→FnOK G0 Tryz.prog f s:=sig_ok trivial
theorem ok_l_szSlotInfoS:FnOK G0 Tryz.prog 51 S_l_szSlotInfoS:=fn_okS tab0 σok_l_szSlotInfoS Tryz.func51 [] (by kernel_rfl) (by exact trivial) fun x=>by kernel_rfl
noncomputable def l_szMedl(x:Ty.T (.pair TMedl (.pair (.int .i64) .unit))):Option (Ty.T (.pair (.int .i64) .unit)):=
match l_szNodeInfoS (x.1.2.1,x.2.1,())with
|none=>none
|some v1=>
match(decide (v1.1<(0:Int)))with
|true=>
 some ((-1:Int),())
|false=>
 match l_szModeInfoS (x.1.2.2.1,v1.1,())with
 |none=>none
 |some v2=>
 match(decide (v2.1<(0:Int)))with
 |true=>
  some ((-1:Int),())
 |false=>
  match l_szSlotInfoS (x.1.2.2.2.1,v2.1,())with
  |none=>none
  |some v3=>
  match(decide (v3.1<(0:Int)))with
  |true=>
   some ((-1:Int),())
  |false=>
   some (v3.1,())
noncomputable def S_l_szMedl:Spec:=⟨(.pair TMedl (.pair (.int .i64) .unit)),(.pair (.int .i64) .unit),.unit,rfl,l_szMedl⟩
noncomputable def σ_l_szMedl:FuncId→Option Spec:=sig [(49,S_l_szNodeInfoS),(50,S_l_szModeInfoS),(51,S_l_szSlotInfoS)]
theorem σok_l_szMedl:∀f s,σ_l_szMedl f=some s→FnOK G0 Tryz.prog f s:=sig_ok ⟨ok_l_szNodeInfoS,ok_l_szModeInfoS,ok_l_szSlotInfoS,trivial⟩
theorem ok_l_szMedl:FnOK G0 Tryz.prog 8 S_l_szMedl:=fn_okS tab0 σok_l_szMedl Tryz.func8 [] (by kernel_rfl) (by exact trivial) fun x=>by kernel_rfl
noncomputable def l_szFrame(x:Ty.T (.pair TFrame (.pair (.int .i64) .unit))):Option (Ty.T (.pair (.int .i64) .unit)):=
match l_szInt64S (x.1.2.2.2.1,x.2.1,())with
|none=>none
|some v1=>
match(decide (v1.1<(0:Int)))with
|true=>
 some ((-1:Int),())
|false=>
 some (v1.1,())
noncomputable def S_l_szFrame:Spec:=⟨(.pair TFrame (.pair (.int .i64) .unit)),(.pair (.int .i64) .unit),.unit,rfl,l_szFrame⟩
noncomputable def σ_l_szFrame:FuncId→Option Spec:=sig [(52,S_l_szInt64S)]
theorem σok_l_szFrame:∀f s,σ_l_szFrame f=some s→FnOK G0 Tryz.prog f s:=sig_ok ⟨ok_l_szInt64S,trivial⟩
theorem ok_l_szFrame:FnOK G0 Tryz.prog 9 S_l_szFrame:=fn_okS tab0 σok_l_szFrame Tryz.func9 [] (by kernel_rfl) (by exact trivial) fun x=>by kernel_rfl
noncomputable def l_szFaultS(x:Ty.T (.pair (.list TFault) (.pair (.int .i64) .unit))):Option (Ty.T (.pair (.int .i64) .unit)):=
match(decide ((IntKind.i64.wrap (x.2.1-(x.1.length:Int)))<(0:Int)))with
|true=>
 some ((-1:Int),())
|false=>
 some ((IntKind.i64.wrap (x.2.1-(x.1.length:Int))),())
noncomputable def S_l_szFaultS:Spec:=⟨(.pair (.list TFault) (.pair (.int .i64) .unit)),(.pair (.int .i64) .unit),.unit,rfl,l_szFaultS⟩
noncomputable def σ_l_szFaultS:FuncId→Option Spec:=sig []
theorem σok_l_szFaultS:∀f s,σ_l_szFaultS f=some s→FnOK G0 Tryz.prog f s:=sig_ok trivial
theorem ok_l_szFaultS:FnOK G0 Tryz.prog 10 S_l_szFaultS:=fn_okS tab0 σok_l_szFaultS Tryz.func10 [] (by kernel_rfl) (by exact trivial) fun x=>by kernel_rfl
noncomputable def s_l01In(x:Ty.T (.pair (.int .i64) TCrc)):Option (Ty.T (.pair .bool .unit)):=
match(decide (x.1≥x.2.1))with
|true=>
 some ((decide (x.1≤x.2.2.1)),())
|false=>
 some (false,())
noncomputable def S_s_l01In:Spec:=⟨(.pair (.int .i64) TCrc),(.pair .bool .unit),.unit,rfl,s_l01In⟩
noncomputable def σ_s_l01In:FuncId→Option Spec:=sig []
theorem σok_s_l01In:∀f s,σ_s_l01In f=some s→FnOK G0 Tryz.prog f s:=sig_ok trivial
theorem ok_s_l01In:FnOK G0 Tryz.prog 144 S_s_l01In:=fn_okS tab0 σok_s_l01In Tryz.func144 [] (by kernel_rfl) (by exact trivial) fun x=>by kernel_rfl
noncomputable def s_l05Node(x:Ty.T (.pair (.int .i64) .unit)):Option (Ty.T (.pair .bool .unit)):=
match s_l01In (x.1,(0:Int),(31:Int),())with
|none=>none
|some v1=>
some (v1.1,())
noncomputable def S_s_l05Node:Spec:=⟨(.pair (.int .i64) .unit),(.pair .bool .unit),.unit,rfl,s_l05Node⟩
noncomputable def σ_s_l05Node:FuncId→Option Spec:=sig [(144,S_s_l01In)]
theorem σok_s_l05Node:∀f s,σ_s_l05Node f=some s→FnOK G0 Tryz.prog f s:=sig_ok ⟨ok_s_l01In,trivial⟩
theorem ok_s_l05Node:FnOK G0 Tryz.prog 275 S_s_l05Node:=fn_okS tab0 σok_s_l05Node Tryz.func275 [] (by kernel_rfl) (by exact trivial) fun x=>by kernel_rfl
noncomputable def b_s_l10Name_2(x:(Ty.T (.pair .str (.pair (.int .i64) .unit)))):Option ((Ty.T (.pair .str (.pair (.int .i64) .unit))) ⊕ ((Ty.T (.pair .str .unit)) ⊕ (Ty.T (.pair .bool .unit)))):=
match(decide (x.2.1<(x.1.length:Int)))with
|true=>
 onSome (idx x.1 x.2.1) fun v1=>
 match(decide ((v1.toNat:Int)<(97:Int)))with
 |true=>
  onSome (idx x.1 x.2.1) fun v2=>
  match(decide ((v2.toNat:Int)<(48:Int)))with
  |true=>
   some (.inr (.inr (false,())))
  |false=>
   onSome (idx x.1 x.2.1) fun v3=>
   match(decide ((v3.toNat:Int)>(57:Int)))with
   |true=>
    some (.inr (.inr (false,())))
   |false=>
    some (.inl (x.1,(IntKind.i64.wrap (x.2.1+(1:Int))),()))
 |false=>
  onSome (idx x.1 x.2.1) fun v4=>
  match(decide ((v4.toNat:Int)>(122:Int)))with
  |true=>
   onSome (idx x.1 x.2.1) fun v5=>
   match(decide ((v5.toNat:Int)<(48:Int)))with
   |true=>
    some (.inr (.inr (false,())))
   |false=>
    onSome (idx x.1 x.2.1) fun v6=>
    match(decide ((v6.toNat:Int)>(57:Int)))with
    |true=>
     some (.inr (.inr (false,())))
    |false=>
     some (.inl (x.1,(IntKind.i64.wrap (x.2.1+(1:Int))),()))
  |false=>
   some (.inl (x.1,(IntKind.i64.wrap (x.2.1+(1:Int))),()))
|false=>
 some (.inr (.inl (x.1,())))
noncomputable def s_l10Name(x:Ty.T (.pair .str .unit)):Option (Ty.T (.pair .bool .unit)):=
match loopL b_s_l10Name_2 (x.1,(0:Int),())with
|none=>none
|some (.inl v7)=>
 match(decide ((v7.1.length:Int)≥(1:Int)))with
 |true=>
  some ((decide ((v7.1.length:Int)≤(6:Int))),())
 |false=>
  some (false,())
|some (.inr v8)=>
 some (v8.1,())
noncomputable def S_s_l10Name:Spec:=⟨(.pair .str .unit),(.pair .bool .unit),.unit,rfl,s_l10Name⟩
noncomputable def σ_s_l10Name:FuncId→Option Spec:=sig []
theorem σok_s_l10Name:∀f s,σ_s_l10Name f=some s→FnOK G0 Tryz.prog f s:=sig_ok trivial
def q_s_l10Name_2:LRow:=⟨[0,3],(.pair .str (.pair (.int .i64) .unit)),0,[0],(.pair .str .unit),[2],(.pair .bool .unit)⟩
noncomputable def ls_s_l10Name:List LSpec:=[q_s_l10Name_2.spec b_s_l10Name_2]
theorem lok_s_l10Name_2:Lok Γ0 E0 σ_s_l10Name (lam Tryz.f304 ls_s_l10Name) Tryz.f304 0 q_s_l10Name_2 b_s_l10Name_2:=fun x=>by kernel_rfl
theorem ok_s_l10Name:FnOK G0 Tryz.prog 304 S_s_l10Name:=fn_okS tab0 σok_s_l10Name Tryz.func304 ls_s_l10Name (by kernel_rfl) (by exact⟨(lok_s_l10Name_2).lok,trivial⟩) fun x=>by kernel_rfl
noncomputable def s_IsNodeInfo(x:Ty.T (.pair TNodeInfo .unit)):Option (Ty.T (.pair .bool .unit)):=
match s_l05Node (x.1.1,())with
|none=>none
|some v1=>
match v1.1 with
|true=>
 match s_l10Name (x.1.2.1,())with
 |none=>none
 |some v2=>
 match v2.1 with
 |true=>
  match s_l01In (x.1.2.2.1,(0:Int),(1000:Int),())with
  |none=>none
  |some v3=>
  some (v3.1,())
 |false=>
  some (false,())
|false=>
 some (false,())
noncomputable def S_s_IsNodeInfo:Spec:=⟨(.pair TNodeInfo .unit),(.pair .bool .unit),.unit,rfl,s_IsNodeInfo⟩
noncomputable def σ_s_IsNodeInfo:FuncId→Option Spec:=sig [(144,S_s_l01In),(275,S_s_l05Node),(304,S_s_l10Name)]
theorem σok_s_IsNodeInfo:∀f s,σ_s_IsNodeInfo f=some s→FnOK G0 Tryz.prog f s:=sig_ok ⟨ok_s_l01In,ok_s_l05Node,ok_s_l10Name,trivial⟩
theorem ok_s_IsNodeInfo:FnOK G0 Tryz.prog 271 S_s_IsNodeInfo:=fn_okS tab0 σok_s_IsNodeInfo Tryz.func271 [] (by kernel_rfl) (by exact trivial) fun x=>by kernel_rfl
noncomputable def b_s_IsNodeTable_9(x:(Ty.T (.pair (.list TNodeInfo) TCrc))):Option ((Ty.T (.pair (.list TNodeInfo) TCrc)) ⊕ ((Ty.T (.pair (.list TNodeInfo) (.pair (.int .i64) .unit))) ⊕ (Ty.T (.pair .bool .unit)))):=
match(decide (x.2.2.1<x.2.1))with
|true=>
 onSome (idx x.1 x.2.2.1) fun v6=>
 onSome (idx x.1 x.2.1) fun v7=>
 match(v6.2.1==v7.2.1)with
 |true=>
  some (.inr (.inr (false,())))
 |false=>
  some (.inl (x.1,x.2.1,(IntKind.i64.wrap (x.2.2.1+(1:Int))),()))
|false=>
 some (.inr (.inl (x.1,x.2.1,())))
noncomputable def b_s_IsNodeTable_4(x:(Ty.T (.pair (.list TNodeInfo) (.pair (.int .i64) .unit)))):Option ((Ty.T (.pair (.list TNodeInfo) (.pair (.int .i64) .unit))) ⊕ ((Ty.T .unit) ⊕ (Ty.T (.pair .bool .unit)))):=
match(decide (x.2.1<(x.1.length:Int)))with
|true=>
 onSome (idx x.1 x.2.1) fun v2=>
 match s_IsNodeInfo (v2,())with
 |none=>none
 |some v3=>
 match(!v3.1)with
 |true=>
  some (.inr (.inr (false,())))
 |false=>
  match(decide (x.2.1>(0:Int)))with
  |true=>
   onSome (idx x.1 x.2.1) fun v4=>
   onSome (idx x.1 (IntKind.i64.wrap (x.2.1-(1:Int)))) fun v5=>
   match(decide (v4.1≤v5.1))with
   |true=>
    some (.inr (.inr (false,())))
   |false=>
    match loopL b_s_IsNodeTable_9 (x.1,x.2.1,(0:Int),())with
    |none=>none
    |some (.inl v6)=>
     some (.inl (v6.1,(IntKind.i64.wrap (v6.2.1+(1:Int))),()))
    |some (.inr v7)=>
     some (.inr (.inr (v7.1,())))
  |false=>
   match loopL b_s_IsNodeTable_9 (x.1,x.2.1,(0:Int),())with
   |none=>none
   |some (.inl v8)=>
    some (.inl (v8.1,(IntKind.i64.wrap (v8.2.1+(1:Int))),()))
   |some (.inr v9)=>
    some (.inr (.inr (v9.1,())))
|false=>
 some (.inr (.inl (())))
noncomputable def s_IsNodeTable(x:Ty.T (.pair (.list TNodeInfo) .unit)):Option (Ty.T (.pair .bool .unit)):=
match s_l01In ((x.1.length:Int),(1:Int),(32:Int),())with
|none=>none
|some v1=>
match(!v1.1)with
|true=>
 some (false,())
|false=>
 match loopL b_s_IsNodeTable_4 (x.1,(0:Int),())with
 |none=>none
 |some (.inl v10)=>
  some (true,())
 |some (.inr v11)=>
  some (v11.1,())
noncomputable def S_s_IsNodeTable:Spec:=⟨(.pair (.list TNodeInfo) .unit),(.pair .bool .unit),.unit,rfl,s_IsNodeTable⟩
noncomputable def σ_s_IsNodeTable:FuncId→Option Spec:=sig [(144,S_s_l01In),(271,S_s_IsNodeInfo)]
theorem σok_s_IsNodeTable:∀f s,σ_s_IsNodeTable f=some s→FnOK G0 Tryz.prog f s:=sig_ok ⟨ok_s_l01In,ok_s_IsNodeInfo,trivial⟩
def q_s_IsNodeTable_4:LRow:=⟨[0,3],(.pair (.list TNodeInfo) (.pair (.int .i64) .unit)),0,[],.unit,[2],(.pair .bool .unit)⟩
def q_s_IsNodeTable_9:LRow:=⟨[0,3,4],(.pair (.list TNodeInfo) TCrc),2,[0,3],(.pair (.list TNodeInfo) (.pair (.int .i64) .unit)),[2],(.pair .bool .unit)⟩
noncomputable def ls_s_IsNodeTable:List LSpec:=[q_s_IsNodeTable_4.spec b_s_IsNodeTable_4,q_s_IsNodeTable_9.spec b_s_IsNodeTable_9]
theorem lok_s_IsNodeTable_4:Lok Γ0 E0 σ_s_IsNodeTable (lam Tryz.f224 ls_s_IsNodeTable) Tryz.f224 0 q_s_IsNodeTable_4 b_s_IsNodeTable_4:=fun x=>by kernel_rfl
theorem lok_s_IsNodeTable_9:Lok Γ0 E0 σ_s_IsNodeTable (lam Tryz.f224 ls_s_IsNodeTable) Tryz.f224 1 q_s_IsNodeTable_9 b_s_IsNodeTable_9:=fun x=>by kernel_rfl
theorem ok_s_IsNodeTable:FnOK G0 Tryz.prog 224 S_s_IsNodeTable:=fn_okS tab0 σok_s_IsNodeTable Tryz.func224 ls_s_IsNodeTable (by kernel_rfl) (by exact⟨(lok_s_IsNodeTable_4).lok,(lok_s_IsNodeTable_9).lok,trivial⟩) fun x=>by kernel_rfl
noncomputable def b_s_l01Has_2(x:(Ty.T (.pair (.list (.int .i64)) TCrc))):Option ((Ty.T (.pair (.list (.int .i64)) TCrc)) ⊕ ((Ty.T .unit) ⊕ (Ty.T (.pair .bool .unit)))):=
match(decide (x.2.2.1<(x.1.length:Int)))with
|true=>
 onSome (idx x.1 x.2.2.1) fun v1=>
 match(v1==x.2.1)with
 |true=>
  some (.inr (.inr (true,())))
 |false=>
  some (.inl (x.1,x.2.1,(IntKind.i64.wrap (x.2.2.1+(1:Int))),()))
|false=>
 some (.inr (.inl (())))
noncomputable def s_l01Has(x:Ty.T (.pair (.list (.int .i64)) (.pair (.int .i64) .unit))):Option (Ty.T (.pair .bool .unit)):=
match loopL b_s_l01Has_2 (x.1,x.2.1,(0:Int),())with
|none=>none
|some (.inl v2)=>
 some (false,())
|some (.inr v3)=>
 some (v3.1,())
noncomputable def S_s_l01Has:Spec:=⟨(.pair (.list (.int .i64)) (.pair (.int .i64) .unit)),(.pair .bool .unit),.unit,rfl,s_l01Has⟩
noncomputable def σ_s_l01Has:FuncId→Option Spec:=sig []
theorem σok_s_l01Has:∀f s,σ_s_l01Has f=some s→FnOK G0 Tryz.prog f s:=sig_ok trivial
def q_s_l01Has_2:LRow:=⟨[0,1,5],(.pair (.list (.int .i64)) TCrc),0,[],.unit,[4],(.pair .bool .unit)⟩
noncomputable def ls_s_l01Has:List LSpec:=[q_s_l01Has_2.spec b_s_l01Has_2]
theorem lok_s_l01Has_2:Lok Γ0 E0 σ_s_l01Has (lam Tryz.f105 ls_s_l01Has) Tryz.f105 0 q_s_l01Has_2 b_s_l01Has_2:=fun x=>by kernel_rfl
theorem ok_s_l01Has:FnOK G0 Tryz.prog 105 S_s_l01Has:=fn_okS tab0 σok_s_l01Has Tryz.func105 ls_s_l01Has (by kernel_rfl) (by exact⟨(lok_s_l01Has_2).lok,trivial⟩) fun x=>by kernel_rfl
noncomputable def b_s_l01Rises_2(x:(Ty.T (.pair (.list (.int .i64)) TCrc))):Option ((Ty.T (.pair (.list (.int .i64)) TCrc)) ⊕ ((Ty.T .unit) ⊕ (Ty.T (.pair .bool .unit)))):=
match(decide (x.2.2.1<(x.1.length:Int)))with
|true=>
 onSome (idx x.1 x.2.2.1) fun v1=>
 match s_l01In (v1,(0:Int),(IntKind.i64.wrap (x.2.1-(1:Int))),())with
 |none=>none
 |some v2=>
 match(!v2.1)with
 |true=>
  some (.inr (.inr (false,())))
 |false=>
  match(decide (x.2.2.1>(0:Int)))with
  |true=>
   onSome (idx x.1 x.2.2.1) fun v3=>
   onSome (idx x.1 (IntKind.i64.wrap (x.2.2.1-(1:Int)))) fun v4=>
   match(decide (v3≤v4))with
   |true=>
    some (.inr (.inr (false,())))
   |false=>
    some (.inl (x.1,x.2.1,(IntKind.i64.wrap (x.2.2.1+(1:Int))),()))
  |false=>
   some (.inl (x.1,x.2.1,(IntKind.i64.wrap (x.2.2.1+(1:Int))),()))
|false=>
 some (.inr (.inl (())))
noncomputable def s_l01Rises(x:Ty.T (.pair (.list (.int .i64)) (.pair (.int .i64) .unit))):Option (Ty.T (.pair .bool .unit)):=
match loopL b_s_l01Rises_2 (x.1,x.2.1,(0:Int),())with
|none=>none
|some (.inl v5)=>
 some (true,())
|some (.inr v6)=>
 some (v6.1,())
noncomputable def S_s_l01Rises:Spec:=⟨(.pair (.list (.int .i64)) (.pair (.int .i64) .unit)),(.pair .bool .unit),.unit,rfl,s_l01Rises⟩
noncomputable def σ_s_l01Rises:FuncId→Option Spec:=sig [(144,S_s_l01In)]
theorem σok_s_l01Rises:∀f s,σ_s_l01Rises f=some s→FnOK G0 Tryz.prog f s:=sig_ok ⟨ok_s_l01In,trivial⟩
def q_s_l01Rises_2:LRow:=⟨[0,1,5],(.pair (.list (.int .i64)) TCrc),0,[],.unit,[4],(.pair .bool .unit)⟩
noncomputable def ls_s_l01Rises:List LSpec:=[q_s_l01Rises_2.spec b_s_l01Rises_2]
theorem lok_s_l01Rises_2:Lok Γ0 E0 σ_s_l01Rises (lam Tryz.f272 ls_s_l01Rises) Tryz.f272 0 q_s_l01Rises_2 b_s_l01Rises_2:=fun x=>by kernel_rfl
theorem ok_s_l01Rises:FnOK G0 Tryz.prog 272 S_s_l01Rises:=fn_okS tab0 σok_s_l01Rises Tryz.func272 ls_s_l01Rises (by kernel_rfl) (by exact⟨(lok_s_l01Rises_2).lok,trivial⟩) fun x=>by kernel_rfl
noncomputable def b_s_IsModeTable_4(x:(Ty.T (.pair (.list TModeInfo) (.pair (.int .i64) .unit)))):Option ((Ty.T (.pair (.list TModeInfo) (.pair (.int .i64) .unit))) ⊕ ((Ty.T .unit) ⊕ (Ty.T (.pair .bool .unit)))):=
match(decide (x.2.1<(x.1.length:Int)))with
|true=>
 onSome (idx x.1 x.2.1) fun v2=>
 match s_l01In (v2.1,(1:Int),(8:Int),())with
 |none=>none
 |some v3=>
 match(!v3.1)with
 |true=>
  some (.inr (.inr (false,())))
 |false=>
  match s_l01In (v2.2.1,(1:Int),(16:Int),())with
  |none=>none
  |some v4=>
  match(!v4.1)with
  |true=>
   some (.inr (.inr (false,())))
  |false=>
   match s_l01Rises (v2.2.2.1,(x.1.length:Int),())with
   |none=>none
   |some v5=>
   match(!v5.1)with
   |true=>
    some (.inr (.inr (false,())))
   |false=>
    match s_l01Has (v2.2.2.1,x.2.1,())with
    |none=>none
    |some v6=>
    match v6.1 with
    |true=>
     some (.inr (.inr (false,())))
    |false=>
     some (.inl (x.1,(IntKind.i64.wrap (x.2.1+(1:Int))),()))
|false=>
 some (.inr (.inl (())))
noncomputable def s_IsModeTable(x:Ty.T (.pair (.list TModeInfo) .unit)):Option (Ty.T (.pair .bool .unit)):=
match s_l01In ((x.1.length:Int),(1:Int),(16:Int),())with
|none=>none
|some v1=>
match(!v1.1)with
|true=>
 some (false,())
|false=>
 match loopL b_s_IsModeTable_4 (x.1,(0:Int),())with
 |none=>none
 |some (.inl v7)=>
  some (true,())
 |some (.inr v8)=>
  some (v8.1,())
noncomputable def S_s_IsModeTable:Spec:=⟨(.pair (.list TModeInfo) .unit),(.pair .bool .unit),.unit,rfl,s_IsModeTable⟩
noncomputable def σ_s_IsModeTable:FuncId→Option Spec:=sig [(105,S_s_l01Has),(144,S_s_l01In),(272,S_s_l01Rises)]
theorem σok_s_IsModeTable:∀f s,σ_s_IsModeTable f=some s→FnOK G0 Tryz.prog f s:=sig_ok ⟨ok_s_l01Has,ok_s_l01In,ok_s_l01Rises,trivial⟩
def q_s_IsModeTable_4:LRow:=⟨[0,3],(.pair (.list TModeInfo) (.pair (.int .i64) .unit)),0,[],.unit,[2],(.pair .bool .unit)⟩
noncomputable def ls_s_IsModeTable:List LSpec:=[q_s_IsModeTable_4.spec b_s_IsModeTable_4]
theorem lok_s_IsModeTable_4:Lok Γ0 E0 σ_s_IsModeTable (lam Tryz.f225 ls_s_IsModeTable) Tryz.f225 0 q_s_IsModeTable_4 b_s_IsModeTable_4:=fun x=>by kernel_rfl
theorem ok_s_IsModeTable:FnOK G0 Tryz.prog 225 S_s_IsModeTable:=fn_okS tab0 σok_s_IsModeTable Tryz.func225 ls_s_IsModeTable (by kernel_rfl) (by exact⟨(lok_s_IsModeTable_4).lok,trivial⟩) fun x=>by kernel_rfl
noncomputable def s_l06Kind(x:Ty.T (.pair (.int .i64) .unit)):Option (Ty.T (.pair .bool .unit)):=
match s_l01In (x.1,(0:Int),(3:Int),())with
|none=>none
|some v1=>
some (v1.1,())
noncomputable def S_s_l06Kind:Spec:=⟨(.pair (.int .i64) .unit),(.pair .bool .unit),.unit,rfl,s_l06Kind⟩
noncomputable def σ_s_l06Kind:FuncId→Option Spec:=sig [(144,S_s_l01In)]
theorem σok_s_l06Kind:∀f s,σ_s_l06Kind f=some s→FnOK G0 Tryz.prog f s:=sig_ok ⟨ok_s_l01In,trivial⟩
theorem ok_s_l06Kind:FnOK G0 Tryz.prog 276 S_s_l06Kind:=fn_okS tab0 σok_s_l06Kind Tryz.func276 [] (by kernel_rfl) (by exact trivial) fun x=>by kernel_rfl
noncomputable def s_l06Size(x:Ty.T TCrc):Option (Ty.T (.pair .bool .unit)):=
match(x.1==(0:Int))with
|true=>
 match s_l01In (x.2.1,(0:Int),(32:Int),())with
 |none=>none
 |some v1=>
 some (v1.1,())
|false=>
 match(x.1==(2:Int))with
 |true=>
  match s_l01In (x.2.1,(1:Int),(32:Int),())with
  |none=>none
  |some v2=>
  some (v2.1,())
 |false=>
  some ((x.2.1==(0:Int)),())
noncomputable def S_s_l06Size:Spec:=⟨TCrc,(.pair .bool .unit),.unit,rfl,s_l06Size⟩
noncomputable def σ_s_l06Size:FuncId→Option Spec:=sig [(144,S_s_l01In)]
theorem σok_s_l06Size:∀f s,σ_s_l06Size f=some s→FnOK G0 Tryz.prog f s:=sig_ok ⟨ok_s_l01In,trivial⟩
theorem ok_s_l06Size:FnOK G0 Tryz.prog 277 S_s_l06Size:=fn_okS tab0 σok_s_l06Size Tryz.func277 [] (by kernel_rfl) (by exact trivial) fun x=>by kernel_rfl
noncomputable def s_l06State(x:Ty.T (.pair (.int .i64) .unit)):Option (Ty.T (.pair .bool .unit)):=
some ((x.1 != (0:Int)),())
noncomputable def S_s_l06State:Spec:=⟨(.pair (.int .i64) .unit),(.pair .bool .unit),.unit,rfl,s_l06State⟩
noncomputable def σ_s_l06State:FuncId→Option Spec:=sig []
theorem σok_s_l06State:∀f s,σ_s_l06State f=some s→FnOK G0 Tryz.prog f s:=sig_ok trivial
theorem ok_s_l06State:FnOK G0 Tryz.prog 195 S_s_l06State:=fn_okS tab0 σok_s_l06State Tryz.func195 [] (by kernel_rfl) (by exact trivial) fun x=>by kernel_rfl
noncomputable def s_l06Data(x:Ty.T (.pair (.int .i64) .unit)):Option (Ty.T (.pair .bool .unit)):=
match(x.1==(0:Int))with
|true=>
 some (true,())
|false=>
 some ((x.1==(2:Int)),())
noncomputable def S_s_l06Data:Spec:=⟨(.pair (.int .i64) .unit),(.pair .bool .unit),.unit,rfl,s_l06Data⟩
noncomputable def σ_s_l06Data:FuncId→Option Spec:=sig []
theorem σok_s_l06Data:∀f s,σ_s_l06Data f=some s→FnOK G0 Tryz.prog f s:=sig_ok trivial
theorem ok_s_l06Data:FnOK G0 Tryz.prog 253 S_s_l06Data:=fn_okS tab0 σok_s_l06Data Tryz.func253 [] (by kernel_rfl) (by exact trivial) fun x=>by kernel_rfl
noncomputable def s_l06BodySize(x:Ty.T TCrc):Option (Ty.T (.pair (.int .i64) .unit)):=
match s_l06State (x.1,())with
|none=>none
|some v1=>
match v1.1 with
|true=>
 match s_l06Data (x.1,())with
 |none=>none
 |some v2=>
 match v2.1 with
 |true=>
  some ((IntKind.i64.wrap ((IntKind.i64.wrap ((IntKind.i64.wrap ((1:Int)+(8:Int)))+(1:Int)))+x.2.1)),())
 |false=>
  some ((IntKind.i64.wrap ((1:Int)+(8:Int))),())
|false=>
 match s_l06Data (x.1,())with
 |none=>none
 |some v3=>
 match v3.1 with
 |true=>
  some ((IntKind.i64.wrap ((IntKind.i64.wrap ((1:Int)+(1:Int)))+x.2.1)),())
 |false=>
  some ((1:Int),())
noncomputable def S_s_l06BodySize:Spec:=⟨TCrc,(.pair (.int .i64) .unit),.unit,rfl,s_l06BodySize⟩
noncomputable def σ_s_l06BodySize:FuncId→Option Spec:=sig [(195,S_s_l06State),(253,S_s_l06Data)]
theorem σok_s_l06BodySize:∀f s,σ_s_l06BodySize f=some s→FnOK G0 Tryz.prog f s:=sig_ok ⟨ok_s_l06State,ok_s_l06Data,trivial⟩
theorem ok_s_l06BodySize:FnOK G0 Tryz.prog 305 S_s_l06BodySize:=fn_okS tab0 σok_s_l06BodySize Tryz.func305 [] (by kernel_rfl) (by exact trivial) fun x=>by kernel_rfl
noncomputable def s_l08Cells(x:Ty.T TCrc):Option (Ty.T (.pair (.int .i64) .unit)):=
match s_l06BodySize (x.1,x.2.1,())with
|none=>none
|some v1=>
some ((IntKind.i64.wrap ((11:Int)+(IntKind.i64.wrap ((10:Int)*(IntKind.i64.wrap (v1.1+(3:Int))))))),())
noncomputable def S_s_l08Cells:Spec:=⟨TCrc,(.pair (.int .i64) .unit),.unit,rfl,s_l08Cells⟩
noncomputable def σ_s_l08Cells:FuncId→Option Spec:=sig [(305,S_s_l06BodySize)]
theorem σok_s_l08Cells:∀f s,σ_s_l08Cells f=some s→FnOK G0 Tryz.prog f s:=sig_ok ⟨ok_s_l06BodySize,trivial⟩
theorem ok_s_l08Cells:FnOK G0 Tryz.prog 278 S_s_l08Cells:=fn_okS tab0 σok_s_l08Cells Tryz.func278 [] (by kernel_rfl) (by exact trivial) fun x=>by kernel_rfl
noncomputable def s_IsDescriptor(x:Ty.T (.pair TDescriptor .unit)):Option (Ty.T (.pair .bool .unit)):=
match s_l05Node (x.1.1,())with
|none=>none
|some v1=>
match(!v1.1)with
|true=>
 some (false,())
|false=>
 match s_l06Kind (x.1.2.1,())with
 |none=>none
 |some v2=>
 match(!v2.1)with
 |true=>
  some (false,())
 |false=>
  match s_l06Size (x.1.2.1,x.1.2.2.1,())with
  |none=>none
  |some v3=>
  match(!v3.1)with
  |true=>
   some (false,())
  |false=>
   match(x.1.2.1==(3:Int))with
   |true=>
    match x.1.2.2.2.2.1 with
    |true=>
     some (false,())
    |false=>
     match s_l08Cells (x.1.2.1,x.1.2.2.1,())with
     |none=>none
     |some v4=>
     match s_l01In (x.1.2.2.2.1,(IntKind.i64.wrap (v4.1+(20:Int))),(1000:Int),())with
     |none=>none
     |some v5=>
     some (v5.1,())
   |false=>
    match s_l08Cells (x.1.2.1,x.1.2.2.1,())with
    |none=>none
    |some v6=>
    match s_l01In (x.1.2.2.2.1,(IntKind.i64.wrap (v6.1+(20:Int))),(1000:Int),())with
    |none=>none
    |some v7=>
    some (v7.1,())
noncomputable def S_s_IsDescriptor:Spec:=⟨(.pair TDescriptor .unit),(.pair .bool .unit),.unit,rfl,s_IsDescriptor⟩
noncomputable def σ_s_IsDescriptor:FuncId→Option Spec:=sig [(144,S_s_l01In),(275,S_s_l05Node),(276,S_s_l06Kind),(277,S_s_l06Size),(278,S_s_l08Cells)]
theorem σok_s_IsDescriptor:∀f s,σ_s_IsDescriptor f=some s→FnOK G0 Tryz.prog f s:=sig_ok ⟨ok_s_l01In,ok_s_l05Node,ok_s_l06Kind,ok_s_l06Size,ok_s_l08Cells,trivial⟩
theorem ok_s_IsDescriptor:FnOK G0 Tryz.prog 232 S_s_IsDescriptor:=fn_okS tab0 σok_s_IsDescriptor Tryz.func232 [] (by kernel_rfl) (by exact trivial) fun x=>by kernel_rfl
noncomputable def s_l12Is(x:Ty.T (.pair TSlotInfo .unit)):Option (Ty.T (.pair .bool .unit)):=
match s_l01In (x.1.1,(0:Int),(15:Int),())with
|none=>none
|some v1=>
match v1.1 with
|true=>
 match s_l01In (x.1.2.1,(0:Int),(7:Int),())with
 |none=>none
 |some v2=>
 match v2.1 with
 |true=>
  match s_l01In (x.1.2.2.1,(0:Int),(15:Int),())with
  |none=>none
  |some v3=>
  match v3.1 with
  |true=>
   match s_IsDescriptor ((x.1.2.2.2.1.1,x.1.2.2.2.1.2.1,x.1.2.2.2.1.2.2.1,x.1.2.2.2.1.2.2.2.1,x.1.2.2.2.1.2.2.2.2.1,()),())with
   |none=>none
   |some v4=>
   some (v4.1,())
  |false=>
   some (false,())
 |false=>
  some (false,())
|false=>
 some (false,())
noncomputable def S_s_l12Is:Spec:=⟨(.pair TSlotInfo .unit),(.pair .bool .unit),.unit,rfl,s_l12Is⟩
noncomputable def σ_s_l12Is:FuncId→Option Spec:=sig [(144,S_s_l01In),(232,S_s_IsDescriptor)]
theorem σok_s_l12Is:∀f s,σ_s_l12Is f=some s→FnOK G0 Tryz.prog f s:=sig_ok ⟨ok_s_l01In,ok_s_IsDescriptor,trivial⟩
theorem ok_s_l12Is:FnOK G0 Tryz.prog 273 S_s_l12Is:=fn_okS tab0 σok_s_l12Is Tryz.func273 [] (by kernel_rfl) (by exact trivial) fun x=>by kernel_rfl
noncomputable def b_s_CompareSlots_3(x:(Ty.T (.pair (.own 2 (.int .i64)) (.pair (.own 2 (.int .i64)) (.pair (.int .i64) .unit))))):Option ((Ty.T (.pair (.own 2 (.int .i64)) (.pair (.own 2 (.int .i64)) (.pair (.int .i64) .unit)))) ⊕ ((Ty.T .unit) ⊕ (Ty.T (.pair (.int .i64) .unit)))):=
match(decide (x.2.2.1<(3:Int)))with
|true=>
 onSome (idx x.1 x.2.2.1) fun _=>
 match x.1[x.2.2.1.toNat]? with
 |none=>none
 |some v2=>
 onSome (idx x.2.1 x.2.2.1) fun _=>
 match x.2.1[x.2.2.1.toNat]? with
 |none=>none
 |some v4=>
 match(decide (v2<v4))with
 |true=>
  some (.inr (.inr ((-1:Int),())))
 |false=>
  onSome (idx x.1 x.2.2.1) fun _=>
  match x.1[x.2.2.1.toNat]? with
  |none=>none
  |some v6=>
  onSome (idx x.2.1 x.2.2.1) fun _=>
  match x.2.1[x.2.2.1.toNat]? with
  |none=>none
  |some v8=>
  match(decide (v6>v8))with
  |true=>
   some (.inr (.inr ((1:Int),())))
  |false=>
   some (.inl (x.1,x.2.1,(IntKind.i64.wrap (x.2.2.1+(1:Int))),()))
|false=>
 some (.inr (.inl (())))
noncomputable def s_CompareSlots(x:Ty.T (.pair TSlotInfo (.pair TSlotInfo .unit))):Option (Ty.T (.pair (.int .i64) .unit)):=
both (
 match loopL b_s_CompareSlots_3 ([x.1.1,x.1.2.1,x.1.2.2.1],[x.2.1.1,x.2.1.2.1,x.2.1.2.2.1],(0:Int),())with
 |none=>none
 |some (.inl v9)=>
  some ((0:Int),())
 |some (.inr v10)=>
  some (v10.1,())) (
 match loopL b_s_CompareSlots_3 ([x.1.1,x.1.2.1,x.1.2.2.1],[x.2.1.1,x.2.1.2.1,x.2.1.2.2.1],(0:Int),())with
 |none=>none
 |some (.inl v1)=>
  some ((0:Int),())
 |some (.inr v2)=>
  some (v2.1,()))
noncomputable def S_s_CompareSlots:Spec:=⟨(.pair TSlotInfo (.pair TSlotInfo .unit)),(.pair (.int .i64) .unit),.unit,rfl,s_CompareSlots⟩
noncomputable def σ_s_CompareSlots:FuncId→Option Spec:=sig []
theorem σok_s_CompareSlots:∀f s,σ_s_CompareSlots f=some s→FnOK G0 Tryz.prog f s:=sig_ok trivial
def q_s_CompareSlots_3:LRow:=⟨[5,6,7],(.pair (.own 2 (.int .i64)) (.pair (.own 2 (.int .i64)) (.pair (.int .i64) .unit))),0,[],.unit,[4],(.pair (.int .i64) .unit)⟩
noncomputable def ls_s_CompareSlots:List LSpec:=[q_s_CompareSlots_3.spec b_s_CompareSlots_3]
theorem lok_s_CompareSlots_3:Lok Γ0 E0 σ_s_CompareSlots (lam Tryz.f274 ls_s_CompareSlots) Tryz.f274 0 q_s_CompareSlots_3 b_s_CompareSlots_3:=fun x=>by kernel_rfl
theorem ok_s_CompareSlots:FnOK G0 Tryz.prog 274 S_s_CompareSlots:=fn_okS tab0 σok_s_CompareSlots Tryz.func274 ls_s_CompareSlots (by kernel_rfl) (by exact⟨(lok_s_CompareSlots_3).lok,trivial⟩) fun x=>by kernel_rfl
noncomputable def b_s_IsSlotTable_4(x:(Ty.T (.pair (.list TSlotInfo) (.pair (.int .i64) .unit)))):Option ((Ty.T (.pair (.list TSlotInfo) (.pair (.int .i64) .unit))) ⊕ ((Ty.T .unit) ⊕ (Ty.T (.pair .bool .unit)))):=
match(decide (x.2.1<(x.1.length:Int)))with
|true=>
 onSome (idx x.1 x.2.1) fun v1=>
 match s_l12Is (v1,())with
 |none=>none
 |some v2=>
 match(!v2.1)with
 |true=>
  some (.inr (.inr (false,())))
 |false=>
  match(decide (x.2.1>(0:Int)))with
  |true=>
   onSome (idx x.1 (IntKind.i64.wrap (x.2.1-(1:Int)))) fun v3=>
   onSome (idx x.1 x.2.1) fun v4=>
   match s_CompareSlots (v3,v4,())with
   |none=>none
   |some v5=>
   match(decide (v5.1≥(0:Int)))with
   |true=>
    some (.inr (.inr (false,())))
   |false=>
    some (.inl (x.1,(IntKind.i64.wrap (x.2.1+(1:Int))),()))
  |false=>
   some (.inl (x.1,(IntKind.i64.wrap (x.2.1+(1:Int))),()))
|false=>
 some (.inr (.inl (())))
noncomputable def s_IsSlotTable(x:Ty.T (.pair (.list TSlotInfo) .unit)):Option (Ty.T (.pair .bool .unit)):=
match(decide ((x.1.length:Int)>(120:Int)))with
|true=>
 some (false,())
|false=>
 match loopL b_s_IsSlotTable_4 (x.1,(0:Int),())with
 |none=>none
 |some (.inl v6)=>
  some (true,())
 |some (.inr v7)=>
  some (v7.1,())
noncomputable def S_s_IsSlotTable:Spec:=⟨(.pair (.list TSlotInfo) .unit),(.pair .bool .unit),.unit,rfl,s_IsSlotTable⟩
noncomputable def σ_s_IsSlotTable:FuncId→Option Spec:=sig [(273,S_s_l12Is),(274,S_s_CompareSlots)]
theorem σok_s_IsSlotTable:∀f s,σ_s_IsSlotTable f=some s→FnOK G0 Tryz.prog f s:=sig_ok ⟨ok_s_l12Is,ok_s_CompareSlots,trivial⟩
def q_s_IsSlotTable_4:LRow:=⟨[0,3],(.pair (.list TSlotInfo) (.pair (.int .i64) .unit)),0,[],.unit,[2],(.pair .bool .unit)⟩
noncomputable def ls_s_IsSlotTable:List LSpec:=[q_s_IsSlotTable_4.spec b_s_IsSlotTable_4]
theorem lok_s_IsSlotTable_4:Lok Γ0 E0 σ_s_IsSlotTable (lam Tryz.f226 ls_s_IsSlotTable) Tryz.f226 0 q_s_IsSlotTable_4 b_s_IsSlotTable_4:=fun x=>by kernel_rfl
theorem ok_s_IsSlotTable:FnOK G0 Tryz.prog 226 S_s_IsSlotTable:=fn_okS tab0 σok_s_IsSlotTable Tryz.func226 ls_s_IsSlotTable (by kernel_rfl) (by exact⟨(lok_s_IsSlotTable_4).lok,trivial⟩) fun x=>by kernel_rfl
noncomputable def b_s_l12Find_2(x:(Ty.T (.pair (.list TSlotInfo) TFault))):Option ((Ty.T (.pair (.list TSlotInfo) TFault)) ⊕ ((Ty.T .unit) ⊕ (Ty.T (.pair (.int .i64) .unit)))):=
match(decide (x.2.2.2.2.1<(x.1.length:Int)))with
|true=>
 onSome (idx x.1 x.2.2.2.2.1) fun v1=>
 match(v1.1==x.2.1)with
 |true=>
  onSome (idx x.1 x.2.2.2.2.1) fun v2=>
  match(v2.2.1==x.2.2.1)with
  |true=>
   onSome (idx x.1 x.2.2.2.2.1) fun v3=>
   match(v3.2.2.1==x.2.2.2.1)with
   |true=>
    some (.inr (.inr (x.2.2.2.2.1,())))
   |false=>
    some (.inl (x.1,x.2.1,x.2.2.1,x.2.2.2.1,(IntKind.i64.wrap (x.2.2.2.2.1+(1:Int))),()))
  |false=>
   some (.inl (x.1,x.2.1,x.2.2.1,x.2.2.2.1,(IntKind.i64.wrap (x.2.2.2.2.1+(1:Int))),()))
 |false=>
  some (.inl (x.1,x.2.1,x.2.2.1,x.2.2.2.1,(IntKind.i64.wrap (x.2.2.2.2.1+(1:Int))),()))
|false=>
 some (.inr (.inl (())))
noncomputable def s_l12Find(x:Ty.T (.pair (.list TSlotInfo) (.pair (.int .i64) TCrc))):Option (Ty.T (.pair (.int .i64) .unit)):=
match loopL b_s_l12Find_2 (x.1,x.2.1,x.2.2.1,x.2.2.2.1,(0:Int),())with
|none=>none
|some (.inl v4)=>
 some ((-1:Int),())
|some (.inr v5)=>
 some (v5.1,())
noncomputable def S_s_l12Find:Spec:=⟨(.pair (.list TSlotInfo) (.pair (.int .i64) TCrc)),(.pair (.int .i64) .unit),.unit,rfl,s_l12Find⟩
noncomputable def σ_s_l12Find:FuncId→Option Spec:=sig []
theorem σok_s_l12Find:∀f s,σ_s_l12Find f=some s→FnOK G0 Tryz.prog f s:=sig_ok trivial
def q_s_l12Find_2:LRow:=⟨[0,1,2,3,9],(.pair (.list TSlotInfo) TFault),0,[],.unit,[8],(.pair (.int .i64) .unit)⟩
noncomputable def ls_s_l12Find:List LSpec:=[q_s_l12Find_2.spec b_s_l12Find_2]
theorem lok_s_l12Find_2:Lok Γ0 E0 σ_s_l12Find (lam Tryz.f118 ls_s_l12Find) Tryz.f118 0 q_s_l12Find_2 b_s_l12Find_2:=fun x=>by kernel_rfl
theorem ok_s_l12Find:FnOK G0 Tryz.prog 118 S_s_l12Find:=fn_okS tab0 σok_s_l12Find Tryz.func118 ls_s_l12Find (by kernel_rfl) (by exact⟨(lok_s_l12Find_2).lok,trivial⟩) fun x=>by kernel_rfl
noncomputable def b_s_l13Complete_9(x:(Ty.T (.pair (.box TMedl) TFault))):Option ((Ty.T (.pair (.box TMedl) TFault)) ⊕ ((Ty.T (.pair (.box TMedl) (.pair (.int .i64) TCrc))) ⊕ (Ty.T (.pair .bool .unit)))):=
onSome (idx x.1.2.2.1 x.2.2.1) fun v2=>
match(decide (x.2.2.2.2.1<v2.2.1))with
|true=>
 match s_l12Find (x.1.2.2.2.1,x.2.2.1,x.2.2.2.1,x.2.2.2.2.1,())with
 |none=>none
 |some v3=>
 match(decide (v3.1<(0:Int)))with
 |true=>
  some (.inr (.inr (false,())))
 |false=>
  some (.inl ((x.1.1,x.1.2.1,x.1.2.2.1,x.1.2.2.2.1,()),(IntKind.i64.wrap (x.2.1+(1:Int))),x.2.2.1,x.2.2.2.1,(IntKind.i64.wrap (x.2.2.2.2.1+(1:Int))),()))
|false=>
 some (.inr (.inl ((x.1.1,x.1.2.1,x.1.2.2.1,x.1.2.2.2.1,()),x.2.1,x.2.2.1,x.2.2.2.1,())))
noncomputable def b_s_l13Complete_6(x:(Ty.T (.pair (.box TMedl) (.pair (.int .i64) TCrc)))):Option ((Ty.T (.pair (.box TMedl) (.pair (.int .i64) TCrc))) ⊕ ((Ty.T (.pair (.box TMedl) TCrc)) ⊕ (Ty.T (.pair .bool .unit)))):=
onSome (idx x.1.2.2.1 x.2.2.1) fun v1=>
match(decide (x.2.2.2.1<v1.1))with
|true=>
 match loopL b_s_l13Complete_9 ((x.1.1,x.1.2.1,x.1.2.2.1,x.1.2.2.2.1,()),x.2.1,x.2.2.1,x.2.2.2.1,(0:Int),())with
 |none=>none
 |some (.inl v2)=>
  some (.inl ((v2.1.1,v2.1.2.1,v2.1.2.2.1,v2.1.2.2.2.1,()),v2.2.1,v2.2.2.1,(IntKind.i64.wrap (v2.2.2.2.1+(1:Int))),()))
 |some (.inr v3)=>
  some (.inr (.inr (v3.1,())))
|false=>
 some (.inr (.inl ((x.1.1,x.1.2.1,x.1.2.2.1,x.1.2.2.2.1,()),x.2.1,x.2.2.1,())))
noncomputable def b_s_l13Complete_3(x:(Ty.T (.pair (.box TMedl) TCrc))):Option ((Ty.T (.pair (.box TMedl) TCrc)) ⊕ ((Ty.T (.pair (.box TMedl) (.pair (.int .i64) .unit))) ⊕ (Ty.T (.pair .bool .unit)))):=
match(decide (x.2.2.1<(x.1.2.2.1.length:Int)))with
|true=>
 match loopL b_s_l13Complete_6 ((x.1.1,x.1.2.1,x.1.2.2.1,x.1.2.2.2.1,()),x.2.1,x.2.2.1,(0:Int),())with
 |none=>none
 |some (.inl v1)=>
  some (.inl ((v1.1.1,v1.1.2.1,v1.1.2.2.1,v1.1.2.2.2.1,()),v1.2.1,(IntKind.i64.wrap (v1.2.2.1+(1:Int))),()))
 |some (.inr v2)=>
  some (.inr (.inr (v2.1,())))
|false=>
 some (.inr (.inl ((x.1.1,x.1.2.1,x.1.2.2.1,x.1.2.2.2.1,()),x.2.1,())))
noncomputable def s_l13Complete(x:Ty.T (.pair TMedl .unit)):Option (Ty.T (.pair .bool .unit)):=
match loopL b_s_l13Complete_3 ((x.1.1,x.1.2.1,x.1.2.2.1,x.1.2.2.2.1,()),(0:Int),(0:Int),())with
|none=>none
|some (.inl v3)=>
 some ((v3.2.1==(v3.1.2.2.2.1.length:Int)),())
|some (.inr v4)=>
 some (v4.1,())
noncomputable def S_s_l13Complete:Spec:=⟨(.pair TMedl .unit),(.pair .bool .unit),.unit,rfl,s_l13Complete⟩
noncomputable def σ_s_l13Complete:FuncId→Option Spec:=sig [(118,S_s_l12Find)]
theorem σok_s_l13Complete:∀f s,σ_s_l13Complete f=some s→FnOK G0 Tryz.prog f s:=sig_ok ⟨ok_s_l12Find,trivial⟩
def q_s_l13Complete_3:LRow:=⟨[1,3,4],(.pair (.box TMedl) TCrc),0,[1,3],(.pair (.box TMedl) (.pair (.int .i64) .unit)),[2],(.pair .bool .unit)⟩
def q_s_l13Complete_6:LRow:=⟨[1,3,4,5],(.pair (.box TMedl) (.pair (.int .i64) TCrc)),2,[1,3,4],(.pair (.box TMedl) TCrc),[2],(.pair .bool .unit)⟩
def q_s_l13Complete_9:LRow:=⟨[1,3,4,5,6],(.pair (.box TMedl) TFault),4,[1,3,4,5],(.pair (.box TMedl) (.pair (.int .i64) TCrc)),[2],(.pair .bool .unit)⟩
noncomputable def ls_s_l13Complete:List LSpec:=[q_s_l13Complete_3.spec b_s_l13Complete_3,q_s_l13Complete_6.spec b_s_l13Complete_6,q_s_l13Complete_9.spec b_s_l13Complete_9]
theorem lok_s_l13Complete_3:Lok Γ0 E0 σ_s_l13Complete (lam Tryz.f227 ls_s_l13Complete) Tryz.f227 0 q_s_l13Complete_3 b_s_l13Complete_3:=fun x=>by kernel_rfl
theorem lok_s_l13Complete_6:Lok Γ0 E0 σ_s_l13Complete (lam Tryz.f227 ls_s_l13Complete) Tryz.f227 1 q_s_l13Complete_6 b_s_l13Complete_6:=fun x=>by kernel_rfl
theorem lok_s_l13Complete_9:Lok Γ0 E0 σ_s_l13Complete (lam Tryz.f227 ls_s_l13Complete) Tryz.f227 2 q_s_l13Complete_9 b_s_l13Complete_9:=fun x=>by kernel_rfl
theorem ok_s_l13Complete:FnOK G0 Tryz.prog 227 S_s_l13Complete:=fn_okS tab0 σok_s_l13Complete Tryz.func227 ls_s_l13Complete (by kernel_rfl) (by exact⟨(lok_s_l13Complete_3).lok,(lok_s_l13Complete_6).lok,(lok_s_l13Complete_9).lok,trivial⟩) fun x=>by kernel_rfl
noncomputable def s_l05Has(x:Ty.T TCrc):Option (Ty.T (.pair .bool .unit)):=
if(IntKind.u64.wrap x.2.1)<0 then none else
some (((bits BinOp.and .i64 (Int.fdiv x.1 (2^min (IntKind.u64.wrap x.2.1).toNat IntKind.i64.bits)) (1:Int))==(1:Int)),())
noncomputable def S_s_l05Has:Spec:=⟨TCrc,(.pair .bool .unit),.unit,rfl,s_l05Has⟩
noncomputable def σ_s_l05Has:FuncId→Option Spec:=sig []
theorem σok_s_l05Has:∀f s,σ_s_l05Has f=some s→FnOK G0 Tryz.prog f s:=sig_ok trivial
theorem ok_s_l05Has:FnOK G0 Tryz.prog 150 S_s_l05Has:=fn_okS tab0 σok_s_l05Has Tryz.func150 [] (by kernel_rfl) (by exact trivial) fun x=>by kernel_rfl
noncomputable def s_l05Set(x:Ty.T (.pair (.int .i64) (.pair (.int .i64) (.pair .bool .unit)))):Option (Ty.T (.pair (.int .i64) .unit)):=
match s_l05Has (x.1,x.2.1,())with
|none=>none
|some v1=>
match(v1.1==x.2.2.1)with
|true=>
 some (x.1,())
|false=>
 if(IntKind.u64.wrap x.2.1)<0 then none else
 some ((bits BinOp.xor .i64 x.1 (IntKind.i64.wrap ((1:Int)*2^min (IntKind.u64.wrap x.2.1).toNat IntKind.i64.bits))),())
noncomputable def S_s_l05Set:Spec:=⟨(.pair (.int .i64) (.pair (.int .i64) (.pair .bool .unit))),(.pair (.int .i64) .unit),.unit,rfl,s_l05Set⟩
noncomputable def σ_s_l05Set:FuncId→Option Spec:=sig [(150,S_s_l05Has)]
theorem σok_s_l05Set:∀f s,σ_s_l05Set f=some s→FnOK G0 Tryz.prog f s:=sig_ok ⟨ok_s_l05Has,trivial⟩
theorem ok_s_l05Set:FnOK G0 Tryz.prog 109 S_s_l05Set:=fn_okS tab0 σok_s_l05Set Tryz.func109 [] (by kernel_rfl) (by exact trivial) fun x=>by kernel_rfl
noncomputable def b_s_l10Active_3(x:(Ty.T (.pair (.list TNodeInfo) TCrc))):Option ((Ty.T (.pair (.list TNodeInfo) TCrc)) ⊕ ((Ty.T (.pair (.int .i64) .unit)) ⊕ (Ty.T .unit))):=
match(decide (x.2.2.1<(x.1.length:Int)))with
|true=>
 onSome (idx x.1 x.2.2.1) fun v1=>
 match(!v1.2.2.2.1)with
 |true=>
  onSome (idx x.1 x.2.2.1) fun v2=>
  match s_l05Set (x.2.1,v2.1,true,())with
  |none=>none
  |some v3=>
  some (.inl (x.1,v3.1,(IntKind.i64.wrap (x.2.2.1+(1:Int))),()))
 |false=>
  some (.inl (x.1,x.2.1,(IntKind.i64.wrap (x.2.2.1+(1:Int))),()))
|false=>
 some (.inr (.inl (x.2.1,())))
noncomputable def s_l10Active(x:Ty.T (.pair (.list TNodeInfo) .unit)):Option (Ty.T (.pair (.int .i64) .unit)):=
match loopL b_s_l10Active_3 (x.1,(0:Int),(0:Int),())with
|none=>none
|some (.inl v4)=>
 some (v4.1,())
|some (.inr v6)=>
 none
noncomputable def S_s_l10Active:Spec:=⟨(.pair (.list TNodeInfo) .unit),(.pair (.int .i64) .unit),.unit,rfl,s_l10Active⟩
noncomputable def σ_s_l10Active:FuncId→Option Spec:=sig [(109,S_s_l05Set)]
theorem σok_s_l10Active:∀f s,σ_s_l10Active f=some s→FnOK G0 Tryz.prog f s:=sig_ok ⟨ok_s_l05Set,trivial⟩
def q_s_l10Active_3:LRow:=⟨[0,3,4],(.pair (.list TNodeInfo) TCrc),0,[3],(.pair (.int .i64) .unit),[],.unit⟩
noncomputable def ls_s_l10Active:List LSpec:=[q_s_l10Active_3.spec b_s_l10Active_3]
theorem lok_s_l10Active_3:Lok Γ0 E0 σ_s_l10Active (lam Tryz.f194 ls_s_l10Active) Tryz.f194 0 q_s_l10Active_3 b_s_l10Active_3:=fun x=>by kernel_rfl
theorem ok_s_l10Active:FnOK G0 Tryz.prog 194 S_s_l10Active:=fn_okS tab0 σok_s_l10Active Tryz.func194 ls_s_l10Active (by kernel_rfl) (by exact⟨(lok_s_l10Active_3).lok,trivial⟩) fun x=>by kernel_rfl
noncomputable def b_s_l13Senders_3(x:(Ty.T (.pair (.box TMedl) TCrc))):Option ((Ty.T (.pair (.box TMedl) TCrc)) ⊕ ((Ty.T .unit) ⊕ (Ty.T (.pair .bool .unit)))):=
match(decide (x.2.2.1<(x.1.2.2.2.1.length:Int)))with
|true=>
 onSome (idx x.1.2.2.2.1 x.2.2.1) fun v2=>
 match s_l05Has (x.2.1,v2.2.2.2.1.1,())with
 |none=>none
 |some v3=>
 match(!v3.1)with
 |true=>
  some (.inr (.inr (false,())))
 |false=>
  some (.inl ((x.1.1,x.1.2.1,x.1.2.2.1,x.1.2.2.2.1,()),x.2.1,(IntKind.i64.wrap (x.2.2.1+(1:Int))),()))
|false=>
 some (.inr (.inl (())))
noncomputable def s_l13Senders(x:Ty.T (.pair TMedl .unit)):Option (Ty.T (.pair .bool .unit)):=
match s_l10Active (x.1.2.1,())with
|none=>none
|some v1=>
match loopL b_s_l13Senders_3 ((x.1.1,x.1.2.1,x.1.2.2.1,x.1.2.2.2.1,()),v1.1,(0:Int),())with
|none=>none
|some (.inl v4)=>
 some (true,())
|some (.inr v5)=>
 some (v5.1,())
noncomputable def S_s_l13Senders:Spec:=⟨(.pair TMedl .unit),(.pair .bool .unit),.unit,rfl,s_l13Senders⟩
noncomputable def σ_s_l13Senders:FuncId→Option Spec:=sig [(150,S_s_l05Has),(194,S_s_l10Active)]
theorem σok_s_l13Senders:∀f s,σ_s_l13Senders f=some s→FnOK G0 Tryz.prog f s:=sig_ok ⟨ok_s_l05Has,ok_s_l10Active,trivial⟩
def q_s_l13Senders_3:LRow:=⟨[1,3,4],(.pair (.box TMedl) TCrc),0,[],.unit,[2],(.pair .bool .unit)⟩
noncomputable def ls_s_l13Senders:List LSpec:=[q_s_l13Senders_3.spec b_s_l13Senders_3]
theorem lok_s_l13Senders_3:Lok Γ0 E0 σ_s_l13Senders (lam Tryz.f228 ls_s_l13Senders) Tryz.f228 0 q_s_l13Senders_3 b_s_l13Senders_3:=fun x=>by kernel_rfl
theorem ok_s_l13Senders:FnOK G0 Tryz.prog 228 S_s_l13Senders:=fn_okS tab0 σok_s_l13Senders Tryz.func228 ls_s_l13Senders (by kernel_rfl) (by exact⟨(lok_s_l13Senders_3).lok,trivial⟩) fun x=>by kernel_rfl
noncomputable def b_s_l13Durations_5(x:(Ty.T (.pair (.ptr TMedl) TCrc))):Option ((Ty.T (.pair (.ptr TMedl) TCrc)) ⊕ ((Ty.T (.pair (.ptr TMedl) (.pair (.int .i64) .unit))) ⊕ (Ty.T (.pair .bool .unit)))):=
match(decide (x.2.2.1<x.2.1))with
|true=>
 onSome (idx x.1.2.2.2.1 x.2.1) fun v1=>
 onSome (idx x.1.2.2.2.1 x.2.2.1) fun v2=>
 same (
  match(v1.1==v2.1)with
  |true=>
   match(v1.2.2.1==v2.2.2.1)with
   |true=>
    match(v1.2.2.2.1.2.2.2.1 != v2.2.2.2.1.2.2.2.1)with
    |true=>
     some (.inr (.inr (false,())))
    |false=>
     some (.inl (x.1,x.2.1,(IntKind.i64.wrap (x.2.2.1+(1:Int))),()))
   |false=>
    some (.inl (x.1,x.2.1,(IntKind.i64.wrap (x.2.2.1+(1:Int))),()))
  |false=>
   some (.inl (x.1,x.2.1,(IntKind.i64.wrap (x.2.2.1+(1:Int))),())))
|false=>
 some (.inr (.inl (x.1,x.2.1,())))
noncomputable def b_s_l13Durations_2(x:(Ty.T (.pair (.ptr TMedl) (.pair (.int .i64) .unit)))):Option ((Ty.T (.pair (.ptr TMedl) (.pair (.int .i64) .unit))) ⊕ ((Ty.T .unit) ⊕ (Ty.T (.pair .bool .unit)))):=
match(decide (x.2.1<(x.1.2.2.2.1.length:Int)))with
|true=>
 match loopL b_s_l13Durations_5 (x.1,x.2.1,(0:Int),())with
 |none=>none
 |some (.inl v1)=>
  some (.inl (v1.1,(IntKind.i64.wrap (v1.2.1+(1:Int))),()))
 |some (.inr v2)=>
  some (.inr (.inr (v2.1,())))
|false=>
 some (.inr (.inl (())))
noncomputable def s_l13Durations(x:Ty.T (.pair TMedl .unit)):Option (Ty.T (.pair .bool .unit)):=
match loopL b_s_l13Durations_2 ((x.1.1,x.1.2.1,x.1.2.2.1,x.1.2.2.2.1,()),(0:Int),())with
|none=>none
|some (.inl v3)=>
 some (true,())
|some (.inr v4)=>
 some (v4.1,())
noncomputable def S_s_l13Durations:Spec:=⟨(.pair TMedl .unit),(.pair .bool .unit),.unit,rfl,s_l13Durations⟩
noncomputable def σ_s_l13Durations:FuncId→Option Spec:=sig []
theorem σok_s_l13Durations:∀f s,σ_s_l13Durations f=some s→FnOK G0 Tryz.prog f s:=sig_ok trivial
def q_s_l13Durations_2:LRow:=⟨[1,3],(.pair (.ptr TMedl) (.pair (.int .i64) .unit)),0,[],.unit,[2],(.pair .bool .unit)⟩
def q_s_l13Durations_5:LRow:=⟨[1,3,4],(.pair (.ptr TMedl) TCrc),2,[1,3],(.pair (.ptr TMedl) (.pair (.int .i64) .unit)),[2],(.pair .bool .unit)⟩
noncomputable def ls_s_l13Durations:List LSpec:=[q_s_l13Durations_2.spec b_s_l13Durations_2,q_s_l13Durations_5.spec b_s_l13Durations_5]
theorem lok_s_l13Durations_2:Lok Γ0 E0 σ_s_l13Durations (lam Tryz.f229 ls_s_l13Durations) Tryz.f229 0 q_s_l13Durations_2 b_s_l13Durations_2:=fun x=>by kernel_rfl
theorem lok_s_l13Durations_5:Lok Γ0 E0 σ_s_l13Durations (lam Tryz.f229 ls_s_l13Durations) Tryz.f229 1 q_s_l13Durations_5 b_s_l13Durations_5:=fun x=>by kernel_rfl
theorem ok_s_l13Durations:FnOK G0 Tryz.prog 229 S_s_l13Durations:=fn_okS tab0 σok_s_l13Durations Tryz.func229 ls_s_l13Durations (by kernel_rfl) (by exact⟨(lok_s_l13Durations_2).lok,(lok_s_l13Durations_5).lok,trivial⟩) fun x=>by kernel_rfl
noncomputable def b_s_l13Cycle_3(x:(Ty.T (.pair (.int .i64) (.pair (.box TMedl) TCrc)))):Option ((Ty.T (.pair (.int .i64) (.pair (.box TMedl) TCrc))) ⊕ ((Ty.T (.pair (.int .i64) .unit)) ⊕ (Ty.T .unit))):=
match(decide (x.2.2.2.1<(x.2.1.2.2.2.1.length:Int)))with
|true=>
 onSome (idx x.2.1.2.2.2.1 x.2.2.2.1) fun v1=>
 match(v1.1==x.1)with
 |true=>
  onSome (idx x.2.1.2.2.2.1 x.2.2.2.1) fun v2=>
  some (.inl (x.1,(x.2.1.1,x.2.1.2.1,x.2.1.2.2.1,x.2.1.2.2.2.1,()),(IntKind.i64.wrap (x.2.2.1+v2.2.2.2.1.2.2.2.1)),(IntKind.i64.wrap (x.2.2.2.1+(1:Int))),()))
 |false=>
  some (.inl (x.1,(x.2.1.1,x.2.1.2.1,x.2.1.2.2.1,x.2.1.2.2.2.1,()),x.2.2.1,(IntKind.i64.wrap (x.2.2.2.1+(1:Int))),()))
|false=>
 some (.inr (.inl (x.2.2.1,())))
noncomputable def s_l13Cycle(x:Ty.T (.pair TMedl (.pair (.int .i64) .unit))):Option (Ty.T (.pair (.int .i64) .unit)):=
match loopL b_s_l13Cycle_3 (x.2.1,(x.1.1,x.1.2.1,x.1.2.2.1,x.1.2.2.2.1,()),(0:Int),(0:Int),())with
|none=>none
|some (.inl v3)=>
 some (v3.1,())
|some (.inr v5)=>
 none
noncomputable def S_s_l13Cycle:Spec:=⟨(.pair TMedl (.pair (.int .i64) .unit)),(.pair (.int .i64) .unit),.unit,rfl,s_l13Cycle⟩
noncomputable def σ_s_l13Cycle:FuncId→Option Spec:=sig []
theorem σok_s_l13Cycle:∀f s,σ_s_l13Cycle f=some s→FnOK G0 Tryz.prog f s:=sig_ok trivial
def q_s_l13Cycle_3:LRow:=⟨[1,2,5,6],(.pair (.int .i64) (.pair (.box TMedl) TCrc)),0,[5],(.pair (.int .i64) .unit),[],.unit⟩
noncomputable def ls_s_l13Cycle:List LSpec:=[q_s_l13Cycle_3.spec b_s_l13Cycle_3]
theorem lok_s_l13Cycle_3:Lok Γ0 E0 σ_s_l13Cycle (lam Tryz.f230 ls_s_l13Cycle) Tryz.f230 0 q_s_l13Cycle_3 b_s_l13Cycle_3:=fun x=>by kernel_rfl
theorem ok_s_l13Cycle:FnOK G0 Tryz.prog 230 S_s_l13Cycle:=fn_okS tab0 σok_s_l13Cycle Tryz.func230 ls_s_l13Cycle (by kernel_rfl) (by exact⟨(lok_s_l13Cycle_3).lok,trivial⟩) fun x=>by kernel_rfl
noncomputable def b_s_l13Served_10(x:(Ty.T (.pair (.box TMedl) TState))):Option ((Ty.T (.pair (.box TMedl) TState)) ⊕ ((Ty.T (.pair (.box TMedl) TFault)) ⊕ (Ty.T .unit))):=
match(decide (x.2.2.2.2.2.1<(x.1.2.2.2.1.length:Int)))with
|true=>
 onSome (idx x.1.2.2.2.1 x.2.2.2.2.2.1) fun v3=>
 match(v3.1==x.2.2.1)with
 |true=>
  onSome (idx x.1.2.2.2.1 x.2.2.2.2.2.1) fun v4=>
  match(v4.2.1==x.2.2.2.1)with
  |true=>
   onSome (idx x.1.2.2.2.1 x.2.2.2.2.2.1) fun v5=>
   match s_l05Set (x.2.2.2.2.1,v5.2.2.2.1.1,true,())with
   |none=>none
   |some v6=>
   some (.inl ((x.1.1,x.1.2.1,x.1.2.2.1,x.1.2.2.2.1,()),x.2.1,x.2.2.1,x.2.2.2.1,v6.1,(IntKind.i64.wrap (x.2.2.2.2.2.1+(1:Int))),()))
  |false=>
   some (.inl ((x.1.1,x.1.2.1,x.1.2.2.1,x.1.2.2.2.1,()),x.2.1,x.2.2.1,x.2.2.2.1,x.2.2.2.2.1,(IntKind.i64.wrap (x.2.2.2.2.2.1+(1:Int))),()))
 |false=>
  some (.inl ((x.1.1,x.1.2.1,x.1.2.2.1,x.1.2.2.2.1,()),x.2.1,x.2.2.1,x.2.2.2.1,x.2.2.2.2.1,(IntKind.i64.wrap (x.2.2.2.2.2.1+(1:Int))),()))
|false=>
 some (.inr (.inl ((x.1.1,x.1.2.1,x.1.2.2.1,x.1.2.2.2.1,()),x.2.1,x.2.2.1,x.2.2.2.1,x.2.2.2.2.1,())))
noncomputable def b_s_l13Served_6(x:(Ty.T (.pair (.box TMedl) (.pair (.int .i64) TCrc)))):Option ((Ty.T (.pair (.box TMedl) (.pair (.int .i64) TCrc))) ⊕ ((Ty.T (.pair (.box TMedl) TCrc)) ⊕ (Ty.T (.pair .bool .unit)))):=
onSome (idx x.1.2.2.1 x.2.2.1) fun v2=>
match(decide (x.2.2.2.1<v2.1))with
|true=>
 match loopL b_s_l13Served_10 ((x.1.1,x.1.2.1,x.1.2.2.1,x.1.2.2.2.1,()),x.2.1,x.2.2.1,x.2.2.2.1,(0:Int),(0:Int),())with
 |none=>none
 |some (.inl v3)=>
  match(v3.2.2.2.2.1 != v3.2.1)with
  |true=>
   some (.inr (.inr (false,())))
  |false=>
   some (.inl ((v3.1.1,v3.1.2.1,v3.1.2.2.1,v3.1.2.2.2.1,()),v3.2.1,v3.2.2.1,(IntKind.i64.wrap (v3.2.2.2.1+(1:Int))),()))
 |some (.inr v5)=>
  none
|false=>
 some (.inr (.inl ((x.1.1,x.1.2.1,x.1.2.2.1,x.1.2.2.2.1,()),x.2.1,x.2.2.1,())))
noncomputable def b_s_l13Served_3(x:(Ty.T (.pair (.box TMedl) TCrc))):Option ((Ty.T (.pair (.box TMedl) TCrc)) ⊕ ((Ty.T .unit) ⊕ (Ty.T (.pair .bool .unit)))):=
match(decide (x.2.2.1<(x.1.2.2.1.length:Int)))with
|true=>
 match loopL b_s_l13Served_6 ((x.1.1,x.1.2.1,x.1.2.2.1,x.1.2.2.2.1,()),x.2.1,x.2.2.1,(0:Int),())with
 |none=>none
 |some (.inl v2)=>
  some (.inl ((v2.1.1,v2.1.2.1,v2.1.2.2.1,v2.1.2.2.2.1,()),v2.2.1,(IntKind.i64.wrap (v2.2.2.1+(1:Int))),()))
 |some (.inr v3)=>
  some (.inr (.inr (v3.1,())))
|false=>
 some (.inr (.inl (())))
noncomputable def s_l13Served(x:Ty.T (.pair TMedl .unit)):Option (Ty.T (.pair .bool .unit)):=
match s_l10Active (x.1.2.1,())with
|none=>none
|some v1=>
match loopL b_s_l13Served_3 ((x.1.1,x.1.2.1,x.1.2.2.1,x.1.2.2.2.1,()),v1.1,(0:Int),())with
|none=>none
|some (.inl v4)=>
 some (true,())
|some (.inr v5)=>
 some (v5.1,())
noncomputable def S_s_l13Served:Spec:=⟨(.pair TMedl .unit),(.pair .bool .unit),.unit,rfl,s_l13Served⟩
noncomputable def σ_s_l13Served:FuncId→Option Spec:=sig [(109,S_s_l05Set),(194,S_s_l10Active)]
theorem σok_s_l13Served:∀f s,σ_s_l13Served f=some s→FnOK G0 Tryz.prog f s:=sig_ok ⟨ok_s_l05Set,ok_s_l10Active,trivial⟩
def q_s_l13Served_3:LRow:=⟨[1,3,4],(.pair (.box TMedl) TCrc),0,[],.unit,[2],(.pair .bool .unit)⟩
def q_s_l13Served_6:LRow:=⟨[1,3,4,5],(.pair (.box TMedl) (.pair (.int .i64) TCrc)),2,[1,3,4],(.pair (.box TMedl) TCrc),[2],(.pair .bool .unit)⟩
def q_s_l13Served_10:LRow:=⟨[1,3,4,5,6,7],(.pair (.box TMedl) TState),4,[1,3,4,5,6],(.pair (.box TMedl) TFault),[],.unit⟩
noncomputable def ls_s_l13Served:List LSpec:=[q_s_l13Served_3.spec b_s_l13Served_3,q_s_l13Served_6.spec b_s_l13Served_6,q_s_l13Served_10.spec b_s_l13Served_10]
theorem lok_s_l13Served_3:Lok Γ0 E0 σ_s_l13Served (lam Tryz.f231 ls_s_l13Served) Tryz.f231 0 q_s_l13Served_3 b_s_l13Served_3:=fun x=>by kernel_rfl
theorem lok_s_l13Served_6:Lok Γ0 E0 σ_s_l13Served (lam Tryz.f231 ls_s_l13Served) Tryz.f231 1 q_s_l13Served_6 b_s_l13Served_6:=fun x=>by kernel_rfl
theorem lok_s_l13Served_10:Lok Γ0 E0 σ_s_l13Served (lam Tryz.f231 ls_s_l13Served) Tryz.f231 2 q_s_l13Served_10 b_s_l13Served_10:=fun x=>by kernel_rfl
theorem ok_s_l13Served:FnOK G0 Tryz.prog 231 S_s_l13Served:=fn_okS tab0 σok_s_l13Served Tryz.func231 ls_s_l13Served (by kernel_rfl) (by exact⟨(lok_s_l13Served_3).lok,(lok_s_l13Served_6).lok,(lok_s_l13Served_10).lok,trivial⟩) fun x=>by kernel_rfl
noncomputable def b_s_FirstFault_16(x:(Ty.T (.pair (.box TMedl) (.pair (.int .i64) .unit)))):Option ((Ty.T (.pair (.box TMedl) (.pair (.int .i64) .unit))) ⊕ ((Ty.T (.pair (.box TMedl) .unit)) ⊕ (Ty.T (.pair (.int .i64) .unit)))):=
match(decide (x.2.1<(x.1.2.2.1.length:Int)))with
|true=>
 match s_l13Cycle ((x.1.1,x.1.2.1,x.1.2.2.1,x.1.2.2.2.1,()),x.2.1,())with
 |none=>none
 |some v8=>
 match(decide (v8.1>(32000:Int)))with
 |true=>
  some (.inr (.inr ((8:Int),())))
 |false=>
  some (.inl ((x.1.1,x.1.2.1,x.1.2.2.1,x.1.2.2.2.1,()),(IntKind.i64.wrap (x.2.1+(1:Int))),()))
|false=>
 some (.inr (.inl ((x.1.1,x.1.2.1,x.1.2.2.1,x.1.2.2.2.1,()),())))
noncomputable def b_s_FirstFault_23(x:(Ty.T (.pair (.box TMedl) (.pair (.int .i64) .unit)))):Option ((Ty.T (.pair (.box TMedl) (.pair (.int .i64) .unit))) ⊕ ((Ty.T .unit) ⊕ (Ty.T (.pair (.int .i64) .unit)))):=
match(decide (x.2.1<(x.1.2.2.2.1.length:Int)))with
|true=>
 onSome (idx x.1.2.2.2.1 x.2.1) fun v12=>
 match(v12.2.2.2.1.2.1==(3:Int))with
 |true=>
  onSome (idx x.1.2.2.2.1 x.2.1) fun v13=>
  match(v13.1 != (0:Int))with
  |true=>
   some (.inr (.inr ((10:Int),())))
  |false=>
   some (.inl ((x.1.1,x.1.2.1,x.1.2.2.1,x.1.2.2.2.1,()),(IntKind.i64.wrap (x.2.1+(1:Int))),()))
 |false=>
  some (.inl ((x.1.1,x.1.2.1,x.1.2.2.1,x.1.2.2.2.1,()),(IntKind.i64.wrap (x.2.1+(1:Int))),()))
|false=>
 some (.inr (.inl (())))
noncomputable def s_FirstFault(x:Ty.T (.pair TMedl .unit)):Option (Ty.T (.pair (.int .i64) .unit)):=
match s_l01In (x.1.1,(1:Int),(16777215:Int),())with
|none=>none
|some v1=>
match(!v1.1)with
|true=>
 some ((1:Int),())
|false=>
 match s_IsNodeTable (x.1.2.1,())with
 |none=>none
 |some v2=>
 match(!v2.1)with
 |true=>
  some ((2:Int),())
 |false=>
  match s_IsModeTable (x.1.2.2.1,())with
  |none=>none
  |some v3=>
  match(!v3.1)with
  |true=>
   some ((3:Int),())
  |false=>
   match s_IsSlotTable (x.1.2.2.2.1,())with
   |none=>none
   |some v4=>
   match(!v4.1)with
   |true=>
    some ((4:Int),())
   |false=>
    match s_l13Complete ((x.1.1,x.1.2.1,x.1.2.2.1,x.1.2.2.2.1,()),())with
    |none=>none
    |some v5=>
    match(!v5.1)with
    |true=>
     some ((5:Int),())
    |false=>
     match s_l13Senders ((x.1.1,x.1.2.1,x.1.2.2.1,x.1.2.2.2.1,()),())with
     |none=>none
     |some v6=>
     match(!v6.1)with
     |true=>
      some ((6:Int),())
     |false=>
      match s_l13Durations ((x.1.1,x.1.2.1,x.1.2.2.1,x.1.2.2.2.1,()),())with
      |none=>none
      |some v7=>
      match(!v7.1)with
      |true=>
       some ((7:Int),())
      |false=>
       match loopL b_s_FirstFault_16 ((x.1.1,x.1.2.1,x.1.2.2.1,x.1.2.2.2.1,()),(0:Int),())with
       |none=>none
       |some (.inl v9)=>
        match s_l13Served ((v9.1.1,v9.1.2.1,v9.1.2.2.1,v9.1.2.2.2.1,()),())with
        |none=>none
        |some v11=>
        match(!v11.1)with
        |true=>
         some ((9:Int),())
        |false=>
         match loopL b_s_FirstFault_23 ((v9.1.1,v9.1.2.1,v9.1.2.2.1,v9.1.2.2.2.1,()),(0:Int),())with
         |none=>none
         |some (.inl v14)=>
          some ((0:Int),())
         |some (.inr v15)=>
          some (v15.1,())
       |some (.inr v10)=>
        some (v10.1,())
noncomputable def S_s_FirstFault:Spec:=⟨(.pair TMedl .unit),(.pair (.int .i64) .unit),.unit,rfl,s_FirstFault⟩
noncomputable def σ_s_FirstFault:FuncId→Option Spec:=sig [(144,S_s_l01In),(224,S_s_IsNodeTable),(225,S_s_IsModeTable),(226,S_s_IsSlotTable),(227,S_s_l13Complete),(228,S_s_l13Senders),(229,S_s_l13Durations),(230,S_s_l13Cycle),(231,S_s_l13Served)]
theorem σok_s_FirstFault:∀f s,σ_s_FirstFault f=some s→FnOK G0 Tryz.prog f s:=sig_ok ⟨ok_s_l01In,ok_s_IsNodeTable,ok_s_IsModeTable,ok_s_IsSlotTable,ok_s_l13Complete,ok_s_l13Senders,ok_s_l13Durations,ok_s_l13Cycle,ok_s_l13Served,trivial⟩
def q_s_FirstFault_16:LRow:=⟨[1,3],(.pair (.box TMedl) (.pair (.int .i64) .unit)),1,[1],(.pair (.box TMedl) .unit),[2],(.pair (.int .i64) .unit)⟩
def q_s_FirstFault_23:LRow:=⟨[1,4],(.pair (.box TMedl) (.pair (.int .i64) .unit)),3,[],.unit,[2],(.pair (.int .i64) .unit)⟩
noncomputable def ls_s_FirstFault:List LSpec:=[q_s_FirstFault_16.spec b_s_FirstFault_16,q_s_FirstFault_23.spec b_s_FirstFault_23]
theorem lok_s_FirstFault_16:Lok Γ0 E0 σ_s_FirstFault (lam Tryz.f191 ls_s_FirstFault) Tryz.f191 0 q_s_FirstFault_16 b_s_FirstFault_16:=fun x=>by kernel_rfl
theorem lok_s_FirstFault_23:Lok Γ0 E0 σ_s_FirstFault (lam Tryz.f191 ls_s_FirstFault) Tryz.f191 1 q_s_FirstFault_23 b_s_FirstFault_23:=fun x=>by kernel_rfl
theorem ok_s_FirstFault:FnOK G0 Tryz.prog 191 S_s_FirstFault:=fn_okS tab0 σok_s_FirstFault Tryz.func191 ls_s_FirstFault (by kernel_rfl) (by exact⟨(lok_s_FirstFault_16).lok,(lok_s_FirstFault_23).lok,trivial⟩) fun x=>by kernel_rfl
noncomputable def s_IsMedl(x:Ty.T (.pair TMedl .unit)):Option (Ty.T (.pair .bool .unit)):=
match s_FirstFault ((x.1.1,x.1.2.1,x.1.2.2.1,x.1.2.2.2.1,()),())with
|none=>none
|some v1=>
some ((v1.1==(0:Int)),())
noncomputable def S_s_IsMedl:Spec:=⟨(.pair TMedl .unit),(.pair .bool .unit),.unit,rfl,s_IsMedl⟩
noncomputable def σ_s_IsMedl:FuncId→Option Spec:=sig [(191,S_s_FirstFault)]
theorem σok_s_IsMedl:∀f s,σ_s_IsMedl f=some s→FnOK G0 Tryz.prog f s:=sig_ok ⟨ok_s_FirstFault,trivial⟩
theorem ok_s_IsMedl:FnOK G0 Tryz.prog 142 S_s_IsMedl:=fn_okS tab0 σok_s_IsMedl Tryz.func142 [] (by kernel_rfl) (by exact trivial) fun x=>by kernel_rfl
noncomputable def s_IsState(x:Ty.T (.pair TState .unit)):Option (Ty.T (.pair .bool .unit)):=
match s_l01In (x.1.1,(0:Int),(65535:Int),())with
|none=>none
|some v1=>
match v1.1 with
|true=>
 match s_l01In (x.1.2.1,(0:Int),(15:Int),())with
 |none=>none
 |some v2=>
 match v2.1 with
 |true=>
  match s_l01In (x.1.2.2.1,(0:Int),(15:Int),())with
  |none=>none
  |some v3=>
  match v3.1 with
  |true=>
   match s_l01In (x.1.2.2.2.1,(0:Int),(255:Int),())with
   |none=>none
   |some v4=>
   match v4.1 with
   |true=>
    match s_l01In (x.1.2.2.2.2.1,(0:Int),(4294967295:Int),())with
    |none=>none
    |some v5=>
    some (v5.1,())
   |false=>
    some (false,())
  |false=>
   some (false,())
 |false=>
  some (false,())
|false=>
 some (false,())
noncomputable def S_s_IsState:Spec:=⟨(.pair TState .unit),(.pair .bool .unit),.unit,rfl,s_IsState⟩
noncomputable def σ_s_IsState:FuncId→Option Spec:=sig [(144,S_s_l01In)]
theorem σok_s_IsState:∀f s,σ_s_IsState f=some s→FnOK G0 Tryz.prog f s:=sig_ok ⟨ok_s_l01In,trivial⟩
theorem ok_s_IsState:FnOK G0 Tryz.prog 192 S_s_IsState:=fn_okS tab0 σok_s_IsState Tryz.func192 [] (by kernel_rfl) (by exact trivial) fun x=>by kernel_rfl
noncomputable def s_l11Mode(x:Ty.T (.pair (.list TModeInfo) (.pair (.int .i64) .unit))):Option (Ty.T (.pair .bool .unit)):=
match s_l01In (x.2.1,(0:Int),(IntKind.i64.wrap ((x.1.length:Int)-(1:Int))),())with
|none=>none
|some v1=>
some (v1.1,())
noncomputable def S_s_l11Mode:Spec:=⟨(.pair (.list TModeInfo) (.pair (.int .i64) .unit)),(.pair .bool .unit),.unit,rfl,s_l11Mode⟩
noncomputable def σ_s_l11Mode:FuncId→Option Spec:=sig [(144,S_s_l01In)]
theorem σok_s_l11Mode:∀f s,σ_s_l11Mode f=some s→FnOK G0 Tryz.prog f s:=sig_ok ⟨ok_s_l01In,trivial⟩
theorem ok_s_l11Mode:FnOK G0 Tryz.prog 193 S_s_l11Mode:=fn_okS tab0 σok_s_l11Mode Tryz.func193 [] (by kernel_rfl) (by exact trivial) fun x=>by kernel_rfl
noncomputable def s_l15Belongs(x:Ty.T (.pair TMedl (.pair TState .unit))):Option (Ty.T (.pair .bool .unit)):=
match s_IsState ((x.2.1.1,x.2.1.2.1,x.2.1.2.2.1,x.2.1.2.2.2.1,x.2.1.2.2.2.2.1,()),())with
|none=>none
|some v1=>
match(!v1.1)with
|true=>
 some (false,())
|false=>
 match s_l11Mode (x.1.2.2.1,x.2.1.2.1,())with
 |none=>none
 |some v2=>
 match(!v2.1)with
 |true=>
  some (false,())
 |false=>
  onSome (idx x.1.2.2.1 x.2.1.2.1) fun v3=>
  match(decide (x.2.1.2.2.1≥v3.1))with
  |true=>
   some (false,())
  |false=>
   onSome (idx x.1.2.2.1 x.2.1.2.1) fun v4=>
   match(decide (x.2.1.2.2.2.1≥v4.2.1))with
   |true=>
    some (false,())
   |false=>
    match s_l10Active (x.1.2.1,())with
    |none=>none
    |some v5=>
    some (((bits BinOp.and .i64 x.2.1.2.2.2.2.1 v5.1)==x.2.1.2.2.2.2.1),())
noncomputable def S_s_l15Belongs:Spec:=⟨(.pair TMedl (.pair TState .unit)),(.pair .bool .unit),.unit,rfl,s_l15Belongs⟩
noncomputable def σ_s_l15Belongs:FuncId→Option Spec:=sig [(192,S_s_IsState),(193,S_s_l11Mode),(194,S_s_l10Active)]
theorem σok_s_l15Belongs:∀f s,σ_s_l15Belongs f=some s→FnOK G0 Tryz.prog f s:=sig_ok ⟨ok_s_IsState,ok_s_l11Mode,ok_s_l10Active,trivial⟩
theorem ok_s_l15Belongs:FnOK G0 Tryz.prog 143 S_s_l15Belongs:=fn_okS tab0 σok_s_l15Belongs Tryz.func143 [] (by kernel_rfl) (by exact trivial) fun x=>by kernel_rfl
noncomputable def s_l15Code(x:Ty.T (.pair TMedl (.pair TState .unit))):Option (Ty.T (.pair (.int .i64) .unit)):=
match s_IsMedl ((x.1.1,x.1.2.1,x.1.2.2.1,x.1.2.2.2.1,()),())with
|none=>none
|some v1=>
match(!v1.1)with
|true=>
 some ((1:Int),())
|false=>
 match s_l15Belongs ((x.1.1,x.1.2.1,x.1.2.2.1,x.1.2.2.2.1,()),(x.2.1.1,x.2.1.2.1,x.2.1.2.2.1,x.2.1.2.2.2.1,x.2.1.2.2.2.2.1,()),())with
 |none=>none
 |some v2=>
 match(!v2.1)with
 |true=>
  some ((2:Int),())
 |false=>
  some ((0:Int),())
noncomputable def S_s_l15Code:Spec:=⟨(.pair TMedl (.pair TState .unit)),(.pair (.int .i64) .unit),.unit,rfl,s_l15Code⟩
noncomputable def σ_s_l15Code:FuncId→Option Spec:=sig [(142,S_s_IsMedl),(143,S_s_l15Belongs)]
theorem σok_s_l15Code:∀f s,σ_s_l15Code f=some s→FnOK G0 Tryz.prog f s:=sig_ok ⟨ok_s_IsMedl,ok_s_l15Belongs,trivial⟩
theorem ok_s_l15Code:FnOK G0 Tryz.prog 103 S_s_l15Code:=fn_okS tab0 σok_s_l15Code Tryz.func103 [] (by kernel_rfl) (by exact trivial) fun x=>by kernel_rfl
noncomputable def s_l15Desc(x:Ty.T (.pair TMedl (.pair TState .unit))):Option (Ty.T (.pair TDescriptor .unit)):=
match s_l12Find (x.1.2.2.2.1,x.2.1.2.1,x.2.1.2.2.1,x.2.1.2.2.2.1,())with
|none=>none
|some v1=>
onSome (idx x.1.2.2.2.1 v1.1) fun v2=>
some ((v2.2.2.2.1.1,v2.2.2.2.1.2.1,v2.2.2.2.1.2.2.1,v2.2.2.2.1.2.2.2.1,v2.2.2.2.1.2.2.2.2.1,()),())
noncomputable def S_s_l15Desc:Spec:=⟨(.pair TMedl (.pair TState .unit)),(.pair TDescriptor .unit),.unit,rfl,s_l15Desc⟩
noncomputable def σ_s_l15Desc:FuncId→Option Spec:=sig [(118,S_s_l12Find)]
theorem σok_s_l15Desc:∀f s,σ_s_l15Desc f=some s→FnOK G0 Tryz.prog f s:=sig_ok ⟨ok_s_l12Find,trivial⟩
theorem ok_s_l15Desc:FnOK G0 Tryz.prog 79 S_s_l15Desc:=fn_okS tab0 σok_s_l15Desc Tryz.func79 [] (by kernel_rfl) (by exact trivial) fun x=>by kernel_rfl
noncomputable def b_s_l01All_4(x:(Ty.T (.pair (.list (.int .i64)) TCrc))):Option ((Ty.T (.pair (.list (.int .i64)) TCrc)) ⊕ ((Ty.T .unit) ⊕ (Ty.T (.pair .bool .unit)))):=
match(decide (x.2.2.1<(x.1.length:Int)))with
|true=>
 onSome (idx x.1 x.2.2.1) fun v1=>
 match s_l01In (v1,(0:Int),x.2.1,())with
 |none=>none
 |some v2=>
 match(!v2.1)with
 |true=>
  some (.inr (.inr (false,())))
 |false=>
  some (.inl (x.1,x.2.1,(IntKind.i64.wrap (x.2.2.1+(1:Int))),()))
|false=>
 some (.inr (.inl (())))
noncomputable def s_l01All(x:Ty.T (.pair (.list (.int .i64)) TCrc)):Option (Ty.T (.pair .bool .unit)):=
match(decide ((x.1.length:Int)>x.2.1))with
|true=>
 some (false,())
|false=>
 match loopL b_s_l01All_4 (x.1,x.2.2.1,(0:Int),())with
 |none=>none
 |some (.inl v3)=>
  some (true,())
 |some (.inr v4)=>
  some (v4.1,())
noncomputable def S_s_l01All:Spec:=⟨(.pair (.list (.int .i64)) TCrc),(.pair .bool .unit),.unit,rfl,s_l01All⟩
noncomputable def σ_s_l01All:FuncId→Option Spec:=sig [(144,S_s_l01In)]
theorem σok_s_l01All:∀f s,σ_s_l01All f=some s→FnOK G0 Tryz.prog f s:=sig_ok ⟨ok_s_l01In,trivial⟩
def q_s_l01All_4:LRow:=⟨[0,2,7],(.pair (.list (.int .i64)) TCrc),0,[],.unit,[6],(.pair .bool .unit)⟩
noncomputable def ls_s_l01All:List LSpec:=[q_s_l01All_4.spec b_s_l01All_4]
theorem lok_s_l01All_4:Lok Γ0 E0 σ_s_l01All (lam Tryz.f210 ls_s_l01All) Tryz.f210 0 q_s_l01All_4 b_s_l01All_4:=fun x=>by kernel_rfl
theorem ok_s_l01All:FnOK G0 Tryz.prog 210 S_s_l01All:=fn_okS tab0 σok_s_l01All Tryz.func210 ls_s_l01All (by kernel_rfl) (by exact⟨(lok_s_l01All_4).lok,trivial⟩) fun x=>by kernel_rfl
noncomputable def s_IsBytes(x:Ty.T (.pair (.list (.int .i64)) .unit)):Option (Ty.T (.pair .bool .unit)):=
match s_l01All (x.1,(1024:Int),(255:Int),())with
|none=>none
|some v1=>
some (v1.1,())
noncomputable def S_s_IsBytes:Spec:=⟨(.pair (.list (.int .i64)) .unit),(.pair .bool .unit),.unit,rfl,s_IsBytes⟩
noncomputable def σ_s_IsBytes:FuncId→Option Spec:=sig [(210,S_s_l01All)]
theorem σok_s_IsBytes:∀f s,σ_s_IsBytes f=some s→FnOK G0 Tryz.prog f s:=sig_ok ⟨ok_s_l01All,trivial⟩
theorem ok_s_IsBytes:FnOK G0 Tryz.prog 279 S_s_IsBytes:=fn_okS tab0 σok_s_IsBytes Tryz.func279 [] (by kernel_rfl) (by exact trivial) fun x=>by kernel_rfl
noncomputable def b_s_l05Vector_2(x:(Ty.T (.pair (.list (.int .i64)) (.pair (.int .i64) .unit)))):Option ((Ty.T (.pair (.list (.int .i64)) (.pair (.int .i64) .unit))) ⊕ ((Ty.T .unit) ⊕ (Ty.T (.pair .bool .unit)))):=
match(decide (x.2.1<(x.1.length:Int)))with
|true=>
 onSome (idx x.1 x.2.1) fun v1=>
 match s_l01In (v1,(0:Int),(4294967295:Int),())with
 |none=>none
 |some v2=>
 match(!v2.1)with
 |true=>
  some (.inr (.inr (false,())))
 |false=>
  some (.inl (x.1,(IntKind.i64.wrap (x.2.1+(1:Int))),()))
|false=>
 some (.inr (.inl (())))
noncomputable def s_l05Vector(x:Ty.T (.pair (.list (.int .i64)) .unit)):Option (Ty.T (.pair .bool .unit)):=
match loopL b_s_l05Vector_2 (x.1,(0:Int),())with
|none=>none
|some (.inl v3)=>
 some (true,())
|some (.inr v4)=>
 some (v4.1,())
noncomputable def S_s_l05Vector:Spec:=⟨(.pair (.list (.int .i64)) .unit),(.pair .bool .unit),.unit,rfl,s_l05Vector⟩
noncomputable def σ_s_l05Vector:FuncId→Option Spec:=sig [(144,S_s_l01In)]
theorem σok_s_l05Vector:∀f s,σ_s_l05Vector f=some s→FnOK G0 Tryz.prog f s:=sig_ok ⟨ok_s_l01In,trivial⟩
def q_s_l05Vector_2:LRow:=⟨[0,3],(.pair (.list (.int .i64)) (.pair (.int .i64) .unit)),0,[],.unit,[2],(.pair .bool .unit)⟩
noncomputable def ls_s_l05Vector:List LSpec:=[q_s_l05Vector_2.spec b_s_l05Vector_2]
theorem lok_s_l05Vector_2:Lok Γ0 E0 σ_s_l05Vector (lam Tryz.f306 ls_s_l05Vector) Tryz.f306 0 q_s_l05Vector_2 b_s_l05Vector_2:=fun x=>by kernel_rfl
theorem ok_s_l05Vector:FnOK G0 Tryz.prog 306 S_s_l05Vector:=fn_okS tab0 σok_s_l05Vector Tryz.func306 ls_s_l05Vector (by kernel_rfl) (by exact⟨(lok_s_l05Vector_2).lok,trivial⟩) fun x=>by kernel_rfl
noncomputable def b_s_MembersOf_5(x:(Ty.T (.pair (.int .i64) (.pair (.own 2 (.int .i64)) (.pair (.int .i64) .unit))))):Option ((Ty.T (.pair (.int .i64) (.pair (.own 2 (.int .i64)) (.pair (.int .i64) .unit)))) ⊕ ((Ty.T (.pair (.own 2 (.int .i64)) .unit)) ⊕ (Ty.T .unit))):=
match(decide (x.2.2.1<(32:Int)))with
|true=>
 match s_l05Has (x.1,x.2.2.1,())with
 |none=>none
 |some v2=>
 match v2.1 with
 |true=>
  room (x.2.1.length+ [x.2.2.1].length) (
   some (.inl (x.1,(x.2.1++ [x.2.2.1]),(IntKind.i64.wrap (x.2.2.1+(1:Int))),())))
 |false=>
  some (.inl (x.1,x.2.1,(IntKind.i64.wrap (x.2.2.1+(1:Int))),()))
|false=>
 some (.inr (.inl (x.2.1,())))
noncomputable def s_MembersOf(x:Ty.T (.pair (.int .i64) .unit)):Option (Ty.T (.pair (.own 2 (.int .i64)) (.pair (.int .i64) .unit))):=
match s_l05Vector ([x.1],())with
|none=>none
|some v1=>
match(!v1.1)with
|true=>
 some ([],(2:Int),())
|false=>
 match loopL b_s_MembersOf_5 (x.1,[],(0:Int),())with
 |none=>none
 |some (.inl v3)=>
  some (v3.1,(0:Int),())
 |some (.inr v5)=>
  none
noncomputable def S_s_MembersOf:Spec:=⟨(.pair (.int .i64) .unit),(.pair (.own 2 (.int .i64)) (.pair (.int .i64) .unit)),.unit,rfl,s_MembersOf⟩
noncomputable def σ_s_MembersOf:FuncId→Option Spec:=sig [(150,S_s_l05Has),(306,S_s_l05Vector)]
theorem σok_s_MembersOf:∀f s,σ_s_MembersOf f=some s→FnOK G0 Tryz.prog f s:=sig_ok ⟨ok_s_l05Has,ok_s_l05Vector,trivial⟩
def q_s_MembersOf_5:LRow:=⟨[0,4,5],(.pair (.int .i64) (.pair (.own 2 (.int .i64)) (.pair (.int .i64) .unit))),0,[4],(.pair (.own 2 (.int .i64)) .unit),[],.unit⟩
noncomputable def ls_s_MembersOf:List LSpec:=[q_s_MembersOf_5.spec b_s_MembersOf_5]
theorem lok_s_MembersOf_5:Lok Γ0 E0 σ_s_MembersOf (lam Tryz.f280 ls_s_MembersOf) Tryz.f280 0 q_s_MembersOf_5 b_s_MembersOf_5:=fun x=>by kernel_rfl
theorem ok_s_MembersOf:FnOK G0 Tryz.prog 280 S_s_MembersOf:=fn_okS tab0 σok_s_MembersOf Tryz.func280 ls_s_MembersOf (by kernel_rfl) (by exact⟨(lok_s_MembersOf_5).lok,trivial⟩) fun x=>by kernel_rfl
noncomputable def s_IsFrame(x:Ty.T (.pair TFrame .unit)):Option (Ty.T (.pair .bool .unit)):=
match s_l06Kind (x.1.1,())with
|none=>none
|some v1=>
match(!v1.1)with
|true=>
 some (false,())
|false=>
 match s_l01In (x.1.2.1,(0:Int),(7:Int),())with
 |none=>none
 |some v2=>
 match(!v2.1)with
 |true=>
  some (false,())
 |false=>
  match s_l06Size (x.1.1,(x.1.2.2.2.1.length:Int),())with
  |none=>none
  |some v3=>
  match(!v3.1)with
  |true=>
   some (false,())
  |false=>
   match s_IsBytes (x.1.2.2.2.1,())with
   |none=>none
   |some v4=>
   match(!v4.1)with
   |true=>
    some (false,())
   |false=>
    match(x.1.1==(0:Int))with
    |true=>
     some ((eqT TState (x.1.2.2.1.1,x.1.2.2.1.2.1,x.1.2.2.1.2.2.1,x.1.2.2.1.2.2.2.1,x.1.2.2.1.2.2.2.2.1,()) ((0:Int),(0:Int),(0:Int),(0:Int),(0:Int),())),())
    |false=>
     match(x.1.1==(3:Int))with
     |true=>
      match s_MembersOf (x.1.2.2.1.2.2.2.2.1,())with
      |none=>none
      |some v5=>
      match s_IsState ((x.1.2.2.1.1,x.1.2.2.1.2.1,x.1.2.2.1.2.2.1,x.1.2.2.1.2.2.2.1,x.1.2.2.1.2.2.2.2.1,()),())with
      |none=>none
      |some v6=>
      match v6.1 with
      |true=>
       match(x.1.2.2.1.2.1==(0:Int))with
       |true=>
        match((v5.1.length:Int)==(1:Int))with
        |true=>
         some ((x.1.2.1==(0:Int)),())
        |false=>
         some (false,())
       |false=>
        some (false,())
      |false=>
       some (false,())
     |false=>
      match s_IsState ((x.1.2.2.1.1,x.1.2.2.1.2.1,x.1.2.2.1.2.2.1,x.1.2.2.1.2.2.2.1,x.1.2.2.1.2.2.2.2.1,()),())with
      |none=>none
      |some v7=>
      some (v7.1,())
noncomputable def S_s_IsFrame:Spec:=⟨(.pair TFrame .unit),(.pair .bool .unit),.unit,rfl,s_IsFrame⟩
noncomputable def σ_s_IsFrame:FuncId→Option Spec:=sig [(144,S_s_l01In),(192,S_s_IsState),(276,S_s_l06Kind),(277,S_s_l06Size),(279,S_s_IsBytes),(280,S_s_MembersOf)]
theorem σok_s_IsFrame:∀f s,σ_s_IsFrame f=some s→FnOK G0 Tryz.prog f s:=sig_ok ⟨ok_s_l01In,ok_s_IsState,ok_s_l06Kind,ok_s_l06Size,ok_s_IsBytes,ok_s_MembersOf,trivial⟩
theorem ok_s_IsFrame:FnOK G0 Tryz.prog 233 S_s_IsFrame:=fn_okS tab0 σok_s_IsFrame Tryz.func233 [] (by kernel_rfl) (by exact trivial) fun x=>by kernel_rfl
noncomputable def s_FitsDescriptor(x:Ty.T (.pair TDescriptor (.pair TFrame .unit))):Option (Ty.T (.pair .bool .unit)):=
match s_IsDescriptor ((x.1.1,x.1.2.1,x.1.2.2.1,x.1.2.2.2.1,x.1.2.2.2.2.1,()),())with
|none=>none
|some v1=>
match v1.1 with
|true=>
 match s_IsFrame ((x.2.1.1,x.2.1.2.1,(x.2.1.2.2.1.1,x.2.1.2.2.1.2.1,x.2.1.2.2.1.2.2.1,x.2.1.2.2.1.2.2.2.1,x.2.1.2.2.1.2.2.2.2.1,()),x.2.1.2.2.2.1,()),())with
 |none=>none
 |some v2=>
 match v2.1 with
 |true=>
  match(x.2.1.1==x.1.2.1)with
  |true=>
   match((x.2.1.2.2.2.1.length:Int)==x.1.2.2.1)with
   |true=>
    match x.1.2.2.2.2.1 with
    |true=>
     some (true,())
    |false=>
     some ((x.2.1.2.1==(0:Int)),())
   |false=>
    some (false,())
  |false=>
   some (false,())
 |false=>
  some (false,())
|false=>
 some (false,())
noncomputable def S_s_FitsDescriptor:Spec:=⟨(.pair TDescriptor (.pair TFrame .unit)),(.pair .bool .unit),.unit,rfl,s_FitsDescriptor⟩
noncomputable def σ_s_FitsDescriptor:FuncId→Option Spec:=sig [(232,S_s_IsDescriptor),(233,S_s_IsFrame)]
theorem σok_s_FitsDescriptor:∀f s,σ_s_FitsDescriptor f=some s→FnOK G0 Tryz.prog f s:=sig_ok ⟨ok_s_IsDescriptor,ok_s_IsFrame,trivial⟩
theorem ok_s_FitsDescriptor:FnOK G0 Tryz.prog 196 S_s_FitsDescriptor:=fn_okS tab0 σok_s_FitsDescriptor Tryz.func196 [] (by kernel_rfl) (by exact trivial) fun x=>by kernel_rfl
noncomputable def s_l27Sendable(x:Ty.T (.pair TMedl (.pair TState (.pair TFrame .unit)))):Option (Ty.T (.pair .bool .unit)):=
match s_l15Desc ((x.1.1,x.1.2.1,x.1.2.2.1,x.1.2.2.2.1,()),(x.2.1.1,x.2.1.2.1,x.2.1.2.2.1,x.2.1.2.2.2.1,x.2.1.2.2.2.2.1,()),())with
|none=>none
|some v1=>
match s_FitsDescriptor (v1.1,(x.2.2.1.1,x.2.2.1.2.1,(x.2.2.1.2.2.1.1,x.2.2.1.2.2.1.2.1,x.2.2.1.2.2.1.2.2.1,x.2.2.1.2.2.1.2.2.2.1,x.2.2.1.2.2.1.2.2.2.2.1,()),x.2.2.1.2.2.2.1,()),())with
|none=>none
|some v2=>
match v2.1 with
|true=>
 match s_l06State (x.2.2.1.1,())with
 |none=>none
 |some v3=>
 match(!v3.1)with
 |true=>
  some (true,())
 |false=>
  some ((eqT TState (x.2.2.1.2.2.1.1,x.2.2.1.2.2.1.2.1,x.2.2.1.2.2.1.2.2.1,x.2.2.1.2.2.1.2.2.2.1,x.2.2.1.2.2.1.2.2.2.2.1,()) (x.2.1.1,x.2.1.2.1,x.2.1.2.2.1,x.2.1.2.2.2.1,x.2.1.2.2.2.2.1,())),())
|false=>
 some (false,())
noncomputable def S_s_l27Sendable:Spec:=⟨(.pair TMedl (.pair TState (.pair TFrame .unit))),(.pair .bool .unit),.unit,rfl,s_l27Sendable⟩
noncomputable def σ_s_l27Sendable:FuncId→Option Spec:=sig [(79,S_s_l15Desc),(195,S_s_l06State),(196,S_s_FitsDescriptor)]
theorem σok_s_l27Sendable:∀f s,σ_s_l27Sendable f=some s→FnOK G0 Tryz.prog f s:=sig_ok ⟨ok_s_l15Desc,ok_s_l06State,ok_s_FitsDescriptor,trivial⟩
theorem ok_s_l27Sendable:FnOK G0 Tryz.prog 146 S_s_l27Sendable:=fn_okS tab0 σok_s_l27Sendable Tryz.func146 [] (by kernel_rfl) (by exact trivial) fun x=>by kernel_rfl
noncomputable def s_l27Code(x:Ty.T (.pair TMedl (.pair TState (.pair TFrame .unit)))):Option (Ty.T (.pair (.int .i64) .unit)):=
match s_l15Code ((x.1.1,x.1.2.1,x.1.2.2.1,x.1.2.2.2.1,()),(x.2.1.1,x.2.1.2.1,x.2.1.2.2.1,x.2.1.2.2.2.1,x.2.1.2.2.2.2.1,()),())with
|none=>none
|some v1=>
match(v1.1==(0:Int))with
|true=>
 match s_l27Sendable ((x.1.1,x.1.2.1,x.1.2.2.1,x.1.2.2.2.1,()),(x.2.1.1,x.2.1.2.1,x.2.1.2.2.1,x.2.1.2.2.2.1,x.2.1.2.2.2.2.1,()),(x.2.2.1.1,x.2.2.1.2.1,(x.2.2.1.2.2.1.1,x.2.2.1.2.2.1.2.1,x.2.2.1.2.2.1.2.2.1,x.2.2.1.2.2.1.2.2.2.1,x.2.2.1.2.2.1.2.2.2.2.1,()),x.2.2.1.2.2.2.1,()),())with
 |none=>none
 |some v2=>
 match(!v2.1)with
 |true=>
  some ((5:Int),())
 |false=>
  some (v1.1,())
|false=>
 some (v1.1,())
noncomputable def S_s_l27Code:Spec:=⟨(.pair TMedl (.pair TState (.pair TFrame .unit))),(.pair (.int .i64) .unit),.unit,rfl,s_l27Code⟩
noncomputable def σ_s_l27Code:FuncId→Option Spec:=sig [(103,S_s_l15Code),(146,S_s_l27Sendable)]
theorem σok_s_l27Code:∀f s,σ_s_l27Code f=some s→FnOK G0 Tryz.prog f s:=sig_ok ⟨ok_s_l15Code,ok_s_l27Sendable,trivial⟩
theorem ok_s_l27Code:FnOK G0 Tryz.prog 121 S_s_l27Code:=fn_okS tab0 σok_s_l27Code Tryz.func121 [] (by kernel_rfl) (by exact trivial) fun x=>by kernel_rfl
noncomputable def b_s_l20Equal_2(x:(Ty.T (.pair (.int .i64) (.pair (.int .i64) (.pair (.own 2 (.int .i64)) .unit))))):Option ((Ty.T (.pair (.int .i64) (.pair (.int .i64) (.pair (.own 2 (.int .i64)) .unit)))) ⊕ ((Ty.T (.pair (.own 2 (.int .i64)) .unit)) ⊕ (Ty.T .unit))):=
match(decide (x.1>(0:Int)))with
|true=>
 room (x.2.2.1.length+ [x.2.1].length) (
  some (.inl ((IntKind.i64.wrap (x.1-(1:Int))),x.2.1,(x.2.2.1++ [x.2.1]),())))
|false=>
 some (.inr (.inl (x.2.2.1,())))
noncomputable def s_l20Equal(x:Ty.T TCrc):Option (Ty.T (.pair (.own 2 (.int .i64)) .unit)):=
match loopL b_s_l20Equal_2 (x.1,x.2.1,[],())with
|none=>none
|some (.inl v1)=>
 some (v1.1,())
|some (.inr v3)=>
 none
noncomputable def S_s_l20Equal:Spec:=⟨TCrc,(.pair (.own 2 (.int .i64)) .unit),.unit,rfl,s_l20Equal⟩
noncomputable def σ_s_l20Equal:FuncId→Option Spec:=sig []
theorem σok_s_l20Equal:∀f s,σ_s_l20Equal f=some s→FnOK G0 Tryz.prog f s:=sig_ok trivial
def q_s_l20Equal_2:LRow:=⟨[0,1,5],(.pair (.int .i64) (.pair (.int .i64) (.pair (.own 2 (.int .i64)) .unit))),0,[5],(.pair (.own 2 (.int .i64)) .unit),[],.unit⟩
noncomputable def ls_s_l20Equal:List LSpec:=[q_s_l20Equal_2.spec b_s_l20Equal_2]
theorem lok_s_l20Equal_2:Lok Γ0 E0 σ_s_l20Equal (lam Tryz.f147 ls_s_l20Equal) Tryz.f147 0 q_s_l20Equal_2 b_s_l20Equal_2:=fun x=>by kernel_rfl
theorem ok_s_l20Equal:FnOK G0 Tryz.prog 147 S_s_l20Equal:=fn_okS tab0 σok_s_l20Equal Tryz.func147 ls_s_l20Equal (by kernel_rfl) (by exact⟨(lok_s_l20Equal_2).lok,trivial⟩) fun x=>by kernel_rfl
noncomputable def b_s_l20Stretch_6(x:(Ty.T (.pair (.list (.int .i64)) (.pair (.list (.int .i64)) (.pair (.own 2 (.int .i64)) TCrc))))):Option ((Ty.T (.pair (.list (.int .i64)) (.pair (.list (.int .i64)) (.pair (.own 2 (.int .i64)) TCrc)))) ⊕ ((Ty.T (.pair (.list (.int .i64)) (.pair (.list (.int .i64)) (.pair (.own 2 (.int .i64)) (.pair (.int .i64) .unit))))) ⊕ (Ty.T .unit))):=
onSome (idx x.2.1 x.2.2.2.1) fun v1=>
match(decide (x.2.2.2.2.1<v1))with
|true=>
 onSome (idx x.1 x.2.2.2.1) fun v2=>
 room (x.2.2.1.length+ [v2].length) (
  some (.inl (x.1,x.2.1,(x.2.2.1++ [v2]),x.2.2.2.1,(IntKind.i64.wrap (x.2.2.2.2.1+(1:Int))),())))
|false=>
 some (.inr (.inl (x.1,x.2.1,x.2.2.1,x.2.2.2.1,())))
noncomputable def b_s_l20Stretch_3(x:(Ty.T (.pair (.list (.int .i64)) (.pair (.list (.int .i64)) (.pair (.own 2 (.int .i64)) (.pair (.int .i64) .unit)))))):Option ((Ty.T (.pair (.list (.int .i64)) (.pair (.list (.int .i64)) (.pair (.own 2 (.int .i64)) (.pair (.int .i64) .unit))))) ⊕ ((Ty.T (.pair (.own 2 (.int .i64)) .unit)) ⊕ (Ty.T .unit))):=
match(decide (x.2.2.2.1<(x.1.length:Int)))with
|true=>
 match loopL b_s_l20Stretch_6 (x.1,x.2.1,x.2.2.1,x.2.2.2.1,(0:Int),())with
 |none=>none
 |some (.inl v1)=>
  some (.inl (v1.1,v1.2.1,v1.2.2.1,(IntKind.i64.wrap (v1.2.2.2.1+(1:Int))),()))
 |some (.inr v3)=>
  some (.inr (.inr (())))
|false=>
 some (.inr (.inl (x.2.2.1,())))
noncomputable def s_l20Stretch(x:Ty.T (.pair (.list (.int .i64)) (.pair (.list (.int .i64)) .unit))):Option (Ty.T (.pair (.own 2 (.int .i64)) .unit)):=
match loopL b_s_l20Stretch_3 (x.1,x.2.1,[],(0:Int),())with
|none=>none
|some (.inl v4)=>
 some (v4.1,())
|some (.inr v6)=>
 none
noncomputable def S_s_l20Stretch:Spec:=⟨(.pair (.list (.int .i64)) (.pair (.list (.int .i64)) .unit)),(.pair (.own 2 (.int .i64)) .unit),.unit,rfl,s_l20Stretch⟩
noncomputable def σ_s_l20Stretch:FuncId→Option Spec:=sig []
theorem σok_s_l20Stretch:∀f s,σ_s_l20Stretch f=some s→FnOK G0 Tryz.prog f s:=sig_ok trivial
def q_s_l20Stretch_3:LRow:=⟨[0,1,5,6],(.pair (.list (.int .i64)) (.pair (.list (.int .i64)) (.pair (.own 2 (.int .i64)) (.pair (.int .i64) .unit)))),0,[5],(.pair (.own 2 (.int .i64)) .unit),[],.unit⟩
def q_s_l20Stretch_6:LRow:=⟨[0,1,5,6,7],(.pair (.list (.int .i64)) (.pair (.list (.int .i64)) (.pair (.own 2 (.int .i64)) TCrc))),2,[0,1,5,6],(.pair (.list (.int .i64)) (.pair (.list (.int .i64)) (.pair (.own 2 (.int .i64)) (.pair (.int .i64) .unit)))),[],.unit⟩
noncomputable def ls_s_l20Stretch:List LSpec:=[q_s_l20Stretch_3.spec b_s_l20Stretch_3,q_s_l20Stretch_6.spec b_s_l20Stretch_6]
theorem lok_s_l20Stretch_3:Lok Γ0 E0 σ_s_l20Stretch (lam Tryz.f166 ls_s_l20Stretch) Tryz.f166 0 q_s_l20Stretch_3 b_s_l20Stretch_3:=fun x=>by kernel_rfl
theorem lok_s_l20Stretch_6:Lok Γ0 E0 σ_s_l20Stretch (lam Tryz.f166 ls_s_l20Stretch) Tryz.f166 1 q_s_l20Stretch_6 b_s_l20Stretch_6:=fun x=>by kernel_rfl
theorem ok_s_l20Stretch:FnOK G0 Tryz.prog 166 S_s_l20Stretch:=fn_okS tab0 σok_s_l20Stretch Tryz.func166 ls_s_l20Stretch (by kernel_rfl) (by exact⟨(lok_s_l20Stretch_3).lok,(lok_s_l20Stretch_6).lok,trivial⟩) fun x=>by kernel_rfl
noncomputable def s_l20Nominal(x:Ty.T (.pair (.list (.int .i64)) .unit)):Option (Ty.T (.pair (.own 2 (.int .i64)) .unit)):=
match s_l20Equal ((x.1.length:Int),(8:Int),())with
|none=>none
|some v1=>
match s_l20Stretch (x.1,v1.1,())with
|none=>none
|some v2=>
some (v2.1,())
noncomputable def S_s_l20Nominal:Spec:=⟨(.pair (.list (.int .i64)) .unit),(.pair (.own 2 (.int .i64)) .unit),.unit,rfl,s_l20Nominal⟩
noncomputable def σ_s_l20Nominal:FuncId→Option Spec:=sig [(147,S_s_l20Equal),(166,S_s_l20Stretch)]
theorem σok_s_l20Nominal:∀f s,σ_s_l20Nominal f=some s→FnOK G0 Tryz.prog f s:=sig_ok ⟨ok_s_l20Equal,ok_s_l20Stretch,trivial⟩
theorem ok_s_l20Nominal:FnOK G0 Tryz.prog 122 S_s_l20Nominal:=fn_okS tab0 σok_s_l20Nominal Tryz.func122 [] (by kernel_rfl) (by exact trivial) fun x=>by kernel_rfl
noncomputable def b_s_l01Bits_6(x:(Ty.T (.pair (.list (.int .i64)) (.pair (.own 2 (.int .i64)) TCrc)))):Option ((Ty.T (.pair (.list (.int .i64)) (.pair (.own 2 (.int .i64)) TCrc))) ⊕ ((Ty.T (.pair (.list (.int .i64)) (.pair (.own 2 (.int .i64)) (.pair (.int .i64) .unit)))) ⊕ (Ty.T .unit))):=
match(decide (x.2.2.2.1≥(0:Int)))with
|true=>
 onSome (idx x.1 x.2.2.1) fun v1=>
 if(IntKind.u64.wrap x.2.2.2.1)<0 then none else
 room (x.2.1.length+ [(bits BinOp.and .i64 (Int.fdiv v1 (2^min (IntKind.u64.wrap x.2.2.2.1).toNat IntKind.i64.bits)) (1:Int))].length) (
  some (.inl (x.1,(x.2.1++ [(bits BinOp.and .i64 (Int.fdiv v1 (2^min (IntKind.u64.wrap x.2.2.2.1).toNat IntKind.i64.bits)) (1:Int))]),x.2.2.1,(IntKind.i64.wrap (x.2.2.2.1-(1:Int))),())))
|false=>
 some (.inr (.inl (x.1,x.2.1,x.2.2.1,())))
noncomputable def b_s_l01Bits_3(x:(Ty.T (.pair (.list (.int .i64)) (.pair (.own 2 (.int .i64)) (.pair (.int .i64) .unit))))):Option ((Ty.T (.pair (.list (.int .i64)) (.pair (.own 2 (.int .i64)) (.pair (.int .i64) .unit)))) ⊕ ((Ty.T (.pair (.own 2 (.int .i64)) .unit)) ⊕ (Ty.T .unit))):=
match(decide (x.2.2.1<(x.1.length:Int)))with
|true=>
 match loopL b_s_l01Bits_6 (x.1,x.2.1,x.2.2.1,(7:Int),())with
 |none=>none
 |some (.inl v1)=>
  some (.inl (v1.1,v1.2.1,(IntKind.i64.wrap (v1.2.2.1+(1:Int))),()))
 |some (.inr v3)=>
  some (.inr (.inr (())))
|false=>
 some (.inr (.inl (x.2.1,())))
noncomputable def s_l01Bits(x:Ty.T (.pair (.list (.int .i64)) .unit)):Option (Ty.T (.pair (.own 2 (.int .i64)) .unit)):=
match loopL b_s_l01Bits_3 (x.1,[],(0:Int),())with
|none=>none
|some (.inl v4)=>
 some (v4.1,())
|some (.inr v6)=>
 none
noncomputable def S_s_l01Bits:Spec:=⟨(.pair (.list (.int .i64)) .unit),(.pair (.own 2 (.int .i64)) .unit),.unit,rfl,s_l01Bits⟩
noncomputable def σ_s_l01Bits:FuncId→Option Spec:=sig []
theorem σok_s_l01Bits:∀f s,σ_s_l01Bits f=some s→FnOK G0 Tryz.prog f s:=sig_ok trivial
def q_s_l01Bits_3:LRow:=⟨[0,3,4],(.pair (.list (.int .i64)) (.pair (.own 2 (.int .i64)) (.pair (.int .i64) .unit))),0,[3],(.pair (.own 2 (.int .i64)) .unit),[],.unit⟩
def q_s_l01Bits_6:LRow:=⟨[0,3,4,5],(.pair (.list (.int .i64)) (.pair (.own 2 (.int .i64)) TCrc)),2,[0,3,4],(.pair (.list (.int .i64)) (.pair (.own 2 (.int .i64)) (.pair (.int .i64) .unit))),[],.unit⟩
noncomputable def ls_s_l01Bits:List LSpec:=[q_s_l01Bits_3.spec b_s_l01Bits_3,q_s_l01Bits_6.spec b_s_l01Bits_6]
theorem lok_s_l01Bits_3:Lok Γ0 E0 σ_s_l01Bits (lam Tryz.f207 ls_s_l01Bits) Tryz.f207 0 q_s_l01Bits_3 b_s_l01Bits_3:=fun x=>by kernel_rfl
theorem lok_s_l01Bits_6:Lok Γ0 E0 σ_s_l01Bits (lam Tryz.f207 ls_s_l01Bits) Tryz.f207 1 q_s_l01Bits_6 b_s_l01Bits_6:=fun x=>by kernel_rfl
theorem ok_s_l01Bits:FnOK G0 Tryz.prog 207 S_s_l01Bits:=fn_okS tab0 σok_s_l01Bits Tryz.func207 ls_s_l01Bits (by kernel_rfl) (by exact⟨(lok_s_l01Bits_3).lok,(lok_s_l01Bits_6).lok,trivial⟩) fun x=>by kernel_rfl
noncomputable def b_s_l18Cells_3(x:(Ty.T (.pair (.list (.int .i64)) (.pair (.own 2 (.int .i64)) (.pair (.int .i64) .unit))))):Option ((Ty.T (.pair (.list (.int .i64)) (.pair (.own 2 (.int .i64)) (.pair (.int .i64) .unit)))) ⊕ ((Ty.T (.pair (.own 2 (.int .i64)) .unit)) ⊕ (Ty.T .unit))):=
match(decide (x.2.2.1<(x.1.length:Int)))with
|true=>
 room (x.2.1.length+ [(1:Int),(0:Int)].length) (
  onSome (bounds x.1.length (some (.dat (.int .i64) x.2.2.1)) (some (.dat (.int .i64) (IntKind.i64.wrap (x.2.2.1+(1:Int)))))) fun v1=>
  match s_l01Bits ((List.drop v1.1 (List.take v1.2 x.1)),())with
  |none=>none
  |some v2=>
  room ((x.2.1++ [(1:Int),(0:Int)]).length+v2.1.length) (
   some (.inl (x.1,((x.2.1++ [(1:Int),(0:Int)])++v2.1),(IntKind.i64.wrap (x.2.2.1+(1:Int))),()))))
|false=>
 some (.inr (.inl (x.2.1,())))
noncomputable def s_l18Cells(x:Ty.T (.pair (.list (.int .i64)) (.pair (.int .i64) .unit))):Option (Ty.T (.pair (.own 2 (.int .i64)) .unit)):=
if 0≤x.2.1∧x.2.1≤x.2.1 then
 room (x.2.1.toNat) (
  room ((List.replicate x.2.1.toNat (0:Int)).length+ [(1:Int)].length) (
   match loopL b_s_l18Cells_3 (x.1,((List.replicate x.2.1.toNat (0:Int))++ [(1:Int)]),(0:Int),())with
   |none=>none
   |some (.inl v3)=>
    room (v3.1.length+ [(0:Int),(1:Int)].length) (
     some ((v3.1++ [(0:Int),(1:Int)]),()))
   |some (.inr v5)=>
    none))
else none
noncomputable def S_s_l18Cells:Spec:=⟨(.pair (.list (.int .i64)) (.pair (.int .i64) .unit)),(.pair (.own 2 (.int .i64)) .unit),.unit,rfl,s_l18Cells⟩
noncomputable def σ_s_l18Cells:FuncId→Option Spec:=sig [(207,S_s_l01Bits)]
theorem σok_s_l18Cells:∀f s,σ_s_l18Cells f=some s→FnOK G0 Tryz.prog f s:=sig_ok ⟨ok_s_l01Bits,trivial⟩
def q_s_l18Cells_3:LRow:=⟨[0,5,6],(.pair (.list (.int .i64)) (.pair (.own 2 (.int .i64)) (.pair (.int .i64) .unit))),0,[5],(.pair (.own 2 (.int .i64)) .unit),[],.unit⟩
noncomputable def ls_s_l18Cells:List LSpec:=[q_s_l18Cells_3.spec b_s_l18Cells_3]
theorem lok_s_l18Cells_3:Lok Γ0 E0 σ_s_l18Cells (lam Tryz.f167 ls_s_l18Cells) Tryz.f167 0 q_s_l18Cells_3 b_s_l18Cells_3:=fun x=>by kernel_rfl
theorem ok_s_l18Cells:FnOK G0 Tryz.prog 167 S_s_l18Cells:=fn_okS tab0 σok_s_l18Cells Tryz.func167 ls_s_l18Cells (by kernel_rfl) (by exact⟨(lok_s_l18Cells_3).lok,trivial⟩) fun x=>by kernel_rfl
noncomputable def b_s_l01Number_3(x:(Ty.T (.pair (.list (.int .i64)) TFault))):Option ((Ty.T (.pair (.list (.int .i64)) TFault)) ⊕ ((Ty.T (.pair (.int .i64) .unit)) ⊕ (Ty.T .unit))):=
match(decide (x.2.2.2.2.1<x.2.2.1))with
|true=>
 onSome (idx x.1 (IntKind.i64.wrap (x.2.1+x.2.2.2.2.1))) fun v1=>
 some (.inl (x.1,x.2.1,x.2.2.1,(IntKind.i64.wrap ((IntKind.i64.wrap ((2:Int)*x.2.2.2.1))+v1)),(IntKind.i64.wrap (x.2.2.2.2.1+(1:Int))),()))
|false=>
 some (.inr (.inl (x.2.2.2.1,())))
noncomputable def s_l01Number(x:Ty.T (.pair (.list (.int .i64)) TCrc)):Option (Ty.T (.pair (.int .i64) .unit)):=
match loopL b_s_l01Number_3 (x.1,x.2.1,x.2.2.1,(0:Int),(0:Int),())with
|none=>none
|some (.inl v2)=>
 some (v2.1,())
|some (.inr v4)=>
 none
noncomputable def S_s_l01Number:Spec:=⟨(.pair (.list (.int .i64)) TCrc),(.pair (.int .i64) .unit),.unit,rfl,s_l01Number⟩
noncomputable def σ_s_l01Number:FuncId→Option Spec:=sig []
theorem σok_s_l01Number:∀f s,σ_s_l01Number f=some s→FnOK G0 Tryz.prog f s:=sig_ok trivial
def q_s_l01Number_3:LRow:=⟨[0,1,2,7,8],(.pair (.list (.int .i64)) TFault),0,[7],(.pair (.int .i64) .unit),[],.unit⟩
noncomputable def ls_s_l01Number:List LSpec:=[q_s_l01Number_3.spec b_s_l01Number_3]
theorem lok_s_l01Number_3:Lok Γ0 E0 σ_s_l01Number (lam Tryz.f293 ls_s_l01Number) Tryz.f293 0 q_s_l01Number_3 b_s_l01Number_3:=fun x=>by kernel_rfl
theorem ok_s_l01Number:FnOK G0 Tryz.prog 293 S_s_l01Number:=fn_okS tab0 σok_s_l01Number Tryz.func293 ls_s_l01Number (by kernel_rfl) (by exact⟨(lok_s_l01Number_3).lok,trivial⟩) fun x=>by kernel_rfl
noncomputable def b_s_l01Bytes_3(x:(Ty.T (.pair (.list (.int .i64)) (.pair (.own 2 (.int .i64)) (.pair (.int .i64) .unit))))):Option ((Ty.T (.pair (.list (.int .i64)) (.pair (.own 2 (.int .i64)) (.pair (.int .i64) .unit)))) ⊕ ((Ty.T (.pair (.own 2 (.int .i64)) .unit)) ⊕ (Ty.T .unit))):=
match(decide ((IntKind.i64.wrap (x.2.2.1+(8:Int)))≤(x.1.length:Int)))with
|true=>
 match s_l01Number (x.1,x.2.2.1,(8:Int),())with
 |none=>none
 |some v1=>
 room (x.2.1.length+ [v1.1].length) (
  some (.inl (x.1,(x.2.1++ [v1.1]),(IntKind.i64.wrap (x.2.2.1+(8:Int))),())))
|false=>
 some (.inr (.inl (x.2.1,())))
noncomputable def s_l01Bytes(x:Ty.T (.pair (.list (.int .i64)) .unit)):Option (Ty.T (.pair (.own 2 (.int .i64)) .unit)):=
match loopL b_s_l01Bytes_3 (x.1,[],(0:Int),())with
|none=>none
|some (.inl v2)=>
 some (v2.1,())
|some (.inr v4)=>
 none
noncomputable def S_s_l01Bytes:Spec:=⟨(.pair (.list (.int .i64)) .unit),(.pair (.own 2 (.int .i64)) .unit),.unit,rfl,s_l01Bytes⟩
noncomputable def σ_s_l01Bytes:FuncId→Option Spec:=sig [(293,S_s_l01Number)]
theorem σok_s_l01Bytes:∀f s,σ_s_l01Bytes f=some s→FnOK G0 Tryz.prog f s:=sig_ok ⟨ok_s_l01Number,trivial⟩
def q_s_l01Bytes_3:LRow:=⟨[0,3,4],(.pair (.list (.int .i64)) (.pair (.own 2 (.int .i64)) (.pair (.int .i64) .unit))),0,[3],(.pair (.own 2 (.int .i64)) .unit),[],.unit⟩
noncomputable def ls_s_l01Bytes:List LSpec:=[q_s_l01Bytes_3.spec b_s_l01Bytes_3]
theorem lok_s_l01Bytes_3:Lok Γ0 E0 σ_s_l01Bytes (lam Tryz.f251 ls_s_l01Bytes) Tryz.f251 0 q_s_l01Bytes_3 b_s_l01Bytes_3:=fun x=>by kernel_rfl
theorem ok_s_l01Bytes:FnOK G0 Tryz.prog 251 S_s_l01Bytes:=fn_okS tab0 σok_s_l01Bytes Tryz.func251 ls_s_l01Bytes (by kernel_rfl) (by exact⟨(lok_s_l01Bytes_3).lok,trivial⟩) fun x=>by kernel_rfl
noncomputable def b_s_l01Append_3(x:(Ty.T (.pair (.int .i64) (.pair (.own 2 (.int .i64)) (.pair (.int .i64) .unit))))):Option ((Ty.T (.pair (.int .i64) (.pair (.own 2 (.int .i64)) (.pair (.int .i64) .unit)))) ⊕ ((Ty.T (.pair (.own 2 (.int .i64)) .unit)) ⊕ (Ty.T .unit))):=
match(decide (x.2.2.1≥(0:Int)))with
|true=>
 if(IntKind.u64.wrap x.2.2.1)<0 then none else
 room (x.2.1.length+ [(bits BinOp.and .i64 (Int.fdiv x.1 (2^min (IntKind.u64.wrap x.2.2.1).toNat IntKind.i64.bits)) (1:Int))].length) (
  some (.inl (x.1,(x.2.1++ [(bits BinOp.and .i64 (Int.fdiv x.1 (2^min (IntKind.u64.wrap x.2.2.1).toNat IntKind.i64.bits)) (1:Int))]),(IntKind.i64.wrap (x.2.2.1-(1:Int))),())))
|false=>
 some (.inr (.inl (x.2.1,())))
noncomputable def s_l01Append(x:Ty.T (.pair (.list (.int .i64)) TCrc)):Option (Ty.T (.pair (.own 2 (.int .i64)) .unit)):=
room (([]:List (Ty.T (.int .i64))).length+x.1.length) (
 match loopL b_s_l01Append_3 (x.2.1,(([]:List (Ty.T (.int .i64)))++x.1),(IntKind.i64.wrap (x.2.2.1-(1:Int))),())with
 |none=>none
 |some (.inl v1)=>
  some (v1.1,())
 |some (.inr v3)=>
  none)
noncomputable def S_s_l01Append:Spec:=⟨(.pair (.list (.int .i64)) TCrc),(.pair (.own 2 (.int .i64)) .unit),.unit,rfl,s_l01Append⟩
noncomputable def σ_s_l01Append:FuncId→Option Spec:=sig []
theorem σok_s_l01Append:∀f s,σ_s_l01Append f=some s→FnOK G0 Tryz.prog f s:=sig_ok trivial
def q_s_l01Append_3:LRow:=⟨[1,7,8],(.pair (.int .i64) (.pair (.own 2 (.int .i64)) (.pair (.int .i64) .unit))),0,[7],(.pair (.own 2 (.int .i64)) .unit),[],.unit⟩
noncomputable def ls_s_l01Append:List LSpec:=[q_s_l01Append_3.spec b_s_l01Append_3]
theorem lok_s_l01Append_3:Lok Γ0 E0 σ_s_l01Append (lam Tryz.f294 ls_s_l01Append) Tryz.f294 0 q_s_l01Append_3 b_s_l01Append_3:=fun x=>by kernel_rfl
theorem ok_s_l01Append:FnOK G0 Tryz.prog 294 S_s_l01Append:=fn_okS tab0 σok_s_l01Append Tryz.func294 ls_s_l01Append (by kernel_rfl) (by exact⟨(lok_s_l01Append_3).lok,trivial⟩) fun x=>by kernel_rfl
noncomputable def s_l04Bits(x:Ty.T (.pair TState .unit)):Option (Ty.T (.pair (.own 2 (.int .i64)) .unit)):=
match s_l01Append ([],x.1.1,(16:Int),())with
|none=>none
|some v1=>
match s_l01Append (v1.1,x.1.2.1,(4:Int),())with
|none=>none
|some v2=>
match s_l01Append (v2.1,x.1.2.2.1,(4:Int),())with
|none=>none
|some v3=>
match s_l01Append (v3.1,x.1.2.2.2.1,(8:Int),())with
|none=>none
|some v4=>
match s_l01Append (v4.1,x.1.2.2.2.2.1,(32:Int),())with
|none=>none
|some v5=>
some (v5.1,())
noncomputable def S_s_l04Bits:Spec:=⟨(.pair TState .unit),(.pair (.own 2 (.int .i64)) .unit),.unit,rfl,s_l04Bits⟩
noncomputable def σ_s_l04Bits:FuncId→Option Spec:=sig [(294,S_s_l01Append)]
theorem σok_s_l04Bits:∀f s,σ_s_l04Bits f=some s→FnOK G0 Tryz.prog f s:=sig_ok ⟨ok_s_l01Append,trivial⟩
theorem ok_s_l04Bits:FnOK G0 Tryz.prog 252 S_s_l04Bits:=fn_okS tab0 σok_s_l04Bits Tryz.func252 [] (by kernel_rfl) (by exact trivial) fun x=>by kernel_rfl
noncomputable def s_l06Body(x:Ty.T (.pair TFrame .unit)):Option (Ty.T (.pair (.own 2 (.int .i64)) .unit)):=
match s_l06State (x.1.1,())with
|none=>none
|some v1=>
match v1.1 with
|true=>
 match s_l04Bits ((x.1.2.2.1.1,x.1.2.2.1.2.1,x.1.2.2.1.2.2.1,x.1.2.2.1.2.2.2.1,x.1.2.2.1.2.2.2.2.1,()),())with
 |none=>none
 |some v2=>
 match s_l01Bytes (v2.1,())with
 |none=>none
 |some v3=>
 room ([(IntKind.i64.wrap ((IntKind.i64.wrap (x.1.1*(64:Int)))+(IntKind.i64.wrap (x.1.2.1*(8:Int)))))].length+v3.1.length) (
  match s_l06Data (x.1.1,())with
  |none=>none
  |some v4=>
  match v4.1 with
  |true=>
   room (([(IntKind.i64.wrap ((IntKind.i64.wrap (x.1.1*(64:Int)))+(IntKind.i64.wrap (x.1.2.1*(8:Int)))))]++v3.1).length+ [(x.1.2.2.2.1.length:Int)].length) (
    room ((([(IntKind.i64.wrap ((IntKind.i64.wrap (x.1.1*(64:Int)))+(IntKind.i64.wrap (x.1.2.1*(8:Int)))))]++v3.1)++ [(x.1.2.2.2.1.length:Int)]).length+x.1.2.2.2.1.length) (
     some (((([(IntKind.i64.wrap ((IntKind.i64.wrap (x.1.1*(64:Int)))+(IntKind.i64.wrap (x.1.2.1*(8:Int)))))]++v3.1)++ [(x.1.2.2.2.1.length:Int)])++x.1.2.2.2.1),())))
  |false=>
   some (([(IntKind.i64.wrap ((IntKind.i64.wrap (x.1.1*(64:Int)))+(IntKind.i64.wrap (x.1.2.1*(8:Int)))))]++v3.1),()))
|false=>
 match s_l06Data (x.1.1,())with
 |none=>none
 |some v5=>
 match v5.1 with
 |true=>
  room ([(IntKind.i64.wrap ((IntKind.i64.wrap (x.1.1*(64:Int)))+(IntKind.i64.wrap (x.1.2.1*(8:Int)))))].length+ [(x.1.2.2.2.1.length:Int)].length) (
   room (([(IntKind.i64.wrap ((IntKind.i64.wrap (x.1.1*(64:Int)))+(IntKind.i64.wrap (x.1.2.1*(8:Int)))))]++ [(x.1.2.2.2.1.length:Int)]).length+x.1.2.2.2.1.length) (
    some ((([(IntKind.i64.wrap ((IntKind.i64.wrap (x.1.1*(64:Int)))+(IntKind.i64.wrap (x.1.2.1*(8:Int)))))]++ [(x.1.2.2.2.1.length:Int)])++x.1.2.2.2.1),())))
 |false=>
  some ([(IntKind.i64.wrap ((IntKind.i64.wrap (x.1.1*(64:Int)))+(IntKind.i64.wrap (x.1.2.1*(8:Int)))))],())
noncomputable def S_s_l06Body:Spec:=⟨(.pair TFrame .unit),(.pair (.own 2 (.int .i64)) .unit),.unit,rfl,s_l06Body⟩
noncomputable def σ_s_l06Body:FuncId→Option Spec:=sig [(195,S_s_l06State),(251,S_s_l01Bytes),(252,S_s_l04Bits),(253,S_s_l06Data)]
theorem σok_s_l06Body:∀f s,σ_s_l06Body f=some s→FnOK G0 Tryz.prog f s:=sig_ok ⟨ok_s_l06State,ok_s_l01Bytes,ok_s_l04Bits,ok_s_l06Data,trivial⟩
theorem ok_s_l06Body:FnOK G0 Tryz.prog 208 S_s_l06Body:=fn_okS tab0 σok_s_l06Body Tryz.func208 [] (by kernel_rfl) (by exact trivial) fun x=>by kernel_rfl
noncomputable def b_s_l02Feed_3(x:(Ty.T (.pair (.int .i64) (.pair (.list (.int .i64)) (.pair (.box TCrc) TCrc))))):Option ((Ty.T (.pair (.int .i64) (.pair (.list (.int .i64)) (.pair (.box TCrc) TCrc)))) ⊕ ((Ty.T (.pair (.int .i64) .unit)) ⊕ (Ty.T .unit))):=
match(decide (x.2.2.2.2.1<(x.2.1.length:Int)))with
|true=>
 if x.2.2.2.1=0 then none else
 onSome (idx x.2.1 x.2.2.2.2.1) fun v1=>
 if x.2.2.2.1=0 then none else
 match((bits BinOp.xor .i64 (IntKind.i64.wrap (Int.tdiv x.1 x.2.2.2.1)) v1)==(1:Int))with
 |true=>
  some (.inl ((bits BinOp.xor .i64 (IntKind.i64.wrap ((Int.tmod x.1 x.2.2.2.1)*(2:Int))) x.2.2.1.2.1),x.2.1,(x.2.2.1.1,x.2.2.1.2.1,()),x.2.2.2.1,(IntKind.i64.wrap (x.2.2.2.2.1+(1:Int))),()))
 |false=>
  some (.inl ((IntKind.i64.wrap ((Int.tmod x.1 x.2.2.2.1)*(2:Int))),x.2.1,(x.2.2.1.1,x.2.2.1.2.1,()),x.2.2.2.1,(IntKind.i64.wrap (x.2.2.2.2.1+(1:Int))),()))
|false=>
 some (.inr (.inl (x.1,())))
noncomputable def s_l02Feed(x:Ty.T (.pair TCrc (.pair (.int .i64) (.pair (.list (.int .i64)) .unit)))):Option (Ty.T (.pair (.int .i64) .unit)):=
if(IntKind.u64.wrap (IntKind.i64.wrap (x.1.1-(1:Int))))<0 then none else
match loopL b_s_l02Feed_3 (x.2.1,x.2.2.1,(x.1.1,x.1.2.1,()),(IntKind.i64.wrap ((1:Int)*2^min (IntKind.u64.wrap (IntKind.i64.wrap (x.1.1-(1:Int)))).toNat IntKind.i64.bits)),(0:Int),())with
|none=>none
|some (.inl v2)=>
 some (v2.1,())
|some (.inr v4)=>
 none
noncomputable def S_s_l02Feed:Spec:=⟨(.pair TCrc (.pair (.int .i64) (.pair (.list (.int .i64)) .unit))),(.pair (.int .i64) .unit),.unit,rfl,s_l02Feed⟩
noncomputable def σ_s_l02Feed:FuncId→Option Spec:=sig []
theorem σok_s_l02Feed:∀f s,σ_s_l02Feed f=some s→FnOK G0 Tryz.prog f s:=sig_ok trivial
def q_s_l02Feed_3:LRow:=⟨[1,2,3,7,8],(.pair (.int .i64) (.pair (.list (.int .i64)) (.pair (.box TCrc) TCrc))),0,[1],(.pair (.int .i64) .unit),[],.unit⟩
noncomputable def ls_s_l02Feed:List LSpec:=[q_s_l02Feed_3.spec b_s_l02Feed_3]
theorem lok_s_l02Feed_3:Lok Γ0 E0 σ_s_l02Feed (lam Tryz.f254 ls_s_l02Feed) Tryz.f254 0 q_s_l02Feed_3 b_s_l02Feed_3:=fun x=>by kernel_rfl
theorem ok_s_l02Feed:FnOK G0 Tryz.prog 254 S_s_l02Feed:=fn_okS tab0 σok_s_l02Feed Tryz.func254 ls_s_l02Feed (by kernel_rfl) (by exact⟨(lok_s_l02Feed_3).lok,trivial⟩) fun x=>by kernel_rfl
noncomputable def s_StandardCrc(x:Ty.T .unit):Option (Ty.T (.pair TCrc .unit)):=
some (((24:Int),(6122955:Int),()),())
noncomputable def S_s_StandardCrc:Spec:=⟨.unit,(.pair TCrc .unit),.unit,rfl,s_StandardCrc⟩
noncomputable def σ_s_StandardCrc:FuncId→Option Spec:=sig []
theorem σok_s_StandardCrc:∀f s,σ_s_StandardCrc f=some s→FnOK G0 Tryz.prog f s:=sig_ok trivial
theorem ok_s_StandardCrc:FnOK G0 Tryz.prog 255 S_s_StandardCrc:=fn_okS tab0 σok_s_StandardCrc Tryz.func255 [] (by kernel_rfl) (by exact trivial) fun x=>by kernel_rfl
noncomputable def s_l07Number(x:Ty.T (.pair (.int .i64) (.pair (.list (.int .i64)) (.pair (.int .i64) (.pair TState .unit))))):Option (Ty.T (.pair (.int .i64) .unit)):=
match(x.1==(0:Int))with
|true=>
 match s_StandardCrc (())with
 |none=>none
 |some v1=>
 match s_l04Bits ((x.2.2.2.1.1,x.2.2.2.1.2.1,x.2.2.2.1.2.2.1,x.2.2.2.1.2.2.2.1,x.2.2.2.1.2.2.2.2.1,()),())with
 |none=>none
 |some v2=>
 match s_l02Feed (v1.1,x.2.2.1,v2.1,())with
 |none=>none
 |some v3=>
 match s_StandardCrc (())with
 |none=>none
 |some v4=>
 match s_l01Bits (x.2.1,())with
 |none=>none
 |some v5=>
 match s_l02Feed (v4.1,v3.1,v5.1,())with
 |none=>none
 |some v6=>
 some (v6.1,())
|false=>
 match s_StandardCrc (())with
 |none=>none
 |some v7=>
 match s_l01Bits (x.2.1,())with
 |none=>none
 |some v8=>
 match s_l02Feed (v7.1,x.2.2.1,v8.1,())with
 |none=>none
 |some v9=>
 some (v9.1,())
noncomputable def S_s_l07Number:Spec:=⟨(.pair (.int .i64) (.pair (.list (.int .i64)) (.pair (.int .i64) (.pair TState .unit)))),(.pair (.int .i64) .unit),.unit,rfl,s_l07Number⟩
noncomputable def σ_s_l07Number:FuncId→Option Spec:=sig [(207,S_s_l01Bits),(252,S_s_l04Bits),(254,S_s_l02Feed),(255,S_s_StandardCrc)]
theorem σok_s_l07Number:∀f s,σ_s_l07Number f=some s→FnOK G0 Tryz.prog f s:=sig_ok ⟨ok_s_l01Bits,ok_s_l04Bits,ok_s_l02Feed,ok_s_StandardCrc,trivial⟩
theorem ok_s_l07Number:FnOK G0 Tryz.prog 209 S_s_l07Number:=fn_okS tab0 σok_s_l07Number Tryz.func209 [] (by kernel_rfl) (by exact trivial) fun x=>by kernel_rfl
noncomputable def s_l07Seal(x:Ty.T (.pair TFrame (.pair (.int .i64) (.pair TState .unit)))):Option (Ty.T (.pair (.own 2 (.int .i64)) .unit)):=
match s_l06Body ((x.1.1,x.1.2.1,(x.1.2.2.1.1,x.1.2.2.1.2.1,x.1.2.2.1.2.2.1,x.1.2.2.1.2.2.2.1,x.1.2.2.1.2.2.2.2.1,()),x.1.2.2.2.1,()),())with
|none=>none
|some v1=>
match s_l07Number (x.1.1,v1.1,x.2.1,(x.2.2.1.1,x.2.2.1.2.1,x.2.2.1.2.2.1,x.2.2.1.2.2.2.1,x.2.2.1.2.2.2.2.1,()),())with
|none=>none
|some v2=>
room (v1.1.length+ [(IntKind.i64.wrap (Int.tdiv v2.1 (65536:Int))),(Int.tmod (IntKind.i64.wrap (Int.tdiv v2.1 (256:Int))) (256:Int)),(Int.tmod v2.1 (256:Int))].length) (
 some ((v1.1++ [(IntKind.i64.wrap (Int.tdiv v2.1 (65536:Int))),(Int.tmod (IntKind.i64.wrap (Int.tdiv v2.1 (256:Int))) (256:Int)),(Int.tmod v2.1 (256:Int))]),()))
noncomputable def S_s_l07Seal:Spec:=⟨(.pair TFrame (.pair (.int .i64) (.pair TState .unit))),(.pair (.own 2 (.int .i64)) .unit),.unit,rfl,s_l07Seal⟩
noncomputable def σ_s_l07Seal:FuncId→Option Spec:=sig [(208,S_s_l06Body),(209,S_s_l07Number)]
theorem σok_s_l07Seal:∀f s,σ_s_l07Seal f=some s→FnOK G0 Tryz.prog f s:=sig_ok ⟨ok_s_l06Body,ok_s_l07Number,trivial⟩
theorem ok_s_l07Seal:FnOK G0 Tryz.prog 168 S_s_l07Seal:=fn_okS tab0 σok_s_l07Seal Tryz.func168 [] (by kernel_rfl) (by exact trivial) fun x=>by kernel_rfl
noncomputable def s_l27Cells(x:Ty.T (.pair TMedl (.pair TState (.pair TFrame .unit)))):Option (Ty.T (.pair (.own 2 (.int .i64)) .unit)):=
same (
 match s_l20Equal ((8:Int),(1:Int),())with
 |none=>none
 |some v1=>
 match s_l07Seal ((x.2.2.1.1,x.2.2.1.2.1,(x.2.2.1.2.2.1.1,x.2.2.1.2.2.1.2.1,x.2.2.1.2.2.1.2.2.1,x.2.2.1.2.2.1.2.2.2.1,x.2.2.1.2.2.1.2.2.2.2.1,()),x.2.2.1.2.2.2.1,()),x.1.1,(x.2.1.1,x.2.1.2.1,x.2.1.2.2.1,x.2.1.2.2.2.1,x.2.1.2.2.2.2.1,()),())with
 |none=>none
 |some v2=>
 match s_l18Cells (v2.1,(8:Int),())with
 |none=>none
 |some v3=>
 room (v1.1.length+v3.1.length) (
  match s_l15Desc ((x.1.1,x.1.2.1,x.1.2.2.1,x.1.2.2.2.1,()),(x.2.1.1,x.2.1.2.1,x.2.1.2.2.1,x.2.1.2.2.2.1,x.2.1.2.2.2.2.1,()),())with
  |none=>none
  |some v4=>
  match s_l20Equal ((IntKind.i64.wrap (v4.1.2.2.2.1-((v1.1++v3.1).length:Int))),(1:Int),())with
  |none=>none
  |some v5=>
  room ((v1.1++v3.1).length+v5.1.length) (
   some (((v1.1++v3.1)++v5.1),()))))
noncomputable def S_s_l27Cells:Spec:=⟨(.pair TMedl (.pair TState (.pair TFrame .unit))),(.pair (.own 2 (.int .i64)) .unit),.unit,rfl,s_l27Cells⟩
noncomputable def σ_s_l27Cells:FuncId→Option Spec:=sig [(79,S_s_l15Desc),(147,S_s_l20Equal),(167,S_s_l18Cells),(168,S_s_l07Seal)]
theorem σok_s_l27Cells:∀f s,σ_s_l27Cells f=some s→FnOK G0 Tryz.prog f s:=sig_ok ⟨ok_s_l15Desc,ok_s_l20Equal,ok_s_l18Cells,ok_s_l07Seal,trivial⟩
theorem ok_s_l27Cells:FnOK G0 Tryz.prog 123 S_s_l27Cells:=fn_okS tab0 σok_s_l27Cells Tryz.func123 [] (by kernel_rfl) (by exact trivial) fun x=>by kernel_rfl
noncomputable def s_SlotSamples(x:Ty.T (.pair TMedl (.pair TState (.pair TFrame .unit)))):Option (Ty.T (.pair (.own 2 (.int .i64)) (.pair (.int .i64) .unit))):=
match s_l27Code ((x.1.1,x.1.2.1,x.1.2.2.1,x.1.2.2.2.1,()),(x.2.1.1,x.2.1.2.1,x.2.1.2.2.1,x.2.1.2.2.2.1,x.2.1.2.2.2.2.1,()),(x.2.2.1.1,x.2.2.1.2.1,(x.2.2.1.2.2.1.1,x.2.2.1.2.2.1.2.1,x.2.2.1.2.2.1.2.2.1,x.2.2.1.2.2.1.2.2.2.1,x.2.2.1.2.2.1.2.2.2.2.1,()),x.2.2.1.2.2.2.1,()),())with
|none=>none
|some v1=>
match(v1.1 != (0:Int))with
|true=>
 some ([],v1.1,())
|false=>
 match s_l27Cells ((x.1.1,x.1.2.1,x.1.2.2.1,x.1.2.2.2.1,()),(x.2.1.1,x.2.1.2.1,x.2.1.2.2.1,x.2.1.2.2.2.1,x.2.1.2.2.2.2.1,()),(x.2.2.1.1,x.2.2.1.2.1,(x.2.2.1.2.2.1.1,x.2.2.1.2.2.1.2.1,x.2.2.1.2.2.1.2.2.1,x.2.2.1.2.2.1.2.2.2.1,x.2.2.1.2.2.1.2.2.2.2.1,()),x.2.2.1.2.2.2.1,()),())with
 |none=>none
 |some v2=>
 match s_l20Nominal (v2.1,())with
 |none=>none
 |some v3=>
 some (v3.1,(0:Int),())
noncomputable def S_s_SlotSamples:Spec:=⟨(.pair TMedl (.pair TState (.pair TFrame .unit))),(.pair (.own 2 (.int .i64)) (.pair (.int .i64) .unit)),.unit,rfl,s_SlotSamples⟩
noncomputable def σ_s_SlotSamples:FuncId→Option Spec:=sig [(121,S_s_l27Code),(122,S_s_l20Nominal),(123,S_s_l27Cells)]
theorem σok_s_SlotSamples:∀f s,σ_s_SlotSamples f=some s→FnOK G0 Tryz.prog f s:=sig_ok ⟨ok_s_l27Code,ok_s_l20Nominal,ok_s_l27Cells,trivial⟩
theorem ok_s_SlotSamples:FnOK G0 Tryz.prog 86 S_s_SlotSamples:=fn_okS tab0 σok_s_SlotSamples Tryz.func86 [] (by kernel_rfl) (by exact trivial) fun x=>by kernel_rfl
noncomputable def s_l24Fields(x:Ty.T (.pair (.int .i64) .unit)):Option (Ty.T (.pair .bool (.pair .bool .unit))):=
match(x.1==(2:Int))with
|true=>
 some (true,false,())
|false=>
 match(x.1==(3:Int))with
 |true=>
  some (true,false,())
 |false=>
  match(x.1==(4:Int))with
  |true=>
   some (true,true,())
  |false=>
   match(x.1==(6:Int))with
   |true=>
    some (true,true,())
   |false=>
    some (false,false,())
noncomputable def S_s_l24Fields:Spec:=⟨(.pair (.int .i64) .unit),(.pair .bool (.pair .bool .unit)),.unit,rfl,s_l24Fields⟩
noncomputable def σ_s_l24Fields:FuncId→Option Spec:=sig []
theorem σok_s_l24Fields:∀f s,σ_s_l24Fields f=some s→FnOK G0 Tryz.prog f s:=sig_ok trivial
theorem ok_s_l24Fields:FnOK G0 Tryz.prog 169 S_s_l24Fields:=fn_okS tab0 σok_s_l24Fields Tryz.func169 [] (by kernel_rfl) (by exact trivial) fun x=>by kernel_rfl
noncomputable def s_IsFault(x:Ty.T (.pair TFault .unit)):Option (Ty.T (.pair .bool .unit)):=
match s_l01In (x.1.1,(1:Int),(6:Int),())with
|none=>none
|some v1=>
match(!v1.1)with
|true=>
 some (false,())
|false=>
 match s_l01In (x.1.2.1,(0:Int),(8192:Int),())with
 |none=>none
 |some v2=>
 match(!v2.1)with
 |true=>
  some (false,())
 |false=>
  match s_l24Fields (x.1.1,())with
  |none=>none
  |some v3=>
  match v3.1 with
  |true=>
   match s_l01In (x.1.2.2.1,(1:Int),(8192:Int),())with
   |none=>none
   |some v4=>
   match(!v4.1)with
   |true=>
    some (false,())
   |false=>
    match(!v3.1)with
    |true=>
     match(x.1.2.2.1 != (0:Int))with
     |true=>
      some (false,())
     |false=>
      match s_l01In (x.1.2.2.2.1,(0:Int),(1:Int),())with
      |none=>none
      |some v5=>
      match v5.1 with
      |true=>
       match v3.2.1 with
       |true=>
        some (true,())
       |false=>
        some ((x.1.2.2.2.1==(0:Int)),())
      |false=>
       some (false,())
    |false=>
     match s_l01In (x.1.2.2.2.1,(0:Int),(1:Int),())with
     |none=>none
     |some v6=>
     match v6.1 with
     |true=>
      match v3.2.1 with
      |true=>
       some (true,())
      |false=>
       some ((x.1.2.2.2.1==(0:Int)),())
     |false=>
      some (false,())
  |false=>
   match(!v3.1)with
   |true=>
    match(x.1.2.2.1 != (0:Int))with
    |true=>
     some (false,())
    |false=>
     match s_l01In (x.1.2.2.2.1,(0:Int),(1:Int),())with
     |none=>none
     |some v7=>
     match v7.1 with
     |true=>
      match v3.2.1 with
      |true=>
       some (true,())
      |false=>
       some ((x.1.2.2.2.1==(0:Int)),())
     |false=>
      some (false,())
   |false=>
    match s_l01In (x.1.2.2.2.1,(0:Int),(1:Int),())with
    |none=>none
    |some v8=>
    match v8.1 with
    |true=>
     match v3.2.1 with
     |true=>
      some (true,())
     |false=>
      some ((x.1.2.2.2.1==(0:Int)),())
    |false=>
     some (false,())
noncomputable def S_s_IsFault:Spec:=⟨(.pair TFault .unit),(.pair .bool .unit),.unit,rfl,s_IsFault⟩
noncomputable def σ_s_IsFault:FuncId→Option Spec:=sig [(144,S_s_l01In),(169,S_s_l24Fields)]
theorem σok_s_IsFault:∀f s,σ_s_IsFault f=some s→FnOK G0 Tryz.prog f s:=sig_ok ⟨ok_s_l01In,ok_s_l24Fields,trivial⟩
theorem ok_s_IsFault:FnOK G0 Tryz.prog 124 S_s_IsFault:=fn_okS tab0 σok_s_IsFault Tryz.func124 [] (by kernel_rfl) (by exact trivial) fun x=>by kernel_rfl
noncomputable def b_s_IsScript_2(x:(Ty.T (.pair (.list TFault) (.pair (.int .i64) .unit)))):Option ((Ty.T (.pair (.list TFault) (.pair (.int .i64) .unit))) ⊕ ((Ty.T (.pair (.list TFault) .unit)) ⊕ (Ty.T (.pair .bool .unit)))):=
match(decide (x.2.1<(x.1.length:Int)))with
|true=>
 onSome (idx x.1 x.2.1) fun v1=>
 match s_IsFault (v1,())with
 |none=>none
 |some v2=>
 match(!v2.1)with
 |true=>
  some (.inr (.inr (false,())))
 |false=>
  some (.inl (x.1,(IntKind.i64.wrap (x.2.1+(1:Int))),()))
|false=>
 some (.inr (.inl (x.1,())))
noncomputable def s_IsScript(x:Ty.T (.pair (.list TFault) .unit)):Option (Ty.T (.pair .bool .unit)):=
match loopL b_s_IsScript_2 (x.1,(0:Int),())with
|none=>none
|some (.inl v3)=>
 some ((decide ((v3.1.length:Int)≤(30:Int))),())
|some (.inr v4)=>
 some (v4.1,())
noncomputable def S_s_IsScript:Spec:=⟨(.pair (.list TFault) .unit),(.pair .bool .unit),.unit,rfl,s_IsScript⟩
noncomputable def σ_s_IsScript:FuncId→Option Spec:=sig [(124,S_s_IsFault)]
theorem σok_s_IsScript:∀f s,σ_s_IsScript f=some s→FnOK G0 Tryz.prog f s:=sig_ok ⟨ok_s_IsFault,trivial⟩
def q_s_IsScript_2:LRow:=⟨[0,3],(.pair (.list TFault) (.pair (.int .i64) .unit)),0,[0],(.pair (.list TFault) .unit),[2],(.pair .bool .unit)⟩
noncomputable def ls_s_IsScript:List LSpec:=[q_s_IsScript_2.spec b_s_IsScript_2]
theorem lok_s_IsScript_2:Lok Γ0 E0 σ_s_IsScript (lam Tryz.f87 ls_s_IsScript) Tryz.f87 0 q_s_IsScript_2 b_s_IsScript_2:=fun x=>by kernel_rfl
theorem ok_s_IsScript:FnOK G0 Tryz.prog 87 S_s_IsScript:=fn_okS tab0 σok_s_IsScript Tryz.func87 ls_s_IsScript (by kernel_rfl) (by exact⟨(lok_s_IsScript_2).lok,trivial⟩) fun x=>by kernel_rfl
noncomputable def s_l01Own(x:Ty.T (.pair (.list (.int .i64)) .unit)):Option (Ty.T (.pair (.own 2 (.int .i64)) .unit)):=
room (([]:List (Ty.T (.int .i64))).length+x.1.length) (
 some ((([]:List (Ty.T (.int .i64)))++x.1),()))
noncomputable def S_s_l01Own:Spec:=⟨(.pair (.list (.int .i64)) .unit),(.pair (.own 2 (.int .i64)) .unit),.unit,rfl,s_l01Own⟩
noncomputable def σ_s_l01Own:FuncId→Option Spec:=sig []
theorem σok_s_l01Own:∀f s,σ_s_l01Own f=some s→FnOK G0 Tryz.prog f s:=sig_ok trivial
theorem ok_s_l01Own:FnOK G0 Tryz.prog 125 S_s_l01Own:=fn_okS tab0 σok_s_l01Own Tryz.func125 [] (by kernel_rfl) (by exact trivial) fun x=>by kernel_rfl
noncomputable def b_s_l24Apply_18(x:(Ty.T (.pair (.box TFault) (.pair (.int .i64) (.pair (.own 2 (.int .i64)) (.pair (.int .i64) .unit)))))):Option ((Ty.T (.pair (.box TFault) (.pair (.int .i64) (.pair (.own 2 (.int .i64)) (.pair (.int .i64) .unit))))) ⊕ ((Ty.T (.pair (.own 2 (.int .i64)) .unit)) ⊕ (Ty.T .unit))):=
match(decide (x.2.2.2.1<x.2.1))with
|true=>
 match(x.1.1==(5:Int))with
 |true=>
  onSome (idx x.2.2.1 x.2.2.2.1) fun _=>
  match x.2.2.1[x.2.2.2.1.toNat]? with
  |none=>none
  |some v3=>
  some (.inl ((x.1.1,x.1.2.1,x.1.2.2.1,x.1.2.2.2.1,()),x.2.1,(x.2.2.1.set x.2.2.2.1.toNat (1:Int)),(IntKind.i64.wrap (x.2.2.2.1+(1:Int))),()))
 |false=>
  match(x.1.1==(6:Int))with
  |true=>
   onSome (idx x.2.2.1 x.2.2.2.1) fun _=>
   match x.2.2.1[x.2.2.2.1.toNat]? with
   |none=>none
   |some v5=>
   some (.inl ((x.1.1,x.1.2.1,x.1.2.2.1,x.1.2.2.2.1,()),x.2.1,(x.2.2.1.set x.2.2.2.1.toNat x.1.2.2.2.1),(IntKind.i64.wrap (x.2.2.2.1+(1:Int))),()))
  |false=>
   onSome (idx x.2.2.1 x.2.2.2.1) fun _=>
   match x.2.2.1[x.2.2.2.1.toNat]? with
   |none=>none
   |some v7=>
   onSome (idx x.2.2.1 x.2.2.2.1) fun _=>
   match x.2.2.1[x.2.2.2.1.toNat]? with
   |none=>none
   |some v9=>
   some (.inl ((x.1.1,x.1.2.1,x.1.2.2.1,x.1.2.2.2.1,()),x.2.1,(x.2.2.1.set x.2.2.2.1.toNat (IntKind.i64.wrap ((1:Int)-v7))),(IntKind.i64.wrap (x.2.2.2.1+(1:Int))),()))
|false=>
 some (.inr (.inl (x.2.2.1,())))
noncomputable def c_s_l24Apply_16(x:Ty.T (.pair (.list (.int .i64)) (.pair (.box TFault) TCrc))):Option (Unit ⊕ (Ty.T (.pair (.list (.int .i64)) .unit))):=
match s_l01Own (x.1,())with
|none=>none
|some v1=>
match loopL b_s_l24Apply_18 ((x.2.1.1,x.2.1.2.1,x.2.1.2.2.1,x.2.1.2.2.2.1,()),x.2.2.2.1,v1.1,x.2.2.1,())with
|none=>none
|some (.inl v2)=>
 some (.inr (v2.1,()))
|some (.inr v4)=>
 none
noncomputable def c_s_l24Apply_3(x:Ty.T (.pair (.list (.int .i64)) (.pair (.box TFault) (.pair (.int .i64) TCrc)))):Option (Unit ⊕ (Ty.T (.pair (.list (.int .i64)) .unit))):=
match(x.2.1.1==(1:Int))with
|true=>
 match c_s_l24Apply_16 (x.1,(x.2.1.1,x.2.1.2.1,x.2.1.2.2.1,x.2.1.2.2.2.1,()),x.2.2.2.1,(if(IntKind.i64.wrap (x.2.1.2.1+(1:Int)))<x.2.2.1 then(IntKind.i64.wrap (x.2.1.2.1+(1:Int)))else x.2.2.1),())with
 |none=>none
 |some (.inl v6)=>none
 |some (.inr v5)=>
  some (.inr (v5.1,()))
|false=>
 match(x.2.1.1==(5:Int))with
 |true=>
  match c_s_l24Apply_16 (x.1,(x.2.1.1,x.2.1.2.1,x.2.1.2.2.1,x.2.1.2.2.2.1,()),x.2.2.2.1,x.2.2.1,())with
  |none=>none
  |some (.inl v8)=>none
  |some (.inr v7)=>
   some (.inr (v7.1,()))
 |false=>
  match(x.2.1.1==(3:Int))with
  |true=>
   onSome (bounds x.1.length none (some (.dat (.int .i64) x.2.2.2.1))) fun v9=>
   onSome (bounds x.1.length (some (.dat (.int .i64) x.2.2.2.2.1)) none) fun v10=>
   match s_l01Own ((List.drop v9.1 (List.take v9.2 x.1)),())with
   |none=>none
   |some v11=>
   room (v11.1.length+(List.drop v10.1 (List.take v10.2 x.1)).length) (
    some (.inr ((v11.1++(List.drop v10.1 (List.take v10.2 x.1))),())))
  |false=>
   match(x.2.1.1==(4:Int))with
   |true=>
    match(decide (x.2.1.2.1>x.2.2.1))with
    |true=>
     match s_l01Own (x.1,())with
     |none=>none
     |some v12=>
     some (.inr (v12.1,()))
    |false=>
     onSome (bounds x.1.length none (some (.dat (.int .i64) x.2.2.2.1))) fun v13=>
     match s_l01Own ((List.drop v13.1 (List.take v13.2 x.1)),())with
     |none=>none
     |some v14=>
     match s_l20Equal (x.2.1.2.2.1,x.2.1.2.2.2.1,())with
     |none=>none
     |some v15=>
     room (v14.1.length+v15.1.length) (
      onSome (bounds x.1.length (some (.dat (.int .i64) x.2.2.2.1)) none) fun v16=>
      room ((v14.1++v15.1).length+(List.drop v16.1 (List.take v16.2 x.1)).length) (
       onSome (bounds ((v14.1++v15.1)++(List.drop v16.1 (List.take v16.2 x.1))).length none (some (.dat (.int .i64) (if(8192:Int)<(((v14.1++v15.1)++(List.drop v16.1 (List.take v16.2 x.1))).length:Int)then(8192:Int)else(((v14.1++v15.1)++(List.drop v16.1 (List.take v16.2 x.1))).length:Int))))) fun v17=>
       some (.inr ((List.drop v17.1 (List.take v17.2 ((v14.1++v15.1)++(List.drop v16.1 (List.take v16.2 x.1))))),()))))
   |false=>
    match c_s_l24Apply_16 (x.1,(x.2.1.1,x.2.1.2.1,x.2.1.2.2.1,x.2.1.2.2.2.1,()),x.2.2.2.1,x.2.2.2.2.1,())with
    |none=>none
    |some (.inl v19)=>none
    |some (.inr v18)=>
     some (.inr (v18.1,()))
noncomputable def s_l24Apply(x:Ty.T (.pair (.list (.int .i64)) (.pair TFault .unit))):Option (Ty.T (.pair (.list (.int .i64)) .unit)):=
same (
 match c_s_l24Apply_3 (x.1,(x.2.1.1,x.2.1.2.1,x.2.1.2.2.1,x.2.1.2.2.2.1,()),(x.1.length:Int),(if x.2.1.2.1<(x.1.length:Int)then x.2.1.2.1 else(x.1.length:Int)),(if(IntKind.i64.wrap (x.2.1.2.1+x.2.1.2.2.1))<(x.1.length:Int)then(IntKind.i64.wrap (x.2.1.2.1+x.2.1.2.2.1))else(x.1.length:Int)),())with
 |none=>none
 |some (.inl v21)=>none
 |some (.inr v20)=>
  some (v20.1,()))
noncomputable def S_s_l24Apply:Spec:=⟨(.pair (.list (.int .i64)) (.pair TFault .unit)),(.pair (.list (.int .i64)) .unit),.unit,rfl,s_l24Apply⟩
noncomputable def σ_s_l24Apply:FuncId→Option Spec:=sig [(125,S_s_l01Own),(147,S_s_l20Equal)]
theorem σok_s_l24Apply:∀f s,σ_s_l24Apply f=some s→FnOK G0 Tryz.prog f s:=sig_ok ⟨ok_s_l01Own,ok_s_l20Equal,trivial⟩
noncomputable def cuts_s_l24Apply:List (Nat×LSpec):=[(3,⟨[0,3,5,6,7],(.pair (.list (.int .i64)) (.pair (.box TFault) (.pair (.int .i64) TCrc))),1000003,[],.unit,[4],(.pair (.list (.int .i64)) .unit),c_s_l24Apply_3⟩),(16,⟨[0,3,6,7],(.pair (.list (.int .i64)) (.pair (.box TFault) TCrc)),1000016,[],.unit,[4],(.pair (.list (.int .i64)) .unit),c_s_l24Apply_16⟩)]
noncomputable def Λ_s_l24Apply:Nat→Option LSpec:=lkp2 (loopList (bodyOf Tryz.f126)) [⟨[3,7,9,10],(.pair (.box TFault) (.pair (.int .i64) (.pair (.own 2 (.int .i64)) (.pair (.int .i64) .unit)))),1,[9],(.pair (.own 2 (.int .i64)) .unit),[],.unit,loopL b_s_l24Apply_18⟩] cuts_s_l24Apply
theorem cok_s_l24Apply_3(x):codeK Γ0 E0 σ_s_l24Apply Λ_s_l24Apply Tryz.f126.ntmps (nthCut Tryz.f126 2) (mkF Tryz.f126.ntmps [0,3,5,6,7] (.pair (.list (.int .i64)) (.pair (.box TFault) (.pair (.int .i64) TCrc))) x) (readC σ_s_l24Apply Tryz.f126.ntmps 1000003 [] .unit [4] (.pair (.list (.int .i64)) .unit))=c_s_l24Apply_3 x:=by kernel_rfl
theorem cok_s_l24Apply_16(x):codeK Γ0 E0 σ_s_l24Apply Λ_s_l24Apply Tryz.f126.ntmps (nthCut Tryz.f126 3) (mkF Tryz.f126.ntmps [0,3,6,7] (.pair (.list (.int .i64)) (.pair (.box TFault) TCrc)) x) (readC σ_s_l24Apply Tryz.f126.ntmps 1000016 [] .unit [4] (.pair (.list (.int .i64)) .unit))=c_s_l24Apply_16 x:=by kernel_rfl
theorem lok_s_l24Apply_18(x):codeK Γ0 E0 σ_s_l24Apply Λ_s_l24Apply Tryz.f126.ntmps (nthLoop Tryz.f126 0) (mkF Tryz.f126.ntmps [3,7,9,10] (.pair (.box TFault) (.pair (.int .i64) (.pair (.own 2 (.int .i64)) (.pair (.int .i64) .unit)))) x) (readK σ_s_l24Apply Tryz.f126.ntmps [3,7,9,10] (.pair (.box TFault) (.pair (.int .i64) (.pair (.own 2 (.int .i64)) (.pair (.int .i64) .unit)))) 1 [9] (.pair (.own 2 (.int .i64)) .unit) [] .unit)=b_s_l24Apply_18 x:=by kernel_rfl
theorem ok_s_l24Apply:FnOK G0 Tryz.prog 126 S_s_l24Apply:=fn_okC (Λ:=Λ_s_l24Apply) tab0 σok_s_l24Apply Tryz.func126 (by kernel_rfl) (show Tryz.f126.body=some (bodyOf Tryz.f126) by kernel_rfl) [⟨[3,7,9,10],(.pair (.box TFault) (.pair (.int .i64) (.pair (.own 2 (.int .i64)) (.pair (.int .i64) .unit)))),1,[9],(.pair (.own 2 (.int .i64)) .unit),[],.unit,loopL b_s_l24Apply_18⟩] cuts_s_l24Apply rfl (by kernel_rfl) (by exact⟨loop_LOK (lok_s_l24Apply_18),trivial⟩) (by exact⟨trivial,trivial,cut_COK cok_s_l24Apply_3,cut_COK cok_s_l24Apply_16,trivial,trivial,trivial,trivial,trivial,trivial,trivial,trivial,trivial,trivial,trivial,trivial,trivial,trivial,trivial,trivial,trivial,trivial,trivial,trivial,trivial,trivial,trivial⟩) (by kernel_rfl)
 fun x y h=>(show execFn Γ0 E0 σ_s_l24Apply Λ_s_l24Apply Tryz.f126 S_s_l24Apply x=s_l24Apply x by kernel_rfl).trans h
noncomputable def b_s_l25Apply_3(x:(Ty.T (.pair (.list TFault) (.pair (.list (.int .i64)) (.pair (.int .i64) .unit))))):Option ((Ty.T (.pair (.list TFault) (.pair (.list (.int .i64)) (.pair (.int .i64) .unit)))) ⊕ ((Ty.T (.pair (.list (.int .i64)) .unit)) ⊕ (Ty.T .unit))):=
match(decide (x.2.2.1<(x.1.length:Int)))with
|true=>
 onSome (idx x.1 x.2.2.1) fun v2=>
 match s_l24Apply (x.2.1,v2,())with
 |none=>none
 |some v3=>
 some (.inl (x.1,v3.1,(IntKind.i64.wrap (x.2.2.1+(1:Int))),()))
|false=>
 some (.inr (.inl (x.2.1,())))
noncomputable def s_l25Apply(x:Ty.T (.pair (.list (.int .i64)) (.pair (.list TFault) .unit))):Option (Ty.T (.pair (.list (.int .i64)) .unit)):=
match s_l01Own (x.1,())with
|none=>none
|some v1=>
match loopL b_s_l25Apply_3 (x.2.1,v1.1,(0:Int),())with
|none=>none
|some (.inl v4)=>
 some (v4.1,())
|some (.inr v6)=>
 none
noncomputable def S_s_l25Apply:Spec:=⟨(.pair (.list (.int .i64)) (.pair (.list TFault) .unit)),(.pair (.list (.int .i64)) .unit),.unit,rfl,s_l25Apply⟩
noncomputable def σ_s_l25Apply:FuncId→Option Spec:=sig [(125,S_s_l01Own),(126,S_s_l24Apply)]
theorem σok_s_l25Apply:∀f s,σ_s_l25Apply f=some s→FnOK G0 Tryz.prog f s:=sig_ok ⟨ok_s_l01Own,ok_s_l24Apply,trivial⟩
def q_s_l25Apply_3:LRow:=⟨[1,5,6],(.pair (.list TFault) (.pair (.list (.int .i64)) (.pair (.int .i64) .unit))),0,[5],(.pair (.list (.int .i64)) .unit),[],.unit⟩
noncomputable def ls_s_l25Apply:List LSpec:=[q_s_l25Apply_3.spec b_s_l25Apply_3]
theorem lok_s_l25Apply_3:Lok Γ0 E0 σ_s_l25Apply (lam Tryz.f88 ls_s_l25Apply) Tryz.f88 0 q_s_l25Apply_3 b_s_l25Apply_3:=fun x=>by kernel_rfl
theorem ok_s_l25Apply:FnOK G0 Tryz.prog 88 S_s_l25Apply:=fn_okS tab0 σok_s_l25Apply Tryz.func88 ls_s_l25Apply (by kernel_rfl) (by exact⟨(lok_s_l25Apply_3).lok,trivial⟩) fun x=>by kernel_rfl
noncomputable def s_SendScripted(x:Ty.T (.pair TMedl (.pair TState (.pair TFrame (.pair (.list TFault) .unit))))):Option (Ty.T (.pair (.list (.int .i64)) (.pair (.int .i64) .unit))):=
match s_SlotSamples ((x.1.1,x.1.2.1,x.1.2.2.1,x.1.2.2.2.1,()),(x.2.1.1,x.2.1.2.1,x.2.1.2.2.1,x.2.1.2.2.2.1,x.2.1.2.2.2.2.1,()),(x.2.2.1.1,x.2.2.1.2.1,(x.2.2.1.2.2.1.1,x.2.2.1.2.2.1.2.1,x.2.2.1.2.2.1.2.2.1,x.2.2.1.2.2.1.2.2.2.1,x.2.2.1.2.2.1.2.2.2.2.1,()),x.2.2.1.2.2.2.1,()),())with
|none=>none
|some v1=>
match(v1.2.1==(0:Int))with
|true=>
 match s_IsScript (x.2.2.2.1,())with
 |none=>none
 |some v2=>
 match(!v2.1)with
 |true=>
  match((3:Int) != (0:Int))with
  |true=>
   some ([],(3:Int),())
  |false=>
   match s_l25Apply (v1.1,x.2.2.2.1,())with
   |none=>none
   |some v3=>
   some (v3.1,(0:Int),())
 |false=>
  match(v1.2.1 != (0:Int))with
  |true=>
   some ([],v1.2.1,())
  |false=>
   match s_l25Apply (v1.1,x.2.2.2.1,())with
   |none=>none
   |some v4=>
   some (v4.1,(0:Int),())
|false=>
 match(v1.2.1 != (0:Int))with
 |true=>
  some ([],v1.2.1,())
 |false=>
  match s_l25Apply (v1.1,x.2.2.2.1,())with
  |none=>none
  |some v5=>
  some (v5.1,(0:Int),())
noncomputable def S_s_SendScripted:Spec:=⟨(.pair TMedl (.pair TState (.pair TFrame (.pair (.list TFault) .unit)))),(.pair (.list (.int .i64)) (.pair (.int .i64) .unit)),.unit,rfl,s_SendScripted⟩
noncomputable def σ_s_SendScripted:FuncId→Option Spec:=sig [(86,S_s_SlotSamples),(87,S_s_IsScript),(88,S_s_l25Apply)]
theorem σok_s_SendScripted:∀f s,σ_s_SendScripted f=some s→FnOK G0 Tryz.prog f s:=sig_ok ⟨ok_s_SlotSamples,ok_s_IsScript,ok_s_l25Apply,trivial⟩
theorem ok_s_SendScripted:FnOK G0 Tryz.prog 53 S_s_SendScripted:=fn_okS tab0 σok_s_SendScripted Tryz.func53 [] (by kernel_rfl) (by exact trivial) fun x=>by kernel_rfl
noncomputable def s_IsBits(x:Ty.T (.pair (.list (.int .i64)) .unit)):Option (Ty.T (.pair .bool .unit)):=
match s_l01All (x.1,(8192:Int),(1:Int),())with
|none=>none
|some v1=>
some (v1.1,())
noncomputable def S_s_IsBits:Spec:=⟨(.pair (.list (.int .i64)) .unit),(.pair .bool .unit),.unit,rfl,s_IsBits⟩
noncomputable def σ_s_IsBits:FuncId→Option Spec:=sig [(210,S_s_l01All)]
theorem σok_s_IsBits:∀f s,σ_s_IsBits f=some s→FnOK G0 Tryz.prog f s:=sig_ok ⟨ok_s_l01All,trivial⟩
theorem ok_s_IsBits:FnOK G0 Tryz.prog 170 S_s_IsBits:=fn_okS tab0 σok_s_IsBits Tryz.func170 [] (by kernel_rfl) (by exact trivial) fun x=>by kernel_rfl
noncomputable def b_s_l23First_2(x:(Ty.T (.pair (.list (.int .i64)) TCrc))):Option ((Ty.T (.pair (.list (.int .i64)) TCrc)) ⊕ ((Ty.T .unit) ⊕ (Ty.T (.pair (.int .i64) .unit)))):=
match(decide (x.2.2.1<(x.1.length:Int)))with
|true=>
 onSome (idx x.1 x.2.2.1) fun v1=>
 match(v1==x.2.1)with
 |true=>
  some (.inr (.inr (x.2.2.1,())))
 |false=>
  some (.inl (x.1,x.2.1,(IntKind.i64.wrap (x.2.2.1+(1:Int))),()))
|false=>
 some (.inr (.inl (())))
noncomputable def s_l23First(x:Ty.T (.pair (.list (.int .i64)) TCrc)):Option (Ty.T (.pair (.int .i64) .unit)):=
match loopL b_s_l23First_2 (x.1,x.2.2.1,(IntKind.i64.wrap (x.2.1+(1:Int))),())with
|none=>none
|some (.inl v2)=>
 some ((-1:Int),())
|some (.inr v3)=>
 some (v3.1,())
noncomputable def S_s_l23First:Spec:=⟨(.pair (.list (.int .i64)) TCrc),(.pair (.int .i64) .unit),.unit,rfl,s_l23First⟩
noncomputable def σ_s_l23First:FuncId→Option Spec:=sig []
theorem σok_s_l23First:∀f s,σ_s_l23First f=some s→FnOK G0 Tryz.prog f s:=sig_ok trivial
def q_s_l23First_2:LRow:=⟨[0,2,7],(.pair (.list (.int .i64)) TCrc),0,[],.unit,[6],(.pair (.int .i64) .unit)⟩
noncomputable def ls_s_l23First:List LSpec:=[q_s_l23First_2.spec b_s_l23First_2]
theorem lok_s_l23First_2:Lok Γ0 E0 σ_s_l23First (lam Tryz.f307 ls_s_l23First) Tryz.f307 0 q_s_l23First_2 b_s_l23First_2:=fun x=>by kernel_rfl
theorem ok_s_l23First:FnOK G0 Tryz.prog 307 S_s_l23First:=fn_okS tab0 σok_s_l23First Tryz.func307 ls_s_l23First (by kernel_rfl) (by exact⟨(lok_s_l23First_2).lok,trivial⟩) fun x=>by kernel_rfl
noncomputable def s_l22Round(x:Ty.T (.pair (.int .i64) .unit)):Option (Ty.T (.pair (.int .i64) .unit)):=
some ((IntKind.i64.wrap (Int.tdiv (IntKind.i64.wrap (x.1+(4:Int))) (8:Int))),())
noncomputable def S_s_l22Round:Spec:=⟨(.pair (.int .i64) .unit),(.pair (.int .i64) .unit),.unit,rfl,s_l22Round⟩
noncomputable def σ_s_l22Round:FuncId→Option Spec:=sig []
theorem σok_s_l22Round:∀f s,σ_s_l22Round f=some s→FnOK G0 Tryz.prog f s:=sig_ok trivial
theorem ok_s_l22Round:FnOK G0 Tryz.prog 308 S_s_l22Round:=fn_okS tab0 σok_s_l22Round Tryz.func308 [] (by kernel_rfl) (by exact trivial) fun x=>by kernel_rfl
noncomputable def s_l18Preamble(x:Ty.T (.pair (.int .i64) .unit)):Option (Ty.T (.pair .bool .unit)):=
match s_l01In (x.1,(3:Int),(15:Int),())with
|none=>none
|some v1=>
some (v1.1,())
noncomputable def S_s_l18Preamble:Spec:=⟨(.pair (.int .i64) .unit),(.pair .bool .unit),.unit,rfl,s_l18Preamble⟩
noncomputable def σ_s_l18Preamble:FuncId→Option Spec:=sig [(144,S_s_l01In)]
theorem σok_s_l18Preamble:∀f s,σ_s_l18Preamble f=some s→FnOK G0 Tryz.prog f s:=sig_ok ⟨ok_s_l01In,trivial⟩
theorem ok_s_l18Preamble:FnOK G0 Tryz.prog 309 S_s_l18Preamble:=fn_okS tab0 σok_s_l18Preamble Tryz.func309 [] (by kernel_rfl) (by exact trivial) fun x=>by kernel_rfl
noncomputable def s_l23Tail(x:Ty.T (.pair (.list (.int .i64)) (.pair (.int .i64) .unit))):Option (Ty.T (.pair (.int .i64) .unit)):=
match s_l23First (x.1,(IntKind.i64.wrap (x.2.1+(11:Int))),(0:Int),())with
|none=>none
|some v1=>
match(decide (v1.1≥(0:Int)))with
|true=>
 some ((6:Int),())
|false=>
 some ((0:Int),())
noncomputable def S_s_l23Tail:Spec:=⟨(.pair (.list (.int .i64)) (.pair (.int .i64) .unit)),(.pair (.int .i64) .unit),.unit,rfl,s_l23Tail⟩
noncomputable def σ_s_l23Tail:FuncId→Option Spec:=sig [(307,S_s_l23First)]
theorem σok_s_l23Tail:∀f s,σ_s_l23Tail f=some s→FnOK G0 Tryz.prog f s:=sig_ok ⟨ok_s_l23First,trivial⟩
theorem ok_s_l23Tail:FnOK G0 Tryz.prog 310 S_s_l23Tail:=fn_okS tab0 σok_s_l23Tail Tryz.func310 [] (by kernel_rfl) (by exact trivial) fun x=>by kernel_rfl
noncomputable def s_l23At(x:Ty.T (.pair (.list (.int .i64)) (.pair (.int .i64) .unit))):Option (Ty.T (.pair (.int .i64) .unit)):=
match(decide (x.2.1≥(x.1.length:Int)))with
|true=>
 some ((1:Int),())
|false=>
 onSome (idx x.1 x.2.1) fun v1=>
 some (v1,())
noncomputable def S_s_l23At:Spec:=⟨(.pair (.list (.int .i64)) (.pair (.int .i64) .unit)),(.pair (.int .i64) .unit),.unit,rfl,s_l23At⟩
noncomputable def σ_s_l23At:FuncId→Option Spec:=sig []
theorem σok_s_l23At:∀f s,σ_s_l23At f=some s→FnOK G0 Tryz.prog f s:=sig_ok trivial
theorem ok_s_l23At:FnOK G0 Tryz.prog 282 S_s_l23At:=fn_okS tab0 σok_s_l23At Tryz.func282 [] (by kernel_rfl) (by exact trivial) fun x=>by kernel_rfl
noncomputable def b_s_l23Edges_2(x:(Ty.T (.pair (.list (.int .i64)) (.pair (.int .i64) (.pair (.own 2 (.int .i64)) .unit))))):Option ((Ty.T (.pair (.list (.int .i64)) (.pair (.int .i64) (.pair (.own 2 (.int .i64)) .unit)))) ⊕ ((Ty.T .unit) ⊕ (Ty.T (.pair (.own 2 (.int .i64)) (.pair (.int .i64) .unit))))):=
room (x.2.2.1.length+ [x.2.1].length) (
 match s_l23At (x.1,(IntKind.i64.wrap (x.2.1+(76:Int))),())with
 |none=>none
 |some v1=>
 match(v1.1==(0:Int))with
 |true=>
  match s_l23Tail (x.1,(IntKind.i64.wrap (x.2.1+(72:Int))),())with
  |none=>none
  |some v2=>
  some (.inr (.inr ((x.2.2.1++ [x.2.1]),v2.1,())))
 |false=>
  match s_l23First (x.1,(IntKind.i64.wrap (x.2.1+(76:Int))),(0:Int),())with
  |none=>none
  |some v3=>
  match(decide (v3.1<(0:Int)))with
  |true=>
   some (.inr (.inr ([],(6:Int),())))
  |false=>
   match(decide (v3.1>(IntKind.i64.wrap (x.2.1+(84:Int)))))with
   |true=>
    some (.inr (.inr ([],(6:Int),())))
   |false=>
    some (.inl (x.1,v3.1,(x.2.2.1++ [x.2.1]),())))
noncomputable def s_l23Edges(x:Ty.T (.pair (.list (.int .i64)) (.pair (.int .i64) .unit))):Option (Ty.T (.pair (.own 2 (.int .i64)) (.pair (.int .i64) .unit))):=
match loopL b_s_l23Edges_2 (x.1,x.2.1,[],())with
|none=>none
|some (.inl v4)=>
 none
|some (.inr v5)=>
 some (v5.1,v5.2.1,())
noncomputable def S_s_l23Edges:Spec:=⟨(.pair (.list (.int .i64)) (.pair (.int .i64) .unit)),(.pair (.own 2 (.int .i64)) (.pair (.int .i64) .unit)),.unit,rfl,s_l23Edges⟩
noncomputable def σ_s_l23Edges:FuncId→Option Spec:=sig [(282,S_s_l23At),(307,S_s_l23First),(310,S_s_l23Tail)]
theorem σok_s_l23Edges:∀f s,σ_s_l23Edges f=some s→FnOK G0 Tryz.prog f s:=sig_ok ⟨ok_s_l23At,ok_s_l23First,ok_s_l23Tail,trivial⟩
def q_s_l23Edges_2:LRow:=⟨[0,1,6],(.pair (.list (.int .i64)) (.pair (.int .i64) (.pair (.own 2 (.int .i64)) .unit))),999999,[],.unit,[4,5],(.pair (.own 2 (.int .i64)) (.pair (.int .i64) .unit))⟩
noncomputable def ls_s_l23Edges:List LSpec:=[q_s_l23Edges_2.spec b_s_l23Edges_2]
theorem lok_s_l23Edges_2:Lok Γ0 E0 σ_s_l23Edges (lam Tryz.f311 ls_s_l23Edges) Tryz.f311 0 q_s_l23Edges_2 b_s_l23Edges_2:=fun x=>by kernel_rfl
theorem ok_s_l23Edges:FnOK G0 Tryz.prog 311 S_s_l23Edges:=fn_okS tab0 σok_s_l23Edges Tryz.func311 ls_s_l23Edges (by kernel_rfl) (by exact⟨(lok_s_l23Edges_2).lok,trivial⟩) fun x=>by kernel_rfl
noncomputable def s_l23Run(x:Ty.T (.pair (.list (.int .i64)) .unit)):Option (Ty.T (.pair Tl23Result .unit)):=
match s_l23First (x.1,(-1:Int),(0:Int),())with
|none=>none
|some v1=>
match(decide (v1.1<(0:Int)))with
|true=>
 some (((0:Int),[],(4:Int),()),())
|false=>
 match s_l23First (x.1,v1.1,(1:Int),())with
 |none=>none
 |some v2=>
 match(decide (v2.1<(0:Int)))with
 |true=>
  match s_l22Round ((IntKind.i64.wrap ((x.1.length:Int)-v1.1)),())with
  |none=>none
  |some v3=>
  match s_l23First (x.1,(x.1.length:Int),(0:Int),())with
  |none=>none
  |some v4=>
  match s_l18Preamble (v3.1,())with
  |none=>none
  |some v5=>
  match(!v5.1)with
  |true=>
   some (((0:Int),[],(6:Int),()),())
  |false=>
   match(decide (v4.1<(0:Int)))with
   |true=>
    some (((0:Int),[],(6:Int),()),())
   |false=>
    match(decide ((IntKind.i64.wrap (v4.1-(x.1.length:Int)))>(19:Int)))with
    |true=>
     some (((0:Int),[],(6:Int),()),())
    |false=>
     match(decide ((IntKind.i64.wrap (v4.1-(x.1.length:Int)))<(5:Int)))with
     |true=>
      some (((0:Int),[],(6:Int),()),())
     |false=>
      match((IntKind.i64.wrap (v4.1-(x.1.length:Int)))==(12:Int))with
      |true=>
       some (((0:Int),[],(6:Int),()),())
      |false=>
       match(decide ((IntKind.i64.wrap (v4.1-(x.1.length:Int)))<(12:Int)))with
       |true=>
        match s_l23Tail (x.1,v4.1,())with
        |none=>none
        |some v6=>
        some ((v3.1,[],v6.1,()),())
       |false=>
        match s_l23Edges (x.1,v4.1,())with
        |none=>none
        |some v7=>
        some ((v3.1,v7.1,v7.2.1,()),())
 |false=>
  match s_l22Round ((IntKind.i64.wrap (v2.1-v1.1)),())with
  |none=>none
  |some v8=>
  match s_l23First (x.1,v2.1,(0:Int),())with
  |none=>none
  |some v9=>
  match s_l18Preamble (v8.1,())with
  |none=>none
  |some v10=>
  match(!v10.1)with
  |true=>
   some (((0:Int),[],(6:Int),()),())
  |false=>
   match(decide (v9.1<(0:Int)))with
   |true=>
    some (((0:Int),[],(6:Int),()),())
   |false=>
    match(decide ((IntKind.i64.wrap (v9.1-v2.1))>(19:Int)))with
    |true=>
     some (((0:Int),[],(6:Int),()),())
    |false=>
     match(decide ((IntKind.i64.wrap (v9.1-v2.1))<(5:Int)))with
     |true=>
      some (((0:Int),[],(6:Int),()),())
     |false=>
      match((IntKind.i64.wrap (v9.1-v2.1))==(12:Int))with
      |true=>
       some (((0:Int),[],(6:Int),()),())
      |false=>
       match(decide ((IntKind.i64.wrap (v9.1-v2.1))<(12:Int)))with
       |true=>
        match s_l23Tail (x.1,v9.1,())with
        |none=>none
        |some v11=>
        some ((v8.1,[],v11.1,()),())
       |false=>
        match s_l23Edges (x.1,v9.1,())with
        |none=>none
        |some v12=>
        some ((v8.1,v12.1,v12.2.1,()),())
noncomputable def S_s_l23Run:Spec:=⟨(.pair (.list (.int .i64)) .unit),(.pair Tl23Result .unit),.unit,rfl,s_l23Run⟩
noncomputable def σ_s_l23Run:FuncId→Option Spec:=sig [(307,S_s_l23First),(308,S_s_l22Round),(309,S_s_l18Preamble),(310,S_s_l23Tail),(311,S_s_l23Edges)]
theorem σok_s_l23Run:∀f s,σ_s_l23Run f=some s→FnOK G0 Tryz.prog f s:=sig_ok ⟨ok_s_l23First,ok_s_l22Round,ok_s_l18Preamble,ok_s_l23Tail,ok_s_l23Edges,trivial⟩
theorem ok_s_l23Run:FnOK G0 Tryz.prog 281 S_s_l23Run:=fn_okS tab0 σok_s_l23Run Tryz.func281 [] (by kernel_rfl) (by exact trivial) fun x=>by kernel_rfl
noncomputable def s_l23Code(x:Ty.T (.pair (.list (.int .i64)) .unit)):Option (Ty.T (.pair Tl23Result (.pair (.int .i64) .unit))):=
match s_IsBits (x.1,())with
|none=>none
|some v1=>
match(!v1.1)with
|true=>
 some (((0:Int),[],(0:Int),()),(1:Int),())
|false=>
 match s_l23Run (x.1,())with
 |none=>none
 |some v2=>
 some ((v2.1.1,v2.1.2.1,v2.1.2.2.1,()),v2.1.2.2.1,())
noncomputable def S_s_l23Code:Spec:=⟨(.pair (.list (.int .i64)) .unit),(.pair Tl23Result (.pair (.int .i64) .unit)),.unit,rfl,s_l23Code⟩
noncomputable def σ_s_l23Code:FuncId→Option Spec:=sig [(170,S_s_IsBits),(281,S_s_l23Run)]
theorem σok_s_l23Code:∀f s,σ_s_l23Code f=some s→FnOK G0 Tryz.prog f s:=sig_ok ⟨ok_s_IsBits,ok_s_l23Run,trivial⟩
theorem ok_s_l23Code:FnOK G0 Tryz.prog 234 S_s_l23Code:=fn_okS tab0 σok_s_l23Code Tryz.func234 [] (by kernel_rfl) (by exact trivial) fun x=>by kernel_rfl
noncomputable def b_s_l23Bytes_7(x:(Ty.T (.pair (.list (.int .i64)) (.pair (.list (.int .i64)) (.pair (.own 2 (.int .i64)) (.pair (.int .i64) TCrc)))))):Option ((Ty.T (.pair (.list (.int .i64)) (.pair (.list (.int .i64)) (.pair (.own 2 (.int .i64)) (.pair (.int .i64) TCrc))))) ⊕ ((Ty.T (.pair (.list (.int .i64)) (.pair (.list (.int .i64)) (.pair (.own 2 (.int .i64)) TCrc)))) ⊕ (Ty.T .unit))):=
match(decide (x.2.2.2.2.2.1<(8:Int)))with
|true=>
 onSome (idx x.2.1 x.2.2.2.1) fun v1=>
 match s_l23At (x.1,(IntKind.i64.wrap ((IntKind.i64.wrap (v1+(IntKind.i64.wrap ((8:Int)*x.2.2.2.2.2.1))))+(12:Int))),())with
 |none=>none
 |some v2=>
 some (.inl (x.1,x.2.1,x.2.2.1,x.2.2.2.1,(IntKind.i64.wrap ((IntKind.i64.wrap ((2:Int)*x.2.2.2.2.1))+v2.1)),(IntKind.i64.wrap (x.2.2.2.2.2.1+(1:Int))),()))
|false=>
 some (.inr (.inl (x.1,x.2.1,x.2.2.1,x.2.2.2.1,x.2.2.2.2.1,())))
noncomputable def b_s_l23Bytes_3(x:(Ty.T (.pair (.list (.int .i64)) (.pair (.list (.int .i64)) (.pair (.own 2 (.int .i64)) (.pair (.int .i64) .unit)))))):Option ((Ty.T (.pair (.list (.int .i64)) (.pair (.list (.int .i64)) (.pair (.own 2 (.int .i64)) (.pair (.int .i64) .unit))))) ⊕ ((Ty.T (.pair (.own 2 (.int .i64)) .unit)) ⊕ (Ty.T .unit))):=
match(decide (x.2.2.2.1<(x.2.1.length:Int)))with
|true=>
 match loopL b_s_l23Bytes_7 (x.1,x.2.1,x.2.2.1,x.2.2.2.1,(0:Int),(0:Int),())with
 |none=>none
 |some (.inl v1)=>
  room (v1.2.2.1.length+ [v1.2.2.2.2.1].length) (
   some (.inl (v1.1,v1.2.1,(v1.2.2.1++ [v1.2.2.2.2.1]),(IntKind.i64.wrap (v1.2.2.2.1+(1:Int))),())))
 |some (.inr v3)=>
  some (.inr (.inr (())))
|false=>
 some (.inr (.inl (x.2.2.1,())))
noncomputable def s_l23Bytes(x:Ty.T (.pair (.list (.int .i64)) (.pair (.list (.int .i64)) .unit))):Option (Ty.T (.pair (.own 2 (.int .i64)) .unit)):=
match loopL b_s_l23Bytes_3 (x.1,x.2.1,[],(0:Int),())with
|none=>none
|some (.inl v4)=>
 some (v4.1,())
|some (.inr v6)=>
 none
noncomputable def S_s_l23Bytes:Spec:=⟨(.pair (.list (.int .i64)) (.pair (.list (.int .i64)) .unit)),(.pair (.own 2 (.int .i64)) .unit),.unit,rfl,s_l23Bytes⟩
noncomputable def σ_s_l23Bytes:FuncId→Option Spec:=sig [(282,S_s_l23At)]
theorem σok_s_l23Bytes:∀f s,σ_s_l23Bytes f=some s→FnOK G0 Tryz.prog f s:=sig_ok ⟨ok_s_l23At,trivial⟩
def q_s_l23Bytes_3:LRow:=⟨[0,1,5,6],(.pair (.list (.int .i64)) (.pair (.list (.int .i64)) (.pair (.own 2 (.int .i64)) (.pair (.int .i64) .unit)))),0,[5],(.pair (.own 2 (.int .i64)) .unit),[],.unit⟩
def q_s_l23Bytes_7:LRow:=⟨[0,1,5,6,7,8],(.pair (.list (.int .i64)) (.pair (.list (.int .i64)) (.pair (.own 2 (.int .i64)) (.pair (.int .i64) TCrc)))),2,[0,1,5,6,7],(.pair (.list (.int .i64)) (.pair (.list (.int .i64)) (.pair (.own 2 (.int .i64)) TCrc))),[],.unit⟩
noncomputable def ls_s_l23Bytes:List LSpec:=[q_s_l23Bytes_3.spec b_s_l23Bytes_3,q_s_l23Bytes_7.spec b_s_l23Bytes_7]
theorem lok_s_l23Bytes_3:Lok Γ0 E0 σ_s_l23Bytes (lam Tryz.f235 ls_s_l23Bytes) Tryz.f235 0 q_s_l23Bytes_3 b_s_l23Bytes_3:=fun x=>by kernel_rfl
theorem lok_s_l23Bytes_7:Lok Γ0 E0 σ_s_l23Bytes (lam Tryz.f235 ls_s_l23Bytes) Tryz.f235 1 q_s_l23Bytes_7 b_s_l23Bytes_7:=fun x=>by kernel_rfl
theorem ok_s_l23Bytes:FnOK G0 Tryz.prog 235 S_s_l23Bytes:=fn_okS tab0 σok_s_l23Bytes Tryz.func235 ls_s_l23Bytes (by kernel_rfl) (by exact⟨(lok_s_l23Bytes_3).lok,(lok_s_l23Bytes_7).lok,trivial⟩) fun x=>by kernel_rfl
noncomputable def s_DecodeVoted(x:Ty.T (.pair (.list (.int .i64)) .unit)):Option (Ty.T (.pair (.own 2 (.int .i64)) (.pair (.int .i64) .unit))):=
match s_l23Code (x.1,())with
|none=>none
|some v1=>
match(v1.2.1 != (0:Int))with
|true=>
 some ([],v1.2.1,())
|false=>
 match s_l23Bytes (x.1,v1.1.2.1,())with
 |none=>none
 |some v2=>
 some (v2.1,(0:Int),())
noncomputable def S_s_DecodeVoted:Spec:=⟨(.pair (.list (.int .i64)) .unit),(.pair (.own 2 (.int .i64)) (.pair (.int .i64) .unit)),.unit,rfl,s_DecodeVoted⟩
noncomputable def σ_s_DecodeVoted:FuncId→Option Spec:=sig [(234,S_s_l23Code),(235,S_s_l23Bytes)]
theorem σok_s_DecodeVoted:∀f s,σ_s_DecodeVoted f=some s→FnOK G0 Tryz.prog f s:=sig_ok ⟨ok_s_l23Code,ok_s_l23Bytes,trivial⟩
theorem ok_s_DecodeVoted:FnOK G0 Tryz.prog 197 S_s_DecodeVoted:=fn_okS tab0 σok_s_DecodeVoted Tryz.func197 [] (by kernel_rfl) (by exact trivial) fun x=>by kernel_rfl
noncomputable def b_s_l21Ones_3(x:(Ty.T (.pair (.list (.int .i64)) (.pair (.int .i64) TCrc)))):Option ((Ty.T (.pair (.list (.int .i64)) (.pair (.int .i64) TCrc))) ⊕ ((Ty.T (.pair (.int .i64) .unit)) ⊕ (Ty.T .unit))):=
match(decide (x.2.2.2.1≤x.2.1))with
|true=>
 match(decide (x.2.2.2.1<(0:Int)))with
 |true=>
  some (.inl (x.1,x.2.1,(IntKind.i64.wrap (x.2.2.1+(1:Int))),(IntKind.i64.wrap (x.2.2.2.1+(1:Int))),()))
 |false=>
  onSome (idx x.1 x.2.2.2.1) fun v1=>
  some (.inl (x.1,x.2.1,(IntKind.i64.wrap (x.2.2.1+v1)),(IntKind.i64.wrap (x.2.2.2.1+(1:Int))),()))
|false=>
 some (.inr (.inl (x.2.2.1,())))
noncomputable def s_l21Ones(x:Ty.T (.pair (.list (.int .i64)) (.pair (.int .i64) .unit))):Option (Ty.T (.pair (.int .i64) .unit)):=
match loopL b_s_l21Ones_3 (x.1,x.2.1,(0:Int),(IntKind.i64.wrap ((IntKind.i64.wrap (x.2.1-(5:Int)))+(1:Int))),())with
|none=>none
|some (.inl v2)=>
 some (v2.1,())
|some (.inr v4)=>
 none
noncomputable def S_s_l21Ones:Spec:=⟨(.pair (.list (.int .i64)) (.pair (.int .i64) .unit)),(.pair (.int .i64) .unit),.unit,rfl,s_l21Ones⟩
noncomputable def σ_s_l21Ones:FuncId→Option Spec:=sig []
theorem σok_s_l21Ones:∀f s,σ_s_l21Ones f=some s→FnOK G0 Tryz.prog f s:=sig_ok trivial
def q_s_l21Ones_3:LRow:=⟨[0,1,5,6],(.pair (.list (.int .i64)) (.pair (.int .i64) TCrc)),0,[5],(.pair (.int .i64) .unit),[],.unit⟩
noncomputable def ls_s_l21Ones:List LSpec:=[q_s_l21Ones_3.spec b_s_l21Ones_3]
theorem lok_s_l21Ones_3:Lok Γ0 E0 σ_s_l21Ones (lam Tryz.f236 ls_s_l21Ones) Tryz.f236 0 q_s_l21Ones_3 b_s_l21Ones_3:=fun x=>by kernel_rfl
theorem ok_s_l21Ones:FnOK G0 Tryz.prog 236 S_s_l21Ones:=fn_okS tab0 σok_s_l21Ones Tryz.func236 ls_s_l21Ones (by kernel_rfl) (by exact⟨(lok_s_l21Ones_3).lok,trivial⟩) fun x=>by kernel_rfl
noncomputable def b_s_l21Vote_3(x:(Ty.T (.pair (.list (.int .i64)) (.pair (.own 2 (.int .i64)) (.pair (.int .i64) .unit))))):Option ((Ty.T (.pair (.list (.int .i64)) (.pair (.own 2 (.int .i64)) (.pair (.int .i64) .unit)))) ⊕ ((Ty.T (.pair (.own 2 (.int .i64)) .unit)) ⊕ (Ty.T .unit))):=
match(decide (x.2.2.1<(x.1.length:Int)))with
|true=>
 match s_l21Ones (x.1,x.2.2.1,())with
 |none=>none
 |some v1=>
 match(decide (v1.1≥(3:Int)))with
 |true=>
  room (x.2.1.length+ [(1:Int)].length) (
   some (.inl (x.1,(x.2.1++ [(1:Int)]),(IntKind.i64.wrap (x.2.2.1+(1:Int))),())))
 |false=>
  room (x.2.1.length+ [(0:Int)].length) (
   some (.inl (x.1,(x.2.1++ [(0:Int)]),(IntKind.i64.wrap (x.2.2.1+(1:Int))),())))
|false=>
 some (.inr (.inl (x.2.1,())))
noncomputable def s_l21Vote(x:Ty.T (.pair (.list (.int .i64)) .unit)):Option (Ty.T (.pair (.own 2 (.int .i64)) .unit)):=
match loopL b_s_l21Vote_3 (x.1,[],(0:Int),())with
|none=>none
|some (.inl v2)=>
 some (v2.1,())
|some (.inr v4)=>
 none
noncomputable def S_s_l21Vote:Spec:=⟨(.pair (.list (.int .i64)) .unit),(.pair (.own 2 (.int .i64)) .unit),.unit,rfl,s_l21Vote⟩
noncomputable def σ_s_l21Vote:FuncId→Option Spec:=sig [(236,S_s_l21Ones)]
theorem σok_s_l21Vote:∀f s,σ_s_l21Vote f=some s→FnOK G0 Tryz.prog f s:=sig_ok ⟨ok_s_l21Ones,trivial⟩
def q_s_l21Vote_3:LRow:=⟨[0,3,4],(.pair (.list (.int .i64)) (.pair (.own 2 (.int .i64)) (.pair (.int .i64) .unit))),0,[3],(.pair (.own 2 (.int .i64)) .unit),[],.unit⟩
noncomputable def ls_s_l21Vote:List LSpec:=[q_s_l21Vote_3.spec b_s_l21Vote_3]
theorem lok_s_l21Vote_3:Lok Γ0 E0 σ_s_l21Vote (lam Tryz.f198 ls_s_l21Vote) Tryz.f198 0 q_s_l21Vote_3 b_s_l21Vote_3:=fun x=>by kernel_rfl
theorem ok_s_l21Vote:FnOK G0 Tryz.prog 198 S_s_l21Vote:=fn_okS tab0 σok_s_l21Vote Tryz.func198 ls_s_l21Vote (by kernel_rfl) (by exact⟨(lok_s_l21Vote_3).lok,trivial⟩) fun x=>by kernel_rfl
noncomputable def s_DecodeSamples(x:Ty.T (.pair (.list (.int .i64)) .unit)):Option (Ty.T (.pair (.own 2 (.int .i64)) (.pair (.int .i64) .unit))):=
match s_IsBits (x.1,())with
|none=>none
|some v1=>
match(!v1.1)with
|true=>
 some ([],(1:Int),())
|false=>
 match s_l21Vote (x.1,())with
 |none=>none
 |some v2=>
 match s_DecodeVoted (v2.1,())with
 |none=>none
 |some v3=>
 some (v3.1,v3.2.1,())
noncomputable def S_s_DecodeSamples:Spec:=⟨(.pair (.list (.int .i64)) .unit),(.pair (.own 2 (.int .i64)) (.pair (.int .i64) .unit)),.unit,rfl,s_DecodeSamples⟩
noncomputable def σ_s_DecodeSamples:FuncId→Option Spec:=sig [(170,S_s_IsBits),(197,S_s_DecodeVoted),(198,S_s_l21Vote)]
theorem σok_s_DecodeSamples:∀f s,σ_s_DecodeSamples f=some s→FnOK G0 Tryz.prog f s:=sig_ok ⟨ok_s_IsBits,ok_s_DecodeVoted,ok_s_l21Vote,trivial⟩
theorem ok_s_DecodeSamples:FnOK G0 Tryz.prog 148 S_s_DecodeSamples:=fn_okS tab0 σok_s_DecodeSamples Tryz.func148 [] (by kernel_rfl) (by exact trivial) fun x=>by kernel_rfl
noncomputable def b_s_l01Same_4(x:(Ty.T (.pair (.list (.int .i64)) (.pair (.list (.int .i64)) (.pair (.int .i64) .unit))))):Option ((Ty.T (.pair (.list (.int .i64)) (.pair (.list (.int .i64)) (.pair (.int .i64) .unit)))) ⊕ ((Ty.T .unit) ⊕ (Ty.T (.pair .bool .unit)))):=
match(decide (x.2.2.1<(x.1.length:Int)))with
|true=>
 onSome (idx x.1 x.2.2.1) fun v1=>
 onSome (idx x.2.1 x.2.2.1) fun v2=>
 match(v1 != v2)with
 |true=>
  some (.inr (.inr (false,())))
 |false=>
  some (.inl (x.1,x.2.1,(IntKind.i64.wrap (x.2.2.1+(1:Int))),()))
|false=>
 some (.inr (.inl (())))
noncomputable def s_l01Same(x:Ty.T (.pair (.list (.int .i64)) (.pair (.list (.int .i64)) .unit))):Option (Ty.T (.pair .bool .unit)):=
match((x.1.length:Int) != (x.2.1.length:Int))with
|true=>
 some (false,())
|false=>
 match loopL b_s_l01Same_4 (x.1,x.2.1,(0:Int),())with
 |none=>none
 |some (.inl v3)=>
  some (true,())
 |some (.inr v4)=>
  some (v4.1,())
noncomputable def S_s_l01Same:Spec:=⟨(.pair (.list (.int .i64)) (.pair (.list (.int .i64)) .unit)),(.pair .bool .unit),.unit,rfl,s_l01Same⟩
noncomputable def σ_s_l01Same:FuncId→Option Spec:=sig []
theorem σok_s_l01Same:∀f s,σ_s_l01Same f=some s→FnOK G0 Tryz.prog f s:=sig_ok trivial
def q_s_l01Same_4:LRow:=⟨[0,1,5],(.pair (.list (.int .i64)) (.pair (.list (.int .i64)) (.pair (.int .i64) .unit))),0,[],.unit,[4],(.pair .bool .unit)⟩
noncomputable def ls_s_l01Same:List LSpec:=[q_s_l01Same_4.spec b_s_l01Same_4]
theorem lok_s_l01Same_4:Lok Γ0 E0 σ_s_l01Same (lam Tryz.f171 ls_s_l01Same) Tryz.f171 0 q_s_l01Same_4 b_s_l01Same_4:=fun x=>by kernel_rfl
theorem ok_s_l01Same:FnOK G0 Tryz.prog 171 S_s_l01Same:=fn_okS tab0 σok_s_l01Same Tryz.func171 ls_s_l01Same (by kernel_rfl) (by exact⟨(lok_s_l01Same_4).lok,trivial⟩) fun x=>by kernel_rfl
noncomputable def s_l04State(x:Ty.T (.pair (.list (.int .i64)) .unit)):Option (Ty.T (.pair TState .unit)):=
match s_l01Number (x.1,(0:Int),(16:Int),())with
|none=>none
|some v1=>
match s_l01Number (x.1,(16:Int),(4:Int),())with
|none=>none
|some v2=>
match s_l01Number (x.1,(20:Int),(4:Int),())with
|none=>none
|some v3=>
match s_l01Number (x.1,(24:Int),(8:Int),())with
|none=>none
|some v4=>
match s_l01Number (x.1,(32:Int),(32:Int),())with
|none=>none
|some v5=>
some ((v1.1,v2.1,v3.1,v4.1,v5.1,()),())
noncomputable def S_s_l04State:Spec:=⟨(.pair (.list (.int .i64)) .unit),(.pair TState .unit),.unit,rfl,s_l04State⟩
noncomputable def σ_s_l04State:FuncId→Option Spec:=sig [(293,S_s_l01Number)]
theorem σok_s_l04State:∀f s,σ_s_l04State f=some s→FnOK G0 Tryz.prog f s:=sig_ok ⟨ok_s_l01Number,trivial⟩
theorem ok_s_l04State:FnOK G0 Tryz.prog 283 S_s_l04State:=fn_okS tab0 σok_s_l04State Tryz.func283 [] (by kernel_rfl) (by exact trivial) fun x=>by kernel_rfl
noncomputable def s_l06Frame(x:Ty.T (.pair (.list (.int .i64)) .unit)):Option (Ty.T (.pair (.pair (.int .i64) (.pair (.int .i64) (.pair TState (.pair (.own 2 (.int .i64)) .unit)))) (.pair .bool .unit))):=
match((x.1.length:Int)==(0:Int))with
|true=>
 some (((0:Int),(0:Int),((0:Int),(0:Int),(0:Int),(0:Int),(0:Int),()),[],()),false,())
|false=>
 onSome (idx x.1 (0:Int)) fun v1=>
 onSome (idx x.1 (0:Int)) fun v2=>
 same (
  onSome (bounds x.1.length (some (.dat (.int .i64) (1:Int))) none) fun v3=>
  match s_l06State ((IntKind.i64.wrap (Int.tdiv v1 (64:Int))),())with
  |none=>none
  |some v4=>
  match v4.1 with
  |true=>
   match(decide (((List.drop v3.1 (List.take v3.2 x.1)).length:Int)<(8:Int)))with
   |true=>
    some (((0:Int),(0:Int),((0:Int),(0:Int),(0:Int),(0:Int),(0:Int),()),[],()),false,())
   |false=>
    onSome (bounds (List.drop v3.1 (List.take v3.2 x.1)).length none (some (.dat (.int .i64) (8:Int)))) fun v5=>
    match s_l01Bits ((List.drop v5.1 (List.take v5.2 (List.drop v3.1 (List.take v3.2 x.1)))),())with
    |none=>none
    |some v6=>
    match s_l04State (v6.1,())with
    |none=>none
    |some v7=>
    onSome (bounds (List.drop v3.1 (List.take v3.2 x.1)).length (some (.dat (.int .i64) (8:Int))) none) fun v8=>
    match s_l06Data ((IntKind.i64.wrap (Int.tdiv v1 (64:Int))),())with
    |none=>none
    |some v9=>
    match v9.1 with
    |true=>
     match(((List.drop v8.1 (List.take v8.2 (List.drop v3.1 (List.take v3.2 x.1)))).length:Int)==(0:Int))with
     |true=>
      some (((0:Int),(0:Int),((0:Int),(0:Int),(0:Int),(0:Int),(0:Int),()),[],()),false,())
     |false=>
      onSome (bounds (List.drop v8.1 (List.take v8.2 (List.drop v3.1 (List.take v3.2 x.1)))).length (some (.dat (.int .i64) (1:Int))) none) fun v10=>
      match s_l01Own ((List.drop v10.1 (List.take v10.2 (List.drop v8.1 (List.take v8.2 (List.drop v3.1 (List.take v3.2 x.1)))))),())with
      |none=>none
      |some v11=>
      both (
       match s_IsFrame (((IntKind.i64.wrap (Int.tdiv v1 (64:Int))),(Int.tmod (IntKind.i64.wrap (Int.tdiv v2 (8:Int))) (8:Int)),(v7.1.1,v7.1.2.1,v7.1.2.2.1,v7.1.2.2.2.1,v7.1.2.2.2.2.1,()),v11.1,()),())with
       |none=>none
       |some v12=>
       match v12.1 with
       |true=>
        match s_l06Body (((IntKind.i64.wrap (Int.tdiv v1 (64:Int))),(Int.tmod (IntKind.i64.wrap (Int.tdiv v2 (8:Int))) (8:Int)),(v7.1.1,v7.1.2.1,v7.1.2.2.1,v7.1.2.2.2.1,v7.1.2.2.2.2.1,()),v11.1,()),())with
        |none=>none
        |some v13=>
        match s_l01Same (v13.1,x.1,())with
        |none=>none
        |some v14=>
        some (((IntKind.i64.wrap (Int.tdiv v1 (64:Int))),(Int.tmod (IntKind.i64.wrap (Int.tdiv v2 (8:Int))) (8:Int)),(v7.1.1,v7.1.2.1,v7.1.2.2.1,v7.1.2.2.2.1,v7.1.2.2.2.2.1,()),v11.1,()),v14.1,())
       |false=>
        some (((IntKind.i64.wrap (Int.tdiv v1 (64:Int))),(Int.tmod (IntKind.i64.wrap (Int.tdiv v2 (8:Int))) (8:Int)),(v7.1.1,v7.1.2.1,v7.1.2.2.1,v7.1.2.2.2.1,v7.1.2.2.2.2.1,()),v11.1,()),false,())) (
       both (
        match s_IsFrame (((IntKind.i64.wrap (Int.tdiv v1 (64:Int))),(Int.tmod (IntKind.i64.wrap (Int.tdiv v2 (8:Int))) (8:Int)),(v7.1.1,v7.1.2.1,v7.1.2.2.1,v7.1.2.2.2.1,v7.1.2.2.2.2.1,()),v11.1,()),())with
        |none=>none
        |some v12=>
        match v12.1 with
        |true=>
         match s_l06Body (((IntKind.i64.wrap (Int.tdiv v1 (64:Int))),(Int.tmod (IntKind.i64.wrap (Int.tdiv v2 (8:Int))) (8:Int)),(v7.1.1,v7.1.2.1,v7.1.2.2.1,v7.1.2.2.2.1,v7.1.2.2.2.2.1,()),v11.1,()),())with
         |none=>none
         |some v13=>
         match s_l01Same (v13.1,x.1,())with
         |none=>none
         |some v14=>
         some (((IntKind.i64.wrap (Int.tdiv v1 (64:Int))),(Int.tmod (IntKind.i64.wrap (Int.tdiv v2 (8:Int))) (8:Int)),(v7.1.1,v7.1.2.1,v7.1.2.2.1,v7.1.2.2.2.1,v7.1.2.2.2.2.1,()),v11.1,()),v14.1,())
        |false=>
         some (((IntKind.i64.wrap (Int.tdiv v1 (64:Int))),(Int.tmod (IntKind.i64.wrap (Int.tdiv v2 (8:Int))) (8:Int)),(v7.1.1,v7.1.2.1,v7.1.2.2.1,v7.1.2.2.2.1,v7.1.2.2.2.2.1,()),v11.1,()),false,())) (
        match s_IsFrame (((IntKind.i64.wrap (Int.tdiv v1 (64:Int))),(Int.tmod (IntKind.i64.wrap (Int.tdiv v2 (8:Int))) (8:Int)),(v7.1.1,v7.1.2.1,v7.1.2.2.1,v7.1.2.2.2.1,v7.1.2.2.2.2.1,()),v11.1,()),())with
        |none=>none
        |some v12=>
        match v12.1 with
        |true=>
         both (
          match s_l06Body (((IntKind.i64.wrap (Int.tdiv v1 (64:Int))),(Int.tmod (IntKind.i64.wrap (Int.tdiv v2 (8:Int))) (8:Int)),(v7.1.1,v7.1.2.1,v7.1.2.2.1,v7.1.2.2.2.1,v7.1.2.2.2.2.1,()),v11.1,()),())with
          |none=>none
          |some v13=>
          match s_l01Same (v13.1,x.1,())with
          |none=>none
          |some v14=>
          some (((IntKind.i64.wrap (Int.tdiv v1 (64:Int))),(Int.tmod (IntKind.i64.wrap (Int.tdiv v2 (8:Int))) (8:Int)),(v7.1.1,v7.1.2.1,v7.1.2.2.1,v7.1.2.2.2.1,v7.1.2.2.2.2.1,()),v11.1,()),v14.1,())) (
          both (
           match s_l06Body (((IntKind.i64.wrap (Int.tdiv v1 (64:Int))),(Int.tmod (IntKind.i64.wrap (Int.tdiv v2 (8:Int))) (8:Int)),(v7.1.1,v7.1.2.1,v7.1.2.2.1,v7.1.2.2.2.1,v7.1.2.2.2.2.1,()),v11.1,()),())with
           |none=>none
           |some v13=>
           match s_l01Same (v13.1,x.1,())with
           |none=>none
           |some v14=>
           some (((IntKind.i64.wrap (Int.tdiv v1 (64:Int))),(Int.tmod (IntKind.i64.wrap (Int.tdiv v2 (8:Int))) (8:Int)),(v7.1.1,v7.1.2.1,v7.1.2.2.1,v7.1.2.2.2.1,v7.1.2.2.2.2.1,()),v11.1,()),v14.1,())) (
           match s_l06Body (((IntKind.i64.wrap (Int.tdiv v1 (64:Int))),(Int.tmod (IntKind.i64.wrap (Int.tdiv v2 (8:Int))) (8:Int)),(v7.1.1,v7.1.2.1,v7.1.2.2.1,v7.1.2.2.2.1,v7.1.2.2.2.2.1,()),v11.1,()),())with
           |none=>none
           |some v13=>
           same (
            match s_l01Same (v13.1,x.1,())with
            |none=>none
            |some v14=>
            some (((IntKind.i64.wrap (Int.tdiv v1 (64:Int))),(Int.tmod (IntKind.i64.wrap (Int.tdiv v2 (8:Int))) (8:Int)),(v7.1.1,v7.1.2.1,v7.1.2.2.1,v7.1.2.2.2.1,v7.1.2.2.2.2.1,()),v11.1,()),v14.1,()))))
        |false=>
         both (
          some (((IntKind.i64.wrap (Int.tdiv v1 (64:Int))),(Int.tmod (IntKind.i64.wrap (Int.tdiv v2 (8:Int))) (8:Int)),(v7.1.1,v7.1.2.1,v7.1.2.2.1,v7.1.2.2.2.1,v7.1.2.2.2.2.1,()),v11.1,()),false,())) (
          both (
           some (((IntKind.i64.wrap (Int.tdiv v1 (64:Int))),(Int.tmod (IntKind.i64.wrap (Int.tdiv v2 (8:Int))) (8:Int)),(v7.1.1,v7.1.2.1,v7.1.2.2.1,v7.1.2.2.2.1,v7.1.2.2.2.2.1,()),v11.1,()),false,())) (
           same (
            some (((IntKind.i64.wrap (Int.tdiv v1 (64:Int))),(Int.tmod (IntKind.i64.wrap (Int.tdiv v2 (8:Int))) (8:Int)),(v7.1.1,v7.1.2.1,v7.1.2.2.1,v7.1.2.2.2.1,v7.1.2.2.2.2.1,()),v11.1,()),false,()))))))
    |false=>
     both (
      match s_IsFrame (((IntKind.i64.wrap (Int.tdiv v1 (64:Int))),(Int.tmod (IntKind.i64.wrap (Int.tdiv v2 (8:Int))) (8:Int)),(v7.1.1,v7.1.2.1,v7.1.2.2.1,v7.1.2.2.2.1,v7.1.2.2.2.2.1,()),[],()),())with
      |none=>none
      |some v15=>
      match v15.1 with
      |true=>
       match s_l06Body (((IntKind.i64.wrap (Int.tdiv v1 (64:Int))),(Int.tmod (IntKind.i64.wrap (Int.tdiv v2 (8:Int))) (8:Int)),(v7.1.1,v7.1.2.1,v7.1.2.2.1,v7.1.2.2.2.1,v7.1.2.2.2.2.1,()),[],()),())with
       |none=>none
       |some v16=>
       match s_l01Same (v16.1,x.1,())with
       |none=>none
       |some v17=>
       some (((IntKind.i64.wrap (Int.tdiv v1 (64:Int))),(Int.tmod (IntKind.i64.wrap (Int.tdiv v2 (8:Int))) (8:Int)),(v7.1.1,v7.1.2.1,v7.1.2.2.1,v7.1.2.2.2.1,v7.1.2.2.2.2.1,()),[],()),v17.1,())
      |false=>
       some (((IntKind.i64.wrap (Int.tdiv v1 (64:Int))),(Int.tmod (IntKind.i64.wrap (Int.tdiv v2 (8:Int))) (8:Int)),(v7.1.1,v7.1.2.1,v7.1.2.2.1,v7.1.2.2.2.1,v7.1.2.2.2.2.1,()),[],()),false,())) (
      both (
       match s_IsFrame (((IntKind.i64.wrap (Int.tdiv v1 (64:Int))),(Int.tmod (IntKind.i64.wrap (Int.tdiv v2 (8:Int))) (8:Int)),(v7.1.1,v7.1.2.1,v7.1.2.2.1,v7.1.2.2.2.1,v7.1.2.2.2.2.1,()),[],()),())with
       |none=>none
       |some v15=>
       match v15.1 with
       |true=>
        match s_l06Body (((IntKind.i64.wrap (Int.tdiv v1 (64:Int))),(Int.tmod (IntKind.i64.wrap (Int.tdiv v2 (8:Int))) (8:Int)),(v7.1.1,v7.1.2.1,v7.1.2.2.1,v7.1.2.2.2.1,v7.1.2.2.2.2.1,()),[],()),())with
        |none=>none
        |some v16=>
        match s_l01Same (v16.1,x.1,())with
        |none=>none
        |some v17=>
        some (((IntKind.i64.wrap (Int.tdiv v1 (64:Int))),(Int.tmod (IntKind.i64.wrap (Int.tdiv v2 (8:Int))) (8:Int)),(v7.1.1,v7.1.2.1,v7.1.2.2.1,v7.1.2.2.2.1,v7.1.2.2.2.2.1,()),[],()),v17.1,())
       |false=>
        some (((IntKind.i64.wrap (Int.tdiv v1 (64:Int))),(Int.tmod (IntKind.i64.wrap (Int.tdiv v2 (8:Int))) (8:Int)),(v7.1.1,v7.1.2.1,v7.1.2.2.1,v7.1.2.2.2.1,v7.1.2.2.2.2.1,()),[],()),false,())) (
       match s_IsFrame (((IntKind.i64.wrap (Int.tdiv v1 (64:Int))),(Int.tmod (IntKind.i64.wrap (Int.tdiv v2 (8:Int))) (8:Int)),(v7.1.1,v7.1.2.1,v7.1.2.2.1,v7.1.2.2.2.1,v7.1.2.2.2.2.1,()),[],()),())with
       |none=>none
       |some v15=>
       match v15.1 with
       |true=>
        both (
         match s_l06Body (((IntKind.i64.wrap (Int.tdiv v1 (64:Int))),(Int.tmod (IntKind.i64.wrap (Int.tdiv v2 (8:Int))) (8:Int)),(v7.1.1,v7.1.2.1,v7.1.2.2.1,v7.1.2.2.2.1,v7.1.2.2.2.2.1,()),[],()),())with
         |none=>none
         |some v16=>
         match s_l01Same (v16.1,x.1,())with
         |none=>none
         |some v17=>
         some (((IntKind.i64.wrap (Int.tdiv v1 (64:Int))),(Int.tmod (IntKind.i64.wrap (Int.tdiv v2 (8:Int))) (8:Int)),(v7.1.1,v7.1.2.1,v7.1.2.2.1,v7.1.2.2.2.1,v7.1.2.2.2.2.1,()),[],()),v17.1,())) (
         both (
          match s_l06Body (((IntKind.i64.wrap (Int.tdiv v1 (64:Int))),(Int.tmod (IntKind.i64.wrap (Int.tdiv v2 (8:Int))) (8:Int)),(v7.1.1,v7.1.2.1,v7.1.2.2.1,v7.1.2.2.2.1,v7.1.2.2.2.2.1,()),[],()),())with
          |none=>none
          |some v16=>
          match s_l01Same (v16.1,x.1,())with
          |none=>none
          |some v17=>
          some (((IntKind.i64.wrap (Int.tdiv v1 (64:Int))),(Int.tmod (IntKind.i64.wrap (Int.tdiv v2 (8:Int))) (8:Int)),(v7.1.1,v7.1.2.1,v7.1.2.2.1,v7.1.2.2.2.1,v7.1.2.2.2.2.1,()),[],()),v17.1,())) (
          match s_l06Body (((IntKind.i64.wrap (Int.tdiv v1 (64:Int))),(Int.tmod (IntKind.i64.wrap (Int.tdiv v2 (8:Int))) (8:Int)),(v7.1.1,v7.1.2.1,v7.1.2.2.1,v7.1.2.2.2.1,v7.1.2.2.2.2.1,()),[],()),())with
          |none=>none
          |some v16=>
          same (
           match s_l01Same (v16.1,x.1,())with
           |none=>none
           |some v17=>
           some (((IntKind.i64.wrap (Int.tdiv v1 (64:Int))),(Int.tmod (IntKind.i64.wrap (Int.tdiv v2 (8:Int))) (8:Int)),(v7.1.1,v7.1.2.1,v7.1.2.2.1,v7.1.2.2.2.1,v7.1.2.2.2.2.1,()),[],()),v17.1,()))))
       |false=>
        both (
         some (((IntKind.i64.wrap (Int.tdiv v1 (64:Int))),(Int.tmod (IntKind.i64.wrap (Int.tdiv v2 (8:Int))) (8:Int)),(v7.1.1,v7.1.2.1,v7.1.2.2.1,v7.1.2.2.2.1,v7.1.2.2.2.2.1,()),[],()),false,())) (
         both (
          some (((IntKind.i64.wrap (Int.tdiv v1 (64:Int))),(Int.tmod (IntKind.i64.wrap (Int.tdiv v2 (8:Int))) (8:Int)),(v7.1.1,v7.1.2.1,v7.1.2.2.1,v7.1.2.2.2.1,v7.1.2.2.2.2.1,()),[],()),false,())) (
          same (
           some (((IntKind.i64.wrap (Int.tdiv v1 (64:Int))),(Int.tmod (IntKind.i64.wrap (Int.tdiv v2 (8:Int))) (8:Int)),(v7.1.1,v7.1.2.1,v7.1.2.2.1,v7.1.2.2.2.1,v7.1.2.2.2.2.1,()),[],()),false,()))))))
  |false=>
   match s_l06Data ((IntKind.i64.wrap (Int.tdiv v1 (64:Int))),())with
   |none=>none
   |some v18=>
   match v18.1 with
   |true=>
    match(((List.drop v3.1 (List.take v3.2 x.1)).length:Int)==(0:Int))with
    |true=>
     some (((0:Int),(0:Int),((0:Int),(0:Int),(0:Int),(0:Int),(0:Int),()),[],()),false,())
    |false=>
     onSome (bounds (List.drop v3.1 (List.take v3.2 x.1)).length (some (.dat (.int .i64) (1:Int))) none) fun v19=>
     match s_l01Own ((List.drop v19.1 (List.take v19.2 (List.drop v3.1 (List.take v3.2 x.1)))),())with
     |none=>none
     |some v20=>
     both (
      match s_IsFrame (((IntKind.i64.wrap (Int.tdiv v1 (64:Int))),(Int.tmod (IntKind.i64.wrap (Int.tdiv v2 (8:Int))) (8:Int)),((0:Int),(0:Int),(0:Int),(0:Int),(0:Int),()),v20.1,()),())with
      |none=>none
      |some v21=>
      match v21.1 with
      |true=>
       match s_l06Body (((IntKind.i64.wrap (Int.tdiv v1 (64:Int))),(Int.tmod (IntKind.i64.wrap (Int.tdiv v2 (8:Int))) (8:Int)),((0:Int),(0:Int),(0:Int),(0:Int),(0:Int),()),v20.1,()),())with
       |none=>none
       |some v22=>
       match s_l01Same (v22.1,x.1,())with
       |none=>none
       |some v23=>
       some (((IntKind.i64.wrap (Int.tdiv v1 (64:Int))),(Int.tmod (IntKind.i64.wrap (Int.tdiv v2 (8:Int))) (8:Int)),((0:Int),(0:Int),(0:Int),(0:Int),(0:Int),()),v20.1,()),v23.1,())
      |false=>
       some (((IntKind.i64.wrap (Int.tdiv v1 (64:Int))),(Int.tmod (IntKind.i64.wrap (Int.tdiv v2 (8:Int))) (8:Int)),((0:Int),(0:Int),(0:Int),(0:Int),(0:Int),()),v20.1,()),false,())) (
      both (
       match s_IsFrame (((IntKind.i64.wrap (Int.tdiv v1 (64:Int))),(Int.tmod (IntKind.i64.wrap (Int.tdiv v2 (8:Int))) (8:Int)),((0:Int),(0:Int),(0:Int),(0:Int),(0:Int),()),v20.1,()),())with
       |none=>none
       |some v21=>
       match v21.1 with
       |true=>
        match s_l06Body (((IntKind.i64.wrap (Int.tdiv v1 (64:Int))),(Int.tmod (IntKind.i64.wrap (Int.tdiv v2 (8:Int))) (8:Int)),((0:Int),(0:Int),(0:Int),(0:Int),(0:Int),()),v20.1,()),())with
        |none=>none
        |some v22=>
        match s_l01Same (v22.1,x.1,())with
        |none=>none
        |some v23=>
        some (((IntKind.i64.wrap (Int.tdiv v1 (64:Int))),(Int.tmod (IntKind.i64.wrap (Int.tdiv v2 (8:Int))) (8:Int)),((0:Int),(0:Int),(0:Int),(0:Int),(0:Int),()),v20.1,()),v23.1,())
       |false=>
        some (((IntKind.i64.wrap (Int.tdiv v1 (64:Int))),(Int.tmod (IntKind.i64.wrap (Int.tdiv v2 (8:Int))) (8:Int)),((0:Int),(0:Int),(0:Int),(0:Int),(0:Int),()),v20.1,()),false,())) (
       match s_IsFrame (((IntKind.i64.wrap (Int.tdiv v1 (64:Int))),(Int.tmod (IntKind.i64.wrap (Int.tdiv v2 (8:Int))) (8:Int)),((0:Int),(0:Int),(0:Int),(0:Int),(0:Int),()),v20.1,()),())with
       |none=>none
       |some v21=>
       match v21.1 with
       |true=>
        both (
         match s_l06Body (((IntKind.i64.wrap (Int.tdiv v1 (64:Int))),(Int.tmod (IntKind.i64.wrap (Int.tdiv v2 (8:Int))) (8:Int)),((0:Int),(0:Int),(0:Int),(0:Int),(0:Int),()),v20.1,()),())with
         |none=>none
         |some v22=>
         match s_l01Same (v22.1,x.1,())with
         |none=>none
         |some v23=>
         some (((IntKind.i64.wrap (Int.tdiv v1 (64:Int))),(Int.tmod (IntKind.i64.wrap (Int.tdiv v2 (8:Int))) (8:Int)),((0:Int),(0:Int),(0:Int),(0:Int),(0:Int),()),v20.1,()),v23.1,())) (
         both (
          match s_l06Body (((IntKind.i64.wrap (Int.tdiv v1 (64:Int))),(Int.tmod (IntKind.i64.wrap (Int.tdiv v2 (8:Int))) (8:Int)),((0:Int),(0:Int),(0:Int),(0:Int),(0:Int),()),v20.1,()),())with
          |none=>none
          |some v22=>
          match s_l01Same (v22.1,x.1,())with
          |none=>none
          |some v23=>
          some (((IntKind.i64.wrap (Int.tdiv v1 (64:Int))),(Int.tmod (IntKind.i64.wrap (Int.tdiv v2 (8:Int))) (8:Int)),((0:Int),(0:Int),(0:Int),(0:Int),(0:Int),()),v20.1,()),v23.1,())) (
          match s_l06Body (((IntKind.i64.wrap (Int.tdiv v1 (64:Int))),(Int.tmod (IntKind.i64.wrap (Int.tdiv v2 (8:Int))) (8:Int)),((0:Int),(0:Int),(0:Int),(0:Int),(0:Int),()),v20.1,()),())with
          |none=>none
          |some v22=>
          same (
           match s_l01Same (v22.1,x.1,())with
           |none=>none
           |some v23=>
           some (((IntKind.i64.wrap (Int.tdiv v1 (64:Int))),(Int.tmod (IntKind.i64.wrap (Int.tdiv v2 (8:Int))) (8:Int)),((0:Int),(0:Int),(0:Int),(0:Int),(0:Int),()),v20.1,()),v23.1,()))))
       |false=>
        both (
         some (((IntKind.i64.wrap (Int.tdiv v1 (64:Int))),(Int.tmod (IntKind.i64.wrap (Int.tdiv v2 (8:Int))) (8:Int)),((0:Int),(0:Int),(0:Int),(0:Int),(0:Int),()),v20.1,()),false,())) (
         both (
          some (((IntKind.i64.wrap (Int.tdiv v1 (64:Int))),(Int.tmod (IntKind.i64.wrap (Int.tdiv v2 (8:Int))) (8:Int)),((0:Int),(0:Int),(0:Int),(0:Int),(0:Int),()),v20.1,()),false,())) (
          same (
           some (((IntKind.i64.wrap (Int.tdiv v1 (64:Int))),(Int.tmod (IntKind.i64.wrap (Int.tdiv v2 (8:Int))) (8:Int)),((0:Int),(0:Int),(0:Int),(0:Int),(0:Int),()),v20.1,()),false,()))))))
   |false=>
    both (
     match s_IsFrame (((IntKind.i64.wrap (Int.tdiv v1 (64:Int))),(Int.tmod (IntKind.i64.wrap (Int.tdiv v2 (8:Int))) (8:Int)),((0:Int),(0:Int),(0:Int),(0:Int),(0:Int),()),[],()),())with
     |none=>none
     |some v24=>
     match v24.1 with
     |true=>
      match s_l06Body (((IntKind.i64.wrap (Int.tdiv v1 (64:Int))),(Int.tmod (IntKind.i64.wrap (Int.tdiv v2 (8:Int))) (8:Int)),((0:Int),(0:Int),(0:Int),(0:Int),(0:Int),()),[],()),())with
      |none=>none
      |some v25=>
      match s_l01Same (v25.1,x.1,())with
      |none=>none
      |some v26=>
      some (((IntKind.i64.wrap (Int.tdiv v1 (64:Int))),(Int.tmod (IntKind.i64.wrap (Int.tdiv v2 (8:Int))) (8:Int)),((0:Int),(0:Int),(0:Int),(0:Int),(0:Int),()),[],()),v26.1,())
     |false=>
      some (((IntKind.i64.wrap (Int.tdiv v1 (64:Int))),(Int.tmod (IntKind.i64.wrap (Int.tdiv v2 (8:Int))) (8:Int)),((0:Int),(0:Int),(0:Int),(0:Int),(0:Int),()),[],()),false,())) (
     both (
      match s_IsFrame (((IntKind.i64.wrap (Int.tdiv v1 (64:Int))),(Int.tmod (IntKind.i64.wrap (Int.tdiv v2 (8:Int))) (8:Int)),((0:Int),(0:Int),(0:Int),(0:Int),(0:Int),()),[],()),())with
      |none=>none
      |some v24=>
      match v24.1 with
      |true=>
       match s_l06Body (((IntKind.i64.wrap (Int.tdiv v1 (64:Int))),(Int.tmod (IntKind.i64.wrap (Int.tdiv v2 (8:Int))) (8:Int)),((0:Int),(0:Int),(0:Int),(0:Int),(0:Int),()),[],()),())with
       |none=>none
       |some v25=>
       match s_l01Same (v25.1,x.1,())with
       |none=>none
       |some v26=>
       some (((IntKind.i64.wrap (Int.tdiv v1 (64:Int))),(Int.tmod (IntKind.i64.wrap (Int.tdiv v2 (8:Int))) (8:Int)),((0:Int),(0:Int),(0:Int),(0:Int),(0:Int),()),[],()),v26.1,())
      |false=>
       some (((IntKind.i64.wrap (Int.tdiv v1 (64:Int))),(Int.tmod (IntKind.i64.wrap (Int.tdiv v2 (8:Int))) (8:Int)),((0:Int),(0:Int),(0:Int),(0:Int),(0:Int),()),[],()),false,())) (
      match s_IsFrame (((IntKind.i64.wrap (Int.tdiv v1 (64:Int))),(Int.tmod (IntKind.i64.wrap (Int.tdiv v2 (8:Int))) (8:Int)),((0:Int),(0:Int),(0:Int),(0:Int),(0:Int),()),[],()),())with
      |none=>none
      |some v24=>
      match v24.1 with
      |true=>
       both (
        match s_l06Body (((IntKind.i64.wrap (Int.tdiv v1 (64:Int))),(Int.tmod (IntKind.i64.wrap (Int.tdiv v2 (8:Int))) (8:Int)),((0:Int),(0:Int),(0:Int),(0:Int),(0:Int),()),[],()),())with
        |none=>none
        |some v25=>
        match s_l01Same (v25.1,x.1,())with
        |none=>none
        |some v26=>
        some (((IntKind.i64.wrap (Int.tdiv v1 (64:Int))),(Int.tmod (IntKind.i64.wrap (Int.tdiv v2 (8:Int))) (8:Int)),((0:Int),(0:Int),(0:Int),(0:Int),(0:Int),()),[],()),v26.1,())) (
        both (
         match s_l06Body (((IntKind.i64.wrap (Int.tdiv v1 (64:Int))),(Int.tmod (IntKind.i64.wrap (Int.tdiv v2 (8:Int))) (8:Int)),((0:Int),(0:Int),(0:Int),(0:Int),(0:Int),()),[],()),())with
         |none=>none
         |some v25=>
         match s_l01Same (v25.1,x.1,())with
         |none=>none
         |some v26=>
         some (((IntKind.i64.wrap (Int.tdiv v1 (64:Int))),(Int.tmod (IntKind.i64.wrap (Int.tdiv v2 (8:Int))) (8:Int)),((0:Int),(0:Int),(0:Int),(0:Int),(0:Int),()),[],()),v26.1,())) (
         match s_l06Body (((IntKind.i64.wrap (Int.tdiv v1 (64:Int))),(Int.tmod (IntKind.i64.wrap (Int.tdiv v2 (8:Int))) (8:Int)),((0:Int),(0:Int),(0:Int),(0:Int),(0:Int),()),[],()),())with
         |none=>none
         |some v25=>
         same (
          match s_l01Same (v25.1,x.1,())with
          |none=>none
          |some v26=>
          some (((IntKind.i64.wrap (Int.tdiv v1 (64:Int))),(Int.tmod (IntKind.i64.wrap (Int.tdiv v2 (8:Int))) (8:Int)),((0:Int),(0:Int),(0:Int),(0:Int),(0:Int),()),[],()),v26.1,()))))
      |false=>
       both (
        some (((IntKind.i64.wrap (Int.tdiv v1 (64:Int))),(Int.tmod (IntKind.i64.wrap (Int.tdiv v2 (8:Int))) (8:Int)),((0:Int),(0:Int),(0:Int),(0:Int),(0:Int),()),[],()),false,())) (
        both (
         some (((IntKind.i64.wrap (Int.tdiv v1 (64:Int))),(Int.tmod (IntKind.i64.wrap (Int.tdiv v2 (8:Int))) (8:Int)),((0:Int),(0:Int),(0:Int),(0:Int),(0:Int),()),[],()),false,())) (
         same (
          some (((IntKind.i64.wrap (Int.tdiv v1 (64:Int))),(Int.tmod (IntKind.i64.wrap (Int.tdiv v2 (8:Int))) (8:Int)),((0:Int),(0:Int),(0:Int),(0:Int),(0:Int),()),[],()),false,())))))))
noncomputable def S_s_l06Frame:Spec:=⟨(.pair (.list (.int .i64)) .unit),(.pair (.pair (.int .i64) (.pair (.int .i64) (.pair TState (.pair (.own 2 (.int .i64)) .unit)))) (.pair .bool .unit)),.unit,rfl,s_l06Frame⟩
noncomputable def σ_s_l06Frame:FuncId→Option Spec:=sig [(125,S_s_l01Own),(171,S_s_l01Same),(195,S_s_l06State),(207,S_s_l01Bits),(208,S_s_l06Body),(233,S_s_IsFrame),(253,S_s_l06Data),(283,S_s_l04State)]
theorem σok_s_l06Frame:∀f s,σ_s_l06Frame f=some s→FnOK G0 Tryz.prog f s:=sig_ok ⟨ok_s_l01Own,ok_s_l01Same,ok_s_l06State,ok_s_l01Bits,ok_s_l06Body,ok_s_IsFrame,ok_s_l06Data,ok_s_l04State,trivial⟩
theorem ok_s_l06Frame:FnOK G0 Tryz.prog 237 S_s_l06Frame:=fn_okS tab0 σok_s_l06Frame Tryz.func237 [] (by kernel_rfl) (by exact trivial) fun x=>by kernel_rfl
noncomputable def s_l07Open(x:Ty.T (.pair (.list (.int .i64)) (.pair (.int .i64) (.pair TState .unit)))):Option (Ty.T (.pair (.pair (.int .i64) (.pair (.int .i64) (.pair TState (.pair (.own 2 (.int .i64)) .unit)))) (.pair (.int .i64) .unit))):=
match(decide ((IntKind.i64.wrap ((x.1.length:Int)-(3:Int)))<(1:Int)))with
|true=>
 some (((0:Int),(0:Int),((0:Int),(0:Int),(0:Int),(0:Int),(0:Int),()),[],()),(6:Int),())
|false=>
 onSome (idx x.1 (IntKind.i64.wrap ((x.1.length:Int)-(3:Int)))) fun v1=>
 onSome (idx x.1 (IntKind.i64.wrap ((IntKind.i64.wrap ((x.1.length:Int)-(3:Int)))+(1:Int)))) fun v2=>
 onSome (idx x.1 (IntKind.i64.wrap ((IntKind.i64.wrap ((x.1.length:Int)-(3:Int)))+(2:Int)))) fun v3=>
 onSome (idx x.1 (0:Int)) fun v4=>
 onSome (bounds x.1.length none (some (.dat (.int .i64) (IntKind.i64.wrap ((x.1.length:Int)-(3:Int)))))) fun v5=>
 match s_l07Number ((IntKind.i64.wrap (Int.tdiv v4 (64:Int))),(List.drop v5.1 (List.take v5.2 x.1)),x.2.1,(x.2.2.1.1,x.2.2.1.2.1,x.2.2.1.2.2.1,x.2.2.1.2.2.2.1,x.2.2.1.2.2.2.2.1,()),())with
 |none=>none
 |some v6=>
 match(v6.1 != (IntKind.i64.wrap ((IntKind.i64.wrap ((IntKind.i64.wrap (v1*(65536:Int)))+(IntKind.i64.wrap (v2*(256:Int)))))+v3)))with
 |true=>
  some (((0:Int),(0:Int),((0:Int),(0:Int),(0:Int),(0:Int),(0:Int),()),[],()),(7:Int),())
 |false=>
  onSome (bounds x.1.length none (some (.dat (.int .i64) (IntKind.i64.wrap ((x.1.length:Int)-(3:Int)))))) fun v7=>
  match s_l06Frame ((List.drop v7.1 (List.take v7.2 x.1)),())with
  |none=>none
  |some v8=>
  match(!v8.2.1)with
  |true=>
   some (((0:Int),(0:Int),((0:Int),(0:Int),(0:Int),(0:Int),(0:Int),()),[],()),(6:Int),())
  |false=>
   match s_l06State (v8.1.1,())with
   |none=>none
   |some v9=>
   match v9.1 with
   |true=>
    match(!(eqT TState (v8.1.2.2.1.1,v8.1.2.2.1.2.1,v8.1.2.2.1.2.2.1,v8.1.2.2.1.2.2.2.1,v8.1.2.2.1.2.2.2.2.1,()) (x.2.2.1.1,x.2.2.1.2.1,x.2.2.1.2.2.1,x.2.2.1.2.2.2.1,x.2.2.1.2.2.2.2.1,())))with
    |true=>
     some (((0:Int),(0:Int),((0:Int),(0:Int),(0:Int),(0:Int),(0:Int),()),[],()),(5:Int),())
    |false=>
     some ((v8.1.1,v8.1.2.1,(v8.1.2.2.1.1,v8.1.2.2.1.2.1,v8.1.2.2.1.2.2.1,v8.1.2.2.1.2.2.2.1,v8.1.2.2.1.2.2.2.2.1,()),v8.1.2.2.2.1,()),(0:Int),())
   |false=>
    some ((v8.1.1,v8.1.2.1,(v8.1.2.2.1.1,v8.1.2.2.1.2.1,v8.1.2.2.1.2.2.1,v8.1.2.2.1.2.2.2.1,v8.1.2.2.1.2.2.2.2.1,()),v8.1.2.2.2.1,()),(0:Int),())
noncomputable def S_s_l07Open:Spec:=⟨(.pair (.list (.int .i64)) (.pair (.int .i64) (.pair TState .unit))),(.pair (.pair (.int .i64) (.pair (.int .i64) (.pair TState (.pair (.own 2 (.int .i64)) .unit)))) (.pair (.int .i64) .unit)),.unit,rfl,s_l07Open⟩
noncomputable def σ_s_l07Open:FuncId→Option Spec:=sig [(195,S_s_l06State),(209,S_s_l07Number),(237,S_s_l06Frame)]
theorem σok_s_l07Open:∀f s,σ_s_l07Open f=some s→FnOK G0 Tryz.prog f s:=sig_ok ⟨ok_s_l06State,ok_s_l07Number,ok_s_l06Frame,trivial⟩
theorem ok_s_l07Open:FnOK G0 Tryz.prog 199 S_s_l07Open:=fn_okS tab0 σok_s_l07Open Tryz.func199 [] (by kernel_rfl) (by exact trivial) fun x=>by kernel_rfl
noncomputable def s_l28Bytes(x:Ty.T (.pair TMedl (.pair TState (.pair (.list (.int .i64)) .unit)))):Option (Ty.T (.pair (.pair (.int .i64) (.pair (.pair (.int .i64) (.pair (.int .i64) (.pair TState (.pair (.own 2 (.int .i64)) .unit)))) .unit)) (.pair (.int .i64) .unit))):=
match s_l07Open (x.2.2.1,x.1.1,(x.2.1.1,x.2.1.2.1,x.2.1.2.2.1,x.2.1.2.2.2.1,x.2.1.2.2.2.2.1,()),())with
|none=>none
|some v1=>
match(v1.2.1==(0:Int))with
|true=>
 match s_l15Desc ((x.1.1,x.1.2.1,x.1.2.2.1,x.1.2.2.2.1,()),(x.2.1.1,x.2.1.2.1,x.2.1.2.2.1,x.2.1.2.2.2.1,x.2.1.2.2.2.2.1,()),())with
 |none=>none
 |some v2=>
 match s_FitsDescriptor (v2.1,(v1.1.1,v1.1.2.1,(v1.1.2.2.1.1,v1.1.2.2.1.2.1,v1.1.2.2.1.2.2.1,v1.1.2.2.1.2.2.2.1,v1.1.2.2.1.2.2.2.2.1,()),v1.1.2.2.2.1,()),())with
 |none=>none
 |some v3=>
 match(!v3.1)with
 |true=>
  match((5:Int) != (0:Int))with
  |true=>
   some (((2:Int),((0:Int),(0:Int),((0:Int),(0:Int),(0:Int),(0:Int),(0:Int),()),[],()),()),(5:Int),())
  |false=>
   some (((3:Int),(v1.1.1,v1.1.2.1,(v1.1.2.2.1.1,v1.1.2.2.1.2.1,v1.1.2.2.1.2.2.1,v1.1.2.2.1.2.2.2.1,v1.1.2.2.1.2.2.2.2.1,()),v1.1.2.2.2.1,()),()),(0:Int),())
 |false=>
  match(v1.2.1 != (0:Int))with
  |true=>
   some (((2:Int),((0:Int),(0:Int),((0:Int),(0:Int),(0:Int),(0:Int),(0:Int),()),[],()),()),v1.2.1,())
  |false=>
   some (((3:Int),(v1.1.1,v1.1.2.1,(v1.1.2.2.1.1,v1.1.2.2.1.2.1,v1.1.2.2.1.2.2.1,v1.1.2.2.1.2.2.2.1,v1.1.2.2.1.2.2.2.2.1,()),v1.1.2.2.2.1,()),()),(0:Int),())
|false=>
 match(v1.2.1 != (0:Int))with
 |true=>
  some (((2:Int),((0:Int),(0:Int),((0:Int),(0:Int),(0:Int),(0:Int),(0:Int),()),[],()),()),v1.2.1,())
 |false=>
  some (((3:Int),(v1.1.1,v1.1.2.1,(v1.1.2.2.1.1,v1.1.2.2.1.2.1,v1.1.2.2.1.2.2.1,v1.1.2.2.1.2.2.2.1,v1.1.2.2.1.2.2.2.2.1,()),v1.1.2.2.2.1,()),()),(0:Int),())
noncomputable def S_s_l28Bytes:Spec:=⟨(.pair TMedl (.pair TState (.pair (.list (.int .i64)) .unit))),(.pair (.pair (.int .i64) (.pair (.pair (.int .i64) (.pair (.int .i64) (.pair TState (.pair (.own 2 (.int .i64)) .unit)))) .unit)) (.pair (.int .i64) .unit)),.unit,rfl,s_l28Bytes⟩
noncomputable def σ_s_l28Bytes:FuncId→Option Spec:=sig [(79,S_s_l15Desc),(196,S_s_FitsDescriptor),(199,S_s_l07Open)]
theorem σok_s_l28Bytes:∀f s,σ_s_l28Bytes f=some s→FnOK G0 Tryz.prog f s:=sig_ok ⟨ok_s_l15Desc,ok_s_FitsDescriptor,ok_s_l07Open,trivial⟩
theorem ok_s_l28Bytes:FnOK G0 Tryz.prog 149 S_s_l28Bytes:=fn_okS tab0 σok_s_l28Bytes Tryz.func149 [] (by kernel_rfl) (by exact trivial) fun x=>by kernel_rfl
noncomputable def s_l28Samples(x:Ty.T (.pair TMedl (.pair TState (.pair (.list (.int .i64)) .unit)))):Option (Ty.T (.pair (.pair (.int .i64) (.pair (.pair (.int .i64) (.pair (.int .i64) (.pair TState (.pair (.own 2 (.int .i64)) .unit)))) .unit)) (.pair (.int .i64) .unit))):=
match s_DecodeSamples (x.2.2.1,())with
|none=>none
|some v1=>
match(v1.2.1==(0:Int))with
|true=>
 match s_l28Bytes ((x.1.1,x.1.2.1,x.1.2.2.1,x.1.2.2.2.1,()),(x.2.1.1,x.2.1.2.1,x.2.1.2.2.1,x.2.1.2.2.2.1,x.2.1.2.2.2.2.1,()),v1.1,())with
 |none=>none
 |some v2=>
 some ((v2.1.1,(v2.1.2.1.1,v2.1.2.1.2.1,(v2.1.2.1.2.2.1.1,v2.1.2.1.2.2.1.2.1,v2.1.2.1.2.2.1.2.2.1,v2.1.2.1.2.2.1.2.2.2.1,v2.1.2.1.2.2.1.2.2.2.2.1,()),v2.1.2.1.2.2.2.1,()),()),v2.2.1,())
|false=>
 match(v1.2.1==(4:Int))with
 |true=>
  some (((0:Int),((0:Int),(0:Int),((0:Int),(0:Int),(0:Int),(0:Int),(0:Int),()),[],()),()),v1.2.1,())
 |false=>
  some (((1:Int),((0:Int),(0:Int),((0:Int),(0:Int),(0:Int),(0:Int),(0:Int),()),[],()),()),v1.2.1,())
noncomputable def S_s_l28Samples:Spec:=⟨(.pair TMedl (.pair TState (.pair (.list (.int .i64)) .unit))),(.pair (.pair (.int .i64) (.pair (.pair (.int .i64) (.pair (.int .i64) (.pair TState (.pair (.own 2 (.int .i64)) .unit)))) .unit)) (.pair (.int .i64) .unit)),.unit,rfl,s_l28Samples⟩
noncomputable def σ_s_l28Samples:FuncId→Option Spec:=sig [(148,S_s_DecodeSamples),(149,S_s_l28Bytes)]
theorem σok_s_l28Samples:∀f s,σ_s_l28Samples f=some s→FnOK G0 Tryz.prog f s:=sig_ok ⟨ok_s_DecodeSamples,ok_s_l28Bytes,trivial⟩
theorem ok_s_l28Samples:FnOK G0 Tryz.prog 108 S_s_l28Samples:=fn_okS tab0 σok_s_l28Samples Tryz.func108 [] (by kernel_rfl) (by exact trivial) fun x=>by kernel_rfl
noncomputable def s_l28Code(x:Ty.T (.pair TMedl (.pair TState (.pair (.list (.int .i64)) .unit)))):Option (Ty.T (.pair (.int .i64) .unit)):=
match s_l15Code ((x.1.1,x.1.2.1,x.1.2.2.1,x.1.2.2.2.1,()),(x.2.1.1,x.2.1.2.1,x.2.1.2.2.1,x.2.1.2.2.2.1,x.2.1.2.2.2.2.1,()),())with
|none=>none
|some v1=>
match(v1.1==(0:Int))with
|true=>
 match s_IsBits (x.2.2.1,())with
 |none=>none
 |some v2=>
 match(!v2.1)with
 |true=>
  some ((2:Int),())
 |false=>
  some (v1.1,())
|false=>
 some (v1.1,())
noncomputable def S_s_l28Code:Spec:=⟨(.pair TMedl (.pair TState (.pair (.list (.int .i64)) .unit))),(.pair (.int .i64) .unit),.unit,rfl,s_l28Code⟩
noncomputable def σ_s_l28Code:FuncId→Option Spec:=sig [(103,S_s_l15Code),(170,S_s_IsBits)]
theorem σok_s_l28Code:∀f s,σ_s_l28Code f=some s→FnOK G0 Tryz.prog f s:=sig_ok ⟨ok_s_l15Code,ok_s_IsBits,trivial⟩
theorem ok_s_l28Code:FnOK G0 Tryz.prog 127 S_s_l28Code:=fn_okS tab0 σok_s_l28Code Tryz.func127 [] (by kernel_rfl) (by exact trivial) fun x=>by kernel_rfl
noncomputable def s_ReceiveChannel(x:Ty.T (.pair TMedl (.pair TState (.pair (.list (.int .i64)) .unit)))):Option (Ty.T (.pair (.pair (.int .i64) (.pair (.pair (.int .i64) (.pair (.int .i64) (.pair TState (.pair (.own 2 (.int .i64)) .unit)))) .unit)) (.pair (.int .i64) .unit))):=
match s_l28Code ((x.1.1,x.1.2.1,x.1.2.2.1,x.1.2.2.2.1,()),(x.2.1.1,x.2.1.2.1,x.2.1.2.2.1,x.2.1.2.2.2.1,x.2.1.2.2.2.2.1,()),x.2.2.1,())with
|none=>none
|some v1=>
match(v1.1 != (0:Int))with
|true=>
 some (((0:Int),((0:Int),(0:Int),((0:Int),(0:Int),(0:Int),(0:Int),(0:Int),()),[],()),()),v1.1,())
|false=>
 match s_l28Samples ((x.1.1,x.1.2.1,x.1.2.2.1,x.1.2.2.2.1,()),(x.2.1.1,x.2.1.2.1,x.2.1.2.2.1,x.2.1.2.2.2.1,x.2.1.2.2.2.2.1,()),x.2.2.1,())with
 |none=>none
 |some v2=>
 some ((v2.1.1,(v2.1.2.1.1,v2.1.2.1.2.1,(v2.1.2.1.2.2.1.1,v2.1.2.1.2.2.1.2.1,v2.1.2.1.2.2.1.2.2.1,v2.1.2.1.2.2.1.2.2.2.1,v2.1.2.1.2.2.1.2.2.2.2.1,()),v2.1.2.1.2.2.2.1,()),()),(0:Int),())
noncomputable def S_s_ReceiveChannel:Spec:=⟨(.pair TMedl (.pair TState (.pair (.list (.int .i64)) .unit))),(.pair (.pair (.int .i64) (.pair (.pair (.int .i64) (.pair (.int .i64) (.pair TState (.pair (.own 2 (.int .i64)) .unit)))) .unit)) (.pair (.int .i64) .unit)),.unit,rfl,s_ReceiveChannel⟩
noncomputable def σ_s_ReceiveChannel:FuncId→Option Spec:=sig [(108,S_s_l28Samples),(127,S_s_l28Code)]
theorem σok_s_ReceiveChannel:∀f s,σ_s_ReceiveChannel f=some s→FnOK G0 Tryz.prog f s:=sig_ok ⟨ok_s_l28Samples,ok_s_l28Code,trivial⟩
theorem ok_s_ReceiveChannel:FnOK G0 Tryz.prog 89 S_s_ReceiveChannel:=fn_okS tab0 σok_s_ReceiveChannel Tryz.func89 [] (by kernel_rfl) (by exact trivial) fun x=>by kernel_rfl
noncomputable def s_l28Same(x:Ty.T (.pair TFrame (.pair TFrame .unit))):Option (Ty.T (.pair .bool .unit)):=
match(x.1.1==x.2.1.1)with
|true=>
 match(x.1.2.1==x.2.1.2.1)with
 |true=>
  match(eqT TState (x.1.2.2.1.1,x.1.2.2.1.2.1,x.1.2.2.1.2.2.1,x.1.2.2.1.2.2.2.1,x.1.2.2.1.2.2.2.2.1,()) (x.2.1.2.2.1.1,x.2.1.2.2.1.2.1,x.2.1.2.2.1.2.2.1,x.2.1.2.2.1.2.2.2.1,x.2.1.2.2.1.2.2.2.2.1,()))with
  |true=>
   match s_l01Same (x.1.2.2.2.1,x.2.1.2.2.2.1,())with
   |none=>none
   |some v1=>
   some (v1.1,())
  |false=>
   some (false,())
 |false=>
  some (false,())
|false=>
 some (false,())
noncomputable def S_s_l28Same:Spec:=⟨(.pair TFrame (.pair TFrame .unit)),(.pair .bool .unit),.unit,rfl,s_l28Same⟩
noncomputable def σ_s_l28Same:FuncId→Option Spec:=sig [(171,S_s_l01Same)]
theorem σok_s_l28Same:∀f s,σ_s_l28Same f=some s→FnOK G0 Tryz.prog f s:=sig_ok ⟨ok_s_l01Same,trivial⟩
theorem ok_s_l28Same:FnOK G0 Tryz.prog 128 S_s_l28Same:=fn_okS tab0 σok_s_l28Same Tryz.func128 [] (by kernel_rfl) (by exact trivial) fun x=>by kernel_rfl
noncomputable def s_l29Merge(x:Ty.T (.pair (.pair (.int .i64) (.pair (.pair (.int .i64) (.pair (.int .i64) (.pair TState (.pair (.own 2 (.int .i64)) .unit)))) .unit)) (.pair (.pair (.int .i64) (.pair (.pair (.int .i64) (.pair (.int .i64) (.pair TState (.pair (.own 2 (.int .i64)) .unit)))) .unit)) .unit))):Option (Ty.T (.pair (.pair (.int .i64) (.pair (.pair (.int .i64) (.pair (.int .i64) (.pair TState (.pair (.own 2 (.int .i64)) .unit)))) .unit)) .unit)):=
match(x.1.1==(3:Int))with
|true=>
 match(x.2.1.1==(3:Int))with
 |true=>
  match s_l28Same ((x.1.2.1.1,x.1.2.1.2.1,(x.1.2.1.2.2.1.1,x.1.2.1.2.2.1.2.1,x.1.2.1.2.2.1.2.2.1,x.1.2.1.2.2.1.2.2.2.1,x.1.2.1.2.2.1.2.2.2.2.1,()),x.1.2.1.2.2.2.1,()),(x.2.1.2.1.1,x.2.1.2.1.2.1,(x.2.1.2.1.2.2.1.1,x.2.1.2.1.2.2.1.2.1,x.2.1.2.1.2.2.1.2.2.1,x.2.1.2.1.2.2.1.2.2.2.1,x.2.1.2.1.2.2.1.2.2.2.2.1,()),x.2.1.2.1.2.2.2.1,()),())with
  |none=>none
  |some v1=>
  match v1.1 with
  |true=>
   some ((x.1.1,(x.1.2.1.1,x.1.2.1.2.1,(x.1.2.1.2.2.1.1,x.1.2.1.2.2.1.2.1,x.1.2.1.2.2.1.2.2.1,x.1.2.1.2.2.1.2.2.2.1,x.1.2.1.2.2.1.2.2.2.2.1,()),x.1.2.1.2.2.2.1,()),()),())
  |false=>
   match(x.1.1==(3:Int))with
   |true=>
    match(x.2.1.1==(3:Int))with
    |true=>
     some (((4:Int),((0:Int),(0:Int),((0:Int),(0:Int),(0:Int),(0:Int),(0:Int),()),[],()),()),())
    |false=>
     match(x.1.1==(4:Int))with
     |true=>
      some (((4:Int),((0:Int),(0:Int),((0:Int),(0:Int),(0:Int),(0:Int),(0:Int),()),[],()),()),())
     |false=>
      match(x.2.1.1==(4:Int))with
      |true=>
       some (((4:Int),((0:Int),(0:Int),((0:Int),(0:Int),(0:Int),(0:Int),(0:Int),()),[],()),()),())
      |false=>
       match(x.1.1==(3:Int))with
       |true=>
        some ((x.1.1,(x.1.2.1.1,x.1.2.1.2.1,(x.1.2.1.2.2.1.1,x.1.2.1.2.2.1.2.1,x.1.2.1.2.2.1.2.2.1,x.1.2.1.2.2.1.2.2.2.1,x.1.2.1.2.2.1.2.2.2.2.1,()),x.1.2.1.2.2.2.1,()),()),())
       |false=>
        match(x.2.1.1==(3:Int))with
        |true=>
         some ((x.2.1.1,(x.2.1.2.1.1,x.2.1.2.1.2.1,(x.2.1.2.1.2.2.1.1,x.2.1.2.1.2.2.1.2.1,x.2.1.2.1.2.2.1.2.2.1,x.2.1.2.1.2.2.1.2.2.2.1,x.2.1.2.1.2.2.1.2.2.2.2.1,()),x.2.1.2.1.2.2.2.1,()),()),())
        |false=>
         some (((if x.2.1.1>x.1.1 then x.2.1.1 else x.1.1),((0:Int),(0:Int),((0:Int),(0:Int),(0:Int),(0:Int),(0:Int),()),[],()),()),())
   |false=>
    match(x.1.1==(4:Int))with
    |true=>
     some (((4:Int),((0:Int),(0:Int),((0:Int),(0:Int),(0:Int),(0:Int),(0:Int),()),[],()),()),())
    |false=>
     match(x.2.1.1==(4:Int))with
     |true=>
      some (((4:Int),((0:Int),(0:Int),((0:Int),(0:Int),(0:Int),(0:Int),(0:Int),()),[],()),()),())
     |false=>
      match(x.1.1==(3:Int))with
      |true=>
       some ((x.1.1,(x.1.2.1.1,x.1.2.1.2.1,(x.1.2.1.2.2.1.1,x.1.2.1.2.2.1.2.1,x.1.2.1.2.2.1.2.2.1,x.1.2.1.2.2.1.2.2.2.1,x.1.2.1.2.2.1.2.2.2.2.1,()),x.1.2.1.2.2.2.1,()),()),())
      |false=>
       match(x.2.1.1==(3:Int))with
       |true=>
        some ((x.2.1.1,(x.2.1.2.1.1,x.2.1.2.1.2.1,(x.2.1.2.1.2.2.1.1,x.2.1.2.1.2.2.1.2.1,x.2.1.2.1.2.2.1.2.2.1,x.2.1.2.1.2.2.1.2.2.2.1,x.2.1.2.1.2.2.1.2.2.2.2.1,()),x.2.1.2.1.2.2.2.1,()),()),())
       |false=>
        some (((if x.2.1.1>x.1.1 then x.2.1.1 else x.1.1),((0:Int),(0:Int),((0:Int),(0:Int),(0:Int),(0:Int),(0:Int),()),[],()),()),())
 |false=>
  match(x.1.1==(3:Int))with
  |true=>
   match(x.2.1.1==(3:Int))with
   |true=>
    some (((4:Int),((0:Int),(0:Int),((0:Int),(0:Int),(0:Int),(0:Int),(0:Int),()),[],()),()),())
   |false=>
    match(x.1.1==(4:Int))with
    |true=>
     some (((4:Int),((0:Int),(0:Int),((0:Int),(0:Int),(0:Int),(0:Int),(0:Int),()),[],()),()),())
    |false=>
     match(x.2.1.1==(4:Int))with
     |true=>
      some (((4:Int),((0:Int),(0:Int),((0:Int),(0:Int),(0:Int),(0:Int),(0:Int),()),[],()),()),())
     |false=>
      match(x.1.1==(3:Int))with
      |true=>
       some ((x.1.1,(x.1.2.1.1,x.1.2.1.2.1,(x.1.2.1.2.2.1.1,x.1.2.1.2.2.1.2.1,x.1.2.1.2.2.1.2.2.1,x.1.2.1.2.2.1.2.2.2.1,x.1.2.1.2.2.1.2.2.2.2.1,()),x.1.2.1.2.2.2.1,()),()),())
      |false=>
       match(x.2.1.1==(3:Int))with
       |true=>
        some ((x.2.1.1,(x.2.1.2.1.1,x.2.1.2.1.2.1,(x.2.1.2.1.2.2.1.1,x.2.1.2.1.2.2.1.2.1,x.2.1.2.1.2.2.1.2.2.1,x.2.1.2.1.2.2.1.2.2.2.1,x.2.1.2.1.2.2.1.2.2.2.2.1,()),x.2.1.2.1.2.2.2.1,()),()),())
       |false=>
        some (((if x.2.1.1>x.1.1 then x.2.1.1 else x.1.1),((0:Int),(0:Int),((0:Int),(0:Int),(0:Int),(0:Int),(0:Int),()),[],()),()),())
  |false=>
   match(x.1.1==(4:Int))with
   |true=>
    some (((4:Int),((0:Int),(0:Int),((0:Int),(0:Int),(0:Int),(0:Int),(0:Int),()),[],()),()),())
   |false=>
    match(x.2.1.1==(4:Int))with
    |true=>
     some (((4:Int),((0:Int),(0:Int),((0:Int),(0:Int),(0:Int),(0:Int),(0:Int),()),[],()),()),())
    |false=>
     match(x.1.1==(3:Int))with
     |true=>
      some ((x.1.1,(x.1.2.1.1,x.1.2.1.2.1,(x.1.2.1.2.2.1.1,x.1.2.1.2.2.1.2.1,x.1.2.1.2.2.1.2.2.1,x.1.2.1.2.2.1.2.2.2.1,x.1.2.1.2.2.1.2.2.2.2.1,()),x.1.2.1.2.2.2.1,()),()),())
     |false=>
      match(x.2.1.1==(3:Int))with
      |true=>
       some ((x.2.1.1,(x.2.1.2.1.1,x.2.1.2.1.2.1,(x.2.1.2.1.2.2.1.1,x.2.1.2.1.2.2.1.2.1,x.2.1.2.1.2.2.1.2.2.1,x.2.1.2.1.2.2.1.2.2.2.1,x.2.1.2.1.2.2.1.2.2.2.2.1,()),x.2.1.2.1.2.2.2.1,()),()),())
      |false=>
       some (((if x.2.1.1>x.1.1 then x.2.1.1 else x.1.1),((0:Int),(0:Int),((0:Int),(0:Int),(0:Int),(0:Int),(0:Int),()),[],()),()),())
|false=>
 match(x.1.1==(3:Int))with
 |true=>
  match(x.2.1.1==(3:Int))with
  |true=>
   some (((4:Int),((0:Int),(0:Int),((0:Int),(0:Int),(0:Int),(0:Int),(0:Int),()),[],()),()),())
  |false=>
   match(x.1.1==(4:Int))with
   |true=>
    some (((4:Int),((0:Int),(0:Int),((0:Int),(0:Int),(0:Int),(0:Int),(0:Int),()),[],()),()),())
   |false=>
    match(x.2.1.1==(4:Int))with
    |true=>
     some (((4:Int),((0:Int),(0:Int),((0:Int),(0:Int),(0:Int),(0:Int),(0:Int),()),[],()),()),())
    |false=>
     match(x.1.1==(3:Int))with
     |true=>
      some ((x.1.1,(x.1.2.1.1,x.1.2.1.2.1,(x.1.2.1.2.2.1.1,x.1.2.1.2.2.1.2.1,x.1.2.1.2.2.1.2.2.1,x.1.2.1.2.2.1.2.2.2.1,x.1.2.1.2.2.1.2.2.2.2.1,()),x.1.2.1.2.2.2.1,()),()),())
     |false=>
      match(x.2.1.1==(3:Int))with
      |true=>
       some ((x.2.1.1,(x.2.1.2.1.1,x.2.1.2.1.2.1,(x.2.1.2.1.2.2.1.1,x.2.1.2.1.2.2.1.2.1,x.2.1.2.1.2.2.1.2.2.1,x.2.1.2.1.2.2.1.2.2.2.1,x.2.1.2.1.2.2.1.2.2.2.2.1,()),x.2.1.2.1.2.2.2.1,()),()),())
      |false=>
       some (((if x.2.1.1>x.1.1 then x.2.1.1 else x.1.1),((0:Int),(0:Int),((0:Int),(0:Int),(0:Int),(0:Int),(0:Int),()),[],()),()),())
 |false=>
  match(x.1.1==(4:Int))with
  |true=>
   some (((4:Int),((0:Int),(0:Int),((0:Int),(0:Int),(0:Int),(0:Int),(0:Int),()),[],()),()),())
  |false=>
   match(x.2.1.1==(4:Int))with
   |true=>
    some (((4:Int),((0:Int),(0:Int),((0:Int),(0:Int),(0:Int),(0:Int),(0:Int),()),[],()),()),())
   |false=>
    match(x.1.1==(3:Int))with
    |true=>
     some ((x.1.1,(x.1.2.1.1,x.1.2.1.2.1,(x.1.2.1.2.2.1.1,x.1.2.1.2.2.1.2.1,x.1.2.1.2.2.1.2.2.1,x.1.2.1.2.2.1.2.2.2.1,x.1.2.1.2.2.1.2.2.2.2.1,()),x.1.2.1.2.2.2.1,()),()),())
    |false=>
     match(x.2.1.1==(3:Int))with
     |true=>
      some ((x.2.1.1,(x.2.1.2.1.1,x.2.1.2.1.2.1,(x.2.1.2.1.2.2.1.1,x.2.1.2.1.2.2.1.2.1,x.2.1.2.1.2.2.1.2.2.1,x.2.1.2.1.2.2.1.2.2.2.1,x.2.1.2.1.2.2.1.2.2.2.2.1,()),x.2.1.2.1.2.2.2.1,()),()),())
     |false=>
      some (((if x.2.1.1>x.1.1 then x.2.1.1 else x.1.1),((0:Int),(0:Int),((0:Int),(0:Int),(0:Int),(0:Int),(0:Int),()),[],()),()),())
noncomputable def S_s_l29Merge:Spec:=⟨(.pair (.pair (.int .i64) (.pair (.pair (.int .i64) (.pair (.int .i64) (.pair TState (.pair (.own 2 (.int .i64)) .unit)))) .unit)) (.pair (.pair (.int .i64) (.pair (.pair (.int .i64) (.pair (.int .i64) (.pair TState (.pair (.own 2 (.int .i64)) .unit)))) .unit)) .unit)),(.pair (.pair (.int .i64) (.pair (.pair (.int .i64) (.pair (.int .i64) (.pair TState (.pair (.own 2 (.int .i64)) .unit)))) .unit)) .unit),.unit,rfl,s_l29Merge⟩
noncomputable def σ_s_l29Merge:FuncId→Option Spec:=sig [(128,S_s_l28Same)]
theorem σok_s_l29Merge:∀f s,σ_s_l29Merge f=some s→FnOK G0 Tryz.prog f s:=sig_ok ⟨ok_s_l28Same,trivial⟩
theorem ok_s_l29Merge:FnOK G0 Tryz.prog 90 S_s_l29Merge:=fn_okS tab0 σok_s_l29Merge Tryz.func90 [] (by kernel_rfl) (by exact trivial) fun x=>by kernel_rfl
noncomputable def s_ReceiveBoth(x:Ty.T (.pair TMedl (.pair TState (.pair (.list (.int .i64)) (.pair (.list (.int .i64)) .unit))))):Option (Ty.T (.pair (.pair (.int .i64) (.pair (.pair (.int .i64) (.pair (.int .i64) (.pair TState (.pair (.own 2 (.int .i64)) .unit)))) .unit)) (.pair (.int .i64) .unit))):=
match s_ReceiveChannel ((x.1.1,x.1.2.1,x.1.2.2.1,x.1.2.2.2.1,()),(x.2.1.1,x.2.1.2.1,x.2.1.2.2.1,x.2.1.2.2.2.1,x.2.1.2.2.2.2.1,()),x.2.2.1,())with
|none=>none
|some v1=>
match(v1.2.1 != (0:Int))with
|true=>
 some (((0:Int),((0:Int),(0:Int),((0:Int),(0:Int),(0:Int),(0:Int),(0:Int),()),[],()),()),v1.2.1,())
|false=>
 match s_ReceiveChannel ((x.1.1,x.1.2.1,x.1.2.2.1,x.1.2.2.2.1,()),(x.2.1.1,x.2.1.2.1,x.2.1.2.2.1,x.2.1.2.2.2.1,x.2.1.2.2.2.2.1,()),x.2.2.2.1,())with
 |none=>none
 |some v2=>
 match(v2.2.1 != (0:Int))with
 |true=>
  some (((0:Int),((0:Int),(0:Int),((0:Int),(0:Int),(0:Int),(0:Int),(0:Int),()),[],()),()),v2.2.1,())
 |false=>
  match s_l29Merge ((v1.1.1,(v1.1.2.1.1,v1.1.2.1.2.1,(v1.1.2.1.2.2.1.1,v1.1.2.1.2.2.1.2.1,v1.1.2.1.2.2.1.2.2.1,v1.1.2.1.2.2.1.2.2.2.1,v1.1.2.1.2.2.1.2.2.2.2.1,()),v1.1.2.1.2.2.2.1,()),()),(v2.1.1,(v2.1.2.1.1,v2.1.2.1.2.1,(v2.1.2.1.2.2.1.1,v2.1.2.1.2.2.1.2.1,v2.1.2.1.2.2.1.2.2.1,v2.1.2.1.2.2.1.2.2.2.1,v2.1.2.1.2.2.1.2.2.2.2.1,()),v2.1.2.1.2.2.2.1,()),()),())with
  |none=>none
  |some v3=>
  some ((v3.1.1,(v3.1.2.1.1,v3.1.2.1.2.1,(v3.1.2.1.2.2.1.1,v3.1.2.1.2.2.1.2.1,v3.1.2.1.2.2.1.2.2.1,v3.1.2.1.2.2.1.2.2.2.1,v3.1.2.1.2.2.1.2.2.2.2.1,()),v3.1.2.1.2.2.2.1,()),()),(0:Int),())
noncomputable def S_s_ReceiveBoth:Spec:=⟨(.pair TMedl (.pair TState (.pair (.list (.int .i64)) (.pair (.list (.int .i64)) .unit)))),(.pair (.pair (.int .i64) (.pair (.pair (.int .i64) (.pair (.int .i64) (.pair TState (.pair (.own 2 (.int .i64)) .unit)))) .unit)) (.pair (.int .i64) .unit)),.unit,rfl,s_ReceiveBoth⟩
noncomputable def σ_s_ReceiveBoth:FuncId→Option Spec:=sig [(89,S_s_ReceiveChannel),(90,S_s_l29Merge)]
theorem σok_s_ReceiveBoth:∀f s,σ_s_ReceiveBoth f=some s→FnOK G0 Tryz.prog f s:=sig_ok ⟨ok_s_ReceiveChannel,ok_s_l29Merge,trivial⟩
theorem ok_s_ReceiveBoth:FnOK G0 Tryz.prog 54 S_s_ReceiveBoth:=fn_okS tab0 σok_s_ReceiveBoth Tryz.func54 [] (by kernel_rfl) (by exact trivial) fun x=>by kernel_rfl
noncomputable def s_SendBoth(x:Ty.T (.pair TMedl (.pair TState (.pair TFrame (.pair (.list TFault) (.pair (.list TFault) .unit)))))):Option (Ty.T (.pair (.pair (.int .i64) (.pair (.pair (.int .i64) (.pair (.int .i64) (.pair TState (.pair (.own 2 (.int .i64)) .unit)))) .unit)) (.pair (.int .i64) .unit))):=
match s_SendScripted ((x.1.1,x.1.2.1,x.1.2.2.1,x.1.2.2.2.1,()),(x.2.1.1,x.2.1.2.1,x.2.1.2.2.1,x.2.1.2.2.2.1,x.2.1.2.2.2.2.1,()),(x.2.2.1.1,x.2.2.1.2.1,(x.2.2.1.2.2.1.1,x.2.2.1.2.2.1.2.1,x.2.2.1.2.2.1.2.2.1,x.2.2.1.2.2.1.2.2.2.1,x.2.2.1.2.2.1.2.2.2.2.1,()),x.2.2.1.2.2.2.1,()),x.2.2.2.1,())with
|none=>none
|some v1=>
match(v1.2.1 != (0:Int))with
|true=>
 some (((0:Int),((0:Int),(0:Int),((0:Int),(0:Int),(0:Int),(0:Int),(0:Int),()),[],()),()),v1.2.1,())
|false=>
 match s_SendScripted ((x.1.1,x.1.2.1,x.1.2.2.1,x.1.2.2.2.1,()),(x.2.1.1,x.2.1.2.1,x.2.1.2.2.1,x.2.1.2.2.2.1,x.2.1.2.2.2.2.1,()),(x.2.2.1.1,x.2.2.1.2.1,(x.2.2.1.2.2.1.1,x.2.2.1.2.2.1.2.1,x.2.2.1.2.2.1.2.2.1,x.2.2.1.2.2.1.2.2.2.1,x.2.2.1.2.2.1.2.2.2.2.1,()),x.2.2.1.2.2.2.1,()),x.2.2.2.2.1,())with
 |none=>none
 |some v2=>
 match(v2.2.1 != (0:Int))with
 |true=>
  some (((0:Int),((0:Int),(0:Int),((0:Int),(0:Int),(0:Int),(0:Int),(0:Int),()),[],()),()),v2.2.1,())
 |false=>
  match s_ReceiveBoth ((x.1.1,x.1.2.1,x.1.2.2.1,x.1.2.2.2.1,()),(x.2.1.1,x.2.1.2.1,x.2.1.2.2.1,x.2.1.2.2.2.1,x.2.1.2.2.2.2.1,()),v1.1,v2.1,())with
  |none=>none
  |some v3=>
  some ((v3.1.1,(v3.1.2.1.1,v3.1.2.1.2.1,(v3.1.2.1.2.2.1.1,v3.1.2.1.2.2.1.2.1,v3.1.2.1.2.2.1.2.2.1,v3.1.2.1.2.2.1.2.2.2.1,v3.1.2.1.2.2.1.2.2.2.2.1,()),v3.1.2.1.2.2.2.1,()),()),v3.2.1,())
noncomputable def S_s_SendBoth:Spec:=⟨(.pair TMedl (.pair TState (.pair TFrame (.pair (.list TFault) (.pair (.list TFault) .unit))))),(.pair (.pair (.int .i64) (.pair (.pair (.int .i64) (.pair (.int .i64) (.pair TState (.pair (.own 2 (.int .i64)) .unit)))) .unit)) (.pair (.int .i64) .unit)),.unit,rfl,s_SendBoth⟩
noncomputable def σ_s_SendBoth:FuncId→Option Spec:=sig [(53,S_s_SendScripted),(54,S_s_ReceiveBoth)]
theorem σok_s_SendBoth:∀f s,σ_s_SendBoth f=some s→FnOK G0 Tryz.prog f s:=sig_ok ⟨ok_s_SendScripted,ok_s_ReceiveBoth,trivial⟩
theorem ok_s_SendBoth:FnOK G0 Tryz.prog 11 S_s_SendBoth:=fn_okS tab0 σok_s_SendBoth Tryz.func11 [] (by kernel_rfl) (by exact trivial) fun x=>by kernel_rfl
noncomputable def l_toNodeInfo(x:Ty.T (.pair TNodeInfo .unit)):Option (Ty.T (.pair TNodeInfo .unit)):=
some ((x.1.1,x.1.2.1,x.1.2.2.1,x.1.2.2.2.1,()),())
noncomputable def S_l_toNodeInfo:Spec:=⟨(.pair TNodeInfo .unit),(.pair TNodeInfo .unit),.unit,rfl,l_toNodeInfo⟩
noncomputable def σ_l_toNodeInfo:FuncId→Option Spec:=sig []
theorem σok_l_toNodeInfo:∀f s,σ_l_toNodeInfo f=some s→FnOK G0 Tryz.prog f s:=sig_ok trivial
theorem ok_l_toNodeInfo:FnOK G0 Tryz.prog 91 S_l_toNodeInfo:=fn_okS tab0 σok_l_toNodeInfo Tryz.func91 [] (by kernel_rfl) (by exact trivial) fun x=>by kernel_rfl
noncomputable def b_l_toNodeInfoS_3(x:(Ty.T (.pair (.list TNodeInfo) (.pair (.own 143 TNodeInfo) (.pair (.int .i64) .unit))))):Option ((Ty.T (.pair (.list TNodeInfo) (.pair (.own 143 TNodeInfo) (.pair (.int .i64) .unit)))) ⊕ ((Ty.T (.pair (.own 143 TNodeInfo) .unit)) ⊕ (Ty.T .unit))):=
match(decide (x.2.2.1<(x.1.length:Int)))with
|true=>
 onSome (idx x.1 x.2.2.1) fun v1=>
 match l_toNodeInfo (v1,())with
 |none=>none
 |some v2=>
 onSome (idx x.2.1 x.2.2.1) fun _=>
 match x.2.1[x.2.2.1.toNat]? with
 |none=>none
 |some v4=>
 some (.inl (x.1,(x.2.1.set x.2.2.1.toNat (v2.1.1,v2.1.2.1,v2.1.2.2.1,v2.1.2.2.2.1,())),(IntKind.i64.wrap (x.2.2.1+(1:Int))),()))
|false=>
 some (.inr (.inl (x.2.1,())))
noncomputable def l_toNodeInfoS(x:Ty.T (.pair (.list TNodeInfo) .unit)):Option (Ty.T (.pair (.own 143 TNodeInfo) .unit)):=
if 0≤(x.1.length:Int)∧(x.1.length:Int)≤(x.1.length:Int)then
 room ((x.1.length:Int).toNat) (
  match loopL b_l_toNodeInfoS_3 (x.1,(List.replicate (x.1.length:Int).toNat ((0:Int),[],(0:Int),false,())),(0:Int),())with
  |none=>none
  |some (.inl v5)=>
   some (v5.1,())
  |some (.inr v7)=>
   none)
else none
noncomputable def S_l_toNodeInfoS:Spec:=⟨(.pair (.list TNodeInfo) .unit),(.pair (.own 143 TNodeInfo) .unit),.unit,rfl,l_toNodeInfoS⟩
noncomputable def σ_l_toNodeInfoS:FuncId→Option Spec:=sig [(91,S_l_toNodeInfo)]
theorem σok_l_toNodeInfoS:∀f s,σ_l_toNodeInfoS f=some s→FnOK G0 Tryz.prog f s:=sig_ok ⟨ok_l_toNodeInfo,trivial⟩
def q_l_toNodeInfoS_3:LRow:=⟨[0,3,4],(.pair (.list TNodeInfo) (.pair (.own 143 TNodeInfo) (.pair (.int .i64) .unit))),0,[3],(.pair (.own 143 TNodeInfo) .unit),[],.unit⟩
noncomputable def ls_l_toNodeInfoS:List LSpec:=[q_l_toNodeInfoS_3.spec b_l_toNodeInfoS_3]
theorem lok_l_toNodeInfoS_3:Lok Γ0 E0 σ_l_toNodeInfoS (lam Tryz.f55 ls_l_toNodeInfoS) Tryz.f55 0 q_l_toNodeInfoS_3 b_l_toNodeInfoS_3:=fun x=>by kernel_rfl
theorem ok_l_toNodeInfoS:FnOK G0 Tryz.prog 55 S_l_toNodeInfoS:=fn_okS tab0 σok_l_toNodeInfoS Tryz.func55 ls_l_toNodeInfoS (by kernel_rfl) (by exact⟨(lok_l_toNodeInfoS_3).lok,trivial⟩) fun x=>by kernel_rfl
noncomputable def b_l_toInt64S_3(x:(Ty.T (.pair (.list (.int .i64)) (.pair (.own 2 (.int .i64)) (.pair (.int .i64) .unit))))):Option ((Ty.T (.pair (.list (.int .i64)) (.pair (.own 2 (.int .i64)) (.pair (.int .i64) .unit)))) ⊕ ((Ty.T (.pair (.own 2 (.int .i64)) .unit)) ⊕ (Ty.T .unit))):=
match(decide (x.2.2.1<(x.1.length:Int)))with
|true=>
 onSome (idx x.1 x.2.2.1) fun v1=>
 onSome (idx x.2.1 x.2.2.1) fun _=>
 match x.2.1[x.2.2.1.toNat]? with
 |none=>none
 |some v3=>
 some (.inl (x.1,(x.2.1.set x.2.2.1.toNat v1),(IntKind.i64.wrap (x.2.2.1+(1:Int))),()))
|false=>
 some (.inr (.inl (x.2.1,())))
noncomputable def l_toInt64S(x:Ty.T (.pair (.list (.int .i64)) .unit)):Option (Ty.T (.pair (.own 2 (.int .i64)) .unit)):=
if 0≤(x.1.length:Int)∧(x.1.length:Int)≤(x.1.length:Int)then
 room ((x.1.length:Int).toNat) (
  match loopL b_l_toInt64S_3 (x.1,(List.replicate (x.1.length:Int).toNat (0:Int)),(0:Int),())with
  |none=>none
  |some (.inl v4)=>
   some (v4.1,())
  |some (.inr v6)=>
   none)
else none
noncomputable def S_l_toInt64S:Spec:=⟨(.pair (.list (.int .i64)) .unit),(.pair (.own 2 (.int .i64)) .unit),.unit,rfl,l_toInt64S⟩
noncomputable def σ_l_toInt64S:FuncId→Option Spec:=sig []
theorem σok_l_toInt64S:∀f s,σ_l_toInt64S f=some s→FnOK G0 Tryz.prog f s:=sig_ok trivial
def q_l_toInt64S_3:LRow:=⟨[0,3,4],(.pair (.list (.int .i64)) (.pair (.own 2 (.int .i64)) (.pair (.int .i64) .unit))),0,[3],(.pair (.own 2 (.int .i64)) .unit),[],.unit⟩
noncomputable def ls_l_toInt64S:List LSpec:=[q_l_toInt64S_3.spec b_l_toInt64S_3]
theorem lok_l_toInt64S_3:Lok Γ0 E0 σ_l_toInt64S (lam Tryz.f58 ls_l_toInt64S) Tryz.f58 0 q_l_toInt64S_3 b_l_toInt64S_3:=fun x=>by kernel_rfl
theorem ok_l_toInt64S:FnOK G0 Tryz.prog 58 S_l_toInt64S:=fn_okS tab0 σok_l_toInt64S Tryz.func58 ls_l_toInt64S (by kernel_rfl) (by exact⟨(lok_l_toInt64S_3).lok,trivial⟩) fun x=>by kernel_rfl
noncomputable def l_toModeInfo(x:Ty.T (.pair TModeInfo .unit)):Option (Ty.T (.pair (.pair (.int .i64) (.pair (.int .i64) (.pair (.own 2 (.int .i64)) .unit))) .unit)):=
match l_toInt64S (x.1.2.2.1,())with
|none=>none
|some v1=>
some ((x.1.1,x.1.2.1,v1.1,()),())
noncomputable def S_l_toModeInfo:Spec:=⟨(.pair TModeInfo .unit),(.pair (.pair (.int .i64) (.pair (.int .i64) (.pair (.own 2 (.int .i64)) .unit))) .unit),.unit,rfl,l_toModeInfo⟩
noncomputable def σ_l_toModeInfo:FuncId→Option Spec:=sig [(58,S_l_toInt64S)]
theorem σok_l_toModeInfo:∀f s,σ_l_toModeInfo f=some s→FnOK G0 Tryz.prog f s:=sig_ok ⟨ok_l_toInt64S,trivial⟩
theorem ok_l_toModeInfo:FnOK G0 Tryz.prog 92 S_l_toModeInfo:=fn_okS tab0 σok_l_toModeInfo Tryz.func92 [] (by kernel_rfl) (by exact trivial) fun x=>by kernel_rfl
noncomputable def b_l_toModeInfoS_3(x:(Ty.T (.pair (.list TModeInfo) (.pair (.own 145 (.pair (.int .i64) (.pair (.int .i64) (.pair (.own 2 (.int .i64)) .unit)))) (.pair (.int .i64) .unit))))):Option ((Ty.T (.pair (.list TModeInfo) (.pair (.own 145 (.pair (.int .i64) (.pair (.int .i64) (.pair (.own 2 (.int .i64)) .unit)))) (.pair (.int .i64) .unit)))) ⊕ ((Ty.T (.pair (.own 145 (.pair (.int .i64) (.pair (.int .i64) (.pair (.own 2 (.int .i64)) .unit)))) .unit)) ⊕ (Ty.T .unit))):=
match(decide (x.2.2.1<(x.1.length:Int)))with
|true=>
 onSome (idx x.1 x.2.2.1) fun v1=>
 match l_toModeInfo (v1,())with
 |none=>none
 |some v2=>
 onSome (idx x.2.1 x.2.2.1) fun _=>
 match x.2.1[x.2.2.1.toNat]? with
 |none=>none
 |some v4=>
 some (.inl (x.1,(x.2.1.set x.2.2.1.toNat (v2.1.1,v2.1.2.1,v2.1.2.2.1,())),(IntKind.i64.wrap (x.2.2.1+(1:Int))),()))
|false=>
 some (.inr (.inl (x.2.1,())))
noncomputable def l_toModeInfoS(x:Ty.T (.pair (.list TModeInfo) .unit)):Option (Ty.T (.pair (.own 145 (.pair (.int .i64) (.pair (.int .i64) (.pair (.own 2 (.int .i64)) .unit)))) .unit)):=
if 0≤(x.1.length:Int)∧(x.1.length:Int)≤(x.1.length:Int)then
 room ((x.1.length:Int).toNat) (
  match loopL b_l_toModeInfoS_3 (x.1,(List.replicate (x.1.length:Int).toNat ((0:Int),(0:Int),[],())),(0:Int),())with
  |none=>none
  |some (.inl v5)=>
   some (v5.1,())
  |some (.inr v7)=>
   none)
else none
noncomputable def S_l_toModeInfoS:Spec:=⟨(.pair (.list TModeInfo) .unit),(.pair (.own 145 (.pair (.int .i64) (.pair (.int .i64) (.pair (.own 2 (.int .i64)) .unit)))) .unit),.unit,rfl,l_toModeInfoS⟩
noncomputable def σ_l_toModeInfoS:FuncId→Option Spec:=sig [(92,S_l_toModeInfo)]
theorem σok_l_toModeInfoS:∀f s,σ_l_toModeInfoS f=some s→FnOK G0 Tryz.prog f s:=sig_ok ⟨ok_l_toModeInfo,trivial⟩
def q_l_toModeInfoS_3:LRow:=⟨[0,3,4],(.pair (.list TModeInfo) (.pair (.own 145 (.pair (.int .i64) (.pair (.int .i64) (.pair (.own 2 (.int .i64)) .unit)))) (.pair (.int .i64) .unit))),0,[3],(.pair (.own 145 (.pair (.int .i64) (.pair (.int .i64) (.pair (.own 2 (.int .i64)) .unit)))) .unit),[],.unit⟩
noncomputable def ls_l_toModeInfoS:List LSpec:=[q_l_toModeInfoS_3.spec b_l_toModeInfoS_3]
theorem lok_l_toModeInfoS_3:Lok Γ1 E1 σ_l_toModeInfoS (lam Tryz.f56 ls_l_toModeInfoS) Tryz.f56 0 q_l_toModeInfoS_3 b_l_toModeInfoS_3:=fun x=>by kernel_rfl
theorem ok_l_toModeInfoS:FnOK G0 Tryz.prog 56 S_l_toModeInfoS:=fn_okS tab1 σok_l_toModeInfoS Tryz.func56 ls_l_toModeInfoS (by kernel_rfl) (by exact⟨(lok_l_toModeInfoS_3).lok,trivial⟩) fun x=>by kernel_rfl
noncomputable def l_toDescriptor(x:Ty.T (.pair TDescriptor .unit)):Option (Ty.T (.pair TDescriptor .unit)):=
some ((x.1.1,x.1.2.1,x.1.2.2.1,x.1.2.2.2.1,x.1.2.2.2.2.1,()),())
noncomputable def S_l_toDescriptor:Spec:=⟨(.pair TDescriptor .unit),(.pair TDescriptor .unit),.unit,rfl,l_toDescriptor⟩
noncomputable def σ_l_toDescriptor:FuncId→Option Spec:=sig []
theorem σok_l_toDescriptor:∀f s,σ_l_toDescriptor f=some s→FnOK G0 Tryz.prog f s:=sig_ok trivial
theorem ok_l_toDescriptor:FnOK G0 Tryz.prog 129 S_l_toDescriptor:=fn_okS tab0 σok_l_toDescriptor Tryz.func129 [] (by kernel_rfl) (by exact trivial) fun x=>by kernel_rfl
noncomputable def l_toSlotInfo(x:Ty.T (.pair TSlotInfo .unit)):Option (Ty.T (.pair TSlotInfo .unit)):=
match l_toDescriptor ((x.1.2.2.2.1.1,x.1.2.2.2.1.2.1,x.1.2.2.2.1.2.2.1,x.1.2.2.2.1.2.2.2.1,x.1.2.2.2.1.2.2.2.2.1,()),())with
|none=>none
|some v1=>
some ((x.1.1,x.1.2.1,x.1.2.2.1,(v1.1.1,v1.1.2.1,v1.1.2.2.1,v1.1.2.2.2.1,v1.1.2.2.2.2.1,()),()),())
noncomputable def S_l_toSlotInfo:Spec:=⟨(.pair TSlotInfo .unit),(.pair TSlotInfo .unit),.unit,rfl,l_toSlotInfo⟩
noncomputable def σ_l_toSlotInfo:FuncId→Option Spec:=sig [(129,S_l_toDescriptor)]
theorem σok_l_toSlotInfo:∀f s,σ_l_toSlotInfo f=some s→FnOK G0 Tryz.prog f s:=sig_ok ⟨ok_l_toDescriptor,trivial⟩
theorem ok_l_toSlotInfo:FnOK G0 Tryz.prog 93 S_l_toSlotInfo:=fn_okS tab0 σok_l_toSlotInfo Tryz.func93 [] (by kernel_rfl) (by exact trivial) fun x=>by kernel_rfl
noncomputable def b_l_toSlotInfoS_3(x:(Ty.T (.pair (.list TSlotInfo) (.pair (.own 148 TSlotInfo) (.pair (.int .i64) .unit))))):Option ((Ty.T (.pair (.list TSlotInfo) (.pair (.own 148 TSlotInfo) (.pair (.int .i64) .unit)))) ⊕ ((Ty.T (.pair (.own 148 TSlotInfo) .unit)) ⊕ (Ty.T .unit))):=
match(decide (x.2.2.1<(x.1.length:Int)))with
|true=>
 onSome (idx x.1 x.2.2.1) fun v1=>
 match l_toSlotInfo (v1,())with
 |none=>none
 |some v2=>
 onSome (idx x.2.1 x.2.2.1) fun _=>
 match x.2.1[x.2.2.1.toNat]? with
 |none=>none
 |some v4=>
 some (.inl (x.1,(x.2.1.set x.2.2.1.toNat (v2.1.1,v2.1.2.1,v2.1.2.2.1,(v2.1.2.2.2.1.1,v2.1.2.2.2.1.2.1,v2.1.2.2.2.1.2.2.1,v2.1.2.2.2.1.2.2.2.1,v2.1.2.2.2.1.2.2.2.2.1,()),())),(IntKind.i64.wrap (x.2.2.1+(1:Int))),()))
|false=>
 some (.inr (.inl (x.2.1,())))
noncomputable def l_toSlotInfoS(x:Ty.T (.pair (.list TSlotInfo) .unit)):Option (Ty.T (.pair (.own 148 TSlotInfo) .unit)):=
if 0≤(x.1.length:Int)∧(x.1.length:Int)≤(x.1.length:Int)then
 room ((x.1.length:Int).toNat) (
  match loopL b_l_toSlotInfoS_3 (x.1,(List.replicate (x.1.length:Int).toNat ((0:Int),(0:Int),(0:Int),((0:Int),(0:Int),(0:Int),(0:Int),false,()),())),(0:Int),())with
  |none=>none
  |some (.inl v5)=>
   some (v5.1,())
  |some (.inr v7)=>
   none)
else none
noncomputable def S_l_toSlotInfoS:Spec:=⟨(.pair (.list TSlotInfo) .unit),(.pair (.own 148 TSlotInfo) .unit),.unit,rfl,l_toSlotInfoS⟩
noncomputable def σ_l_toSlotInfoS:FuncId→Option Spec:=sig [(93,S_l_toSlotInfo)]
theorem σok_l_toSlotInfoS:∀f s,σ_l_toSlotInfoS f=some s→FnOK G0 Tryz.prog f s:=sig_ok ⟨ok_l_toSlotInfo,trivial⟩
def q_l_toSlotInfoS_3:LRow:=⟨[0,3,4],(.pair (.list TSlotInfo) (.pair (.own 148 TSlotInfo) (.pair (.int .i64) .unit))),0,[3],(.pair (.own 148 TSlotInfo) .unit),[],.unit⟩
noncomputable def ls_l_toSlotInfoS:List LSpec:=[q_l_toSlotInfoS_3.spec b_l_toSlotInfoS_3]
theorem lok_l_toSlotInfoS_3:Lok Γ0 E0 σ_l_toSlotInfoS (lam Tryz.f57 ls_l_toSlotInfoS) Tryz.f57 0 q_l_toSlotInfoS_3 b_l_toSlotInfoS_3:=fun x=>by kernel_rfl
theorem ok_l_toSlotInfoS:FnOK G0 Tryz.prog 57 S_l_toSlotInfoS:=fn_okS tab0 σok_l_toSlotInfoS Tryz.func57 ls_l_toSlotInfoS (by kernel_rfl) (by exact⟨(lok_l_toSlotInfoS_3).lok,trivial⟩) fun x=>by kernel_rfl
noncomputable def l_toMedl(x:Ty.T (.pair TMedl .unit)):Option (Ty.T (.pair (.pair (.int .i64) (.pair (.own 143 TNodeInfo) (.pair (.own 145 (.pair (.int .i64) (.pair (.int .i64) (.pair (.own 2 (.int .i64)) .unit)))) (.pair (.own 148 TSlotInfo) .unit)))) .unit)):=
match l_toNodeInfoS (x.1.2.1,())with
|none=>none
|some v1=>
match l_toModeInfoS (x.1.2.2.1,())with
|none=>none
|some v2=>
match l_toSlotInfoS (x.1.2.2.2.1,())with
|none=>none
|some v3=>
some ((x.1.1,v1.1,v2.1,v3.1,()),())
noncomputable def S_l_toMedl:Spec:=⟨(.pair TMedl .unit),(.pair (.pair (.int .i64) (.pair (.own 143 TNodeInfo) (.pair (.own 145 (.pair (.int .i64) (.pair (.int .i64) (.pair (.own 2 (.int .i64)) .unit)))) (.pair (.own 148 TSlotInfo) .unit)))) .unit),.unit,rfl,l_toMedl⟩
noncomputable def σ_l_toMedl:FuncId→Option Spec:=sig [(55,S_l_toNodeInfoS),(56,S_l_toModeInfoS),(57,S_l_toSlotInfoS)]
theorem σok_l_toMedl:∀f s,σ_l_toMedl f=some s→FnOK G0 Tryz.prog f s:=sig_ok ⟨ok_l_toNodeInfoS,ok_l_toModeInfoS,ok_l_toSlotInfoS,trivial⟩
theorem ok_l_toMedl:FnOK G0 Tryz.prog 12 S_l_toMedl:=fn_okS tab1 σok_l_toMedl Tryz.func12 [] (by kernel_rfl) (by exact trivial) fun x=>by kernel_rfl
noncomputable def l_toState(x:Ty.T (.pair TState .unit)):Option (Ty.T (.pair TState .unit)):=
some ((x.1.1,x.1.2.1,x.1.2.2.1,x.1.2.2.2.1,x.1.2.2.2.2.1,()),())
noncomputable def S_l_toState:Spec:=⟨(.pair TState .unit),(.pair TState .unit),.unit,rfl,l_toState⟩
noncomputable def σ_l_toState:FuncId→Option Spec:=sig []
theorem σok_l_toState:∀f s,σ_l_toState f=some s→FnOK G0 Tryz.prog f s:=sig_ok trivial
theorem ok_l_toState:FnOK G0 Tryz.prog 13 S_l_toState:=fn_okS tab0 σok_l_toState Tryz.func13 [] (by kernel_rfl) (by exact trivial) fun x=>by kernel_rfl
noncomputable def l_toFrame(x:Ty.T (.pair TFrame .unit)):Option (Ty.T (.pair (.pair (.int .i64) (.pair (.int .i64) (.pair TState (.pair (.own 2 (.int .i64)) .unit)))) .unit)):=
match l_toState ((x.1.2.2.1.1,x.1.2.2.1.2.1,x.1.2.2.1.2.2.1,x.1.2.2.1.2.2.2.1,x.1.2.2.1.2.2.2.2.1,()),())with
|none=>none
|some v1=>
match l_toInt64S (x.1.2.2.2.1,())with
|none=>none
|some v2=>
some ((x.1.1,x.1.2.1,(v1.1.1,v1.1.2.1,v1.1.2.2.1,v1.1.2.2.2.1,v1.1.2.2.2.2.1,()),v2.1,()),())
noncomputable def S_l_toFrame:Spec:=⟨(.pair TFrame .unit),(.pair (.pair (.int .i64) (.pair (.int .i64) (.pair TState (.pair (.own 2 (.int .i64)) .unit)))) .unit),.unit,rfl,l_toFrame⟩
noncomputable def σ_l_toFrame:FuncId→Option Spec:=sig [(13,S_l_toState),(58,S_l_toInt64S)]
theorem σok_l_toFrame:∀f s,σ_l_toFrame f=some s→FnOK G0 Tryz.prog f s:=sig_ok ⟨ok_l_toState,ok_l_toInt64S,trivial⟩
theorem ok_l_toFrame:FnOK G0 Tryz.prog 14 S_l_toFrame:=fn_okS tab0 σok_l_toFrame Tryz.func14 [] (by kernel_rfl) (by exact trivial) fun x=>by kernel_rfl
noncomputable def l_toFault(x:Ty.T (.pair TFault .unit)):Option (Ty.T (.pair TFault .unit)):=
some ((x.1.1,x.1.2.1,x.1.2.2.1,x.1.2.2.2.1,()),())
noncomputable def S_l_toFault:Spec:=⟨(.pair TFault .unit),(.pair TFault .unit),.unit,rfl,l_toFault⟩
noncomputable def σ_l_toFault:FuncId→Option Spec:=sig []
theorem σok_l_toFault:∀f s,σ_l_toFault f=some s→FnOK G0 Tryz.prog f s:=sig_ok trivial
theorem ok_l_toFault:FnOK G0 Tryz.prog 59 S_l_toFault:=fn_okS tab0 σok_l_toFault Tryz.func59 [] (by kernel_rfl) (by exact trivial) fun x=>by kernel_rfl
noncomputable def b_l_toFaultS_3(x:(Ty.T (.pair (.list TFault) (.pair (.own 105 TFault) (.pair (.int .i64) .unit))))):Option ((Ty.T (.pair (.list TFault) (.pair (.own 105 TFault) (.pair (.int .i64) .unit)))) ⊕ ((Ty.T (.pair (.own 105 TFault) .unit)) ⊕ (Ty.T .unit))):=
match(decide (x.2.2.1<(x.1.length:Int)))with
|true=>
 onSome (idx x.1 x.2.2.1) fun v1=>
 match l_toFault (v1,())with
 |none=>none
 |some v2=>
 onSome (idx x.2.1 x.2.2.1) fun _=>
 match x.2.1[x.2.2.1.toNat]? with
 |none=>none
 |some v4=>
 some (.inl (x.1,(x.2.1.set x.2.2.1.toNat (v2.1.1,v2.1.2.1,v2.1.2.2.1,v2.1.2.2.2.1,())),(IntKind.i64.wrap (x.2.2.1+(1:Int))),()))
|false=>
 some (.inr (.inl (x.2.1,())))
noncomputable def l_toFaultS(x:Ty.T (.pair (.list TFault) .unit)):Option (Ty.T (.pair (.own 105 TFault) .unit)):=
if 0≤(x.1.length:Int)∧(x.1.length:Int)≤(x.1.length:Int)then
 room ((x.1.length:Int).toNat) (
  match loopL b_l_toFaultS_3 (x.1,(List.replicate (x.1.length:Int).toNat ((0:Int),(0:Int),(0:Int),(0:Int),())),(0:Int),())with
  |none=>none
  |some (.inl v5)=>
   some (v5.1,())
  |some (.inr v7)=>
   none)
else none
noncomputable def S_l_toFaultS:Spec:=⟨(.pair (.list TFault) .unit),(.pair (.own 105 TFault) .unit),.unit,rfl,l_toFaultS⟩
noncomputable def σ_l_toFaultS:FuncId→Option Spec:=sig [(59,S_l_toFault)]
theorem σok_l_toFaultS:∀f s,σ_l_toFaultS f=some s→FnOK G0 Tryz.prog f s:=sig_ok ⟨ok_l_toFault,trivial⟩
def q_l_toFaultS_3:LRow:=⟨[0,3,4],(.pair (.list TFault) (.pair (.own 105 TFault) (.pair (.int .i64) .unit))),0,[3],(.pair (.own 105 TFault) .unit),[],.unit⟩
noncomputable def ls_l_toFaultS:List LSpec:=[q_l_toFaultS_3.spec b_l_toFaultS_3]
theorem lok_l_toFaultS_3:Lok Γ0 E0 σ_l_toFaultS (lam Tryz.f15 ls_l_toFaultS) Tryz.f15 0 q_l_toFaultS_3 b_l_toFaultS_3:=fun x=>by kernel_rfl
theorem ok_l_toFaultS:FnOK G0 Tryz.prog 15 S_l_toFaultS:=fn_okS tab0 σok_l_toFaultS Tryz.func15 ls_l_toFaultS (by kernel_rfl) (by exact⟨(lok_l_toFaultS_3).lok,trivial⟩) fun x=>by kernel_rfl
noncomputable def b_slices_IndexFunc_SlotInfo_2(x:(Ty.T (.pair (.list TSlotInfo) (.pair (.fn (.pair TSlotInfo .unit) (.pair .bool .unit)) TCrc)))):Option ((Ty.T (.pair (.list TSlotInfo) (.pair (.fn (.pair TSlotInfo .unit) (.pair .bool .unit)) TCrc))) ⊕ ((Ty.T .unit) ⊕ (Ty.T (.pair (.int .i64) .unit)))):=
match(decide (x.2.2.2.1<x.2.2.1))with
|true=>
 onSome (idx x.1 x.2.2.2.1) fun v1=>
 match x.2.1 (v1,())with
 |none=>none
 |some v2=>
 match v2.1 with
 |true=>
  some (.inr (.inr (x.2.2.2.1,())))
 |false=>
  some (.inl (x.1,x.2.1,x.2.2.1,(IntKind.i64.wrap (x.2.2.2.1+(1:Int))),()))
|false=>
 some (.inr (.inl (())))
noncomputable def slices_IndexFunc_SlotInfo(x:Ty.T (.pair (.list TSlotInfo) (.pair (.fn (.pair TSlotInfo .unit) (.pair .bool .unit)) .unit))):Option (Ty.T (.pair (.int .i64) .unit)):=
match loopL b_slices_IndexFunc_SlotInfo_2 (x.1,x.2.1,(x.1.length:Int),(0:Int),())with
|none=>none
|some (.inl v3)=>
 some ((-1:Int),())
|some (.inr v4)=>
 some (v4.1,())
noncomputable def S_slices_IndexFunc_SlotInfo:Spec:=⟨(.pair (.list TSlotInfo) (.pair (.fn (.pair TSlotInfo .unit) (.pair .bool .unit)) .unit)),(.pair (.int .i64) .unit),.unit,rfl,slices_IndexFunc_SlotInfo⟩
noncomputable def σ_slices_IndexFunc_SlotInfo:FuncId→Option Spec:=sig []
theorem σok_slices_IndexFunc_SlotInfo:∀f s,σ_slices_IndexFunc_SlotInfo f=some s→FnOK G0 Tryz.prog f s:=sig_ok trivial
def q_slices_IndexFunc_SlotInfo_2:LRow:=⟨[0,1,7,8],(.pair (.list TSlotInfo) (.pair (.fn (.pair TSlotInfo .unit) (.pair .bool .unit)) TCrc)),0,[],.unit,[4],(.pair (.int .i64) .unit)⟩
noncomputable def ls_slices_IndexFunc_SlotInfo:List LSpec:=[q_slices_IndexFunc_SlotInfo_2.spec b_slices_IndexFunc_SlotInfo_2]
theorem lok_slices_IndexFunc_SlotInfo_2:Lok Γ0 E0 σ_slices_IndexFunc_SlotInfo (lam Tryz.f164 ls_slices_IndexFunc_SlotInfo) Tryz.f164 0 q_slices_IndexFunc_SlotInfo_2 b_slices_IndexFunc_SlotInfo_2:=fun x=>by kernel_rfl
theorem ok_slices_IndexFunc_SlotInfo:FnOK G0 Tryz.prog 164 S_slices_IndexFunc_SlotInfo:=fn_okS tab0 σok_slices_IndexFunc_SlotInfo Tryz.func164 ls_slices_IndexFunc_SlotInfo (by kernel_rfl) (by exact⟨(lok_slices_IndexFunc_SlotInfo_2).lok,trivial⟩) fun x=>by kernel_rfl
noncomputable def i_findSlot_1(x:Ty.T (.pair TSlotInfo (.pair (.ptr (.int .i64)) (.pair (.ptr (.int .i64)) (.pair (.ptr (.int .i64)) .unit))))):Option (Ty.T (.pair .bool .unit)):=
match(x.1.1==x.2.1)with
|true=>
 match(x.1.2.1==x.2.2.1)with
 |true=>
  some ((x.1.2.2.1==x.2.2.2.1),())
 |false=>
  some (false,())
|false=>
 some (false,())
noncomputable def S_i_findSlot_1:Spec:=⟨(.pair TSlotInfo (.pair (.ptr (.int .i64)) (.pair (.ptr (.int .i64)) (.pair (.ptr (.int .i64)) .unit)))),(.pair .bool .unit),.unit,rfl,i_findSlot_1⟩
noncomputable def σ_i_findSlot_1:FuncId→Option Spec:=sig []
theorem σok_i_findSlot_1:∀f s,σ_i_findSlot_1 f=some s→FnOK G0 Tryz.prog f s:=sig_ok trivial
theorem ok_i_findSlot_1:FnOK G0 Tryz.prog 165 S_i_findSlot_1:=fn_okS tab0 σok_i_findSlot_1 Tryz.func165 [] (by kernel_rfl) (by exact trivial) fun x=>by kernel_rfl
noncomputable def i_findSlot(x:Ty.T (.pair (.list TSlotInfo) (.pair (.int .i64) TCrc))):Option (Ty.T (.pair (.int .i64) .unit)):=
match slices_IndexFunc_SlotInfo (x.1,(fun z=>i_findSlot_1 (z.1,x.2.1,x.2.2.1,x.2.2.2.1,())),())with
|none=>none
|some v1=>
some (v1.1,())
noncomputable def S_i_findSlot:Spec:=⟨(.pair (.list TSlotInfo) (.pair (.int .i64) TCrc)),(.pair (.int .i64) .unit),.unit,rfl,i_findSlot⟩
noncomputable def σ_i_findSlot:FuncId→Option Spec:=sig [(164,S_slices_IndexFunc_SlotInfo),(165,S_i_findSlot_1)]
theorem σok_i_findSlot:∀f s,σ_i_findSlot f=some s→FnOK G0 Tryz.prog f s:=sig_ok ⟨ok_slices_IndexFunc_SlotInfo,ok_i_findSlot_1,trivial⟩
theorem ok_i_findSlot:FnOK G0 Tryz.prog 120 S_i_findSlot:=fn_okS tab0 σok_i_findSlot Tryz.func120 [] (by kernel_rfl) (by exact trivial) fun x=>by kernel_rfl
noncomputable def i_descriptorFor(x:Ty.T (.pair TMedl (.pair TState .unit))):Option (Ty.T (.pair TDescriptor .unit)):=
match i_findSlot (x.1.2.2.2.1,x.2.1.2.1,x.2.1.2.2.1,x.2.1.2.2.2.1,())with
|none=>none
|some v1=>
onSome (idx x.1.2.2.2.1 v1.1) fun v2=>
some ((v2.2.2.2.1.1,v2.2.2.2.1.2.1,v2.2.2.2.1.2.2.1,v2.2.2.2.1.2.2.2.1,v2.2.2.2.1.2.2.2.2.1,()),())
noncomputable def S_i_descriptorFor:Spec:=⟨(.pair TMedl (.pair TState .unit)),(.pair TDescriptor .unit),.unit,rfl,i_descriptorFor⟩
noncomputable def σ_i_descriptorFor:FuncId→Option Spec:=sig [(120,S_i_findSlot)]
theorem σok_i_descriptorFor:∀f s,σ_i_descriptorFor f=some s→FnOK G0 Tryz.prog f s:=sig_ok ⟨ok_i_findSlot,trivial⟩
theorem ok_i_descriptorFor:FnOK G0 Tryz.prog 81 S_i_descriptorFor:=fn_okS tab0 σok_i_descriptorFor Tryz.func81 [] (by kernel_rfl) (by exact trivial) fun x=>by kernel_rfl
noncomputable def i_within(x:Ty.T (.pair (.int .i64) TCrc)):Option (Ty.T (.pair .bool .unit)):=
match(decide (x.1≥x.2.1))with
|true=>
 some ((decide (x.1≤x.2.2.1)),())
|false=>
 some (false,())
noncomputable def S_i_within:Spec:=⟨(.pair (.int .i64) TCrc),(.pair .bool .unit),.unit,rfl,i_within⟩
noncomputable def σ_i_within:FuncId→Option Spec:=sig []
theorem σok_i_within:∀f s,σ_i_within f=some s→FnOK G0 Tryz.prog f s:=sig_ok trivial
theorem ok_i_within:FnOK G0 Tryz.prog 155 S_i_within:=fn_okS tab0 σok_i_within Tryz.func155 [] (by kernel_rfl) (by exact trivial) fun x=>by kernel_rfl
noncomputable def b_slices_Index_int64_2(x:(Ty.T (.pair (.list (.int .i64)) (.pair (.int .i64) TCrc)))):Option ((Ty.T (.pair (.list (.int .i64)) (.pair (.int .i64) TCrc))) ⊕ ((Ty.T .unit) ⊕ (Ty.T (.pair (.int .i64) .unit)))):=
match(decide (x.2.2.2.1<x.2.2.1))with
|true=>
 onSome (idx x.1 x.2.2.2.1) fun v1=>
 match(x.2.1==v1)with
 |true=>
  some (.inr (.inr (x.2.2.2.1,())))
 |false=>
  some (.inl (x.1,x.2.1,x.2.2.1,(IntKind.i64.wrap (x.2.2.2.1+(1:Int))),()))
|false=>
 some (.inr (.inl (())))
noncomputable def slices_Index_int64(x:Ty.T (.pair (.list (.int .i64)) (.pair (.int .i64) .unit))):Option (Ty.T (.pair (.int .i64) .unit)):=
match loopL b_slices_Index_int64_2 (x.1,x.2.1,(x.1.length:Int),(0:Int),())with
|none=>none
|some (.inl v2)=>
 some ((-1:Int),())
|some (.inr v3)=>
 some (v3.1,())
noncomputable def S_slices_Index_int64:Spec:=⟨(.pair (.list (.int .i64)) (.pair (.int .i64) .unit)),(.pair (.int .i64) .unit),.unit,rfl,slices_Index_int64⟩
noncomputable def σ_slices_Index_int64:FuncId→Option Spec:=sig []
theorem σok_slices_Index_int64:∀f s,σ_slices_Index_int64 f=some s→FnOK G0 Tryz.prog f s:=sig_ok trivial
def q_slices_Index_int64_2:LRow:=⟨[0,1,7,8],(.pair (.list (.int .i64)) (.pair (.int .i64) TCrc)),0,[],.unit,[4],(.pair (.int .i64) .unit)⟩
noncomputable def ls_slices_Index_int64:List LSpec:=[q_slices_Index_int64_2.spec b_slices_Index_int64_2]
theorem lok_slices_Index_int64_2:Lok Γ0 E0 σ_slices_Index_int64 (lam Tryz.f206 ls_slices_Index_int64) Tryz.f206 0 q_slices_Index_int64_2 b_slices_Index_int64_2:=fun x=>by kernel_rfl
theorem ok_slices_Index_int64:FnOK G0 Tryz.prog 206 S_slices_Index_int64:=fn_okS tab0 σok_slices_Index_int64 Tryz.func206 ls_slices_Index_int64 (by kernel_rfl) (by exact⟨(lok_slices_Index_int64_2).lok,trivial⟩) fun x=>by kernel_rfl
noncomputable def slices_Contains_int64(x:Ty.T (.pair (.list (.int .i64)) (.pair (.int .i64) .unit))):Option (Ty.T (.pair .bool .unit)):=
match slices_Index_int64 (x.1,x.2.1,())with
|none=>none
|some v1=>
some ((decide (v1.1≥(0:Int))),())
noncomputable def S_slices_Contains_int64:Spec:=⟨(.pair (.list (.int .i64)) (.pair (.int .i64) .unit)),(.pair .bool .unit),.unit,rfl,slices_Contains_int64⟩
noncomputable def σ_slices_Contains_int64:FuncId→Option Spec:=sig [(206,S_slices_Index_int64)]
theorem σok_slices_Contains_int64:∀f s,σ_slices_Contains_int64 f=some s→FnOK G0 Tryz.prog f s:=sig_ok ⟨ok_slices_Index_int64,trivial⟩
theorem ok_slices_Contains_int64:FnOK G0 Tryz.prog 163 S_slices_Contains_int64:=fn_okS tab0 σok_slices_Contains_int64 Tryz.func163 [] (by kernel_rfl) (by exact trivial) fun x=>by kernel_rfl
noncomputable def b_i_isRising_2(x:(Ty.T (.pair (.list (.int .i64)) (.pair (.int .i64) (.pair (.list (.int .i64)) TCrc))))):Option ((Ty.T (.pair (.list (.int .i64)) (.pair (.int .i64) (.pair (.list (.int .i64)) TCrc)))) ⊕ ((Ty.T .unit) ⊕ (Ty.T (.pair .bool .unit)))):=
match(decide (x.2.2.2.2.1<x.2.2.2.1))with
|true=>
 onSome (idx x.2.2.1 x.2.2.2.2.1) fun v1=>
 match(decide (v1<(0:Int)))with
 |true=>
  some (.inr (.inr (false,())))
 |false=>
  match(decide (v1≥x.2.1))with
  |true=>
   some (.inr (.inr (false,())))
  |false=>
   match(decide (x.2.2.2.2.1>(0:Int)))with
   |true=>
    onSome (idx x.1 (IntKind.i64.wrap (x.2.2.2.2.1-(1:Int)))) fun v2=>
    match(decide (v2≥v1))with
    |true=>
     some (.inr (.inr (false,())))
    |false=>
     some (.inl (x.1,x.2.1,x.2.2.1,x.2.2.2.1,(IntKind.i64.wrap (x.2.2.2.2.1+(1:Int))),()))
   |false=>
    some (.inl (x.1,x.2.1,x.2.2.1,x.2.2.2.1,(IntKind.i64.wrap (x.2.2.2.2.1+(1:Int))),()))
|false=>
 some (.inr (.inl (())))
noncomputable def i_isRising(x:Ty.T (.pair (.list (.int .i64)) (.pair (.int .i64) .unit))):Option (Ty.T (.pair .bool .unit)):=
match loopL b_i_isRising_2 (x.1,x.2.1,x.1,(x.1.length:Int),(0:Int),())with
|none=>none
|some (.inl v3)=>
 some (true,())
|some (.inr v4)=>
 some (v4.1,())
noncomputable def S_i_isRising:Spec:=⟨(.pair (.list (.int .i64)) (.pair (.int .i64) .unit)),(.pair .bool .unit),.unit,rfl,i_isRising⟩
noncomputable def σ_i_isRising:FuncId→Option Spec:=sig []
theorem σok_i_isRising:∀f s,σ_i_isRising f=some s→FnOK G0 Tryz.prog f s:=sig_ok trivial
def q_i_isRising_2:LRow:=⟨[0,1,7,8,9],(.pair (.list (.int .i64)) (.pair (.int .i64) (.pair (.list (.int .i64)) TCrc))),0,[],.unit,[4],(.pair .bool .unit)⟩
noncomputable def ls_i_isRising:List LSpec:=[q_i_isRising_2.spec b_i_isRising_2]
theorem lok_i_isRising_2:Lok Γ0 E0 σ_i_isRising (lam Tryz.f250 ls_i_isRising) Tryz.f250 0 q_i_isRising_2 b_i_isRising_2:=fun x=>by kernel_rfl
theorem ok_i_isRising:FnOK G0 Tryz.prog 250 S_i_isRising:=fn_okS tab0 σok_i_isRising Tryz.func250 ls_i_isRising (by kernel_rfl) (by exact⟨(lok_i_isRising_2).lok,trivial⟩) fun x=>by kernel_rfl
end Go.Proofs.YthfgmmmeplanbaaGreatDoor
