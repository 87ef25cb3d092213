import Derived.Test.YthfgmmmeplanbaaGreatDoorGA
namespace Go.Proofs.YthfgmmmeplanbaaGreatDoor
open Go.RowKit
set_option linter.unusedVariables false
noncomputable def b_i_IsModeTable_2(x:(Ty.T (.pair (.list TModeInfo) (.pair (.list TModeInfo) TCrc)))):Option ((Ty.T (.pair (.list TModeInfo) (.pair (.list TModeInfo) TCrc))) ⊕ ((Ty.T (.pair (.list TModeInfo) .unit)) ⊕ (Ty.T (.pair .bool .unit)))):=
match(decide (x.2.2.2.1<x.2.2.1))with
|true=>
 onSome (idx x.2.1 x.2.2.2.1) fun v1=>
 match i_within (v1.1,(1:Int),(8:Int),())with
 |none=>none
 |some v2=>
 match(!v2.1)with
 |true=>
  some (.inr (.inr (false,())))
 |false=>
  match i_within (v1.2.1,(1:Int),(16:Int),())with
  |none=>none
  |some v3=>
  match(!v3.1)with
  |true=>
   some (.inr (.inr (false,())))
  |false=>
   match i_isRising (v1.2.2.1,(x.1.length:Int),())with
   |none=>none
   |some v4=>
   match(!v4.1)with
   |true=>
    some (.inr (.inr (false,())))
   |false=>
    match slices_Contains_int64 (v1.2.2.1,x.2.2.2.1,())with
    |none=>none
    |some v5=>
    match v5.1 with
    |true=>
     some (.inr (.inr (false,())))
    |false=>
     some (.inl (x.1,x.2.1,x.2.2.1,(IntKind.i64.wrap (x.2.2.2.1+(1:Int))),()))
|false=>
 some (.inr (.inl (x.1,())))
noncomputable def i_IsModeTable(x:Ty.T (.pair (.list TModeInfo) .unit)):Option (Ty.T (.pair .bool .unit)):=
match loopL b_i_IsModeTable_2 (x.1,x.1,(x.1.length:Int),(0:Int),())with
|none=>none
|some (.inl v6)=>
 match(decide ((v6.1.length:Int)≥(1:Int)))with
 |true=>
  some ((decide ((v6.1.length:Int)≤(16:Int))),())
 |false=>
  some (false,())
|some (.inr v7)=>
 some (v7.1,())
noncomputable def S_i_IsModeTable:Spec:=⟨(.pair (.list TModeInfo) .unit),(.pair .bool .unit),.unit,rfl,i_IsModeTable⟩
noncomputable def σ_i_IsModeTable:FuncId→Option Spec:=sig [(155,S_i_within),(163,S_slices_Contains_int64),(250,S_i_isRising)]
theorem σok_i_IsModeTable:∀f s,σ_i_IsModeTable f=some s→FnOK G0 Tryz.prog f s:=sig_ok ⟨ok_i_within,ok_slices_Contains_int64,ok_i_isRising,trivial⟩
def q_i_IsModeTable_2:LRow:=⟨[0,5,6,7],(.pair (.list TModeInfo) (.pair (.list TModeInfo) TCrc)),0,[0],(.pair (.list TModeInfo) .unit),[2],(.pair .bool .unit)⟩
noncomputable def ls_i_IsModeTable:List LSpec:=[q_i_IsModeTable_2.spec b_i_IsModeTable_2]
theorem lok_i_IsModeTable_2:Lok Γ0 E0 σ_i_IsModeTable (lam Tryz.f205 ls_i_IsModeTable) Tryz.f205 0 q_i_IsModeTable_2 b_i_IsModeTable_2:=fun x=>by kernel_rfl
theorem ok_i_IsModeTable:FnOK G0 Tryz.prog 205 S_i_IsModeTable:=fn_okS tab0 σok_i_IsModeTable Tryz.func205 ls_i_IsModeTable (by kernel_rfl) (by exact⟨(lok_i_IsModeTable_2).lok,trivial⟩) fun x=>by kernel_rfl
noncomputable def b_i_activeVector_3(x:(Ty.T (.pair (.int .i64) (.pair (.list TNodeInfo) TCrc)))):Option ((Ty.T (.pair (.int .i64) (.pair (.list TNodeInfo) TCrc))) ⊕ ((Ty.T (.pair (.int .i64) .unit)) ⊕ (Ty.T .unit))):=
match(decide (x.2.2.2.1<x.2.2.1))with
|true=>
 onSome (idx x.2.1 x.2.2.2.1) fun v1=>
 match(!v1.2.2.2.1)with
 |true=>
  if v1.1<0 then none else
  some (.inl ((bits BinOp.or .i64 x.1 (IntKind.i64.wrap ((1:Int)*2^min v1.1.toNat IntKind.i64.bits))),x.2.1,x.2.2.1,(IntKind.i64.wrap (x.2.2.2.1+(1:Int))),()))
 |false=>
  some (.inl (x.1,x.2.1,x.2.2.1,(IntKind.i64.wrap (x.2.2.2.1+(1:Int))),()))
|false=>
 some (.inr (.inl (x.1,())))
noncomputable def i_activeVector(x:Ty.T (.pair (.list TNodeInfo) .unit)):Option (Ty.T (.pair (.int .i64) .unit)):=
match loopL b_i_activeVector_3 ((0:Int),x.1,(x.1.length:Int),(0:Int),())with
|none=>none
|some (.inl v2)=>
 some (v2.1,())
|some (.inr v4)=>
 none
noncomputable def S_i_activeVector:Spec:=⟨(.pair (.list TNodeInfo) .unit),(.pair (.int .i64) .unit),.unit,rfl,i_activeVector⟩
noncomputable def σ_i_activeVector:FuncId→Option Spec:=sig []
theorem σok_i_activeVector:∀f s,σ_i_activeVector f=some s→FnOK G0 Tryz.prog f s:=sig_ok trivial
def q_i_activeVector_3:LRow:=⟨[3,6,7,8],(.pair (.int .i64) (.pair (.list TNodeInfo) TCrc)),0,[3],(.pair (.int .i64) .unit),[],.unit⟩
noncomputable def ls_i_activeVector:List LSpec:=[q_i_activeVector_3.spec b_i_activeVector_3]
theorem lok_i_activeVector_3:Lok Γ0 E0 σ_i_activeVector (lam Tryz.f202 ls_i_activeVector) Tryz.f202 0 q_i_activeVector_3 b_i_activeVector_3:=fun x=>by kernel_rfl
theorem ok_i_activeVector:FnOK G0 Tryz.prog 202 S_i_activeVector:=fn_okS tab0 σok_i_activeVector Tryz.func202 ls_i_activeVector (by kernel_rfl) (by exact⟨(lok_i_activeVector_3).lok,trivial⟩) fun x=>by kernel_rfl
noncomputable def i_has(x:Ty.T TCrc):Option (Ty.T (.pair .bool .unit)):=
if x.2.1<0 then none else
some (((bits BinOp.and .i64 (Int.fdiv x.1 (2^min x.2.1.toNat IntKind.i64.bits)) (1:Int))==(1:Int)),())
noncomputable def S_i_has:Spec:=⟨TCrc,(.pair .bool .unit),.unit,rfl,i_has⟩
noncomputable def σ_i_has:FuncId→Option Spec:=sig []
theorem σok_i_has:∀f s,σ_i_has f=some s→FnOK G0 Tryz.prog f s:=sig_ok trivial
theorem ok_i_has:FnOK G0 Tryz.prog 239 S_i_has:=fn_okS tab0 σok_i_has Tryz.func239 [] (by kernel_rfl) (by exact trivial) fun x=>by kernel_rfl
noncomputable def i_FirstFault_1(x:Ty.T (.pair TSlotInfo (.pair (.ptr TMedl) .unit))):Option (Ty.T (.pair .bool .unit)):=
match i_activeVector (x.2.1.2.1,())with
|none=>none
|some v1=>
match i_has (v1.1,x.1.2.2.2.1.1,())with
|none=>none
|some v2=>
some ((!v2.1),())
noncomputable def S_i_FirstFault_1:Spec:=⟨(.pair TSlotInfo (.pair (.ptr TMedl) .unit)),(.pair .bool .unit),.unit,rfl,i_FirstFault_1⟩
noncomputable def σ_i_FirstFault_1:FuncId→Option Spec:=sig [(202,S_i_activeVector),(239,S_i_has)]
theorem σok_i_FirstFault_1:∀f s,σ_i_FirstFault_1 f=some s→FnOK G0 Tryz.prog f s:=sig_ok ⟨ok_i_activeVector,ok_i_has,trivial⟩
theorem ok_i_FirstFault_1:FnOK G0 Tryz.prog 238 S_i_FirstFault_1:=fn_okS tab0 σok_i_FirstFault_1 Tryz.func238 [] (by kernel_rfl) (by exact trivial) fun x=>by kernel_rfl
noncomputable def i_FirstFault_2(x:Ty.T (.pair TSlotInfo .unit)):Option (Ty.T (.pair .bool .unit)):=
match(x.1.2.2.2.1.2.1==(3:Int))with
|true=>
 some ((x.1.1 != (0:Int)),())
|false=>
 some (false,())
noncomputable def S_i_FirstFault_2:Spec:=⟨(.pair TSlotInfo .unit),(.pair .bool .unit),.unit,rfl,i_FirstFault_2⟩
noncomputable def σ_i_FirstFault_2:FuncId→Option Spec:=sig []
theorem σok_i_FirstFault_2:∀f s,σ_i_FirstFault_2 f=some s→FnOK G0 Tryz.prog f s:=sig_ok trivial
theorem ok_i_FirstFault_2:FnOK G0 Tryz.prog 240 S_i_FirstFault_2:=fn_okS tab0 σok_i_FirstFault_2 Tryz.func240 [] (by kernel_rfl) (by exact trivial) fun x=>by kernel_rfl
noncomputable def i_isNode(x:Ty.T (.pair (.int .i64) .unit)):Option (Ty.T (.pair .bool .unit)):=
match i_within (x.1,(0:Int),(31:Int),())with
|none=>none
|some v1=>
some (v1.1,())
noncomputable def S_i_isNode:Spec:=⟨(.pair (.int .i64) .unit),(.pair .bool .unit),.unit,rfl,i_isNode⟩
noncomputable def σ_i_isNode:FuncId→Option Spec:=sig [(155,S_i_within)]
theorem σok_i_isNode:∀f s,σ_i_isNode f=some s→FnOK G0 Tryz.prog f s:=sig_ok ⟨ok_i_within,trivial⟩
theorem ok_i_isNode:FnOK G0 Tryz.prog 159 S_i_isNode:=fn_okS tab0 σok_i_isNode Tryz.func159 [] (by kernel_rfl) (by exact trivial) fun x=>by kernel_rfl
noncomputable def strings_Trim(x:Ty.T (.pair .str (.pair .str .unit))):Option (Ty.T (.pair .str .unit)):=onSome (trimF x.1 x.2.1) fun s=>some (s,())
noncomputable def S_strings_Trim:Spec:=⟨(.pair .str (.pair .str .unit)),(.pair .str .unit),.unit,rfl,strings_Trim⟩
theorem ok_strings_Trim:FnOK G0 Tryz.prog 312 S_strings_Trim:=FnOK.str2_str (entersF_of Tryz.func312 (by kernel_rfl) (show Tryz.f312.body=some (bodyOf Tryz.f312) by kernel_rfl)) (fun w s t y _ hy=>trim_calls w s t y hy)
noncomputable def i_IsNodeInfo(x:Ty.T (.pair TNodeInfo .unit)):Option (Ty.T (.pair .bool .unit)):=
match(decide ((x.1.2.1.length:Int)≥(1:Int)))with
|true=>
 match(decide ((x.1.2.1.length:Int)≤(6:Int)))with
 |true=>
  match strings_Trim (x.1.2.1,([97,98,99,100,101,102,103,104,105,106,107,108,109,110,111,112,113,114,115,116,117,118,119,120,121,122,48,49,50,51,52,53,54,55,56,57]:List UInt8),())with
  |none=>none
  |some v1=>
  match(v1.1== [])with
  |true=>
   match i_isNode (x.1.1,())with
   |none=>none
   |some v2=>
   match v2.1 with
   |true=>
    match i_within (x.1.2.2.1,(0:Int),(1000:Int),())with
    |none=>none
    |some v3=>
    some (v3.1,())
   |false=>
    some (false,())
  |false=>
   some (false,())
 |false=>
  some (false,())
|false=>
 some (false,())
noncomputable def S_i_IsNodeInfo:Spec:=⟨(.pair TNodeInfo .unit),(.pair .bool .unit),.unit,rfl,i_IsNodeInfo⟩
noncomputable def σ_i_IsNodeInfo:FuncId→Option Spec:=sig [(155,S_i_within),(159,S_i_isNode),(312,S_strings_Trim)]
theorem σok_i_IsNodeInfo:∀f s,σ_i_IsNodeInfo f=some s→FnOK G0 Tryz.prog f s:=sig_ok ⟨ok_i_within,ok_i_isNode,ok_strings_Trim,trivial⟩
theorem ok_i_IsNodeInfo:FnOK G0 Tryz.prog 284 S_i_IsNodeInfo:=fn_okS tab0 σok_i_IsNodeInfo Tryz.func284 [] (by kernel_rfl) (by exact trivial) fun x=>by kernel_rfl
noncomputable def b_slices_IndexFunc_NodeInfo_2(x:(Ty.T (.pair (.list TNodeInfo) (.pair (.fn (.pair TNodeInfo .unit) (.pair .bool .unit)) TCrc)))):Option ((Ty.T (.pair (.list TNodeInfo) (.pair (.fn (.pair TNodeInfo .unit) (.pair .bool .unit)) TCrc))) ⊕ ((Ty.T .unit) ⊕ (Ty.T (.pair (.int .i64) .unit)))):=
match(decide (x.2.2.2.1<x.2.2.1))with
|true=>
 onSome (idx x.1 x.2.2.2.1) fun v1=>
 match x.2.1 (v1,())with
 |none=>none
 |some v2=>
 match v2.1 with
 |true=>
  some (.inr (.inr (x.2.2.2.1,())))
 |false=>
  some (.inl (x.1,x.2.1,x.2.2.1,(IntKind.i64.wrap (x.2.2.2.1+(1:Int))),()))
|false=>
 some (.inr (.inl (())))
noncomputable def slices_IndexFunc_NodeInfo(x:Ty.T (.pair (.list TNodeInfo) (.pair (.fn (.pair TNodeInfo .unit) (.pair .bool .unit)) .unit))):Option (Ty.T (.pair (.int .i64) .unit)):=
match loopL b_slices_IndexFunc_NodeInfo_2 (x.1,x.2.1,(x.1.length:Int),(0:Int),())with
|none=>none
|some (.inl v3)=>
 some ((-1:Int),())
|some (.inr v4)=>
 some (v4.1,())
noncomputable def S_slices_IndexFunc_NodeInfo:Spec:=⟨(.pair (.list TNodeInfo) (.pair (.fn (.pair TNodeInfo .unit) (.pair .bool .unit)) .unit)),(.pair (.int .i64) .unit),.unit,rfl,slices_IndexFunc_NodeInfo⟩
noncomputable def σ_slices_IndexFunc_NodeInfo:FuncId→Option Spec:=sig []
theorem σok_slices_IndexFunc_NodeInfo:∀f s,σ_slices_IndexFunc_NodeInfo f=some s→FnOK G0 Tryz.prog f s:=sig_ok trivial
def q_slices_IndexFunc_NodeInfo_2:LRow:=⟨[0,1,7,8],(.pair (.list TNodeInfo) (.pair (.fn (.pair TNodeInfo .unit) (.pair .bool .unit)) TCrc)),0,[],.unit,[4],(.pair (.int .i64) .unit)⟩
noncomputable def ls_slices_IndexFunc_NodeInfo:List LSpec:=[q_slices_IndexFunc_NodeInfo_2.spec b_slices_IndexFunc_NodeInfo_2]
theorem lok_slices_IndexFunc_NodeInfo_2:Lok Γ0 E0 σ_slices_IndexFunc_NodeInfo (lam Tryz.f313 ls_slices_IndexFunc_NodeInfo) Tryz.f313 0 q_slices_IndexFunc_NodeInfo_2 b_slices_IndexFunc_NodeInfo_2:=fun x=>by kernel_rfl
theorem ok_slices_IndexFunc_NodeInfo:FnOK G0 Tryz.prog 313 S_slices_IndexFunc_NodeInfo:=fn_okS tab0 σok_slices_IndexFunc_NodeInfo Tryz.func313 ls_slices_IndexFunc_NodeInfo (by kernel_rfl) (by exact⟨(lok_slices_IndexFunc_NodeInfo_2).lok,trivial⟩) fun x=>by kernel_rfl
noncomputable def slices_ContainsFunc_NodeInfo(x:Ty.T (.pair (.list TNodeInfo) (.pair (.fn (.pair TNodeInfo .unit) (.pair .bool .unit)) .unit))):Option (Ty.T (.pair .bool .unit)):=
match slices_IndexFunc_NodeInfo (x.1,x.2.1,())with
|none=>none
|some v1=>
some ((decide (v1.1≥(0:Int))),())
noncomputable def S_slices_ContainsFunc_NodeInfo:Spec:=⟨(.pair (.list TNodeInfo) (.pair (.fn (.pair TNodeInfo .unit) (.pair .bool .unit)) .unit)),(.pair .bool .unit),.unit,rfl,slices_ContainsFunc_NodeInfo⟩
noncomputable def σ_slices_ContainsFunc_NodeInfo:FuncId→Option Spec:=sig [(313,S_slices_IndexFunc_NodeInfo)]
theorem σok_slices_ContainsFunc_NodeInfo:∀f s,σ_slices_ContainsFunc_NodeInfo f=some s→FnOK G0 Tryz.prog f s:=sig_ok ⟨ok_slices_IndexFunc_NodeInfo,trivial⟩
theorem ok_slices_ContainsFunc_NodeInfo:FnOK G0 Tryz.prog 285 S_slices_ContainsFunc_NodeInfo:=fn_okS tab0 σok_slices_ContainsFunc_NodeInfo Tryz.func285 [] (by kernel_rfl) (by exact trivial) fun x=>by kernel_rfl
noncomputable def i_IsNodeTable_1(x:Ty.T (.pair TNodeInfo (.pair (.ptr TNodeInfo) .unit))):Option (Ty.T (.pair .bool .unit)):=
some ((x.1.2.1==x.2.1.2.1),())
noncomputable def S_i_IsNodeTable_1:Spec:=⟨(.pair TNodeInfo (.pair (.ptr TNodeInfo) .unit)),(.pair .bool .unit),.unit,rfl,i_IsNodeTable_1⟩
noncomputable def σ_i_IsNodeTable_1:FuncId→Option Spec:=sig []
theorem σok_i_IsNodeTable_1:∀f s,σ_i_IsNodeTable_1 f=some s→FnOK G0 Tryz.prog f s:=sig_ok trivial
theorem ok_i_IsNodeTable_1:FnOK G0 Tryz.prog 286 S_i_IsNodeTable_1:=fn_okS tab0 σok_i_IsNodeTable_1 Tryz.func286 [] (by kernel_rfl) (by exact trivial) fun x=>by kernel_rfl
noncomputable def b_i_IsNodeTable_2(x:(Ty.T (.pair (.list TNodeInfo) (.pair (.list TNodeInfo) TCrc)))):Option ((Ty.T (.pair (.list TNodeInfo) (.pair (.list TNodeInfo) TCrc))) ⊕ ((Ty.T (.pair (.list TNodeInfo) .unit)) ⊕ (Ty.T (.pair .bool .unit)))):=
match(decide (x.2.2.2.1<x.2.2.1))with
|true=>
 onSome (idx x.2.1 x.2.2.2.1) fun v1=>
 match i_IsNodeInfo ((v1.1,v1.2.1,v1.2.2.1,v1.2.2.2.1,()),())with
 |none=>none
 |some v2=>
 match(!v2.1)with
 |true=>
  some (.inr (.inr (false,())))
 |false=>
  match(decide (x.2.2.2.1>(0:Int)))with
  |true=>
   onSome (idx x.1 (IntKind.i64.wrap (x.2.2.2.1-(1:Int)))) fun v3=>
   match(decide (v3.1≥v1.1))with
   |true=>
    some (.inr (.inr (false,())))
   |false=>
    onSome (bounds x.1.length none (some (.dat (.int .i64) x.2.2.2.1))) fun v4=>
    match slices_ContainsFunc_NodeInfo ((List.drop v4.1 (List.take v4.2 x.1)),(fun z=>i_IsNodeTable_1 (z.1,(v1.1,v1.2.1,v1.2.2.1,v1.2.2.2.1,()),())),())with
    |none=>none
    |some v5=>
    match v5.1 with
    |true=>
     some (.inr (.inr (false,())))
    |false=>
     some (.inl (x.1,x.2.1,x.2.2.1,(IntKind.i64.wrap (x.2.2.2.1+(1:Int))),()))
  |false=>
   onSome (bounds x.1.length none (some (.dat (.int .i64) x.2.2.2.1))) fun v6=>
   match slices_ContainsFunc_NodeInfo ((List.drop v6.1 (List.take v6.2 x.1)),(fun z=>i_IsNodeTable_1 (z.1,(v1.1,v1.2.1,v1.2.2.1,v1.2.2.2.1,()),())),())with
   |none=>none
   |some v7=>
   match v7.1 with
   |true=>
    some (.inr (.inr (false,())))
   |false=>
    some (.inl (x.1,x.2.1,x.2.2.1,(IntKind.i64.wrap (x.2.2.2.1+(1:Int))),()))
|false=>
 some (.inr (.inl (x.1,())))
noncomputable def i_IsNodeTable(x:Ty.T (.pair (.list TNodeInfo) .unit)):Option (Ty.T (.pair .bool .unit)):=
match loopL b_i_IsNodeTable_2 (x.1,x.1,(x.1.length:Int),(0:Int),())with
|none=>none
|some (.inl v8)=>
 match(decide ((v8.1.length:Int)≥(1:Int)))with
 |true=>
  some ((decide ((v8.1.length:Int)≤(32:Int))),())
 |false=>
  some (false,())
|some (.inr v9)=>
 some (v9.1,())
noncomputable def S_i_IsNodeTable:Spec:=⟨(.pair (.list TNodeInfo) .unit),(.pair .bool .unit),.unit,rfl,i_IsNodeTable⟩
noncomputable def σ_i_IsNodeTable:FuncId→Option Spec:=sig [(284,S_i_IsNodeInfo),(285,S_slices_ContainsFunc_NodeInfo),(286,S_i_IsNodeTable_1)]
theorem σok_i_IsNodeTable:∀f s,σ_i_IsNodeTable f=some s→FnOK G0 Tryz.prog f s:=sig_ok ⟨ok_i_IsNodeInfo,ok_slices_ContainsFunc_NodeInfo,ok_i_IsNodeTable_1,trivial⟩
def q_i_IsNodeTable_2:LRow:=⟨[0,5,6,7],(.pair (.list TNodeInfo) (.pair (.list TNodeInfo) TCrc)),0,[0],(.pair (.list TNodeInfo) .unit),[2],(.pair .bool .unit)⟩
noncomputable def ls_i_IsNodeTable:List LSpec:=[q_i_IsNodeTable_2.spec b_i_IsNodeTable_2]
theorem lok_i_IsNodeTable_2:Lok Γ0 E0 σ_i_IsNodeTable (lam Tryz.f241 ls_i_IsNodeTable) Tryz.f241 0 q_i_IsNodeTable_2 b_i_IsNodeTable_2:=fun x=>by kernel_rfl
theorem ok_i_IsNodeTable:FnOK G0 Tryz.prog 241 S_i_IsNodeTable:=fn_okS tab0 σok_i_IsNodeTable Tryz.func241 ls_i_IsNodeTable (by kernel_rfl) (by exact⟨(lok_i_IsNodeTable_2).lok,trivial⟩) fun x=>by kernel_rfl
noncomputable def i_isKind(x:Ty.T (.pair (.int .i64) .unit)):Option (Ty.T (.pair .bool .unit)):=
match i_within (x.1,(0:Int),(3:Int),())with
|none=>none
|some v1=>
some (v1.1,())
noncomputable def S_i_isKind:Spec:=⟨(.pair (.int .i64) .unit),(.pair .bool .unit),.unit,rfl,i_isKind⟩
noncomputable def σ_i_isKind:FuncId→Option Spec:=sig [(155,S_i_within)]
theorem σok_i_isKind:∀f s,σ_i_isKind f=some s→FnOK G0 Tryz.prog f s:=sig_ok ⟨ok_i_within,trivial⟩
theorem ok_i_isKind:FnOK G0 Tryz.prog 315 S_i_isKind:=fn_okS tab0 σok_i_isKind Tryz.func315 [] (by kernel_rfl) (by exact trivial) fun x=>by kernel_rfl
noncomputable def i_isDataSize(x:Ty.T TCrc):Option (Ty.T (.pair .bool .unit)):=
match(x.1==(0:Int))with
|true=>
 match i_within (x.2.1,(0:Int),(32:Int),())with
 |none=>none
 |some v1=>
 some (v1.1,())
|false=>
 match(x.1==(2:Int))with
 |true=>
  match i_within (x.2.1,(1:Int),(32:Int),())with
  |none=>none
  |some v2=>
  some (v2.1,())
 |false=>
  some ((x.2.1==(0:Int)),())
noncomputable def S_i_isDataSize:Spec:=⟨TCrc,(.pair .bool .unit),.unit,rfl,i_isDataSize⟩
noncomputable def σ_i_isDataSize:FuncId→Option Spec:=sig [(155,S_i_within)]
theorem σok_i_isDataSize:∀f s,σ_i_isDataSize f=some s→FnOK G0 Tryz.prog f s:=sig_ok ⟨ok_i_within,trivial⟩
theorem ok_i_isDataSize:FnOK G0 Tryz.prog 316 S_i_isDataSize:=fn_okS tab0 σok_i_isDataSize Tryz.func316 [] (by kernel_rfl) (by exact trivial) fun x=>by kernel_rfl
noncomputable def i_hasState(x:Ty.T (.pair (.int .i64) .unit)):Option (Ty.T (.pair .bool .unit)):=
some ((x.1 != (0:Int)),())
noncomputable def S_i_hasState:Spec:=⟨(.pair (.int .i64) .unit),(.pair .bool .unit),.unit,rfl,i_hasState⟩
noncomputable def σ_i_hasState:FuncId→Option Spec:=sig []
theorem σok_i_hasState:∀f s,σ_i_hasState f=some s→FnOK G0 Tryz.prog f s:=sig_ok trivial
theorem ok_i_hasState:FnOK G0 Tryz.prog 248 S_i_hasState:=fn_okS tab0 σok_i_hasState Tryz.func248 [] (by kernel_rfl) (by exact trivial) fun x=>by kernel_rfl
noncomputable def i_hasData(x:Ty.T (.pair (.int .i64) .unit)):Option (Ty.T (.pair .bool .unit)):=
match(x.1==(0:Int))with
|true=>
 some (true,())
|false=>
 some ((x.1==(2:Int)),())
noncomputable def S_i_hasData:Spec:=⟨(.pair (.int .i64) .unit),(.pair .bool .unit),.unit,rfl,i_hasData⟩
noncomputable def σ_i_hasData:FuncId→Option Spec:=sig []
theorem σok_i_hasData:∀f s,σ_i_hasData f=some s→FnOK G0 Tryz.prog f s:=sig_ok trivial
theorem ok_i_hasData:FnOK G0 Tryz.prog 259 S_i_hasData:=fn_okS tab0 σok_i_hasData Tryz.func259 [] (by kernel_rfl) (by exact trivial) fun x=>by kernel_rfl
noncomputable def i_bodySize(x:Ty.T TCrc):Option (Ty.T (.pair (.int .i64) .unit)):=
match i_hasState (x.1,())with
|none=>none
|some v1=>
match v1.1 with
|true=>
 match i_hasData (x.1,())with
 |none=>none
 |some v2=>
 match v2.1 with
 |true=>
  some ((IntKind.i64.wrap ((IntKind.i64.wrap ((1:Int)+(8:Int)))+(IntKind.i64.wrap ((1:Int)+x.2.1)))),())
 |false=>
  some ((IntKind.i64.wrap ((1:Int)+(8:Int))),())
|false=>
 match i_hasData (x.1,())with
 |none=>none
 |some v3=>
 match v3.1 with
 |true=>
  some ((IntKind.i64.wrap ((1:Int)+(IntKind.i64.wrap ((1:Int)+x.2.1)))),())
 |false=>
  some ((1:Int),())
noncomputable def S_i_bodySize:Spec:=⟨TCrc,(.pair (.int .i64) .unit),.unit,rfl,i_bodySize⟩
noncomputable def σ_i_bodySize:FuncId→Option Spec:=sig [(248,S_i_hasState),(259,S_i_hasData)]
theorem σok_i_bodySize:∀f s,σ_i_bodySize f=some s→FnOK G0 Tryz.prog f s:=sig_ok ⟨ok_i_hasState,ok_i_hasData,trivial⟩
theorem ok_i_bodySize:FnOK G0 Tryz.prog 330 S_i_bodySize:=fn_okS tab0 σok_i_bodySize Tryz.func330 [] (by kernel_rfl) (by exact trivial) fun x=>by kernel_rfl
noncomputable def i_cellsNeeded(x:Ty.T TCrc):Option (Ty.T (.pair (.int .i64) .unit)):=
match i_bodySize (x.1,x.2.1,())with
|none=>none
|some v1=>
some ((IntKind.i64.wrap ((11:Int)+(IntKind.i64.wrap ((10:Int)*(IntKind.i64.wrap (v1.1+(3:Int))))))),())
noncomputable def S_i_cellsNeeded:Spec:=⟨TCrc,(.pair (.int .i64) .unit),.unit,rfl,i_cellsNeeded⟩
noncomputable def σ_i_cellsNeeded:FuncId→Option Spec:=sig [(330,S_i_bodySize)]
theorem σok_i_cellsNeeded:∀f s,σ_i_cellsNeeded f=some s→FnOK G0 Tryz.prog f s:=sig_ok ⟨ok_i_bodySize,trivial⟩
theorem ok_i_cellsNeeded:FnOK G0 Tryz.prog 317 S_i_cellsNeeded:=fn_okS tab0 σok_i_cellsNeeded Tryz.func317 [] (by kernel_rfl) (by exact trivial) fun x=>by kernel_rfl
noncomputable def i_IsDescriptor(x:Ty.T (.pair TDescriptor .unit)):Option (Ty.T (.pair .bool .unit)):=
match i_isNode (x.1.1,())with
|none=>none
|some v1=>
match(!v1.1)with
|true=>
 some (false,())
|false=>
 match i_isKind (x.1.2.1,())with
 |none=>none
 |some v2=>
 match(!v2.1)with
 |true=>
  some (false,())
 |false=>
  match i_isDataSize (x.1.2.1,x.1.2.2.1,())with
  |none=>none
  |some v3=>
  match(!v3.1)with
  |true=>
   some (false,())
  |false=>
   match x.1.2.2.2.2.1 with
   |true=>
    match(x.1.2.1==(3:Int))with
    |true=>
     some (false,())
    |false=>
     match i_cellsNeeded (x.1.2.1,x.1.2.2.1,())with
     |none=>none
     |some v4=>
     match i_within (x.1.2.2.2.1,(IntKind.i64.wrap (v4.1+(20:Int))),(1000:Int),())with
     |none=>none
     |some v5=>
     some (v5.1,())
   |false=>
    match i_cellsNeeded (x.1.2.1,x.1.2.2.1,())with
    |none=>none
    |some v6=>
    match i_within (x.1.2.2.2.1,(IntKind.i64.wrap (v6.1+(20:Int))),(1000:Int),())with
    |none=>none
    |some v7=>
    some (v7.1,())
noncomputable def S_i_IsDescriptor:Spec:=⟨(.pair TDescriptor .unit),(.pair .bool .unit),.unit,rfl,i_IsDescriptor⟩
noncomputable def σ_i_IsDescriptor:FuncId→Option Spec:=sig [(155,S_i_within),(159,S_i_isNode),(315,S_i_isKind),(316,S_i_isDataSize),(317,S_i_cellsNeeded)]
theorem σok_i_IsDescriptor:∀f s,σ_i_IsDescriptor f=some s→FnOK G0 Tryz.prog f s:=sig_ok ⟨ok_i_within,ok_i_isNode,ok_i_isKind,ok_i_isDataSize,ok_i_cellsNeeded,trivial⟩
theorem ok_i_IsDescriptor:FnOK G0 Tryz.prog 291 S_i_IsDescriptor:=fn_okS tab0 σok_i_IsDescriptor Tryz.func291 [] (by kernel_rfl) (by exact trivial) fun x=>by kernel_rfl
noncomputable def i_isSlotInfo(x:Ty.T (.pair TSlotInfo .unit)):Option (Ty.T (.pair .bool .unit)):=
match i_within (x.1.1,(0:Int),(15:Int),())with
|none=>none
|some v1=>
match v1.1 with
|true=>
 match i_within (x.1.2.1,(0:Int),(7:Int),())with
 |none=>none
 |some v2=>
 match v2.1 with
 |true=>
  match i_within (x.1.2.2.1,(0:Int),(15:Int),())with
  |none=>none
  |some v3=>
  match v3.1 with
  |true=>
   match i_IsDescriptor ((x.1.2.2.2.1.1,x.1.2.2.2.1.2.1,x.1.2.2.2.1.2.2.1,x.1.2.2.2.1.2.2.2.1,x.1.2.2.2.1.2.2.2.2.1,()),())with
   |none=>none
   |some v4=>
   some (v4.1,())
  |false=>
   some (false,())
 |false=>
  some (false,())
|false=>
 some (false,())
noncomputable def S_i_isSlotInfo:Spec:=⟨(.pair TSlotInfo .unit),(.pair .bool .unit),.unit,rfl,i_isSlotInfo⟩
noncomputable def σ_i_isSlotInfo:FuncId→Option Spec:=sig [(155,S_i_within),(291,S_i_IsDescriptor)]
theorem σok_i_isSlotInfo:∀f s,σ_i_isSlotInfo f=some s→FnOK G0 Tryz.prog f s:=sig_ok ⟨ok_i_within,ok_i_IsDescriptor,trivial⟩
theorem ok_i_isSlotInfo:FnOK G0 Tryz.prog 287 S_i_isSlotInfo:=fn_okS tab0 σok_i_isSlotInfo Tryz.func287 [] (by kernel_rfl) (by exact trivial) fun x=>by kernel_rfl
noncomputable def i_compare(x:Ty.T TCrc):Option (Ty.T (.pair (.int .i64) .unit)):=
match(decide (x.1<x.2.1))with
|true=>
 some ((-1:Int),())
|false=>
 match(decide (x.1>x.2.1))with
 |true=>
  some ((1:Int),())
 |false=>
  some ((0:Int),())
noncomputable def S_i_compare:Spec:=⟨TCrc,(.pair (.int .i64) .unit),.unit,rfl,i_compare⟩
noncomputable def σ_i_compare:FuncId→Option Spec:=sig []
theorem σok_i_compare:∀f s,σ_i_compare f=some s→FnOK G0 Tryz.prog f s:=sig_ok trivial
theorem ok_i_compare:FnOK G0 Tryz.prog 314 S_i_compare:=fn_okS tab0 σok_i_compare Tryz.func314 [] (by kernel_rfl) (by exact trivial) fun x=>by kernel_rfl
noncomputable def i_CompareSlots(x:Ty.T (.pair TSlotInfo (.pair TSlotInfo .unit))):Option (Ty.T (.pair (.int .i64) .unit)):=
match(x.1.1 != x.2.1.1)with
|true=>
 match i_compare (x.1.1,x.2.1.1,())with
 |none=>none
 |some v1=>
 some (v1.1,())
|false=>
 match(x.1.2.1 != x.2.1.2.1)with
 |true=>
  match i_compare (x.1.2.1,x.2.1.2.1,())with
  |none=>none
  |some v2=>
  some (v2.1,())
 |false=>
  match i_compare (x.1.2.2.1,x.2.1.2.2.1,())with
  |none=>none
  |some v3=>
  some (v3.1,())
noncomputable def S_i_CompareSlots:Spec:=⟨(.pair TSlotInfo (.pair TSlotInfo .unit)),(.pair (.int .i64) .unit),.unit,rfl,i_CompareSlots⟩
noncomputable def σ_i_CompareSlots:FuncId→Option Spec:=sig [(314,S_i_compare)]
theorem σok_i_CompareSlots:∀f s,σ_i_CompareSlots f=some s→FnOK G0 Tryz.prog f s:=sig_ok ⟨ok_i_compare,trivial⟩
theorem ok_i_CompareSlots:FnOK G0 Tryz.prog 288 S_i_CompareSlots:=fn_okS tab0 σok_i_CompareSlots Tryz.func288 [] (by kernel_rfl) (by exact trivial) fun x=>by kernel_rfl
noncomputable def b_i_IsSlotTable_2(x:(Ty.T (.pair (.list TSlotInfo) (.pair (.list TSlotInfo) TCrc)))):Option ((Ty.T (.pair (.list TSlotInfo) (.pair (.list TSlotInfo) TCrc))) ⊕ ((Ty.T (.pair (.list TSlotInfo) .unit)) ⊕ (Ty.T (.pair .bool .unit)))):=
match(decide (x.2.2.2.1<x.2.2.1))with
|true=>
 onSome (idx x.2.1 x.2.2.2.1) fun v1=>
 match i_isSlotInfo ((v1.1,v1.2.1,v1.2.2.1,(v1.2.2.2.1.1,v1.2.2.2.1.2.1,v1.2.2.2.1.2.2.1,v1.2.2.2.1.2.2.2.1,v1.2.2.2.1.2.2.2.2.1,()),()),())with
 |none=>none
 |some v2=>
 match(!v2.1)with
 |true=>
  some (.inr (.inr (false,())))
 |false=>
  match(decide (x.2.2.2.1>(0:Int)))with
  |true=>
   onSome (idx x.1 (IntKind.i64.wrap (x.2.2.2.1-(1:Int)))) fun v3=>
   match i_CompareSlots (v3,(v1.1,v1.2.1,v1.2.2.1,(v1.2.2.2.1.1,v1.2.2.2.1.2.1,v1.2.2.2.1.2.2.1,v1.2.2.2.1.2.2.2.1,v1.2.2.2.1.2.2.2.2.1,()),()),())with
   |none=>none
   |some v4=>
   match(decide (v4.1≥(0:Int)))with
   |true=>
    some (.inr (.inr (false,())))
   |false=>
    some (.inl (x.1,x.2.1,x.2.2.1,(IntKind.i64.wrap (x.2.2.2.1+(1:Int))),()))
  |false=>
   some (.inl (x.1,x.2.1,x.2.2.1,(IntKind.i64.wrap (x.2.2.2.1+(1:Int))),()))
|false=>
 some (.inr (.inl (x.1,())))
noncomputable def i_IsSlotTable(x:Ty.T (.pair (.list TSlotInfo) .unit)):Option (Ty.T (.pair .bool .unit)):=
match loopL b_i_IsSlotTable_2 (x.1,x.1,(x.1.length:Int),(0:Int),())with
|none=>none
|some (.inl v5)=>
 some ((decide ((v5.1.length:Int)≤(120:Int))),())
|some (.inr v6)=>
 some (v6.1,())
noncomputable def S_i_IsSlotTable:Spec:=⟨(.pair (.list TSlotInfo) .unit),(.pair .bool .unit),.unit,rfl,i_IsSlotTable⟩
noncomputable def σ_i_IsSlotTable:FuncId→Option Spec:=sig [(287,S_i_isSlotInfo),(288,S_i_CompareSlots)]
theorem σok_i_IsSlotTable:∀f s,σ_i_IsSlotTable f=some s→FnOK G0 Tryz.prog f s:=sig_ok ⟨ok_i_isSlotInfo,ok_i_CompareSlots,trivial⟩
def q_i_IsSlotTable_2:LRow:=⟨[0,5,6,7],(.pair (.list TSlotInfo) (.pair (.list TSlotInfo) TCrc)),0,[0],(.pair (.list TSlotInfo) .unit),[2],(.pair .bool .unit)⟩
noncomputable def ls_i_IsSlotTable:List LSpec:=[q_i_IsSlotTable_2.spec b_i_IsSlotTable_2]
theorem lok_i_IsSlotTable_2:Lok Γ0 E0 σ_i_IsSlotTable (lam Tryz.f242 ls_i_IsSlotTable) Tryz.f242 0 q_i_IsSlotTable_2 b_i_IsSlotTable_2:=fun x=>by kernel_rfl
theorem ok_i_IsSlotTable:FnOK G0 Tryz.prog 242 S_i_IsSlotTable:=fn_okS tab0 σok_i_IsSlotTable Tryz.func242 ls_i_IsSlotTable (by kernel_rfl) (by exact⟨(lok_i_IsSlotTable_2).lok,trivial⟩) fun x=>by kernel_rfl
noncomputable def b_i_isComplete_6(x:(Ty.T (.pair (.box TMedl) (.pair (.int .i64) (.pair (.int .i64) (.pair (.box TModeInfo) (.pair (.list TModeInfo) TFault))))))):Option ((Ty.T (.pair (.box TMedl) (.pair (.int .i64) (.pair (.int .i64) (.pair (.box TModeInfo) (.pair (.list TModeInfo) TFault)))))) ⊕ ((Ty.T (.pair (.box TMedl) (.pair (.int .i64) (.pair (.list TModeInfo) TCrc)))) ⊕ (Ty.T (.pair .bool .unit)))):=
match(decide (x.2.2.2.2.2.2.2.2.1<x.2.2.2.2.2.2.2.1))with
|true=>
 match(x.2.1==(x.1.2.2.2.1.length:Int))with
 |true=>
  some (.inr (.inr (false,())))
 |false=>
  onSome (idx x.1.2.2.2.1 x.2.1) fun v2=>
  if x.2.2.2.1.2.1=0 then none else
  if x.2.2.2.1.2.1=0 then none else
  match i_CompareSlots (v2,(x.2.2.1,(IntKind.i64.wrap (Int.tdiv x.2.2.2.2.2.2.2.2.1 x.2.2.2.1.2.1)),(Int.tmod x.2.2.2.2.2.2.2.2.1 x.2.2.2.1.2.1),((0:Int),(0:Int),(0:Int),(0:Int),false,()),()),())with
  |none=>none
  |some v3=>
  match(v3.1 != (0:Int))with
  |true=>
   some (.inr (.inr (false,())))
  |false=>
   some (.inl ((x.1.1,x.1.2.1,x.1.2.2.1,x.1.2.2.2.1,()),(IntKind.i64.wrap (x.2.1+(1:Int))),x.2.2.1,(x.2.2.2.1.1,x.2.2.2.1.2.1,x.2.2.2.1.2.2.1,()),x.2.2.2.2.1,x.2.2.2.2.2.1,x.2.2.2.2.2.2.1,x.2.2.2.2.2.2.2.1,(IntKind.i64.wrap (x.2.2.2.2.2.2.2.2.1+(1:Int))),()))
|false=>
 some (.inr (.inl ((x.1.1,x.1.2.1,x.1.2.2.1,x.1.2.2.2.1,()),x.2.1,x.2.2.2.2.1,x.2.2.2.2.2.1,x.2.2.2.2.2.2.1,())))
noncomputable def b_i_isComplete_3(x:(Ty.T (.pair (.box TMedl) (.pair (.int .i64) (.pair (.list TModeInfo) TCrc))))):Option ((Ty.T (.pair (.box TMedl) (.pair (.int .i64) (.pair (.list TModeInfo) TCrc)))) ⊕ ((Ty.T (.pair (.box TMedl) (.pair (.int .i64) .unit))) ⊕ (Ty.T (.pair .bool .unit)))):=
match(decide (x.2.2.2.2.1<x.2.2.2.1))with
|true=>
 onSome (idx x.2.2.1 x.2.2.2.2.1) fun v1=>
 match loopL b_i_isComplete_6 ((x.1.1,x.1.2.1,x.1.2.2.1,x.1.2.2.2.1,()),x.2.1,x.2.2.2.2.1,(v1.1,v1.2.1,v1.2.2.1,()),x.2.2.1,x.2.2.2.1,x.2.2.2.2.1,(IntKind.i64.wrap (v1.1*v1.2.1)),(0:Int),())with
 |none=>none
 |some (.inl v2)=>
  some (.inl ((v2.1.1,v2.1.2.1,v2.1.2.2.1,v2.1.2.2.2.1,()),v2.2.1,v2.2.2.1,v2.2.2.2.1,(IntKind.i64.wrap (v2.2.2.2.2.1+(1:Int))),()))
 |some (.inr v3)=>
  some (.inr (.inr (v3.1,())))
|false=>
 some (.inr (.inl ((x.1.1,x.1.2.1,x.1.2.2.1,x.1.2.2.2.1,()),x.2.1,())))
noncomputable def i_isComplete(x:Ty.T (.pair TMedl .unit)):Option (Ty.T (.pair .bool .unit)):=
match loopL b_i_isComplete_3 ((x.1.1,x.1.2.1,x.1.2.2.1,x.1.2.2.2.1,()),(0:Int),x.1.2.2.1,(x.1.2.2.1.length:Int),(0:Int),())with
|none=>none
|some (.inl v4)=>
 some ((v4.2.1==(v4.1.2.2.2.1.length:Int)),())
|some (.inr v5)=>
 some (v5.1,())
noncomputable def S_i_isComplete:Spec:=⟨(.pair TMedl .unit),(.pair .bool .unit),.unit,rfl,i_isComplete⟩
noncomputable def σ_i_isComplete:FuncId→Option Spec:=sig [(288,S_i_CompareSlots)]
theorem σok_i_isComplete:∀f s,σ_i_isComplete f=some s→FnOK G0 Tryz.prog f s:=sig_ok ⟨ok_i_CompareSlots,trivial⟩
def q_i_isComplete_3:LRow:=⟨[1,3,8,9,10],(.pair (.box TMedl) (.pair (.int .i64) (.pair (.list TModeInfo) TCrc))),0,[1,3],(.pair (.box TMedl) (.pair (.int .i64) .unit)),[2],(.pair .bool .unit)⟩
def q_i_isComplete_6:LRow:=⟨[1,3,4,5,8,9,10,19,20],(.pair (.box TMedl) (.pair (.int .i64) (.pair (.int .i64) (.pair (.box TModeInfo) (.pair (.list TModeInfo) TFault))))),2,[1,3,8,9,10],(.pair (.box TMedl) (.pair (.int .i64) (.pair (.list TModeInfo) TCrc))),[2],(.pair .bool .unit)⟩
noncomputable def ls_i_isComplete:List LSpec:=[q_i_isComplete_3.spec b_i_isComplete_3,q_i_isComplete_6.spec b_i_isComplete_6]
theorem lok_i_isComplete_3:Lok Γ0 E0 σ_i_isComplete (lam Tryz.f243 ls_i_isComplete) Tryz.f243 0 q_i_isComplete_3 b_i_isComplete_3:=fun x=>by kernel_rfl
theorem lok_i_isComplete_6:Lok Γ0 E0 σ_i_isComplete (lam Tryz.f243 ls_i_isComplete) Tryz.f243 1 q_i_isComplete_6 b_i_isComplete_6:=fun x=>by kernel_rfl
theorem ok_i_isComplete:FnOK G0 Tryz.prog 243 S_i_isComplete:=fn_okS tab0 σok_i_isComplete Tryz.func243 ls_i_isComplete (by kernel_rfl) (by exact⟨(lok_i_isComplete_3).lok,(lok_i_isComplete_6).lok,trivial⟩) fun x=>by kernel_rfl
noncomputable def slices_ContainsFunc_SlotInfo(x:Ty.T (.pair (.list TSlotInfo) (.pair (.fn (.pair TSlotInfo .unit) (.pair .bool .unit)) .unit))):Option (Ty.T (.pair .bool .unit)):=
match slices_IndexFunc_SlotInfo (x.1,x.2.1,())with
|none=>none
|some v1=>
some ((decide (v1.1≥(0:Int))),())
noncomputable def S_slices_ContainsFunc_SlotInfo:Spec:=⟨(.pair (.list TSlotInfo) (.pair (.fn (.pair TSlotInfo .unit) (.pair .bool .unit)) .unit)),(.pair .bool .unit),.unit,rfl,slices_ContainsFunc_SlotInfo⟩
noncomputable def σ_slices_ContainsFunc_SlotInfo:FuncId→Option Spec:=sig [(164,S_slices_IndexFunc_SlotInfo)]
theorem σok_slices_ContainsFunc_SlotInfo:∀f s,σ_slices_ContainsFunc_SlotInfo f=some s→FnOK G0 Tryz.prog f s:=sig_ok ⟨ok_slices_IndexFunc_SlotInfo,trivial⟩
theorem ok_slices_ContainsFunc_SlotInfo:FnOK G0 Tryz.prog 244 S_slices_ContainsFunc_SlotInfo:=fn_okS tab0 σok_slices_ContainsFunc_SlotInfo Tryz.func244 [] (by kernel_rfl) (by exact trivial) fun x=>by kernel_rfl
noncomputable def b_i_isSteady_2(x:(Ty.T (.pair (.ptr TMedl) (.pair (.list TSlotInfo) TCrc)))):Option ((Ty.T (.pair (.ptr TMedl) (.pair (.list TSlotInfo) TCrc))) ⊕ ((Ty.T .unit) ⊕ (Ty.T (.pair .bool .unit)))):=
match(decide (x.2.2.2.1<x.2.2.1))with
|true=>
 onSome (idx x.2.1 x.2.2.2.1) fun v1=>
 both (
  match i_findSlot (x.1.2.2.2.1,v1.1,(0:Int),v1.2.2.1,())with
  |none=>none
  |some v2=>
  onSome (idx x.1.2.2.2.1 v2.1) fun v3=>
  same (
   match(v1.2.2.2.1.2.2.2.1 != v3.2.2.2.1.2.2.2.1)with
   |true=>
    some (.inr (.inr (false,())))
   |false=>
    some (.inl (x.1,x.2.1,x.2.2.1,(IntKind.i64.wrap (x.2.2.2.1+(1:Int))),())))) (
  match i_findSlot (x.1.2.2.2.1,v1.1,(0:Int),v1.2.2.1,())with
  |none=>none
  |some v2=>
  onSome (idx x.1.2.2.2.1 v2.1) fun v3=>
  match(v1.2.2.2.1.2.2.2.1 != v3.2.2.2.1.2.2.2.1)with
  |true=>
   some (.inr (.inr (false,())))
  |false=>
   some (.inl (x.1,x.2.1,x.2.2.1,(IntKind.i64.wrap (x.2.2.2.1+(1:Int))),())))
|false=>
 some (.inr (.inl (())))
noncomputable def i_isSteady(x:Ty.T (.pair TMedl .unit)):Option (Ty.T (.pair .bool .unit)):=
match loopL b_i_isSteady_2 ((x.1.1,x.1.2.1,x.1.2.2.1,x.1.2.2.2.1,()),x.1.2.2.2.1,(x.1.2.2.2.1.length:Int),(0:Int),())with
|none=>none
|some (.inl v4)=>
 some (true,())
|some (.inr v5)=>
 some (v5.1,())
noncomputable def S_i_isSteady:Spec:=⟨(.pair TMedl .unit),(.pair .bool .unit),.unit,rfl,i_isSteady⟩
noncomputable def σ_i_isSteady:FuncId→Option Spec:=sig [(120,S_i_findSlot)]
theorem σok_i_isSteady:∀f s,σ_i_isSteady f=some s→FnOK G0 Tryz.prog f s:=sig_ok ⟨ok_i_findSlot,trivial⟩
def q_i_isSteady_2:LRow:=⟨[1,7,8,9],(.pair (.ptr TMedl) (.pair (.list TSlotInfo) TCrc)),0,[],.unit,[2],(.pair .bool .unit)⟩
noncomputable def ls_i_isSteady:List LSpec:=[q_i_isSteady_2.spec b_i_isSteady_2]
theorem lok_i_isSteady_2:Lok Γ0 E0 σ_i_isSteady (lam Tryz.f245 ls_i_isSteady) Tryz.f245 0 q_i_isSteady_2 b_i_isSteady_2:=fun x=>by kernel_rfl
theorem ok_i_isSteady:FnOK G0 Tryz.prog 245 S_i_isSteady:=fn_okS tab0 σok_i_isSteady Tryz.func245 ls_i_isSteady (by kernel_rfl) (by exact⟨(lok_i_isSteady_2).lok,trivial⟩) fun x=>by kernel_rfl
noncomputable def b_i_sumDurations_3(x:(Ty.T (.pair (.int .i64) (.pair (.list TSlotInfo) TCrc)))):Option ((Ty.T (.pair (.int .i64) (.pair (.list TSlotInfo) TCrc))) ⊕ ((Ty.T (.pair (.int .i64) .unit)) ⊕ (Ty.T .unit))):=
match(decide (x.2.2.2.1<x.2.2.1))with
|true=>
 onSome (idx x.2.1 x.2.2.2.1) fun v1=>
 some (.inl ((IntKind.i64.wrap (x.1+v1.2.2.2.1.2.2.2.1)),x.2.1,x.2.2.1,(IntKind.i64.wrap (x.2.2.2.1+(1:Int))),()))
|false=>
 some (.inr (.inl (x.1,())))
noncomputable def i_sumDurations(x:Ty.T (.pair (.list TSlotInfo) .unit)):Option (Ty.T (.pair (.int .i64) .unit)):=
match loopL b_i_sumDurations_3 ((0:Int),x.1,(x.1.length:Int),(0:Int),())with
|none=>none
|some (.inl v2)=>
 some (v2.1,())
|some (.inr v4)=>
 none
noncomputable def S_i_sumDurations:Spec:=⟨(.pair (.list TSlotInfo) .unit),(.pair (.int .i64) .unit),.unit,rfl,i_sumDurations⟩
noncomputable def σ_i_sumDurations:FuncId→Option Spec:=sig []
theorem σok_i_sumDurations:∀f s,σ_i_sumDurations f=some s→FnOK G0 Tryz.prog f s:=sig_ok trivial
def q_i_sumDurations_3:LRow:=⟨[3,6,7,8],(.pair (.int .i64) (.pair (.list TSlotInfo) TCrc)),0,[3],(.pair (.int .i64) .unit),[],.unit⟩
noncomputable def ls_i_sumDurations:List LSpec:=[q_i_sumDurations_3.spec b_i_sumDurations_3]
theorem lok_i_sumDurations_3:Lok Γ0 E0 σ_i_sumDurations (lam Tryz.f289 ls_i_sumDurations) Tryz.f289 0 q_i_sumDurations_3 b_i_sumDurations_3:=fun x=>by kernel_rfl
theorem ok_i_sumDurations:FnOK G0 Tryz.prog 289 S_i_sumDurations:=fn_okS tab0 σok_i_sumDurations Tryz.func289 ls_i_sumDurations (by kernel_rfl) (by exact⟨(lok_i_sumDurations_3).lok,trivial⟩) fun x=>by kernel_rfl
noncomputable def b_i_modeSlots_3(x:(Ty.T (.pair (.int .i64) (.pair (.own 148 TSlotInfo) (.pair (.list TSlotInfo) TCrc))))):Option ((Ty.T (.pair (.int .i64) (.pair (.own 148 TSlotInfo) (.pair (.list TSlotInfo) TCrc)))) ⊕ ((Ty.T (.pair (.own 148 TSlotInfo) .unit)) ⊕ (Ty.T .unit))):=
match(decide (x.2.2.2.2.1<x.2.2.2.1))with
|true=>
 onSome (idx x.2.2.1 x.2.2.2.2.1) fun v1=>
 match(v1.1==x.1)with
 |true=>
  room (x.2.1.length+ [(v1.1,v1.2.1,v1.2.2.1,(v1.2.2.2.1.1,v1.2.2.2.1.2.1,v1.2.2.2.1.2.2.1,v1.2.2.2.1.2.2.2.1,v1.2.2.2.1.2.2.2.2.1,()),())].length) (
   some (.inl (x.1,(x.2.1++ [(v1.1,v1.2.1,v1.2.2.1,(v1.2.2.2.1.1,v1.2.2.2.1.2.1,v1.2.2.2.1.2.2.1,v1.2.2.2.1.2.2.2.1,v1.2.2.2.1.2.2.2.2.1,()),())]),x.2.2.1,x.2.2.2.1,(IntKind.i64.wrap (x.2.2.2.2.1+(1:Int))),())))
 |false=>
  some (.inl (x.1,x.2.1,x.2.2.1,x.2.2.2.1,(IntKind.i64.wrap (x.2.2.2.2.1+(1:Int))),()))
|false=>
 some (.inr (.inl (x.2.1,())))
noncomputable def i_modeSlots(x:Ty.T (.pair TMedl (.pair (.int .i64) .unit))):Option (Ty.T (.pair (.own 148 TSlotInfo) .unit)):=
match loopL b_i_modeSlots_3 (x.2.1,[],x.1.2.2.2.1,(x.1.2.2.2.1.length:Int),(0:Int),())with
|none=>none
|some (.inl v2)=>
 some (v2.1,())
|some (.inr v4)=>
 none
noncomputable def S_i_modeSlots:Spec:=⟨(.pair TMedl (.pair (.int .i64) .unit)),(.pair (.own 148 TSlotInfo) .unit),.unit,rfl,i_modeSlots⟩
noncomputable def σ_i_modeSlots:FuncId→Option Spec:=sig []
theorem σok_i_modeSlots:∀f s,σ_i_modeSlots f=some s→FnOK G0 Tryz.prog f s:=sig_ok trivial
def q_i_modeSlots_3:LRow:=⟨[1,5,10,11,12],(.pair (.int .i64) (.pair (.own 148 TSlotInfo) (.pair (.list TSlotInfo) TCrc))),0,[5],(.pair (.own 148 TSlotInfo) .unit),[],.unit⟩
noncomputable def ls_i_modeSlots:List LSpec:=[q_i_modeSlots_3.spec b_i_modeSlots_3]
theorem lok_i_modeSlots_3:Lok Γ0 E0 σ_i_modeSlots (lam Tryz.f290 ls_i_modeSlots) Tryz.f290 0 q_i_modeSlots_3 b_i_modeSlots_3:=fun x=>by kernel_rfl
theorem ok_i_modeSlots:FnOK G0 Tryz.prog 290 S_i_modeSlots:=fn_okS tab0 σok_i_modeSlots Tryz.func290 ls_i_modeSlots (by kernel_rfl) (by exact⟨(lok_i_modeSlots_3).lok,trivial⟩) fun x=>by kernel_rfl
noncomputable def b_i_isShort_2(x:(Ty.T (.pair (.box TMedl) TCrc))):Option ((Ty.T (.pair (.box TMedl) TCrc)) ⊕ ((Ty.T .unit) ⊕ (Ty.T (.pair .bool .unit)))):=
match(decide (x.2.2.1<x.2.1))with
|true=>
 match i_modeSlots ((x.1.1,x.1.2.1,x.1.2.2.1,x.1.2.2.2.1,()),x.2.2.1,())with
 |none=>none
 |some v1=>
 match i_sumDurations (v1.1,())with
 |none=>none
 |some v2=>
 match(decide (v2.1>(32000:Int)))with
 |true=>
  some (.inr (.inr (false,())))
 |false=>
  some (.inl ((x.1.1,x.1.2.1,x.1.2.2.1,x.1.2.2.2.1,()),x.2.1,(IntKind.i64.wrap (x.2.2.1+(1:Int))),()))
|false=>
 some (.inr (.inl (())))
noncomputable def i_isShort(x:Ty.T (.pair TMedl .unit)):Option (Ty.T (.pair .bool .unit)):=
match loopL b_i_isShort_2 ((x.1.1,x.1.2.1,x.1.2.2.1,x.1.2.2.2.1,()),(x.1.2.2.1.length:Int),(0:Int),())with
|none=>none
|some (.inl v3)=>
 some (true,())
|some (.inr v4)=>
 some (v4.1,())
noncomputable def S_i_isShort:Spec:=⟨(.pair TMedl .unit),(.pair .bool .unit),.unit,rfl,i_isShort⟩
noncomputable def σ_i_isShort:FuncId→Option Spec:=sig [(289,S_i_sumDurations),(290,S_i_modeSlots)]
theorem σok_i_isShort:∀f s,σ_i_isShort f=some s→FnOK G0 Tryz.prog f s:=sig_ok ⟨ok_i_sumDurations,ok_i_modeSlots,trivial⟩
def q_i_isShort_2:LRow:=⟨[1,6,7],(.pair (.box TMedl) TCrc),0,[],.unit,[2],(.pair .bool .unit)⟩
noncomputable def ls_i_isShort:List LSpec:=[q_i_isShort_2.spec b_i_isShort_2]
theorem lok_i_isShort_2:Lok Γ0 E0 σ_i_isShort (lam Tryz.f246 ls_i_isShort) Tryz.f246 0 q_i_isShort_2 b_i_isShort_2:=fun x=>by kernel_rfl
theorem ok_i_isShort:FnOK G0 Tryz.prog 246 S_i_isShort:=fn_okS tab0 σok_i_isShort Tryz.func246 ls_i_isShort (by kernel_rfl) (by exact⟨(lok_i_isShort_2).lok,trivial⟩) fun x=>by kernel_rfl
noncomputable def b_i_allSend_9(x:(Ty.T (.pair (.box TMedl) (.pair (.int .i64) (.pair (.int .i64) (.pair (.int .i64) (.pair (.list TModeInfo) (.pair (.int .i64) (.pair (.int .i64) (.pair (.int .i64) (.pair (.int .i64) (.pair (.list TSlotInfo) TCrc)))))))))))):Option ((Ty.T (.pair (.box TMedl) (.pair (.int .i64) (.pair (.int .i64) (.pair (.int .i64) (.pair (.list TModeInfo) (.pair (.int .i64) (.pair (.int .i64) (.pair (.int .i64) (.pair (.int .i64) (.pair (.list TSlotInfo) TCrc))))))))))) ⊕ ((Ty.T (.pair (.box TMedl) (.pair (.int .i64) (.pair (.int .i64) (.pair (.list TModeInfo) TFault))))) ⊕ (Ty.T .unit))):=
match(decide (x.2.2.2.2.2.2.2.2.2.2.2.1<x.2.2.2.2.2.2.2.2.2.2.1))with
|true=>
 onSome (idx x.2.2.2.2.2.2.2.2.2.1 x.2.2.2.2.2.2.2.2.2.2.2.1) fun v2=>
 match(v2.1==x.2.1)with
 |true=>
  match(v2.2.1==x.2.2.1)with
  |true=>
   if v2.2.2.2.1.1<0 then none else
   some (.inl ((x.1.1,x.1.2.1,x.1.2.2.1,x.1.2.2.2.1,()),x.2.1,x.2.2.1,(bits BinOp.or .i64 x.2.2.2.1 (IntKind.i64.wrap ((1:Int)*2^min v2.2.2.2.1.1.toNat IntKind.i64.bits))),x.2.2.2.2.1,x.2.2.2.2.2.1,x.2.2.2.2.2.2.1,x.2.2.2.2.2.2.2.1,x.2.2.2.2.2.2.2.2.1,x.2.2.2.2.2.2.2.2.2.1,x.2.2.2.2.2.2.2.2.2.2.1,(IntKind.i64.wrap (x.2.2.2.2.2.2.2.2.2.2.2.1+(1:Int))),()))
  |false=>
   some (.inl ((x.1.1,x.1.2.1,x.1.2.2.1,x.1.2.2.2.1,()),x.2.1,x.2.2.1,x.2.2.2.1,x.2.2.2.2.1,x.2.2.2.2.2.1,x.2.2.2.2.2.2.1,x.2.2.2.2.2.2.2.1,x.2.2.2.2.2.2.2.2.1,x.2.2.2.2.2.2.2.2.2.1,x.2.2.2.2.2.2.2.2.2.2.1,(IntKind.i64.wrap (x.2.2.2.2.2.2.2.2.2.2.2.1+(1:Int))),()))
 |false=>
  some (.inl ((x.1.1,x.1.2.1,x.1.2.2.1,x.1.2.2.2.1,()),x.2.1,x.2.2.1,x.2.2.2.1,x.2.2.2.2.1,x.2.2.2.2.2.1,x.2.2.2.2.2.2.1,x.2.2.2.2.2.2.2.1,x.2.2.2.2.2.2.2.2.1,x.2.2.2.2.2.2.2.2.2.1,x.2.2.2.2.2.2.2.2.2.2.1,(IntKind.i64.wrap (x.2.2.2.2.2.2.2.2.2.2.2.1+(1:Int))),()))
|false=>
 some (.inr (.inl ((x.1.1,x.1.2.1,x.1.2.2.1,x.1.2.2.2.1,()),x.2.1,x.2.2.2.1,x.2.2.2.2.1,x.2.2.2.2.2.1,x.2.2.2.2.2.2.1,x.2.2.2.2.2.2.2.1,x.2.2.2.2.2.2.2.2.1,())))
noncomputable def b_i_allSend_5(x:(Ty.T (.pair (.box TMedl) (.pair (.int .i64) (.pair (.list TModeInfo) TFault))))):Option ((Ty.T (.pair (.box TMedl) (.pair (.int .i64) (.pair (.list TModeInfo) TFault)))) ⊕ ((Ty.T (.pair (.box TMedl) (.pair (.list TModeInfo) TCrc))) ⊕ (Ty.T (.pair .bool .unit)))):=
match(decide (x.2.2.2.2.2.2.1<x.2.2.2.2.2.1))with
|true=>
 match loopL b_i_allSend_9 ((x.1.1,x.1.2.1,x.1.2.2.1,x.1.2.2.2.1,()),x.2.1,x.2.2.2.2.2.2.1,(0:Int),x.2.2.1,x.2.2.2.1,x.2.2.2.2.1,x.2.2.2.2.2.1,x.2.2.2.2.2.2.1,x.1.2.2.2.1,(x.1.2.2.2.1.length:Int),(0:Int),())with
 |none=>none
 |some (.inl v2)=>
  match i_activeVector (v2.1.2.1,())with
  |none=>none
  |some v4=>
  match((bits BinOp.andNot .i64 v4.1 v2.2.2.1) != (0:Int))with
  |true=>
   some (.inr (.inr (false,())))
  |false=>
   some (.inl ((v2.1.1,v2.1.2.1,v2.1.2.2.1,v2.1.2.2.2.1,()),v2.2.1,v2.2.2.2.1,v2.2.2.2.2.1,v2.2.2.2.2.2.1,v2.2.2.2.2.2.2.1,(IntKind.i64.wrap (v2.2.2.2.2.2.2.2.1+(1:Int))),()))
 |some (.inr v5)=>
  none
|false=>
 some (.inr (.inl ((x.1.1,x.1.2.1,x.1.2.2.1,x.1.2.2.2.1,()),x.2.2.1,x.2.2.2.1,x.2.2.2.2.1,())))
noncomputable def b_i_allSend_2(x:(Ty.T (.pair (.box TMedl) (.pair (.list TModeInfo) TCrc)))):Option ((Ty.T (.pair (.box TMedl) (.pair (.list TModeInfo) TCrc))) ⊕ ((Ty.T .unit) ⊕ (Ty.T (.pair .bool .unit)))):=
match(decide (x.2.2.2.1<x.2.2.1))with
|true=>
 onSome (idx x.2.1 x.2.2.2.1) fun v1=>
 match loopL b_i_allSend_5 ((x.1.1,x.1.2.1,x.1.2.2.1,x.1.2.2.2.1,()),x.2.2.2.1,x.2.1,x.2.2.1,x.2.2.2.1,v1.1,(0:Int),())with
 |none=>none
 |some (.inl v2)=>
  some (.inl ((v2.1.1,v2.1.2.1,v2.1.2.2.1,v2.1.2.2.2.1,()),v2.2.1,v2.2.2.1,(IntKind.i64.wrap (v2.2.2.2.1+(1:Int))),()))
 |some (.inr v3)=>
  some (.inr (.inr (v3.1,())))
|false=>
 some (.inr (.inl (())))
noncomputable def i_allSend(x:Ty.T (.pair TMedl .unit)):Option (Ty.T (.pair .bool .unit)):=
match loopL b_i_allSend_2 ((x.1.1,x.1.2.1,x.1.2.2.1,x.1.2.2.2.1,()),x.1.2.2.1,(x.1.2.2.1.length:Int),(0:Int),())with
|none=>none
|some (.inl v4)=>
 some (true,())
|some (.inr v5)=>
 some (v5.1,())
noncomputable def S_i_allSend:Spec:=⟨(.pair TMedl .unit),(.pair .bool .unit),.unit,rfl,i_allSend⟩
noncomputable def σ_i_allSend:FuncId→Option Spec:=sig [(202,S_i_activeVector)]
theorem σok_i_allSend:∀f s,σ_i_allSend f=some s→FnOK G0 Tryz.prog f s:=sig_ok ⟨ok_i_activeVector,trivial⟩
def q_i_allSend_2:LRow:=⟨[1,10,11,12],(.pair (.box TMedl) (.pair (.list TModeInfo) TCrc)),0,[],.unit,[2],(.pair .bool .unit)⟩
def q_i_allSend_5:LRow:=⟨[1,3,10,11,12,18,19],(.pair (.box TMedl) (.pair (.int .i64) (.pair (.list TModeInfo) TFault))),2,[1,10,11,12],(.pair (.box TMedl) (.pair (.list TModeInfo) TCrc)),[2],(.pair .bool .unit)⟩
def q_i_allSend_9:LRow:=⟨[1,3,5,6,10,11,12,18,19,23,24,25],(.pair (.box TMedl) (.pair (.int .i64) (.pair (.int .i64) (.pair (.int .i64) (.pair (.list TModeInfo) (.pair (.int .i64) (.pair (.int .i64) (.pair (.int .i64) (.pair (.int .i64) (.pair (.list TSlotInfo) TCrc)))))))))),4,[1,3,6,10,11,12,18,19],(.pair (.box TMedl) (.pair (.int .i64) (.pair (.int .i64) (.pair (.list TModeInfo) TFault)))),[],.unit⟩
noncomputable def ls_i_allSend:List LSpec:=[q_i_allSend_2.spec b_i_allSend_2,q_i_allSend_5.spec b_i_allSend_5,q_i_allSend_9.spec b_i_allSend_9]
theorem lok_i_allSend_2:Lok Γ0 E0 σ_i_allSend (lam Tryz.f247 ls_i_allSend) Tryz.f247 0 q_i_allSend_2 b_i_allSend_2:=fun x=>by kernel_rfl
theorem lok_i_allSend_5:Lok Γ0 E0 σ_i_allSend (lam Tryz.f247 ls_i_allSend) Tryz.f247 1 q_i_allSend_5 b_i_allSend_5:=fun x=>by kernel_rfl
theorem lok_i_allSend_9:Lok Γ0 E0 σ_i_allSend (lam Tryz.f247 ls_i_allSend) Tryz.f247 2 q_i_allSend_9 b_i_allSend_9:=fun x=>by kernel_rfl
theorem ok_i_allSend:FnOK G0 Tryz.prog 247 S_i_allSend:=fn_okS tab0 σok_i_allSend Tryz.func247 ls_i_allSend (by kernel_rfl) (by exact⟨(lok_i_allSend_2).lok,(lok_i_allSend_5).lok,(lok_i_allSend_9).lok,trivial⟩) fun x=>by kernel_rfl
noncomputable def i_FirstFault(x:Ty.T (.pair TMedl .unit)):Option (Ty.T (.pair (.int .i64) .unit)):=
match i_within (x.1.1,(1:Int),(16777215:Int),())with
|none=>none
|some v1=>
match(!v1.1)with
|true=>
 some ((1:Int),())
|false=>
 match i_IsNodeTable (x.1.2.1,())with
 |none=>none
 |some v2=>
 match(!v2.1)with
 |true=>
  some ((2:Int),())
 |false=>
  match i_IsModeTable (x.1.2.2.1,())with
  |none=>none
  |some v3=>
  match(!v3.1)with
  |true=>
   some ((3:Int),())
  |false=>
   match i_IsSlotTable (x.1.2.2.2.1,())with
   |none=>none
   |some v4=>
   match(!v4.1)with
   |true=>
    some ((4:Int),())
   |false=>
    match i_isComplete ((x.1.1,x.1.2.1,x.1.2.2.1,x.1.2.2.2.1,()),())with
    |none=>none
    |some v5=>
    match(!v5.1)with
    |true=>
     some ((5:Int),())
    |false=>
     match slices_ContainsFunc_SlotInfo (x.1.2.2.2.1,(fun z=>i_FirstFault_1 (z.1,(x.1.1,x.1.2.1,x.1.2.2.1,x.1.2.2.2.1,()),())),())with
     |none=>none
     |some v6=>
     match v6.1 with
     |true=>
      some ((6:Int),())
     |false=>
      match i_isSteady ((x.1.1,x.1.2.1,x.1.2.2.1,x.1.2.2.2.1,()),())with
      |none=>none
      |some v7=>
      match(!v7.1)with
      |true=>
       some ((7:Int),())
      |false=>
       match i_isShort ((x.1.1,x.1.2.1,x.1.2.2.1,x.1.2.2.2.1,()),())with
       |none=>none
       |some v8=>
       match(!v8.1)with
       |true=>
        some ((8:Int),())
       |false=>
        match i_allSend ((x.1.1,x.1.2.1,x.1.2.2.1,x.1.2.2.2.1,()),())with
        |none=>none
        |some v9=>
        match(!v9.1)with
        |true=>
         some ((9:Int),())
        |false=>
         match slices_ContainsFunc_SlotInfo (x.1.2.2.2.1,i_FirstFault_2,())with
         |none=>none
         |some v10=>
         match v10.1 with
         |true=>
          some ((10:Int),())
         |false=>
          some ((0:Int),())
noncomputable def S_i_FirstFault:Spec:=⟨(.pair TMedl .unit),(.pair (.int .i64) .unit),.unit,rfl,i_FirstFault⟩
noncomputable def σ_i_FirstFault:FuncId→Option Spec:=sig [(155,S_i_within),(205,S_i_IsModeTable),(238,S_i_FirstFault_1),(240,S_i_FirstFault_2),(241,S_i_IsNodeTable),(242,S_i_IsSlotTable),(243,S_i_isComplete),(244,S_slices_ContainsFunc_SlotInfo),(245,S_i_isSteady),(246,S_i_isShort),(247,S_i_allSend)]
theorem σok_i_FirstFault:∀f s,σ_i_FirstFault f=some s→FnOK G0 Tryz.prog f s:=sig_ok ⟨ok_i_within,ok_i_IsModeTable,ok_i_FirstFault_1,ok_i_FirstFault_2,ok_i_IsNodeTable,ok_i_IsSlotTable,ok_i_isComplete,ok_slices_ContainsFunc_SlotInfo,ok_i_isSteady,ok_i_isShort,ok_i_allSend,trivial⟩
theorem ok_i_FirstFault:FnOK G0 Tryz.prog 200 S_i_FirstFault:=fn_okS tab0 σok_i_FirstFault Tryz.func200 [] (by kernel_rfl) (by exact trivial) fun x=>by kernel_rfl
noncomputable def i_IsMedl(x:Ty.T (.pair TMedl .unit)):Option (Ty.T (.pair .bool .unit)):=
match i_FirstFault ((x.1.1,x.1.2.1,x.1.2.2.1,x.1.2.2.2.1,()),())with
|none=>none
|some v1=>
some ((v1.1==(0:Int)),())
noncomputable def S_i_IsMedl:Spec:=⟨(.pair TMedl .unit),(.pair .bool .unit),.unit,rfl,i_IsMedl⟩
noncomputable def σ_i_IsMedl:FuncId→Option Spec:=sig [(200,S_i_FirstFault)]
theorem σok_i_IsMedl:∀f s,σ_i_IsMedl f=some s→FnOK G0 Tryz.prog f s:=sig_ok ⟨ok_i_FirstFault,trivial⟩
theorem ok_i_IsMedl:FnOK G0 Tryz.prog 152 S_i_IsMedl:=fn_okS tab0 σok_i_IsMedl Tryz.func152 [] (by kernel_rfl) (by exact trivial) fun x=>by kernel_rfl
noncomputable def i_isVector(x:Ty.T (.pair (.int .i64) .unit)):Option (Ty.T (.pair .bool .unit)):=
match i_within (x.1,(0:Int),(4294967295:Int),())with
|none=>none
|some v1=>
some (v1.1,())
noncomputable def S_i_isVector:Spec:=⟨(.pair (.int .i64) .unit),(.pair .bool .unit),.unit,rfl,i_isVector⟩
noncomputable def σ_i_isVector:FuncId→Option Spec:=sig [(155,S_i_within)]
theorem σok_i_isVector:∀f s,σ_i_isVector f=some s→FnOK G0 Tryz.prog f s:=sig_ok ⟨ok_i_within,trivial⟩
theorem ok_i_isVector:FnOK G0 Tryz.prog 158 S_i_isVector:=fn_okS tab0 σok_i_isVector Tryz.func158 [] (by kernel_rfl) (by exact trivial) fun x=>by kernel_rfl
noncomputable def i_IsState(x:Ty.T (.pair TState .unit)):Option (Ty.T (.pair .bool .unit)):=
match i_within (x.1.1,(0:Int),(65535:Int),())with
|none=>none
|some v1=>
match v1.1 with
|true=>
 match i_within (x.1.2.1,(0:Int),(15:Int),())with
 |none=>none
 |some v2=>
 match v2.1 with
 |true=>
  match i_within (x.1.2.2.1,(0:Int),(15:Int),())with
  |none=>none
  |some v3=>
  match v3.1 with
  |true=>
   match i_within (x.1.2.2.2.1,(0:Int),(255:Int),())with
   |none=>none
   |some v4=>
   match v4.1 with
   |true=>
    match i_isVector (x.1.2.2.2.2.1,())with
    |none=>none
    |some v5=>
    some (v5.1,())
   |false=>
    some (false,())
  |false=>
   some (false,())
 |false=>
  some (false,())
|false=>
 some (false,())
noncomputable def S_i_IsState:Spec:=⟨(.pair TState .unit),(.pair .bool .unit),.unit,rfl,i_IsState⟩
noncomputable def σ_i_IsState:FuncId→Option Spec:=sig [(155,S_i_within),(158,S_i_isVector)]
theorem σok_i_IsState:∀f s,σ_i_IsState f=some s→FnOK G0 Tryz.prog f s:=sig_ok ⟨ok_i_within,ok_i_isVector,trivial⟩
theorem ok_i_IsState:FnOK G0 Tryz.prog 201 S_i_IsState:=fn_okS tab0 σok_i_IsState Tryz.func201 [] (by kernel_rfl) (by exact trivial) fun x=>by kernel_rfl
noncomputable def i_belongs(x:Ty.T (.pair TMedl (.pair TState .unit))):Option (Ty.T (.pair .bool .unit)):=
match i_IsState ((x.2.1.1,x.2.1.2.1,x.2.1.2.2.1,x.2.1.2.2.2.1,x.2.1.2.2.2.2.1,()),())with
|none=>none
|some v1=>
match(!v1.1)with
|true=>
 some (false,())
|false=>
 match(decide (x.2.1.2.1≥(x.1.2.2.1.length:Int)))with
 |true=>
  some (false,())
 |false=>
  onSome (idx x.1.2.2.1 x.2.1.2.1) fun v2=>
  match(decide (x.2.1.2.2.1<v2.1))with
  |true=>
   match(decide (x.2.1.2.2.2.1<v2.2.1))with
   |true=>
    match i_activeVector (x.1.2.1,())with
    |none=>none
    |some v3=>
    some (((bits BinOp.andNot .i64 x.2.1.2.2.2.2.1 v3.1)==(0:Int)),())
   |false=>
    some (false,())
  |false=>
   some (false,())
noncomputable def S_i_belongs:Spec:=⟨(.pair TMedl (.pair TState .unit)),(.pair .bool .unit),.unit,rfl,i_belongs⟩
noncomputable def σ_i_belongs:FuncId→Option Spec:=sig [(201,S_i_IsState),(202,S_i_activeVector)]
theorem σok_i_belongs:∀f s,σ_i_belongs f=some s→FnOK G0 Tryz.prog f s:=sig_ok ⟨ok_i_IsState,ok_i_activeVector,trivial⟩
theorem ok_i_belongs:FnOK G0 Tryz.prog 153 S_i_belongs:=fn_okS tab0 σok_i_belongs Tryz.func153 [] (by kernel_rfl) (by exact trivial) fun x=>by kernel_rfl
noncomputable def i_lookCode(x:Ty.T (.pair TMedl (.pair TState .unit))):Option (Ty.T (.pair (.int .i64) .unit)):=
match i_IsMedl ((x.1.1,x.1.2.1,x.1.2.2.1,x.1.2.2.2.1,()),())with
|none=>none
|some v1=>
match(!v1.1)with
|true=>
 some ((1:Int),())
|false=>
 match i_belongs ((x.1.1,x.1.2.1,x.1.2.2.1,x.1.2.2.2.1,()),(x.2.1.1,x.2.1.2.1,x.2.1.2.2.1,x.2.1.2.2.2.1,x.2.1.2.2.2.2.1,()),())with
 |none=>none
 |some v2=>
 match(!v2.1)with
 |true=>
  some ((2:Int),())
 |false=>
  some ((0:Int),())
noncomputable def S_i_lookCode:Spec:=⟨(.pair TMedl (.pair TState .unit)),(.pair (.int .i64) .unit),.unit,rfl,i_lookCode⟩
noncomputable def σ_i_lookCode:FuncId→Option Spec:=sig [(152,S_i_IsMedl),(153,S_i_belongs)]
theorem σok_i_lookCode:∀f s,σ_i_lookCode f=some s→FnOK G0 Tryz.prog f s:=sig_ok ⟨ok_i_IsMedl,ok_i_belongs,trivial⟩
theorem ok_i_lookCode:FnOK G0 Tryz.prog 111 S_i_lookCode:=fn_okS tab0 σok_i_lookCode Tryz.func111 [] (by kernel_rfl) (by exact trivial) fun x=>by kernel_rfl
noncomputable def i_fits(x:Ty.T (.pair TDescriptor (.pair TFrame .unit))):Option (Ty.T (.pair .bool .unit)):=
match(x.2.1.1==x.1.2.1)with
|true=>
 match((x.2.1.2.2.2.1.length:Int)==x.1.2.2.1)with
 |true=>
  match(x.2.1.2.1==(0:Int))with
  |true=>
   some (true,())
  |false=>
   some (x.1.2.2.2.2.1,())
 |false=>
  some (false,())
|false=>
 some (false,())
noncomputable def S_i_fits:Spec:=⟨(.pair TDescriptor (.pair TFrame .unit)),(.pair .bool .unit),.unit,rfl,i_fits⟩
noncomputable def σ_i_fits:FuncId→Option Spec:=sig []
theorem σok_i_fits:∀f s,σ_i_fits f=some s→FnOK G0 Tryz.prog f s:=sig_ok trivial
theorem ok_i_fits:FnOK G0 Tryz.prog 222 S_i_fits:=fn_okS tab0 σok_i_fits Tryz.func222 [] (by kernel_rfl) (by exact trivial) fun x=>by kernel_rfl
noncomputable def b_i_allWithin_2(x:(Ty.T (.pair (.int .i64) (.pair (.int .i64) (.pair (.list (.int .i64)) TCrc))))):Option ((Ty.T (.pair (.int .i64) (.pair (.int .i64) (.pair (.list (.int .i64)) TCrc)))) ⊕ ((Ty.T .unit) ⊕ (Ty.T (.pair .bool .unit)))):=
match(decide (x.2.2.2.2.1<x.2.2.2.1))with
|true=>
 onSome (idx x.2.2.1 x.2.2.2.2.1) fun v1=>
 match(decide (v1<x.1))with
 |true=>
  some (.inr (.inr (false,())))
 |false=>
  match(decide (v1>x.2.1))with
  |true=>
   some (.inr (.inr (false,())))
  |false=>
   some (.inl (x.1,x.2.1,x.2.2.1,x.2.2.2.1,(IntKind.i64.wrap (x.2.2.2.2.1+(1:Int))),()))
|false=>
 some (.inr (.inl (())))
noncomputable def i_allWithin(x:Ty.T (.pair (.list (.int .i64)) TCrc)):Option (Ty.T (.pair .bool .unit)):=
match loopL b_i_allWithin_2 (x.2.1,x.2.2.1,x.1,(x.1.length:Int),(0:Int),())with
|none=>none
|some (.inl v2)=>
 some (true,())
|some (.inr v3)=>
 some (v3.1,())
noncomputable def S_i_allWithin:Spec:=⟨(.pair (.list (.int .i64)) TCrc),(.pair .bool .unit),.unit,rfl,i_allWithin⟩
noncomputable def σ_i_allWithin:FuncId→Option Spec:=sig []
theorem σok_i_allWithin:∀f s,σ_i_allWithin f=some s→FnOK G0 Tryz.prog f s:=sig_ok trivial
def q_i_allWithin_2:LRow:=⟨[1,2,9,10,11],(.pair (.int .i64) (.pair (.int .i64) (.pair (.list (.int .i64)) TCrc))),0,[],.unit,[6],(.pair .bool .unit)⟩
noncomputable def ls_i_allWithin:List LSpec:=[q_i_allWithin_2.spec b_i_allWithin_2]
theorem lok_i_allWithin_2:Lok Γ0 E0 σ_i_allWithin (lam Tryz.f187 ls_i_allWithin) Tryz.f187 0 q_i_allWithin_2 b_i_allWithin_2:=fun x=>by kernel_rfl
theorem ok_i_allWithin:FnOK G0 Tryz.prog 187 S_i_allWithin:=fn_okS tab0 σok_i_allWithin Tryz.func187 ls_i_allWithin (by kernel_rfl) (by exact⟨(lok_i_allWithin_2).lok,trivial⟩) fun x=>by kernel_rfl
noncomputable def i_IsBytes(x:Ty.T (.pair (.list (.int .i64)) .unit)):Option (Ty.T (.pair .bool .unit)):=
match(decide ((x.1.length:Int)≤(1024:Int)))with
|true=>
 match i_allWithin (x.1,(0:Int),(255:Int),())with
 |none=>none
 |some v1=>
 some (v1.1,())
|false=>
 some (false,())
noncomputable def S_i_IsBytes:Spec:=⟨(.pair (.list (.int .i64)) .unit),(.pair .bool .unit),.unit,rfl,i_IsBytes⟩
noncomputable def σ_i_IsBytes:FuncId→Option Spec:=sig [(187,S_i_allWithin)]
theorem σok_i_IsBytes:∀f s,σ_i_IsBytes f=some s→FnOK G0 Tryz.prog f s:=sig_ok ⟨ok_i_allWithin,trivial⟩
theorem ok_i_IsBytes:FnOK G0 Tryz.prog 269 S_i_IsBytes:=fn_okS tab0 σok_i_IsBytes Tryz.func269 [] (by kernel_rfl) (by exact trivial) fun x=>by kernel_rfl
noncomputable def i_IsFrame(x:Ty.T (.pair TFrame .unit)):Option (Ty.T (.pair .bool .unit)):=
match i_isKind (x.1.1,())with
|none=>none
|some v1=>
match(!v1.1)with
|true=>
 some (false,())
|false=>
 match i_within (x.1.2.1,(0:Int),(7:Int),())with
 |none=>none
 |some v2=>
 match(!v2.1)with
 |true=>
  some (false,())
 |false=>
  match i_isDataSize (x.1.1,(x.1.2.2.2.1.length:Int),())with
  |none=>none
  |some v3=>
  match(!v3.1)with
  |true=>
   some (false,())
  |false=>
   match i_IsBytes (x.1.2.2.2.1,())with
   |none=>none
   |some v4=>
   match(!v4.1)with
   |true=>
    some (false,())
   |false=>
    match(x.1.1==(0:Int))with
    |true=>
     some ((eqT TState (x.1.2.2.1.1,x.1.2.2.1.2.1,x.1.2.2.1.2.2.1,x.1.2.2.1.2.2.2.1,x.1.2.2.1.2.2.2.2.1,()) ((0:Int),(0:Int),(0:Int),(0:Int),(0:Int),())),())
    |false=>
     match(x.1.1==(3:Int))with
     |true=>
      match i_IsState ((x.1.2.2.1.1,x.1.2.2.1.2.1,x.1.2.2.1.2.2.1,x.1.2.2.1.2.2.2.1,x.1.2.2.1.2.2.2.2.1,()),())with
      |none=>none
      |some v5=>
      match v5.1 with
      |true=>
       match(x.1.2.2.1.2.1==(0:Int))with
       |true=>
        match(x.1.2.2.1.2.2.2.2.1 != (0:Int))with
        |true=>
         match((bits BinOp.and .i64 x.1.2.2.1.2.2.2.2.1 (IntKind.i64.wrap (x.1.2.2.1.2.2.2.2.1-(1:Int))))==(0:Int))with
         |true=>
          some ((x.1.2.1==(0:Int)),())
         |false=>
          some (false,())
        |false=>
         some (false,())
       |false=>
        some (false,())
      |false=>
       some (false,())
     |false=>
      match i_IsState ((x.1.2.2.1.1,x.1.2.2.1.2.1,x.1.2.2.1.2.2.1,x.1.2.2.1.2.2.2.1,x.1.2.2.1.2.2.2.2.1,()),())with
      |none=>none
      |some v6=>
      some (v6.1,())
noncomputable def S_i_IsFrame:Spec:=⟨(.pair TFrame .unit),(.pair .bool .unit),.unit,rfl,i_IsFrame⟩
noncomputable def σ_i_IsFrame:FuncId→Option Spec:=sig [(155,S_i_within),(201,S_i_IsState),(269,S_i_IsBytes),(315,S_i_isKind),(316,S_i_isDataSize)]
theorem σok_i_IsFrame:∀f s,σ_i_IsFrame f=some s→FnOK G0 Tryz.prog f s:=sig_ok ⟨ok_i_within,ok_i_IsState,ok_i_IsBytes,ok_i_isKind,ok_i_isDataSize,trivial⟩
theorem ok_i_IsFrame:FnOK G0 Tryz.prog 292 S_i_IsFrame:=fn_okS tab0 σok_i_IsFrame Tryz.func292 [] (by kernel_rfl) (by exact trivial) fun x=>by kernel_rfl
noncomputable def i_FitsDescriptor(x:Ty.T (.pair TDescriptor (.pair TFrame .unit))):Option (Ty.T (.pair .bool .unit)):=
match i_IsDescriptor ((x.1.1,x.1.2.1,x.1.2.2.1,x.1.2.2.2.1,x.1.2.2.2.2.1,()),())with
|none=>none
|some v1=>
match v1.1 with
|true=>
 match i_IsFrame ((x.2.1.1,x.2.1.2.1,(x.2.1.2.2.1.1,x.2.1.2.2.1.2.1,x.2.1.2.2.1.2.2.1,x.2.1.2.2.1.2.2.2.1,x.2.1.2.2.1.2.2.2.2.1,()),x.2.1.2.2.2.1,()),())with
 |none=>none
 |some v2=>
 match v2.1 with
 |true=>
  match i_fits ((x.1.1,x.1.2.1,x.1.2.2.1,x.1.2.2.2.1,x.1.2.2.2.2.1,()),(x.2.1.1,x.2.1.2.1,(x.2.1.2.2.1.1,x.2.1.2.2.1.2.1,x.2.1.2.2.1.2.2.1,x.2.1.2.2.1.2.2.2.1,x.2.1.2.2.1.2.2.2.2.1,()),x.2.1.2.2.2.1,()),())with
  |none=>none
  |some v3=>
  some (v3.1,())
 |false=>
  some (false,())
|false=>
 some (false,())
noncomputable def S_i_FitsDescriptor:Spec:=⟨(.pair TDescriptor (.pair TFrame .unit)),(.pair .bool .unit),.unit,rfl,i_FitsDescriptor⟩
noncomputable def σ_i_FitsDescriptor:FuncId→Option Spec:=sig [(222,S_i_fits),(291,S_i_IsDescriptor),(292,S_i_IsFrame)]
theorem σok_i_FitsDescriptor:∀f s,σ_i_FitsDescriptor f=some s→FnOK G0 Tryz.prog f s:=sig_ok ⟨ok_i_fits,ok_i_IsDescriptor,ok_i_IsFrame,trivial⟩
theorem ok_i_FitsDescriptor:FnOK G0 Tryz.prog 249 S_i_FitsDescriptor:=fn_okS tab0 σok_i_FitsDescriptor Tryz.func249 [] (by kernel_rfl) (by exact trivial) fun x=>by kernel_rfl
noncomputable def i_isSendable(x:Ty.T (.pair TMedl (.pair TState (.pair TFrame .unit)))):Option (Ty.T (.pair .bool .unit)):=
match i_descriptorFor ((x.1.1,x.1.2.1,x.1.2.2.1,x.1.2.2.2.1,()),(x.2.1.1,x.2.1.2.1,x.2.1.2.2.1,x.2.1.2.2.2.1,x.2.1.2.2.2.2.1,()),())with
|none=>none
|some v1=>
match i_FitsDescriptor (v1.1,(x.2.2.1.1,x.2.2.1.2.1,(x.2.2.1.2.2.1.1,x.2.2.1.2.2.1.2.1,x.2.2.1.2.2.1.2.2.1,x.2.2.1.2.2.1.2.2.2.1,x.2.2.1.2.2.1.2.2.2.2.1,()),x.2.2.1.2.2.2.1,()),())with
|none=>none
|some v2=>
match v2.1 with
|true=>
 match i_hasState (x.2.2.1.1,())with
 |none=>none
 |some v3=>
 match(!v3.1)with
 |true=>
  some (true,())
 |false=>
  some ((eqT TState (x.2.2.1.2.2.1.1,x.2.2.1.2.2.1.2.1,x.2.2.1.2.2.1.2.2.1,x.2.2.1.2.2.1.2.2.2.1,x.2.2.1.2.2.1.2.2.2.2.1,()) (x.2.1.1,x.2.1.2.1,x.2.1.2.2.1,x.2.1.2.2.2.1,x.2.1.2.2.2.2.1,())),())
|false=>
 some (false,())
noncomputable def S_i_isSendable:Spec:=⟨(.pair TMedl (.pair TState (.pair TFrame .unit))),(.pair .bool .unit),.unit,rfl,i_isSendable⟩
noncomputable def σ_i_isSendable:FuncId→Option Spec:=sig [(81,S_i_descriptorFor),(248,S_i_hasState),(249,S_i_FitsDescriptor)]
theorem σok_i_isSendable:∀f s,σ_i_isSendable f=some s→FnOK G0 Tryz.prog f s:=sig_ok ⟨ok_i_descriptorFor,ok_i_hasState,ok_i_FitsDescriptor,trivial⟩
theorem ok_i_isSendable:FnOK G0 Tryz.prog 204 S_i_isSendable:=fn_okS tab0 σok_i_isSendable Tryz.func204 [] (by kernel_rfl) (by exact trivial) fun x=>by kernel_rfl
noncomputable def i_sendCode(x:Ty.T (.pair TMedl (.pair TState (.pair TFrame .unit)))):Option (Ty.T (.pair (.int .i64) .unit)):=
match i_lookCode ((x.1.1,x.1.2.1,x.1.2.2.1,x.1.2.2.2.1,()),(x.2.1.1,x.2.1.2.1,x.2.1.2.2.1,x.2.1.2.2.2.1,x.2.1.2.2.2.2.1,()),())with
|none=>none
|some v1=>
match(v1.1 != (0:Int))with
|true=>
 some (v1.1,())
|false=>
 match i_isSendable ((x.1.1,x.1.2.1,x.1.2.2.1,x.1.2.2.2.1,()),(x.2.1.1,x.2.1.2.1,x.2.1.2.2.1,x.2.1.2.2.2.1,x.2.1.2.2.2.2.1,()),(x.2.2.1.1,x.2.2.1.2.1,(x.2.2.1.2.2.1.1,x.2.2.1.2.2.1.2.1,x.2.2.1.2.2.1.2.2.1,x.2.2.1.2.2.1.2.2.2.1,x.2.2.1.2.2.1.2.2.2.2.1,()),x.2.2.1.2.2.2.1,()),())with
 |none=>none
 |some v2=>
 match(!v2.1)with
 |true=>
  some ((5:Int),())
 |false=>
  some ((0:Int),())
noncomputable def S_i_sendCode:Spec:=⟨(.pair TMedl (.pair TState (.pair TFrame .unit))),(.pair (.int .i64) .unit),.unit,rfl,i_sendCode⟩
noncomputable def σ_i_sendCode:FuncId→Option Spec:=sig [(111,S_i_lookCode),(204,S_i_isSendable)]
theorem σok_i_sendCode:∀f s,σ_i_sendCode f=some s→FnOK G0 Tryz.prog f s:=sig_ok ⟨ok_i_lookCode,ok_i_isSendable,trivial⟩
theorem ok_i_sendCode:FnOK G0 Tryz.prog 172 S_i_sendCode:=fn_okS tab0 σok_i_sendCode Tryz.func172 [] (by kernel_rfl) (by exact trivial) fun x=>by kernel_rfl
noncomputable def slices_Grow_int64(x:Ty.T (.pair .nil (.pair (.int .i64) .unit))):Option (Ty.T (.pair (.own 2 (.int .i64)) .unit)):=
match(decide (x.2.1<(0:Int)))with
|true=>
 none
|false=>
 match(decide ((IntKind.i64.wrap (x.2.1-(IntKind.i64.wrap ((0:Int)-(0:Int)))))>(0:Int)))with
 |true=>
  onSome (bounds 0 none (some (.dat (.int .i64) (0:Int)))) fun v1=>
  if 0≤(IntKind.i64.wrap (x.2.1-(IntKind.i64.wrap ((0:Int)-(0:Int)))))then
   room ((IntKind.i64.wrap (x.2.1-(IntKind.i64.wrap ((0:Int)-(0:Int))))).toNat) (
    onSome (bounds (List.replicate (IntKind.i64.wrap (x.2.1-(IntKind.i64.wrap ((0:Int)-(0:Int))))).toNat (0:Int)).length none (some (.dat (.int .i64) (0:Int)))) fun v2=>
    some ((List.take v2.2 (List.replicate (IntKind.i64.wrap (x.2.1-(IntKind.i64.wrap ((0:Int)-(0:Int))))).toNat (0:Int))),()))
  else none
 |false=>
  some ([],())
noncomputable def S_slices_Grow_int64:Spec:=⟨(.pair .nil (.pair (.int .i64) .unit)),(.pair (.own 2 (.int .i64)) .unit),.unit,rfl,slices_Grow_int64⟩
noncomputable def σ_slices_Grow_int64:FuncId→Option Spec:=sig []
theorem σok_slices_Grow_int64:∀f s,σ_slices_Grow_int64 f=some s→FnOK G0 Tryz.prog f s:=sig_ok trivial
theorem ok_slices_Grow_int64:FnOK G0 Tryz.prog 211 S_slices_Grow_int64:=fn_okS tab0 σok_slices_Grow_int64 Tryz.func211 [] (by kernel_rfl) (by exact trivial) fun x=>by kernel_rfl
noncomputable def b_slices_Concat_int64_3(x:(Ty.T (.pair (.list (.list (.int .i64))) (.pair (.int .i64) (.pair (.list (.list (.int .i64))) TCrc))))):Option ((Ty.T (.pair (.list (.list (.int .i64))) (.pair (.int .i64) (.pair (.list (.list (.int .i64))) TCrc)))) ⊕ ((Ty.T (.pair (.list (.list (.int .i64))) (.pair (.int .i64) .unit))) ⊕ (Ty.T .unit))):=
match(decide (x.2.2.2.2.1<x.2.2.2.1))with
|true=>
 onSome (idx x.2.2.1 x.2.2.2.2.1) fun v1=>
 match(decide ((IntKind.i64.wrap (x.2.1+(v1.length:Int)))<(0:Int)))with
 |true=>
  none
 |false=>
  some (.inl (x.1,(IntKind.i64.wrap (x.2.1+(v1.length:Int))),x.2.2.1,x.2.2.2.1,(IntKind.i64.wrap (x.2.2.2.2.1+(1:Int))),()))
|false=>
 some (.inr (.inl (x.1,x.2.1,())))
noncomputable def b_slices_Concat_int64_11(x:(Ty.T (.pair (.own 2 (.int .i64)) (.pair (.list (.list (.int .i64))) TCrc)))):Option ((Ty.T (.pair (.own 2 (.int .i64)) (.pair (.list (.list (.int .i64))) TCrc))) ⊕ ((Ty.T (.pair (.own 2 (.int .i64)) .unit)) ⊕ (Ty.T .unit))):=
match(decide (x.2.2.2.1<x.2.2.1))with
|true=>
 onSome (idx x.2.1 x.2.2.2.1) fun v5=>
 room (x.1.length+v5.length) (
  some (.inl ((x.1++v5),x.2.1,x.2.2.1,(IntKind.i64.wrap (x.2.2.2.1+(1:Int))),())))
|false=>
 some (.inr (.inl (x.1,())))
noncomputable def slices_Concat_int64(x:Ty.T (.pair (.list (.list (.int .i64))) .unit)):Option (Ty.T (.pair (.own 2 (.int .i64)) .unit)):=
match loopL b_slices_Concat_int64_3 (x.1,(0:Int),x.1,(x.1.length:Int),(0:Int),())with
|none=>none
|some (.inl v2)=>
 match slices_Grow_int64 ((),v2.2.1,())with
 |none=>none
 |some v4=>
 match loopL b_slices_Concat_int64_11 (v4.1,v2.1,(v2.1.length:Int),(0:Int),())with
 |none=>none
 |some (.inl v6)=>
  some (v6.1,())
 |some (.inr v8)=>
  none
|some (.inr v9)=>
 none
noncomputable def S_slices_Concat_int64:Spec:=⟨(.pair (.list (.list (.int .i64))) .unit),(.pair (.own 2 (.int .i64)) .unit),.unit,rfl,slices_Concat_int64⟩
noncomputable def σ_slices_Concat_int64:FuncId→Option Spec:=sig [(211,S_slices_Grow_int64)]
theorem σok_slices_Concat_int64:∀f s,σ_slices_Concat_int64 f=some s→FnOK G0 Tryz.prog f s:=sig_ok ⟨ok_slices_Grow_int64,trivial⟩
def q_slices_Concat_int64_3:LRow:=⟨[0,3,9,10,11],(.pair (.list (.list (.int .i64))) (.pair (.int .i64) (.pair (.list (.list (.int .i64))) TCrc))),0,[0,3],(.pair (.list (.list (.int .i64))) (.pair (.int .i64) .unit)),[],.unit⟩
def q_slices_Concat_int64_11:LRow:=⟨[6,25,26,27],(.pair (.own 2 (.int .i64)) (.pair (.list (.list (.int .i64))) TCrc)),2,[6],(.pair (.own 2 (.int .i64)) .unit),[],.unit⟩
noncomputable def ls_slices_Concat_int64:List LSpec:=[q_slices_Concat_int64_3.spec b_slices_Concat_int64_3,q_slices_Concat_int64_11.spec b_slices_Concat_int64_11]
theorem lok_slices_Concat_int64_3:Lok Γ0 E0 σ_slices_Concat_int64 (lam Tryz.f173 ls_slices_Concat_int64) Tryz.f173 0 q_slices_Concat_int64_3 b_slices_Concat_int64_3:=fun x=>by kernel_rfl
theorem lok_slices_Concat_int64_11:Lok Γ0 E0 σ_slices_Concat_int64 (lam Tryz.f173 ls_slices_Concat_int64) Tryz.f173 1 q_slices_Concat_int64_11 b_slices_Concat_int64_11:=fun x=>by kernel_rfl
theorem ok_slices_Concat_int64:FnOK G0 Tryz.prog 173 S_slices_Concat_int64:=fn_okS tab0 σok_slices_Concat_int64 Tryz.func173 ls_slices_Concat_int64 (by kernel_rfl) (by exact⟨(lok_slices_Concat_int64_3).lok,(lok_slices_Concat_int64_11).lok,trivial⟩) fun x=>by kernel_rfl
noncomputable def slices_Repeat_int64(x:Ty.T (.pair (.list (.int .i64)) (.pair (.int .i64) .unit))):Option (Ty.T (.pair (.own 2 (.int .i64)) .unit)):=onSome (repF x.1 x.2.1) fun s=>some (s,())
noncomputable def S_slices_Repeat_int64:Spec:=⟨(.pair (.list (.int .i64)) (.pair (.int .i64) .unit)),(.pair (.own 2 (.int .i64)) .unit),.unit,rfl,slices_Repeat_int64⟩
theorem ok_slices_Repeat_int64:FnOK G0 Tryz.prog 212 S_slices_Repeat_int64:=repeat_ok (entersF_of Tryz.func212 (by kernel_rfl) (show Tryz.f212.body=some (bodyOf Tryz.f212) by kernel_rfl))
noncomputable def i_highs(x:Ty.T (.pair (.int .i64) .unit)):Option (Ty.T (.pair (.own 2 (.int .i64)) .unit)):=
match slices_Repeat_int64 ([(1:Int)],x.1,())with
|none=>none
|some v1=>
some (v1.1,())
noncomputable def S_i_highs:Spec:=⟨(.pair (.int .i64) .unit),(.pair (.own 2 (.int .i64)) .unit),.unit,rfl,i_highs⟩
noncomputable def σ_i_highs:FuncId→Option Spec:=sig [(212,S_slices_Repeat_int64)]
theorem σok_i_highs:∀f s,σ_i_highs f=some s→FnOK G0 Tryz.prog f s:=sig_ok ⟨ok_slices_Repeat_int64,trivial⟩
theorem ok_i_highs:FnOK G0 Tryz.prog 174 S_i_highs:=fn_okS tab0 σok_i_highs Tryz.func174 [] (by kernel_rfl) (by exact trivial) fun x=>by kernel_rfl
noncomputable def b_i_appendNumber_2(x:(Ty.T (.pair (.own 2 (.int .i64)) TCrc))):Option ((Ty.T (.pair (.own 2 (.int .i64)) TCrc)) ⊕ ((Ty.T (.pair (.own 2 (.int .i64)) .unit)) ⊕ (Ty.T .unit))):=
match(decide (x.2.2.1≥(0:Int)))with
|true=>
 if x.2.2.1<0 then none else
 room (x.1.length+ [(bits BinOp.and .i64 (Int.fdiv x.2.1 (2^min x.2.2.1.toNat IntKind.i64.bits)) (1:Int))].length) (
  some (.inl ((x.1++ [(bits BinOp.and .i64 (Int.fdiv x.2.1 (2^min x.2.2.1.toNat IntKind.i64.bits)) (1:Int))]),x.2.1,(IntKind.i64.wrap (x.2.2.1-(1:Int))),())))
|false=>
 some (.inr (.inl (x.1,())))
noncomputable def i_appendNumber(x:Ty.T (.pair (.own 2 (.int .i64)) TCrc)):Option (Ty.T (.pair (.own 2 (.int .i64)) .unit)):=
match loopL b_i_appendNumber_2 (x.1,x.2.1,(IntKind.i64.wrap (x.2.2.1-(1:Int))),())with
|none=>none
|some (.inl v1)=>
 some (v1.1,())
|some (.inr v3)=>
 none
noncomputable def S_i_appendNumber:Spec:=⟨(.pair (.own 2 (.int .i64)) TCrc),(.pair (.own 2 (.int .i64)) .unit),.unit,rfl,i_appendNumber⟩
noncomputable def σ_i_appendNumber:FuncId→Option Spec:=sig []
theorem σok_i_appendNumber:∀f s,σ_i_appendNumber f=some s→FnOK G0 Tryz.prog f s:=sig_ok trivial
def q_i_appendNumber_2:LRow:=⟨[0,1,7],(.pair (.own 2 (.int .i64)) TCrc),0,[0],(.pair (.own 2 (.int .i64)) .unit),[],.unit⟩
noncomputable def ls_i_appendNumber:List LSpec:=[q_i_appendNumber_2.spec b_i_appendNumber_2]
theorem lok_i_appendNumber_2:Lok Γ0 E0 σ_i_appendNumber (lam Tryz.f213 ls_i_appendNumber) Tryz.f213 0 q_i_appendNumber_2 b_i_appendNumber_2:=fun x=>by kernel_rfl
theorem ok_i_appendNumber:FnOK G0 Tryz.prog 213 S_i_appendNumber:=fn_okS tab0 σok_i_appendNumber Tryz.func213 ls_i_appendNumber (by kernel_rfl) (by exact⟨(lok_i_appendNumber_2).lok,trivial⟩) fun x=>by kernel_rfl
noncomputable def b_i_cellsOf_3(x:(Ty.T (.pair (.own 2 (.int .i64)) (.pair (.list (.int .i64)) TCrc)))):Option ((Ty.T (.pair (.own 2 (.int .i64)) (.pair (.list (.int .i64)) TCrc))) ⊕ ((Ty.T (.pair (.own 2 (.int .i64)) .unit)) ⊕ (Ty.T .unit))):=
match(decide (x.2.2.2.1<x.2.2.1))with
|true=>
 onSome (idx x.2.1 x.2.2.2.1) fun v1=>
 room (x.1.length+ [(1:Int),(0:Int)].length) (
  match i_appendNumber ((x.1++ [(1:Int),(0:Int)]),v1,(8:Int),())with
  |none=>none
  |some v2=>
  some (.inl (v2.1,x.2.1,x.2.2.1,(IntKind.i64.wrap (x.2.2.2.1+(1:Int))),())))
|false=>
 some (.inr (.inl (x.1,())))
noncomputable def i_cellsOf(x:Ty.T (.pair (.list (.int .i64)) (.pair (.int .i64) .unit))):Option (Ty.T (.pair (.own 2 (.int .i64)) .unit)):=
if 0≤x.2.1∧x.2.1≤x.2.1 then
 room (x.2.1.toNat) (
  room ((List.replicate x.2.1.toNat (0:Int)).length+ [(1:Int)].length) (
   match loopL b_i_cellsOf_3 (((List.replicate x.2.1.toNat (0:Int))++ [(1:Int)]),x.1,(x.1.length:Int),(0:Int),())with
   |none=>none
   |some (.inl v3)=>
    room (v3.1.length+ [(0:Int),(1:Int)].length) (
     some ((v3.1++ [(0:Int),(1:Int)]),()))
   |some (.inr v5)=>
    none))
else none
noncomputable def S_i_cellsOf:Spec:=⟨(.pair (.list (.int .i64)) (.pair (.int .i64) .unit)),(.pair (.own 2 (.int .i64)) .unit),.unit,rfl,i_cellsOf⟩
noncomputable def σ_i_cellsOf:FuncId→Option Spec:=sig [(213,S_i_appendNumber)]
theorem σok_i_cellsOf:∀f s,σ_i_cellsOf f=some s→FnOK G0 Tryz.prog f s:=sig_ok ⟨ok_i_appendNumber,trivial⟩
def q_i_cellsOf_3:LRow:=⟨[5,12,13,14],(.pair (.own 2 (.int .i64)) (.pair (.list (.int .i64)) TCrc)),0,[5],(.pair (.own 2 (.int .i64)) .unit),[],.unit⟩
noncomputable def ls_i_cellsOf:List LSpec:=[q_i_cellsOf_3.spec b_i_cellsOf_3]
theorem lok_i_cellsOf_3:Lok Γ0 E0 σ_i_cellsOf (lam Tryz.f175 ls_i_cellsOf) Tryz.f175 0 q_i_cellsOf_3 b_i_cellsOf_3:=fun x=>by kernel_rfl
theorem ok_i_cellsOf:FnOK G0 Tryz.prog 175 S_i_cellsOf:=fn_okS tab0 σok_i_cellsOf Tryz.func175 ls_i_cellsOf (by kernel_rfl) (by exact⟨(lok_i_cellsOf_3).lok,trivial⟩) fun x=>by kernel_rfl
noncomputable def b_i_numberOf_3(x:(Ty.T (.pair (.int .i64) (.pair (.list (.int .i64)) TCrc)))):Option ((Ty.T (.pair (.int .i64) (.pair (.list (.int .i64)) TCrc))) ⊕ ((Ty.T (.pair (.int .i64) .unit)) ⊕ (Ty.T .unit))):=
match(decide (x.2.2.2.1<x.2.2.1))with
|true=>
 onSome (idx x.2.1 x.2.2.2.1) fun v1=>
 some (.inl ((IntKind.i64.wrap ((IntKind.i64.wrap ((2:Int)*x.1))+v1)),x.2.1,x.2.2.1,(IntKind.i64.wrap (x.2.2.2.1+(1:Int))),()))
|false=>
 some (.inr (.inl (x.1,())))
noncomputable def i_numberOf(x:Ty.T (.pair (.list (.int .i64)) .unit)):Option (Ty.T (.pair (.int .i64) .unit)):=
match loopL b_i_numberOf_3 ((0:Int),x.1,(x.1.length:Int),(0:Int),())with
|none=>none
|some (.inl v2)=>
 some (v2.1,())
|some (.inr v4)=>
 none
noncomputable def S_i_numberOf:Spec:=⟨(.pair (.list (.int .i64)) .unit),(.pair (.int .i64) .unit),.unit,rfl,i_numberOf⟩
noncomputable def σ_i_numberOf:FuncId→Option Spec:=sig []
theorem σok_i_numberOf:∀f s,σ_i_numberOf f=some s→FnOK G0 Tryz.prog f s:=sig_ok trivial
def q_i_numberOf_3:LRow:=⟨[3,6,7,8],(.pair (.int .i64) (.pair (.list (.int .i64)) TCrc)),0,[3],(.pair (.int .i64) .unit),[],.unit⟩
noncomputable def ls_i_numberOf:List LSpec:=[q_i_numberOf_3.spec b_i_numberOf_3]
theorem lok_i_numberOf_3:Lok Γ0 E0 σ_i_numberOf (lam Tryz.f298 ls_i_numberOf) Tryz.f298 0 q_i_numberOf_3 b_i_numberOf_3:=fun x=>by kernel_rfl
theorem ok_i_numberOf:FnOK G0 Tryz.prog 298 S_i_numberOf:=fn_okS tab0 σok_i_numberOf Tryz.func298 ls_i_numberOf (by kernel_rfl) (by exact⟨(lok_i_numberOf_3).lok,trivial⟩) fun x=>by kernel_rfl
noncomputable def i_toBytes(x:Ty.T (.pair (.list (.int .i64)) .unit)):Option (Ty.T (.pair (.own 2 (.int .i64)) .unit)):=onSome (toBytesG i_numberOf x.1) fun s=>some (s,())
noncomputable def S_i_toBytes:Spec:=⟨(.pair (.list (.int .i64)) .unit),(.pair (.own 2 (.int .i64)) .unit),.unit,rfl,i_toBytes⟩
theorem ok_i_toBytes:FnOK G0 Tryz.prog 257 S_i_toBytes:=toBytes_ok (entersF_of Tryz.func257 (by kernel_rfl) (show Tryz.f257.body=some (bodyOf Tryz.f257) by kernel_rfl)) ok_i_numberOf
noncomputable def i_stateBits(x:Ty.T (.pair TState .unit)):Option (Ty.T (.pair (.own 2 (.int .i64)) .unit)):=
match i_appendNumber ([],x.1.1,(16:Int),())with
|none=>none
|some v1=>
match i_appendNumber (v1.1,x.1.2.1,(4:Int),())with
|none=>none
|some v2=>
match i_appendNumber (v2.1,x.1.2.2.1,(4:Int),())with
|none=>none
|some v3=>
match i_appendNumber (v3.1,x.1.2.2.2.1,(8:Int),())with
|none=>none
|some v4=>
match i_appendNumber (v4.1,x.1.2.2.2.2.1,(32:Int),())with
|none=>none
|some v5=>
some (v5.1,())
noncomputable def S_i_stateBits:Spec:=⟨(.pair TState .unit),(.pair (.own 2 (.int .i64)) .unit),.unit,rfl,i_stateBits⟩
noncomputable def σ_i_stateBits:FuncId→Option Spec:=sig [(213,S_i_appendNumber)]
theorem σok_i_stateBits:∀f s,σ_i_stateBits f=some s→FnOK G0 Tryz.prog f s:=sig_ok ⟨ok_i_appendNumber,trivial⟩
theorem ok_i_stateBits:FnOK G0 Tryz.prog 258 S_i_stateBits:=fn_okS tab0 σok_i_stateBits Tryz.func258 [] (by kernel_rfl) (by exact trivial) fun x=>by kernel_rfl
noncomputable def i_bodyOf(x:Ty.T (.pair TFrame .unit)):Option (Ty.T (.pair (.own 2 (.int .i64)) .unit)):=
match i_hasState (x.1.1,())with
|none=>none
|some v1=>
match v1.1 with
|true=>
 match i_stateBits ((x.1.2.2.1.1,x.1.2.2.1.2.1,x.1.2.2.1.2.2.1,x.1.2.2.1.2.2.2.1,x.1.2.2.1.2.2.2.2.1,()),())with
 |none=>none
 |some v2=>
 match i_toBytes (v2.1,())with
 |none=>none
 |some v3=>
 room ([(IntKind.i64.wrap ((IntKind.i64.wrap (x.1.1*(64:Int)))+(IntKind.i64.wrap (x.1.2.1*(8:Int)))))].length+v3.1.length) (
  match i_hasData (x.1.1,())with
  |none=>none
  |some v4=>
  match v4.1 with
  |true=>
   room (([(IntKind.i64.wrap ((IntKind.i64.wrap (x.1.1*(64:Int)))+(IntKind.i64.wrap (x.1.2.1*(8:Int)))))]++v3.1).length+ [(x.1.2.2.2.1.length:Int)].length) (
    room ((([(IntKind.i64.wrap ((IntKind.i64.wrap (x.1.1*(64:Int)))+(IntKind.i64.wrap (x.1.2.1*(8:Int)))))]++v3.1)++ [(x.1.2.2.2.1.length:Int)]).length+x.1.2.2.2.1.length) (
     some (((([(IntKind.i64.wrap ((IntKind.i64.wrap (x.1.1*(64:Int)))+(IntKind.i64.wrap (x.1.2.1*(8:Int)))))]++v3.1)++ [(x.1.2.2.2.1.length:Int)])++x.1.2.2.2.1),())))
  |false=>
   some (([(IntKind.i64.wrap ((IntKind.i64.wrap (x.1.1*(64:Int)))+(IntKind.i64.wrap (x.1.2.1*(8:Int)))))]++v3.1),()))
|false=>
 match i_hasData (x.1.1,())with
 |none=>none
 |some v5=>
 match v5.1 with
 |true=>
  room ([(IntKind.i64.wrap ((IntKind.i64.wrap (x.1.1*(64:Int)))+(IntKind.i64.wrap (x.1.2.1*(8:Int)))))].length+ [(x.1.2.2.2.1.length:Int)].length) (
   room (([(IntKind.i64.wrap ((IntKind.i64.wrap (x.1.1*(64:Int)))+(IntKind.i64.wrap (x.1.2.1*(8:Int)))))]++ [(x.1.2.2.2.1.length:Int)]).length+x.1.2.2.2.1.length) (
    some ((([(IntKind.i64.wrap ((IntKind.i64.wrap (x.1.1*(64:Int)))+(IntKind.i64.wrap (x.1.2.1*(8:Int)))))]++ [(x.1.2.2.2.1.length:Int)])++x.1.2.2.2.1),())))
 |false=>
  some ([(IntKind.i64.wrap ((IntKind.i64.wrap (x.1.1*(64:Int)))+(IntKind.i64.wrap (x.1.2.1*(8:Int)))))],())
noncomputable def S_i_bodyOf:Spec:=⟨(.pair TFrame .unit),(.pair (.own 2 (.int .i64)) .unit),.unit,rfl,i_bodyOf⟩
noncomputable def σ_i_bodyOf:FuncId→Option Spec:=sig [(248,S_i_hasState),(257,S_i_toBytes),(258,S_i_stateBits),(259,S_i_hasData)]
theorem σok_i_bodyOf:∀f s,σ_i_bodyOf f=some s→FnOK G0 Tryz.prog f s:=sig_ok ⟨ok_i_hasState,ok_i_toBytes,ok_i_stateBits,ok_i_hasData,trivial⟩
theorem ok_i_bodyOf:FnOK G0 Tryz.prog 214 S_i_bodyOf:=fn_okS tab0 σok_i_bodyOf Tryz.func214 [] (by kernel_rfl) (by exact trivial) fun x=>by kernel_rfl
noncomputable def i_threeBytes(x:Ty.T (.pair (.int .i64) .unit)):Option (Ty.T (.pair (.own 2 (.int .i64)) .unit)):=
some ([(Int.fdiv x.1 (2^min (16:Int).toNat IntKind.i64.bits)),(bits BinOp.and .i64 (Int.fdiv x.1 (2^min (8:Int).toNat IntKind.i64.bits)) (255:Int)),(bits BinOp.and .i64 x.1 (255:Int))],())
noncomputable def S_i_threeBytes:Spec:=⟨(.pair (.int .i64) .unit),(.pair (.own 2 (.int .i64)) .unit),.unit,rfl,i_threeBytes⟩
noncomputable def σ_i_threeBytes:FuncId→Option Spec:=sig []
theorem σok_i_threeBytes:∀f s,σ_i_threeBytes f=some s→FnOK G0 Tryz.prog f s:=sig_ok trivial
theorem ok_i_threeBytes:FnOK G0 Tryz.prog 215 S_i_threeBytes:=fn_okS tab0 σok_i_threeBytes Tryz.func215 [] (by kernel_rfl) (by exact trivial) fun x=>by kernel_rfl
noncomputable def i_StandardCrc(x:Ty.T .unit):Option (Ty.T (.pair TCrc .unit)):=
some (((24:Int),(6122955:Int),()),())
noncomputable def S_i_StandardCrc:Spec:=⟨.unit,(.pair TCrc .unit),.unit,rfl,i_StandardCrc⟩
noncomputable def σ_i_StandardCrc:FuncId→Option Spec:=sig []
theorem σok_i_StandardCrc:∀f s,σ_i_StandardCrc f=some s→FnOK G0 Tryz.prog f s:=sig_ok trivial
theorem ok_i_StandardCrc:FnOK G0 Tryz.prog 260 S_i_StandardCrc:=fn_okS tab0 σok_i_StandardCrc Tryz.func260 [] (by kernel_rfl) (by exact trivial) fun x=>by kernel_rfl
noncomputable def b_i_Crc_feed_2(x:(Ty.T (.pair (.int .i64) (.pair (.box TCrc) (.pair (.list (.int .i64)) TCrc))))):Option ((Ty.T (.pair (.int .i64) (.pair (.box TCrc) (.pair (.list (.int .i64)) TCrc)))) ⊕ ((Ty.T (.pair (.int .i64) .unit)) ⊕ (Ty.T .unit))):=
match(decide (x.2.2.2.2.1<x.2.2.2.1))with
|true=>
 onSome (idx x.2.2.1 x.2.2.2.2.1) fun v1=>
 if(IntKind.i64.wrap (x.2.1.1-(1:Int)))<0 then none else
 if x.2.1.1<0 then none else
 match((bits BinOp.xor .i64 v1 (Int.fdiv x.1 (2^min (IntKind.i64.wrap (x.2.1.1-(1:Int))).toNat IntKind.i64.bits)))==(1:Int))with
 |true=>
  some (.inl ((bits BinOp.xor .i64 (bits BinOp.and .i64 (IntKind.i64.wrap (x.1*2^min (1:Int).toNat IntKind.i64.bits)) (IntKind.i64.wrap ((IntKind.i64.wrap ((1:Int)*2^min x.2.1.1.toNat IntKind.i64.bits))-(1:Int)))) x.2.1.2.1),(x.2.1.1,x.2.1.2.1,()),x.2.2.1,x.2.2.2.1,(IntKind.i64.wrap (x.2.2.2.2.1+(1:Int))),()))
 |false=>
  some (.inl ((bits BinOp.and .i64 (IntKind.i64.wrap (x.1*2^min (1:Int).toNat IntKind.i64.bits)) (IntKind.i64.wrap ((IntKind.i64.wrap ((1:Int)*2^min x.2.1.1.toNat IntKind.i64.bits))-(1:Int)))),(x.2.1.1,x.2.1.2.1,()),x.2.2.1,x.2.2.2.1,(IntKind.i64.wrap (x.2.2.2.2.1+(1:Int))),()))
|false=>
 some (.inr (.inl (x.1,())))
noncomputable def i_Crc_feed(x:Ty.T (.pair TCrc (.pair (.int .i64) (.pair (.list (.int .i64)) .unit)))):Option (Ty.T (.pair (.int .i64) .unit)):=
match loopL b_i_Crc_feed_2 (x.2.1,(x.1.1,x.1.2.1,()),x.2.2.1,(x.2.2.1.length:Int),(0:Int),())with
|none=>none
|some (.inl v2)=>
 some (v2.1,())
|some (.inr v4)=>
 none
noncomputable def S_i_Crc_feed:Spec:=⟨(.pair TCrc (.pair (.int .i64) (.pair (.list (.int .i64)) .unit))),(.pair (.int .i64) .unit),.unit,rfl,i_Crc_feed⟩
noncomputable def σ_i_Crc_feed:FuncId→Option Spec:=sig []
theorem σok_i_Crc_feed:∀f s,σ_i_Crc_feed f=some s→FnOK G0 Tryz.prog f s:=sig_ok trivial
def q_i_Crc_feed_2:LRow:=⟨[1,3,10,11,12],(.pair (.int .i64) (.pair (.box TCrc) (.pair (.list (.int .i64)) TCrc))),0,[1],(.pair (.int .i64) .unit),[],.unit⟩
noncomputable def ls_i_Crc_feed:List LSpec:=[q_i_Crc_feed_2.spec b_i_Crc_feed_2]
theorem lok_i_Crc_feed_2:Lok Γ0 E0 σ_i_Crc_feed (lam Tryz.f261 ls_i_Crc_feed) Tryz.f261 0 q_i_Crc_feed_2 b_i_Crc_feed_2:=fun x=>by kernel_rfl
theorem ok_i_Crc_feed:FnOK G0 Tryz.prog 261 S_i_Crc_feed:=fn_okS tab0 σok_i_Crc_feed Tryz.func261 ls_i_Crc_feed (by kernel_rfl) (by exact⟨(lok_i_Crc_feed_2).lok,trivial⟩) fun x=>by kernel_rfl
noncomputable def b_i_toBits_3(x:(Ty.T (.pair (.own 2 (.int .i64)) (.pair (.list (.int .i64)) TCrc)))):Option ((Ty.T (.pair (.own 2 (.int .i64)) (.pair (.list (.int .i64)) TCrc))) ⊕ ((Ty.T (.pair (.own 2 (.int .i64)) .unit)) ⊕ (Ty.T .unit))):=
match(decide (x.2.2.2.1<x.2.2.1))with
|true=>
 onSome (idx x.2.1 x.2.2.2.1) fun v1=>
 match i_appendNumber (x.1,v1,(8:Int),())with
 |none=>none
 |some v2=>
 some (.inl (v2.1,x.2.1,x.2.2.1,(IntKind.i64.wrap (x.2.2.2.1+(1:Int))),()))
|false=>
 some (.inr (.inl (x.1,())))
noncomputable def i_toBits(x:Ty.T (.pair (.list (.int .i64)) .unit)):Option (Ty.T (.pair (.own 2 (.int .i64)) .unit)):=
match loopL b_i_toBits_3 ([],x.1,(x.1.length:Int),(0:Int),())with
|none=>none
|some (.inl v3)=>
 some (v3.1,())
|some (.inr v5)=>
 none
noncomputable def S_i_toBits:Spec:=⟨(.pair (.list (.int .i64)) .unit),(.pair (.own 2 (.int .i64)) .unit),.unit,rfl,i_toBits⟩
noncomputable def σ_i_toBits:FuncId→Option Spec:=sig [(213,S_i_appendNumber)]
theorem σok_i_toBits:∀f s,σ_i_toBits f=some s→FnOK G0 Tryz.prog f s:=sig_ok ⟨ok_i_appendNumber,trivial⟩
def q_i_toBits_3:LRow:=⟨[3,7,8,9],(.pair (.own 2 (.int .i64)) (.pair (.list (.int .i64)) TCrc)),0,[3],(.pair (.own 2 (.int .i64)) .unit),[],.unit⟩
noncomputable def ls_i_toBits:List LSpec:=[q_i_toBits_3.spec b_i_toBits_3]
theorem lok_i_toBits_3:Lok Γ0 E0 σ_i_toBits (lam Tryz.f262 ls_i_toBits) Tryz.f262 0 q_i_toBits_3 b_i_toBits_3:=fun x=>by kernel_rfl
theorem ok_i_toBits:FnOK G0 Tryz.prog 262 S_i_toBits:=fn_okS tab0 σok_i_toBits Tryz.func262 ls_i_toBits (by kernel_rfl) (by exact⟨(lok_i_toBits_3).lok,trivial⟩) fun x=>by kernel_rfl
noncomputable def i_checkNumber(x:Ty.T (.pair (.int .i64) (.pair (.list (.int .i64)) (.pair (.int .i64) (.pair TState .unit))))):Option (Ty.T (.pair (.int .i64) .unit)):=
match(x.1==(0:Int))with
|true=>
 match i_StandardCrc (())with
 |none=>none
 |some v1=>
 match i_stateBits ((x.2.2.2.1.1,x.2.2.2.1.2.1,x.2.2.2.1.2.2.1,x.2.2.2.1.2.2.2.1,x.2.2.2.1.2.2.2.2.1,()),())with
 |none=>none
 |some v2=>
 match i_Crc_feed (v1.1,x.2.2.1,v2.1,())with
 |none=>none
 |some v3=>
 match i_StandardCrc (())with
 |none=>none
 |some v4=>
 match i_toBits (x.2.1,())with
 |none=>none
 |some v5=>
 match i_Crc_feed (v4.1,v3.1,v5.1,())with
 |none=>none
 |some v6=>
 some (v6.1,())
|false=>
 match i_StandardCrc (())with
 |none=>none
 |some v7=>
 match i_toBits (x.2.1,())with
 |none=>none
 |some v8=>
 match i_Crc_feed (v7.1,x.2.2.1,v8.1,())with
 |none=>none
 |some v9=>
 some (v9.1,())
noncomputable def S_i_checkNumber:Spec:=⟨(.pair (.int .i64) (.pair (.list (.int .i64)) (.pair (.int .i64) (.pair TState .unit)))),(.pair (.int .i64) .unit),.unit,rfl,i_checkNumber⟩
noncomputable def σ_i_checkNumber:FuncId→Option Spec:=sig [(258,S_i_stateBits),(260,S_i_StandardCrc),(261,S_i_Crc_feed),(262,S_i_toBits)]
theorem σok_i_checkNumber:∀f s,σ_i_checkNumber f=some s→FnOK G0 Tryz.prog f s:=sig_ok ⟨ok_i_stateBits,ok_i_StandardCrc,ok_i_Crc_feed,ok_i_toBits,trivial⟩
theorem ok_i_checkNumber:FnOK G0 Tryz.prog 216 S_i_checkNumber:=fn_okS tab0 σok_i_checkNumber Tryz.func216 [] (by kernel_rfl) (by exact trivial) fun x=>by kernel_rfl
noncomputable def i_seal(x:Ty.T (.pair TFrame (.pair (.int .i64) (.pair TState .unit)))):Option (Ty.T (.pair (.own 2 (.int .i64)) .unit)):=
match i_bodyOf ((x.1.1,x.1.2.1,(x.1.2.2.1.1,x.1.2.2.1.2.1,x.1.2.2.1.2.2.1,x.1.2.2.1.2.2.2.1,x.1.2.2.1.2.2.2.2.1,()),x.1.2.2.2.1,()),())with
|none=>none
|some v1=>
match i_checkNumber (x.1.1,v1.1,x.2.1,(x.2.2.1.1,x.2.2.1.2.1,x.2.2.1.2.2.1,x.2.2.1.2.2.2.1,x.2.2.1.2.2.2.2.1,()),())with
|none=>none
|some v2=>
match i_threeBytes (v2.1,())with
|none=>none
|some v3=>
room (v1.1.length+v3.1.length) (
 some ((v1.1++v3.1),()))
noncomputable def S_i_seal:Spec:=⟨(.pair TFrame (.pair (.int .i64) (.pair TState .unit))),(.pair (.own 2 (.int .i64)) .unit),.unit,rfl,i_seal⟩
noncomputable def σ_i_seal:FuncId→Option Spec:=sig [(214,S_i_bodyOf),(215,S_i_threeBytes),(216,S_i_checkNumber)]
theorem σok_i_seal:∀f s,σ_i_seal f=some s→FnOK G0 Tryz.prog f s:=sig_ok ⟨ok_i_bodyOf,ok_i_threeBytes,ok_i_checkNumber,trivial⟩
theorem ok_i_seal:FnOK G0 Tryz.prog 176 S_i_seal:=fn_okS tab0 σok_i_seal Tryz.func176 [] (by kernel_rfl) (by exact trivial) fun x=>by kernel_rfl
noncomputable def i_SlotCells(x:Ty.T (.pair TMedl (.pair TState (.pair TFrame .unit)))):Option (Ty.T (.pair (.own 2 (.int .i64)) (.pair (.int .i64) .unit))):=
match i_sendCode ((x.1.1,x.1.2.1,x.1.2.2.1,x.1.2.2.2.1,()),(x.2.1.1,x.2.1.2.1,x.2.1.2.2.1,x.2.1.2.2.2.1,x.2.1.2.2.2.2.1,()),(x.2.2.1.1,x.2.2.1.2.1,(x.2.2.1.2.2.1.1,x.2.2.1.2.2.1.2.1,x.2.2.1.2.2.1.2.2.1,x.2.2.1.2.2.1.2.2.2.1,x.2.2.1.2.2.1.2.2.2.2.1,()),x.2.2.1.2.2.2.1,()),())with
|none=>none
|some v1=>
match(v1.1 != (0:Int))with
|true=>
 some ([],v1.1,())
|false=>
 match i_highs ((8:Int),())with
 |none=>none
 |some v2=>
 match i_seal ((x.2.2.1.1,x.2.2.1.2.1,(x.2.2.1.2.2.1.1,x.2.2.1.2.2.1.2.1,x.2.2.1.2.2.1.2.2.1,x.2.2.1.2.2.1.2.2.2.1,x.2.2.1.2.2.1.2.2.2.2.1,()),x.2.2.1.2.2.2.1,()),x.1.1,(x.2.1.1,x.2.1.2.1,x.2.1.2.2.1,x.2.1.2.2.2.1,x.2.1.2.2.2.2.1,()),())with
 |none=>none
 |some v3=>
 match i_cellsOf (v3.1,(8:Int),())with
 |none=>none
 |some v4=>
 match slices_Concat_int64 ([v2.1,v4.1],())with
 |none=>none
 |some v5=>
 match i_descriptorFor ((x.1.1,x.1.2.1,x.1.2.2.1,x.1.2.2.2.1,()),(x.2.1.1,x.2.1.2.1,x.2.1.2.2.1,x.2.1.2.2.2.1,x.2.1.2.2.2.2.1,()),())with
 |none=>none
 |some v6=>
 match i_highs ((IntKind.i64.wrap (v6.1.2.2.2.1-(v5.1.length:Int))),())with
 |none=>none
 |some v7=>
 room (v5.1.length+v7.1.length) (
  some ((v5.1++v7.1),(0:Int),()))
noncomputable def S_i_SlotCells:Spec:=⟨(.pair TMedl (.pair TState (.pair TFrame .unit))),(.pair (.own 2 (.int .i64)) (.pair (.int .i64) .unit)),.unit,rfl,i_SlotCells⟩
noncomputable def σ_i_SlotCells:FuncId→Option Spec:=sig [(81,S_i_descriptorFor),(172,S_i_sendCode),(173,S_slices_Concat_int64),(174,S_i_highs),(175,S_i_cellsOf),(176,S_i_seal)]
theorem σok_i_SlotCells:∀f s,σ_i_SlotCells f=some s→FnOK G0 Tryz.prog f s:=sig_ok ⟨ok_i_descriptorFor,ok_i_sendCode,ok_slices_Concat_int64,ok_i_highs,ok_i_cellsOf,ok_i_seal,trivial⟩
theorem ok_i_SlotCells:FnOK G0 Tryz.prog 130 S_i_SlotCells:=fn_okS tab0 σok_i_SlotCells Tryz.func130 [] (by kernel_rfl) (by exact trivial) fun x=>by kernel_rfl
noncomputable def i_IsBits(x:Ty.T (.pair (.list (.int .i64)) .unit)):Option (Ty.T (.pair .bool .unit)):=
match(decide ((x.1.length:Int)≤(8192:Int)))with
|true=>
 match i_allWithin (x.1,(0:Int),(1:Int),())with
 |none=>none
 |some v1=>
 some (v1.1,())
|false=>
 some (false,())
noncomputable def S_i_IsBits:Spec:=⟨(.pair (.list (.int .i64)) .unit),(.pair .bool .unit),.unit,rfl,i_IsBits⟩
noncomputable def σ_i_IsBits:FuncId→Option Spec:=sig [(187,S_i_allWithin)]
theorem σok_i_IsBits:∀f s,σ_i_IsBits f=some s→FnOK G0 Tryz.prog f s:=sig_ok ⟨ok_i_allWithin,trivial⟩
theorem ok_i_IsBits:FnOK G0 Tryz.prog 138 S_i_IsBits:=fn_okS tab0 σok_i_IsBits Tryz.func138 [] (by kernel_rfl) (by exact trivial) fun x=>by kernel_rfl
noncomputable def b_i_repeat_2(x:(Ty.T (.pair (.own 2 (.int .i64)) (.pair (.int .i64) TCrc)))):Option ((Ty.T (.pair (.own 2 (.int .i64)) (.pair (.int .i64) TCrc))) ⊕ ((Ty.T (.pair (.own 2 (.int .i64)) .unit)) ⊕ (Ty.T .unit))):=
match(decide (x.2.2.2.1<x.2.2.1))with
|true=>
 room (x.1.length+ [x.2.1].length) (
  some (.inl ((x.1++ [x.2.1]),x.2.1,x.2.2.1,(IntKind.i64.wrap (x.2.2.2.1+(1:Int))),())))
|false=>
 some (.inr (.inl (x.1,())))
noncomputable def i_repeat(x:Ty.T (.pair (.own 2 (.int .i64)) TCrc)):Option (Ty.T (.pair (.own 2 (.int .i64)) .unit)):=
match loopL b_i_repeat_2 (x.1,x.2.1,x.2.2.1,(0:Int),())with
|none=>none
|some (.inl v1)=>
 some (v1.1,())
|some (.inr v3)=>
 none
noncomputable def S_i_repeat:Spec:=⟨(.pair (.own 2 (.int .i64)) TCrc),(.pair (.own 2 (.int .i64)) .unit),.unit,rfl,i_repeat⟩
noncomputable def σ_i_repeat:FuncId→Option Spec:=sig []
theorem σok_i_repeat:∀f s,σ_i_repeat f=some s→FnOK G0 Tryz.prog f s:=sig_ok trivial
def q_i_repeat_2:LRow:=⟨[0,1,7,8],(.pair (.own 2 (.int .i64)) (.pair (.int .i64) TCrc)),0,[0],(.pair (.own 2 (.int .i64)) .unit),[],.unit⟩
noncomputable def ls_i_repeat:List LSpec:=[q_i_repeat_2.spec b_i_repeat_2]
theorem lok_i_repeat_2:Lok Γ0 E0 σ_i_repeat (lam Tryz.f177 ls_i_repeat) Tryz.f177 0 q_i_repeat_2 b_i_repeat_2:=fun x=>by kernel_rfl
theorem ok_i_repeat:FnOK G0 Tryz.prog 177 S_i_repeat:=fn_okS tab0 σok_i_repeat Tryz.func177 ls_i_repeat (by kernel_rfl) (by exact⟨(lok_i_repeat_2).lok,trivial⟩) fun x=>by kernel_rfl
noncomputable def b_i_NominalSamples_7(x:(Ty.T (.pair (.own 2 (.int .i64)) (.pair (.list (.int .i64)) TCrc)))):Option ((Ty.T (.pair (.own 2 (.int .i64)) (.pair (.list (.int .i64)) TCrc))) ⊕ ((Ty.T (.pair (.own 2 (.int .i64)) .unit)) ⊕ (Ty.T .unit))):=
match(decide (x.2.2.2.1<x.2.2.1))with
|true=>
 onSome (idx x.2.1 x.2.2.2.1) fun v2=>
 match i_repeat (x.1,v2,(8:Int),())with
 |none=>none
 |some v3=>
 some (.inl (v3.1,x.2.1,x.2.2.1,(IntKind.i64.wrap (x.2.2.2.1+(1:Int))),()))
|false=>
 some (.inr (.inl (x.1,())))
noncomputable def i_NominalSamples(x:Ty.T (.pair (.list (.int .i64)) .unit)):Option (Ty.T (.pair (.own 2 (.int .i64)) (.pair (.int .i64) .unit))):=
match i_IsBits (x.1,())with
|none=>none
|some v1=>
match(!v1.1)with
|true=>
 some ([],(1:Int),())
|false=>
 match(decide ((IntKind.i64.wrap ((x.1.length:Int)*(8:Int)))>(8192:Int)))with
 |true=>
  some ([],(3:Int),())
 |false=>
  match loopL b_i_NominalSamples_7 ([],x.1,(x.1.length:Int),(0:Int),())with
  |none=>none
  |some (.inl v4)=>
   some (v4.1,(0:Int),())
  |some (.inr v6)=>
   none
noncomputable def S_i_NominalSamples:Spec:=⟨(.pair (.list (.int .i64)) .unit),(.pair (.own 2 (.int .i64)) (.pair (.int .i64) .unit)),.unit,rfl,i_NominalSamples⟩
noncomputable def σ_i_NominalSamples:FuncId→Option Spec:=sig [(138,S_i_IsBits),(177,S_i_repeat)]
theorem σok_i_NominalSamples:∀f s,σ_i_NominalSamples f=some s→FnOK G0 Tryz.prog f s:=sig_ok ⟨ok_i_IsBits,ok_i_repeat,trivial⟩
def q_i_NominalSamples_7:LRow:=⟨[4,15,16,17],(.pair (.own 2 (.int .i64)) (.pair (.list (.int .i64)) TCrc)),0,[4],(.pair (.own 2 (.int .i64)) .unit),[],.unit⟩
noncomputable def ls_i_NominalSamples:List LSpec:=[q_i_NominalSamples_7.spec b_i_NominalSamples_7]
theorem lok_i_NominalSamples_7:Lok Γ0 E0 σ_i_NominalSamples (lam Tryz.f131 ls_i_NominalSamples) Tryz.f131 0 q_i_NominalSamples_7 b_i_NominalSamples_7:=fun x=>by kernel_rfl
theorem ok_i_NominalSamples:FnOK G0 Tryz.prog 131 S_i_NominalSamples:=fn_okS tab0 σok_i_NominalSamples Tryz.func131 ls_i_NominalSamples (by kernel_rfl) (by exact⟨(lok_i_NominalSamples_7).lok,trivial⟩) fun x=>by kernel_rfl
noncomputable def i_SlotSamples(x:Ty.T (.pair TMedl (.pair TState (.pair TFrame .unit)))):Option (Ty.T (.pair (.own 2 (.int .i64)) (.pair (.int .i64) .unit))):=
match i_SlotCells ((x.1.1,x.1.2.1,x.1.2.2.1,x.1.2.2.2.1,()),(x.2.1.1,x.2.1.2.1,x.2.1.2.2.1,x.2.1.2.2.2.1,x.2.1.2.2.2.2.1,()),(x.2.2.1.1,x.2.2.1.2.1,(x.2.2.1.2.2.1.1,x.2.2.1.2.2.1.2.1,x.2.2.1.2.2.1.2.2.1,x.2.2.1.2.2.1.2.2.2.1,x.2.2.1.2.2.1.2.2.2.2.1,()),x.2.2.1.2.2.2.1,()),())with
|none=>none
|some v1=>
match(v1.2.1 != (0:Int))with
|true=>
 some ([],v1.2.1,())
|false=>
 match i_NominalSamples (v1.1,())with
 |none=>none
 |some v2=>
 some (v2.1,v2.2.1,())
noncomputable def S_i_SlotSamples:Spec:=⟨(.pair TMedl (.pair TState (.pair TFrame .unit))),(.pair (.own 2 (.int .i64)) (.pair (.int .i64) .unit)),.unit,rfl,i_SlotSamples⟩
noncomputable def σ_i_SlotSamples:FuncId→Option Spec:=sig [(130,S_i_SlotCells),(131,S_i_NominalSamples)]
theorem σok_i_SlotSamples:∀f s,σ_i_SlotSamples f=some s→FnOK G0 Tryz.prog f s:=sig_ok ⟨ok_i_SlotCells,ok_i_NominalSamples,trivial⟩
theorem ok_i_SlotSamples:FnOK G0 Tryz.prog 94 S_i_SlotSamples:=fn_okS tab0 σok_i_SlotSamples Tryz.func94 [] (by kernel_rfl) (by exact trivial) fun x=>by kernel_rfl
noncomputable def b_slices_IndexFunc_Fault_2(x:(Ty.T (.pair (.list TFault) (.pair (.fn (.pair TFault .unit) (.pair .bool .unit)) TCrc)))):Option ((Ty.T (.pair (.list TFault) (.pair (.fn (.pair TFault .unit) (.pair .bool .unit)) TCrc))) ⊕ ((Ty.T .unit) ⊕ (Ty.T (.pair (.int .i64) .unit)))):=
match(decide (x.2.2.2.1<x.2.2.1))with
|true=>
 onSome (idx x.1 x.2.2.2.1) fun v1=>
 match x.2.1 (v1,())with
 |none=>none
 |some v2=>
 match v2.1 with
 |true=>
  some (.inr (.inr (x.2.2.2.1,())))
 |false=>
  some (.inl (x.1,x.2.1,x.2.2.1,(IntKind.i64.wrap (x.2.2.2.1+(1:Int))),()))
|false=>
 some (.inr (.inl (())))
noncomputable def slices_IndexFunc_Fault(x:Ty.T (.pair (.list TFault) (.pair (.fn (.pair TFault .unit) (.pair .bool .unit)) .unit))):Option (Ty.T (.pair (.int .i64) .unit)):=
match loopL b_slices_IndexFunc_Fault_2 (x.1,x.2.1,(x.1.length:Int),(0:Int),())with
|none=>none
|some (.inl v3)=>
 some ((-1:Int),())
|some (.inr v4)=>
 some (v4.1,())
noncomputable def S_slices_IndexFunc_Fault:Spec:=⟨(.pair (.list TFault) (.pair (.fn (.pair TFault .unit) (.pair .bool .unit)) .unit)),(.pair (.int .i64) .unit),.unit,rfl,slices_IndexFunc_Fault⟩
noncomputable def σ_slices_IndexFunc_Fault:FuncId→Option Spec:=sig []
theorem σok_slices_IndexFunc_Fault:∀f s,σ_slices_IndexFunc_Fault f=some s→FnOK G0 Tryz.prog f s:=sig_ok trivial
def q_slices_IndexFunc_Fault_2:LRow:=⟨[0,1,7,8],(.pair (.list TFault) (.pair (.fn (.pair TFault .unit) (.pair .bool .unit)) TCrc)),0,[],.unit,[4],(.pair (.int .i64) .unit)⟩
noncomputable def ls_slices_IndexFunc_Fault:List LSpec:=[q_slices_IndexFunc_Fault_2.spec b_slices_IndexFunc_Fault_2]
theorem lok_slices_IndexFunc_Fault_2:Lok Γ0 E0 σ_slices_IndexFunc_Fault (lam Tryz.f178 ls_slices_IndexFunc_Fault) Tryz.f178 0 q_slices_IndexFunc_Fault_2 b_slices_IndexFunc_Fault_2:=fun x=>by kernel_rfl
theorem ok_slices_IndexFunc_Fault:FnOK G0 Tryz.prog 178 S_slices_IndexFunc_Fault:=fn_okS tab0 σok_slices_IndexFunc_Fault Tryz.func178 ls_slices_IndexFunc_Fault (by kernel_rfl) (by exact⟨(lok_slices_IndexFunc_Fault_2).lok,trivial⟩) fun x=>by kernel_rfl
noncomputable def slices_ContainsFunc_Fault(x:Ty.T (.pair (.list TFault) (.pair (.fn (.pair TFault .unit) (.pair .bool .unit)) .unit))):Option (Ty.T (.pair .bool .unit)):=
match slices_IndexFunc_Fault (x.1,x.2.1,())with
|none=>none
|some v1=>
some ((decide (v1.1≥(0:Int))),())
noncomputable def S_slices_ContainsFunc_Fault:Spec:=⟨(.pair (.list TFault) (.pair (.fn (.pair TFault .unit) (.pair .bool .unit)) .unit)),(.pair .bool .unit),.unit,rfl,slices_ContainsFunc_Fault⟩
noncomputable def σ_slices_ContainsFunc_Fault:FuncId→Option Spec:=sig [(178,S_slices_IndexFunc_Fault)]
theorem σok_slices_ContainsFunc_Fault:∀f s,σ_slices_ContainsFunc_Fault f=some s→FnOK G0 Tryz.prog f s:=sig_ok ⟨ok_slices_IndexFunc_Fault,trivial⟩
theorem ok_slices_ContainsFunc_Fault:FnOK G0 Tryz.prog 132 S_slices_ContainsFunc_Fault:=fn_okS tab0 σok_slices_ContainsFunc_Fault Tryz.func132 [] (by kernel_rfl) (by exact trivial) fun x=>by kernel_rfl
noncomputable def i_hasLength(x:Ty.T (.pair (.int .i64) .unit)):Option (Ty.T (.pair .bool .unit)):=
match(x.1 != (1:Int))with
|true=>
 some ((x.1 != (5:Int)),())
|false=>
 some (false,())
noncomputable def S_i_hasLength:Spec:=⟨(.pair (.int .i64) .unit),(.pair .bool .unit),.unit,rfl,i_hasLength⟩
noncomputable def σ_i_hasLength:FuncId→Option Spec:=sig []
theorem σok_i_hasLength:∀f s,σ_i_hasLength f=some s→FnOK G0 Tryz.prog f s:=sig_ok trivial
theorem ok_i_hasLength:FnOK G0 Tryz.prog 179 S_i_hasLength:=fn_okS tab0 σok_i_hasLength Tryz.func179 [] (by kernel_rfl) (by exact trivial) fun x=>by kernel_rfl
noncomputable def i_hasValue(x:Ty.T (.pair (.int .i64) .unit)):Option (Ty.T (.pair .bool .unit)):=
match(x.1==(4:Int))with
|true=>
 some (true,())
|false=>
 some ((x.1==(6:Int)),())
noncomputable def S_i_hasValue:Spec:=⟨(.pair (.int .i64) .unit),(.pair .bool .unit),.unit,rfl,i_hasValue⟩
noncomputable def σ_i_hasValue:FuncId→Option Spec:=sig []
theorem σok_i_hasValue:∀f s,σ_i_hasValue f=some s→FnOK G0 Tryz.prog f s:=sig_ok trivial
theorem ok_i_hasValue:FnOK G0 Tryz.prog 180 S_i_hasValue:=fn_okS tab0 σok_i_hasValue Tryz.func180 [] (by kernel_rfl) (by exact trivial) fun x=>by kernel_rfl
noncomputable def i_IsFault(x:Ty.T (.pair TFault .unit)):Option (Ty.T (.pair .bool .unit)):=
match i_within (x.1.1,(1:Int),(6:Int),())with
|none=>none
|some v1=>
match(!v1.1)with
|true=>
 some (false,())
|false=>
 match i_within (x.1.2.1,(0:Int),(8192:Int),())with
 |none=>none
 |some v2=>
 match(!v2.1)with
 |true=>
  some (false,())
 |false=>
  match i_hasLength (x.1.1,())with
  |none=>none
  |some v3=>
  match v3.1 with
  |true=>
   match i_within (x.1.2.2.1,(1:Int),(8192:Int),())with
   |none=>none
   |some v4=>
   match i_hasValue (x.1.1,())with
   |none=>none
   |some v5=>
   match v5.1 with
   |true=>
    match i_within (x.1.2.2.2.1,(0:Int),(1:Int),())with
    |none=>none
    |some v6=>
    match v4.1 with
    |true=>
     some (v6.1,())
    |false=>
     some (false,())
   |false=>
    match v4.1 with
    |true=>
     some ((x.1.2.2.2.1==(0:Int)),())
    |false=>
     some (false,())
  |false=>
   match i_hasValue (x.1.1,())with
   |none=>none
   |some v7=>
   match v7.1 with
   |true=>
    match i_within (x.1.2.2.2.1,(0:Int),(1:Int),())with
    |none=>none
    |some v8=>
    match(x.1.2.2.1==(0:Int))with
    |true=>
     some (v8.1,())
    |false=>
     some (false,())
   |false=>
    match(x.1.2.2.1==(0:Int))with
    |true=>
     some ((x.1.2.2.2.1==(0:Int)),())
    |false=>
     some (false,())
noncomputable def S_i_IsFault:Spec:=⟨(.pair TFault .unit),(.pair .bool .unit),.unit,rfl,i_IsFault⟩
noncomputable def σ_i_IsFault:FuncId→Option Spec:=sig [(155,S_i_within),(179,S_i_hasLength),(180,S_i_hasValue)]
theorem σok_i_IsFault:∀f s,σ_i_IsFault f=some s→FnOK G0 Tryz.prog f s:=sig_ok ⟨ok_i_within,ok_i_hasLength,ok_i_hasValue,trivial⟩
theorem ok_i_IsFault:FnOK G0 Tryz.prog 134 S_i_IsFault:=fn_okS tab0 σok_i_IsFault Tryz.func134 [] (by kernel_rfl) (by exact trivial) fun x=>by kernel_rfl
noncomputable def i_IsScript_1(x:Ty.T (.pair TFault .unit)):Option (Ty.T (.pair .bool .unit)):=
match i_IsFault ((x.1.1,x.1.2.1,x.1.2.2.1,x.1.2.2.2.1,()),())with
|none=>none
|some v1=>
some ((!v1.1),())
noncomputable def S_i_IsScript_1:Spec:=⟨(.pair TFault .unit),(.pair .bool .unit),.unit,rfl,i_IsScript_1⟩
noncomputable def σ_i_IsScript_1:FuncId→Option Spec:=sig [(134,S_i_IsFault)]
theorem σok_i_IsScript_1:∀f s,σ_i_IsScript_1 f=some s→FnOK G0 Tryz.prog f s:=sig_ok ⟨ok_i_IsFault,trivial⟩
theorem ok_i_IsScript_1:FnOK G0 Tryz.prog 133 S_i_IsScript_1:=fn_okS tab0 σok_i_IsScript_1 Tryz.func133 [] (by kernel_rfl) (by exact trivial) fun x=>by kernel_rfl
noncomputable def i_IsScript(x:Ty.T (.pair (.list TFault) .unit)):Option (Ty.T (.pair .bool .unit)):=
match(decide ((x.1.length:Int)≤(30:Int)))with
|true=>
 match slices_ContainsFunc_Fault (x.1,i_IsScript_1,())with
 |none=>none
 |some v1=>
 some ((!v1.1),())
|false=>
 some (false,())
noncomputable def S_i_IsScript:Spec:=⟨(.pair (.list TFault) .unit),(.pair .bool .unit),.unit,rfl,i_IsScript⟩
noncomputable def σ_i_IsScript:FuncId→Option Spec:=sig [(132,S_slices_ContainsFunc_Fault),(133,S_i_IsScript_1)]
theorem σok_i_IsScript:∀f s,σ_i_IsScript f=some s→FnOK G0 Tryz.prog f s:=sig_ok ⟨ok_slices_ContainsFunc_Fault,ok_i_IsScript_1,trivial⟩
theorem ok_i_IsScript:FnOK G0 Tryz.prog 95 S_i_IsScript:=fn_okS tab0 σok_i_IsScript Tryz.func95 [] (by kernel_rfl) (by exact trivial) fun x=>by kernel_rfl
noncomputable def slices_Clone_int64(x:Ty.T (.pair (.list (.int .i64)) .unit)):Option (Ty.T (.pair (.own 2 (.int .i64)) .unit)):=
nilK x.1 fun v1=>
match v1 with
|true=>
 some ([],())
|false=>
 room (([]:List (Ty.T (.int .i64))).length+x.1.length) (
  some ((([]:List (Ty.T (.int .i64)))++x.1),()))
noncomputable def S_slices_Clone_int64:Spec:=⟨(.pair (.list (.int .i64)) .unit),(.pair (.own 2 (.int .i64)) .unit),.unit,rfl,slices_Clone_int64⟩
noncomputable def σ_slices_Clone_int64:FuncId→Option Spec:=sig []
theorem σok_slices_Clone_int64:∀f s,σ_slices_Clone_int64 f=some s→FnOK G0 Tryz.prog f s:=sig_ok trivial
theorem ok_slices_Clone_int64:FnOK G0 Tryz.prog 135 S_slices_Clone_int64:=fn_okS tab0 σok_slices_Clone_int64 Tryz.func135 [] (by kernel_rfl) (by exact trivial) fun x=>by kernel_rfl
noncomputable def i_applyFault_1(x:Ty.T (.pair (.int .i64) .unit)):Option (Ty.T (.pair (.int .i64) .unit)):=
some ((IntKind.i64.wrap ((1:Int)-x.1)),())
noncomputable def S_i_applyFault_1:Spec:=⟨(.pair (.int .i64) .unit),(.pair (.int .i64) .unit),.unit,rfl,i_applyFault_1⟩
noncomputable def σ_i_applyFault_1:FuncId→Option Spec:=sig []
theorem σok_i_applyFault_1:∀f s,σ_i_applyFault_1 f=some s→FnOK G0 Tryz.prog f s:=sig_ok trivial
theorem ok_i_applyFault_1:FnOK G0 Tryz.prog 181 S_i_applyFault_1:=fn_okS tab0 σok_i_applyFault_1 Tryz.func181 [] (by kernel_rfl) (by exact trivial) fun x=>by kernel_rfl
noncomputable def b_i_change_1(x:(Ty.T (.pair (.own 2 (.int .i64)) (.pair (.int .i64) (.pair (.fn (.pair (.int .i64) .unit) (.pair (.int .i64) .unit)) (.pair (.int .i64) .unit)))))):Option ((Ty.T (.pair (.own 2 (.int .i64)) (.pair (.int .i64) (.pair (.fn (.pair (.int .i64) .unit) (.pair (.int .i64) .unit)) (.pair (.int .i64) .unit))))) ⊕ ((Ty.T (.pair (.own 2 (.int .i64)) .unit)) ⊕ (Ty.T .unit))):=
match(decide (x.2.2.2.1<(if(x.1.length:Int)<x.2.1 then(x.1.length:Int)else x.2.1)))with
|true=>
 onSome (idx x.1 x.2.2.2.1) fun _=>
 match x.1[x.2.2.2.1.toNat]? with
 |none=>none
 |some v2=>
 match x.2.2.1 (v2,())with
 |none=>none
 |some v3=>
 onSome (idx x.1 x.2.2.2.1) fun _=>
 match x.1[x.2.2.2.1.toNat]? with
 |none=>none
 |some v5=>
 some (.inl ((x.1.set x.2.2.2.1.toNat v3.1),x.2.1,x.2.2.1,(IntKind.i64.wrap (x.2.2.2.1+(1:Int))),()))
|false=>
 some (.inr (.inl (x.1,())))
noncomputable def i_change(x:Ty.T (.pair (.own 2 (.int .i64)) (.pair (.int .i64) (.pair (.int .i64) (.pair (.fn (.pair (.int .i64) .unit) (.pair (.int .i64) .unit)) .unit))))):Option (Ty.T (.pair (.own 2 (.int .i64)) .unit)):=
match loopL b_i_change_1 (x.1,x.2.2.1,x.2.2.2.1,x.2.1,())with
|none=>none
|some (.inl v6)=>
 some (v6.1,())
|some (.inr v8)=>
 none
noncomputable def S_i_change:Spec:=⟨(.pair (.own 2 (.int .i64)) (.pair (.int .i64) (.pair (.int .i64) (.pair (.fn (.pair (.int .i64) .unit) (.pair (.int .i64) .unit)) .unit)))),.unit,(.pair (.own 2 (.int .i64)) .unit),rfl,i_change⟩
noncomputable def σ_i_change:FuncId→Option Spec:=sig []
theorem σok_i_change:∀f s,σ_i_change f=some s→FnOK G0 Tryz.prog f s:=sig_ok trivial
def q_i_change_1:LRow:=⟨[0,2,3,8],(.pair (.own 2 (.int .i64)) (.pair (.int .i64) (.pair (.fn (.pair (.int .i64) .unit) (.pair (.int .i64) .unit)) (.pair (.int .i64) .unit)))),0,[0],(.pair (.own 2 (.int .i64)) .unit),[],.unit⟩
noncomputable def ls_i_change:List LSpec:=[q_i_change_1.spec b_i_change_1]
theorem lok_i_change_1:Lok Γ0 E0 σ_i_change (lam Tryz.f182 ls_i_change) Tryz.f182 0 q_i_change_1 b_i_change_1:=fun x=>by kernel_rfl
theorem ok_i_change:FnOK G0 Tryz.prog 182 S_i_change:=fn_okS tab0 σok_i_change Tryz.func182 ls_i_change (by kernel_rfl) (by exact⟨(lok_i_change_1).lok,trivial⟩) fun x=>by kernel_rfl
noncomputable def slices_Delete_int64(x:Ty.T (.pair (.own 2 (.int .i64)) TCrc)):Option (Ty.T (.pair (.own 2 (.int .i64)) .unit)):=onSome (delF x.1 x.2.1 x.2.2.1) fun s=>some (s,())
noncomputable def S_slices_Delete_int64:Spec:=⟨(.pair (.own 2 (.int .i64)) TCrc),(.pair (.own 2 (.int .i64)) .unit),.unit,rfl,slices_Delete_int64⟩
theorem ok_slices_Delete_int64:FnOK G0 Tryz.prog 183 S_slices_Delete_int64:=delete_ok (entersF_of Tryz.func183 (by kernel_rfl) (show Tryz.f183.body=some (bodyOf Tryz.f183) by kernel_rfl))
noncomputable def slices_Insert_int64(x:Ty.T (.pair (.own 2 (.int .i64)) (.pair (.int .i64) (.pair (.own 2 (.int .i64)) .unit)))):Option (Ty.T (.pair (.own 2 (.int .i64)) .unit)):=onSome (insF x.1 x.2.1 x.2.2.1) fun s=>some (s,())
noncomputable def S_slices_Insert_int64:Spec:=⟨(.pair (.own 2 (.int .i64)) (.pair (.int .i64) (.pair (.own 2 (.int .i64)) .unit))),(.pair (.own 2 (.int .i64)) .unit),.unit,rfl,slices_Insert_int64⟩
theorem ok_slices_Insert_int64:FnOK G0 Tryz.prog 184 S_slices_Insert_int64:=insert_ok (entersF_of Tryz.func184 (by kernel_rfl) (show Tryz.f184.body=some (bodyOf Tryz.f184) by kernel_rfl))
noncomputable def i_applyFault_2(x:Ty.T (.pair (.int .i64) .unit)):Option (Ty.T (.pair (.int .i64) .unit)):=
some ((1:Int),())
noncomputable def S_i_applyFault_2:Spec:=⟨(.pair (.int .i64) .unit),(.pair (.int .i64) .unit),.unit,rfl,i_applyFault_2⟩
noncomputable def σ_i_applyFault_2:FuncId→Option Spec:=sig []
theorem σok_i_applyFault_2:∀f s,σ_i_applyFault_2 f=some s→FnOK G0 Tryz.prog f s:=sig_ok trivial
theorem ok_i_applyFault_2:FnOK G0 Tryz.prog 185 S_i_applyFault_2:=fn_okS tab0 σok_i_applyFault_2 Tryz.func185 [] (by kernel_rfl) (by exact trivial) fun x=>by kernel_rfl
noncomputable def i_applyFault_3(x:Ty.T (.pair (.int .i64) (.pair (.ptr TFault) .unit))):Option (Ty.T (.pair (.int .i64) .unit)):=
some (x.2.1.2.2.2.1,())
noncomputable def S_i_applyFault_3:Spec:=⟨(.pair (.int .i64) (.pair (.ptr TFault) .unit)),(.pair (.int .i64) .unit),.unit,rfl,i_applyFault_3⟩
noncomputable def σ_i_applyFault_3:FuncId→Option Spec:=sig []
theorem σok_i_applyFault_3:∀f s,σ_i_applyFault_3 f=some s→FnOK G0 Tryz.prog f s:=sig_ok trivial
theorem ok_i_applyFault_3:FnOK G0 Tryz.prog 186 S_i_applyFault_3:=fn_okS tab0 σok_i_applyFault_3 Tryz.func186 [] (by kernel_rfl) (by exact trivial) fun x=>by kernel_rfl
noncomputable def i_applyFault(x:Ty.T (.pair (.list (.int .i64)) (.pair TFault .unit))):Option (Ty.T (.pair (.list (.int .i64)) .unit)):=
match slices_Clone_int64 (x.1,())with
|none=>none
|some v1=>
match(x.2.1.1==(1:Int))with
|true=>
 match i_change (v1.1,x.2.1.2.1,(IntKind.i64.wrap (x.2.1.2.1+(1:Int))),i_applyFault_1,())with
 |none=>none
 |some v2=>
 some (v2.1,())
|false=>
 match(x.2.1.1==(2:Int))with
 |true=>
  match i_change (v1.1,x.2.1.2.1,(IntKind.i64.wrap (x.2.1.2.1+x.2.1.2.2.1)),i_applyFault_1,())with
  |none=>none
  |some v3=>
  some (v3.1,())
 |false=>
  match(x.2.1.1==(3:Int))with
  |true=>
   match slices_Delete_int64 (v1.1,(if x.2.1.2.1<(x.1.length:Int)then x.2.1.2.1 else(x.1.length:Int)),(if(IntKind.i64.wrap (x.2.1.2.1+x.2.1.2.2.1))<(x.1.length:Int)then(IntKind.i64.wrap (x.2.1.2.1+x.2.1.2.2.1))else(x.1.length:Int)),())with
   |none=>none
   |some v4=>
   some (v4.1,())
  |false=>
   match(x.2.1.1==(4:Int))with
   |true=>
    match(decide (x.2.1.2.1≤(x.1.length:Int)))with
    |true=>
     match i_repeat ([],x.2.1.2.2.2.1,x.2.1.2.2.1,())with
     |none=>none
     |some v5=>
     match slices_Insert_int64 (v1.1,x.2.1.2.1,v5.1,())with
     |none=>none
     |some v6=>
     onSome (bounds v6.1.length none (some (.dat (.int .i64) (if(v6.1.length:Int)<(8192:Int)then(v6.1.length:Int)else(8192:Int))))) fun v7=>
     some ((List.drop v7.1 (List.take v7.2 v6.1)),())
    |false=>
     onSome (bounds v1.1.length none (some (.dat (.int .i64) (if(v1.1.length:Int)<(8192:Int)then(v1.1.length:Int)else(8192:Int))))) fun v8=>
     some ((List.drop v8.1 (List.take v8.2 v1.1)),())
   |false=>
    match(x.2.1.1==(5:Int))with
    |true=>
     match i_change (v1.1,x.2.1.2.1,(x.1.length:Int),i_applyFault_2,())with
     |none=>none
     |some v9=>
     some (v9.1,())
    |false=>
     match(x.2.1.1==(6:Int))with
     |true=>
      match i_change (v1.1,x.2.1.2.1,(IntKind.i64.wrap (x.2.1.2.1+x.2.1.2.2.1)),(fun z=>i_applyFault_3 (z.1,(x.2.1.1,x.2.1.2.1,x.2.1.2.2.1,x.2.1.2.2.2.1,()),())),())with
      |none=>none
      |some v10=>
      some (v10.1,())
     |false=>
      some (v1.1,())
noncomputable def S_i_applyFault:Spec:=⟨(.pair (.list (.int .i64)) (.pair TFault .unit)),(.pair (.list (.int .i64)) .unit),.unit,rfl,i_applyFault⟩
noncomputable def σ_i_applyFault:FuncId→Option Spec:=sig [(135,S_slices_Clone_int64),(177,S_i_repeat),(181,S_i_applyFault_1),(182,S_i_change),(183,S_slices_Delete_int64),(184,S_slices_Insert_int64),(185,S_i_applyFault_2),(186,S_i_applyFault_3)]
theorem σok_i_applyFault:∀f s,σ_i_applyFault f=some s→FnOK G0 Tryz.prog f s:=sig_ok ⟨ok_slices_Clone_int64,ok_i_repeat,ok_i_applyFault_1,ok_i_change,ok_slices_Delete_int64,ok_slices_Insert_int64,ok_i_applyFault_2,ok_i_applyFault_3,trivial⟩
theorem ok_i_applyFault:FnOK G0 Tryz.prog 136 S_i_applyFault:=fn_okS tab0 σok_i_applyFault Tryz.func136 [] (by kernel_rfl) (by exact trivial) fun x=>by kernel_rfl
noncomputable def b_i_applyScript_3(x:(Ty.T (.pair (.list (.int .i64)) (.pair (.list TFault) TCrc)))):Option ((Ty.T (.pair (.list (.int .i64)) (.pair (.list TFault) TCrc))) ⊕ ((Ty.T (.pair (.list (.int .i64)) .unit)) ⊕ (Ty.T .unit))):=
match(decide (x.2.2.2.1<x.2.2.1))with
|true=>
 onSome (idx x.2.1 x.2.2.2.1) fun v2=>
 match i_applyFault (x.1,(v2.1,v2.2.1,v2.2.2.1,v2.2.2.2.1,()),())with
 |none=>none
 |some v3=>
 some (.inl (v3.1,x.2.1,x.2.2.1,(IntKind.i64.wrap (x.2.2.2.1+(1:Int))),()))
|false=>
 some (.inr (.inl (x.1,())))
noncomputable def i_applyScript(x:Ty.T (.pair (.list (.int .i64)) (.pair (.list TFault) .unit))):Option (Ty.T (.pair (.list (.int .i64)) .unit)):=
match slices_Clone_int64 (x.1,())with
|none=>none
|some v1=>
match loopL b_i_applyScript_3 (v1.1,x.2.1,(x.2.1.length:Int),(0:Int),())with
|none=>none
|some (.inl v4)=>
 some (v4.1,())
|some (.inr v6)=>
 none
noncomputable def S_i_applyScript:Spec:=⟨(.pair (.list (.int .i64)) (.pair (.list TFault) .unit)),(.pair (.list (.int .i64)) .unit),.unit,rfl,i_applyScript⟩
noncomputable def σ_i_applyScript:FuncId→Option Spec:=sig [(135,S_slices_Clone_int64),(136,S_i_applyFault)]
theorem σok_i_applyScript:∀f s,σ_i_applyScript f=some s→FnOK G0 Tryz.prog f s:=sig_ok ⟨ok_slices_Clone_int64,ok_i_applyFault,trivial⟩
def q_i_applyScript_3:LRow:=⟨[5,10,11,12],(.pair (.list (.int .i64)) (.pair (.list TFault) TCrc)),0,[5],(.pair (.list (.int .i64)) .unit),[],.unit⟩
noncomputable def ls_i_applyScript:List LSpec:=[q_i_applyScript_3.spec b_i_applyScript_3]
theorem lok_i_applyScript_3:Lok Γ0 E0 σ_i_applyScript (lam Tryz.f96 ls_i_applyScript) Tryz.f96 0 q_i_applyScript_3 b_i_applyScript_3:=fun x=>by kernel_rfl
theorem ok_i_applyScript:FnOK G0 Tryz.prog 96 S_i_applyScript:=fn_okS tab0 σok_i_applyScript Tryz.func96 ls_i_applyScript (by kernel_rfl) (by exact⟨(lok_i_applyScript_3).lok,trivial⟩) fun x=>by kernel_rfl
noncomputable def i_SendScripted(x:Ty.T (.pair TMedl (.pair TState (.pair TFrame (.pair (.list TFault) .unit))))):Option (Ty.T (.pair (.list (.int .i64)) (.pair (.int .i64) .unit))):=
match i_SlotSamples ((x.1.1,x.1.2.1,x.1.2.2.1,x.1.2.2.2.1,()),(x.2.1.1,x.2.1.2.1,x.2.1.2.2.1,x.2.1.2.2.2.1,x.2.1.2.2.2.2.1,()),(x.2.2.1.1,x.2.2.1.2.1,(x.2.2.1.2.2.1.1,x.2.2.1.2.2.1.2.1,x.2.2.1.2.2.1.2.2.1,x.2.2.1.2.2.1.2.2.2.1,x.2.2.1.2.2.1.2.2.2.2.1,()),x.2.2.1.2.2.2.1,()),())with
|none=>none
|some v1=>
match(v1.2.1 != (0:Int))with
|true=>
 some ([],v1.2.1,())
|false=>
 match i_IsScript (x.2.2.2.1,())with
 |none=>none
 |some v2=>
 match(!v2.1)with
 |true=>
  some ([],(3:Int),())
 |false=>
  match i_applyScript (v1.1,x.2.2.2.1,())with
  |none=>none
  |some v3=>
  some (v3.1,(0:Int),())
noncomputable def S_i_SendScripted:Spec:=⟨(.pair TMedl (.pair TState (.pair TFrame (.pair (.list TFault) .unit)))),(.pair (.list (.int .i64)) (.pair (.int .i64) .unit)),.unit,rfl,i_SendScripted⟩
noncomputable def σ_i_SendScripted:FuncId→Option Spec:=sig [(94,S_i_SlotSamples),(95,S_i_IsScript),(96,S_i_applyScript)]
theorem σok_i_SendScripted:∀f s,σ_i_SendScripted f=some s→FnOK G0 Tryz.prog f s:=sig_ok ⟨ok_i_SlotSamples,ok_i_IsScript,ok_i_applyScript,trivial⟩
theorem ok_i_SendScripted:FnOK G0 Tryz.prog 60 S_i_SendScripted:=fn_okS tab0 σok_i_SendScripted Tryz.func60 [] (by kernel_rfl) (by exact trivial) fun x=>by kernel_rfl
noncomputable def i_receiveCode(x:Ty.T (.pair TMedl (.pair TState (.pair .bool .unit)))):Option (Ty.T (.pair (.int .i64) .unit)):=
match i_lookCode ((x.1.1,x.1.2.1,x.1.2.2.1,x.1.2.2.2.1,()),(x.2.1.1,x.2.1.2.1,x.2.1.2.2.1,x.2.1.2.2.2.1,x.2.1.2.2.2.2.1,()),())with
|none=>none
|some v1=>
match(v1.1 != (0:Int))with
|true=>
 some (v1.1,())
|false=>
 match(!x.2.2.1)with
 |true=>
  some ((2:Int),())
 |false=>
  some ((0:Int),())
noncomputable def S_i_receiveCode:Spec:=⟨(.pair TMedl (.pair TState (.pair .bool .unit))),(.pair (.int .i64) .unit),.unit,rfl,i_receiveCode⟩
noncomputable def σ_i_receiveCode:FuncId→Option Spec:=sig [(111,S_i_lookCode)]
theorem σok_i_receiveCode:∀f s,σ_i_receiveCode f=some s→FnOK G0 Tryz.prog f s:=sig_ok ⟨ok_i_lookCode,trivial⟩
theorem ok_i_receiveCode:FnOK G0 Tryz.prog 137 S_i_receiveCode:=fn_okS tab0 σok_i_receiveCode Tryz.func137 [] (by kernel_rfl) (by exact trivial) fun x=>by kernel_rfl
noncomputable def i_oneIf(x:Ty.T (.pair .bool .unit)):Option (Ty.T (.pair (.int .i64) .unit)):=
match x.1 with
|true=>
 some ((1:Int),())
|false=>
 some ((0:Int),())
noncomputable def S_i_oneIf:Spec:=⟨(.pair .bool .unit),(.pair (.int .i64) .unit),.unit,rfl,i_oneIf⟩
noncomputable def σ_i_oneIf:FuncId→Option Spec:=sig []
theorem σok_i_oneIf:∀f s,σ_i_oneIf f=some s→FnOK G0 Tryz.prog f s:=sig_ok trivial
theorem ok_i_oneIf:FnOK G0 Tryz.prog 300 S_i_oneIf:=fn_okS tab0 σok_i_oneIf Tryz.func300 [] (by kernel_rfl) (by exact trivial) fun x=>by kernel_rfl
noncomputable def b_i_onesInWindow_3(x:(Ty.T (.pair (.list (.int .i64)) (.pair (.int .i64) TCrc)))):Option ((Ty.T (.pair (.list (.int .i64)) (.pair (.int .i64) TCrc))) ⊕ ((Ty.T (.pair (.int .i64) .unit)) ⊕ (Ty.T .unit))):=
match(decide (x.2.2.2.1≤x.2.1))with
|true=>
 match(decide (x.2.2.2.1<(0:Int)))with
 |true=>
  some (.inl (x.1,x.2.1,(IntKind.i64.wrap (x.2.2.1+(1:Int))),(IntKind.i64.wrap (x.2.2.2.1+(1:Int))),()))
 |false=>
  onSome (idx x.1 x.2.2.2.1) fun v1=>
  match(v1==(1:Int))with
  |true=>
   some (.inl (x.1,x.2.1,(IntKind.i64.wrap (x.2.2.1+(1:Int))),(IntKind.i64.wrap (x.2.2.2.1+(1:Int))),()))
  |false=>
   some (.inl (x.1,x.2.1,x.2.2.1,(IntKind.i64.wrap (x.2.2.2.1+(1:Int))),()))
|false=>
 some (.inr (.inl (x.2.2.1,())))
noncomputable def i_onesInWindow(x:Ty.T (.pair (.list (.int .i64)) (.pair (.int .i64) .unit))):Option (Ty.T (.pair (.int .i64) .unit)):=
match loopL b_i_onesInWindow_3 (x.1,x.2.1,(0:Int),(IntKind.i64.wrap ((IntKind.i64.wrap (x.2.1-(5:Int)))+(1:Int))),())with
|none=>none
|some (.inl v2)=>
 some (v2.1,())
|some (.inr v4)=>
 none
noncomputable def S_i_onesInWindow:Spec:=⟨(.pair (.list (.int .i64)) (.pair (.int .i64) .unit)),(.pair (.int .i64) .unit),.unit,rfl,i_onesInWindow⟩
noncomputable def σ_i_onesInWindow:FuncId→Option Spec:=sig []
theorem σok_i_onesInWindow:∀f s,σ_i_onesInWindow f=some s→FnOK G0 Tryz.prog f s:=sig_ok trivial
def q_i_onesInWindow_3:LRow:=⟨[0,1,5,6],(.pair (.list (.int .i64)) (.pair (.int .i64) TCrc)),0,[5],(.pair (.int .i64) .unit),[],.unit⟩
noncomputable def ls_i_onesInWindow:List LSpec:=[q_i_onesInWindow_3.spec b_i_onesInWindow_3]
theorem lok_i_onesInWindow_3:Lok Γ0 E0 σ_i_onesInWindow (lam Tryz.f301 ls_i_onesInWindow) Tryz.f301 0 q_i_onesInWindow_3 b_i_onesInWindow_3:=fun x=>by kernel_rfl
theorem ok_i_onesInWindow:FnOK G0 Tryz.prog 301 S_i_onesInWindow:=fn_okS tab0 σok_i_onesInWindow Tryz.func301 ls_i_onesInWindow (by kernel_rfl) (by exact⟨(lok_i_onesInWindow_3).lok,trivial⟩) fun x=>by kernel_rfl
noncomputable def b_i_vote_3(x:(Ty.T (.pair (.list (.int .i64)) (.pair (.own 2 (.int .i64)) TCrc)))):Option ((Ty.T (.pair (.list (.int .i64)) (.pair (.own 2 (.int .i64)) TCrc))) ⊕ ((Ty.T (.pair (.own 2 (.int .i64)) .unit)) ⊕ (Ty.T .unit))):=
match(decide (x.2.2.2.1<x.2.2.1))with
|true=>
 match i_onesInWindow (x.1,x.2.2.2.1,())with
 |none=>none
 |some v1=>
 match i_oneIf ((decide ((IntKind.i64.wrap ((2:Int)*v1.1))>(5:Int))),())with
 |none=>none
 |some v2=>
 room (x.2.1.length+ [v2.1].length) (
  some (.inl (x.1,(x.2.1++ [v2.1]),x.2.2.1,(IntKind.i64.wrap (x.2.2.2.1+(1:Int))),())))
|false=>
 some (.inr (.inl (x.2.1,())))
noncomputable def i_vote(x:Ty.T (.pair (.list (.int .i64)) .unit)):Option (Ty.T (.pair (.own 2 (.int .i64)) .unit)):=
match loopL b_i_vote_3 (x.1,[],(x.1.length:Int),(0:Int),())with
|none=>none
|some (.inl v3)=>
 some (v3.1,())
|some (.inr v5)=>
 none
noncomputable def S_i_vote:Spec:=⟨(.pair (.list (.int .i64)) .unit),(.pair (.own 2 (.int .i64)) .unit),.unit,rfl,i_vote⟩
noncomputable def σ_i_vote:FuncId→Option Spec:=sig [(300,S_i_oneIf),(301,S_i_onesInWindow)]
theorem σok_i_vote:∀f s,σ_i_vote f=some s→FnOK G0 Tryz.prog f s:=sig_ok ⟨ok_i_oneIf,ok_i_onesInWindow,trivial⟩
def q_i_vote_3:LRow:=⟨[0,3,7,8],(.pair (.list (.int .i64)) (.pair (.own 2 (.int .i64)) TCrc)),0,[3],(.pair (.own 2 (.int .i64)) .unit),[],.unit⟩
noncomputable def ls_i_vote:List LSpec:=[q_i_vote_3.spec b_i_vote_3]
theorem lok_i_vote_3:Lok Γ0 E0 σ_i_vote (lam Tryz.f264 ls_i_vote) Tryz.f264 0 q_i_vote_3 b_i_vote_3:=fun x=>by kernel_rfl
theorem ok_i_vote:FnOK G0 Tryz.prog 264 S_i_vote:=fn_okS tab0 σok_i_vote Tryz.func264 ls_i_vote (by kernel_rfl) (by exact⟨(lok_i_vote_3).lok,trivial⟩) fun x=>by kernel_rfl
noncomputable def i_VoteSamples(x:Ty.T (.pair (.list (.int .i64)) .unit)):Option (Ty.T (.pair (.own 2 (.int .i64)) (.pair (.int .i64) .unit))):=
match i_IsBits (x.1,())with
|none=>none
|some v1=>
match(!v1.1)with
|true=>
 some ([],(1:Int),())
|false=>
 match i_vote (x.1,())with
 |none=>none
 |some v2=>
 some (v2.1,(0:Int),())
noncomputable def S_i_VoteSamples:Spec:=⟨(.pair (.list (.int .i64)) .unit),(.pair (.own 2 (.int .i64)) (.pair (.int .i64) .unit)),.unit,rfl,i_VoteSamples⟩
noncomputable def σ_i_VoteSamples:FuncId→Option Spec:=sig [(138,S_i_IsBits),(264,S_i_vote)]
theorem σok_i_VoteSamples:∀f s,σ_i_VoteSamples f=some s→FnOK G0 Tryz.prog f s:=sig_ok ⟨ok_i_IsBits,ok_i_vote,trivial⟩
theorem ok_i_VoteSamples:FnOK G0 Tryz.prog 219 S_i_VoteSamples:=fn_okS tab0 σok_i_VoteSamples Tryz.func219 [] (by kernel_rfl) (by exact trivial) fun x=>by kernel_rfl
noncomputable def b_i_decoding_nextAfter_2(x:(Ty.T (.pair (.ptr Tdecoding) TCrc))):Option ((Ty.T (.pair (.ptr Tdecoding) TCrc)) ⊕ ((Ty.T TCrc) ⊕ (Ty.T (.pair (.int .i64) .unit)))):=
match(decide (x.2.1<(x.1.1.length:Int)))with
|true=>
 onSome (idx x.1.1 x.2.1) fun v1=>
 match(v1==x.2.2.1)with
 |true=>
  some (.inr (.inr (x.2.1,())))
 |false=>
  some (.inl (x.1,(IntKind.i64.wrap (x.2.1+(1:Int))),x.2.2.1,()))
|false=>
 some (.inr (.inl (x.2.1,x.2.2.1,())))
noncomputable def i_decoding_nextAfter(x:Ty.T (.pair (.ptr Tdecoding) TCrc)):Option (Ty.T (.pair (.int .i64) .unit)):=
match loopL b_i_decoding_nextAfter_2 (x.1,(IntKind.i64.wrap (x.2.1+(1:Int))),x.2.2.1,())with
|none=>none
|some (.inl v2)=>
 match(v2.2.1==(1:Int))with
 |true=>
  some (v2.1,())
 |false=>
  some ((-1:Int),())
|some (.inr v3)=>
 some (v3.1,())
noncomputable def S_i_decoding_nextAfter:Spec:=⟨(.pair (.ptr Tdecoding) TCrc),(.pair (.int .i64) .unit),.unit,rfl,i_decoding_nextAfter⟩
noncomputable def σ_i_decoding_nextAfter:FuncId→Option Spec:=sig []
theorem σok_i_decoding_nextAfter:∀f s,σ_i_decoding_nextAfter f=some s→FnOK G0 Tryz.prog f s:=sig_ok trivial
def q_i_decoding_nextAfter_2:LRow:=⟨[0,1,2],(.pair (.ptr Tdecoding) TCrc),0,[1,2],TCrc,[6],(.pair (.int .i64) .unit)⟩
noncomputable def ls_i_decoding_nextAfter:List LSpec:=[q_i_decoding_nextAfter_2.spec b_i_decoding_nextAfter_2]
theorem lok_i_decoding_nextAfter_2:Lok Γ0 E0 σ_i_decoding_nextAfter (lam Tryz.f319 ls_i_decoding_nextAfter) Tryz.f319 0 q_i_decoding_nextAfter_2 b_i_decoding_nextAfter_2:=fun x=>by kernel_rfl
theorem ok_i_decoding_nextAfter:FnOK G0 Tryz.prog 319 S_i_decoding_nextAfter:=fn_okS tab0 σok_i_decoding_nextAfter Tryz.func319 ls_i_decoding_nextAfter (by kernel_rfl) (by exact⟨(lok_i_decoding_nextAfter_2).lok,trivial⟩) fun x=>by kernel_rfl
noncomputable def i_roundCells(x:Ty.T (.pair (.int .i64) .unit)):Option (Ty.T (.pair (.int .i64) .unit)):=
some ((IntKind.i64.wrap (Int.tdiv (IntKind.i64.wrap (x.1+(4:Int))) (8:Int))),())
noncomputable def S_i_roundCells:Spec:=⟨(.pair (.int .i64) .unit),(.pair (.int .i64) .unit),.unit,rfl,i_roundCells⟩
noncomputable def σ_i_roundCells:FuncId→Option Spec:=sig []
theorem σok_i_roundCells:∀f s,σ_i_roundCells f=some s→FnOK G0 Tryz.prog f s:=sig_ok trivial
theorem ok_i_roundCells:FnOK G0 Tryz.prog 320 S_i_roundCells:=fn_okS tab0 σok_i_roundCells Tryz.func320 [] (by kernel_rfl) (by exact trivial) fun x=>by kernel_rfl
noncomputable def i_isPreamble(x:Ty.T (.pair (.int .i64) .unit)):Option (Ty.T (.pair .bool .unit)):=
match i_within (x.1,(3:Int),(15:Int),())with
|none=>none
|some v1=>
some (v1.1,())
noncomputable def S_i_isPreamble:Spec:=⟨(.pair (.int .i64) .unit),(.pair .bool .unit),.unit,rfl,i_isPreamble⟩
noncomputable def σ_i_isPreamble:FuncId→Option Spec:=sig [(155,S_i_within)]
theorem σok_i_isPreamble:∀f s,σ_i_isPreamble f=some s→FnOK G0 Tryz.prog f s:=sig_ok ⟨ok_i_within,trivial⟩
theorem ok_i_isPreamble:FnOK G0 Tryz.prog 321 S_i_isPreamble:=fn_okS tab0 σok_i_isPreamble Tryz.func321 [] (by kernel_rfl) (by exact trivial) fun x=>by kernel_rfl
noncomputable def i_decoding_sampleAt(x:Ty.T (.pair (.nptr Tdecoding) (.pair (.int .i64) .unit))):Option (Ty.T (.pair (.int .i64) .unit)):=
onSome x.1 fun v1=>
match(decide (x.2.1≥(v1.1.length:Int)))with
|true=>
 some ((1:Int),())
|false=>
 onSome x.1 fun v2=>
 onSome (idx v2.1 x.2.1) fun v3=>
 some (v3,())
noncomputable def S_i_decoding_sampleAt:Spec:=⟨(.pair (.nptr Tdecoding) (.pair (.int .i64) .unit)),(.pair (.int .i64) .unit),.unit,rfl,i_decoding_sampleAt⟩
noncomputable def σ_i_decoding_sampleAt:FuncId→Option Spec:=sig []
theorem σok_i_decoding_sampleAt:∀f s,σ_i_decoding_sampleAt f=some s→FnOK G0 Tryz.prog f s:=sig_ok trivial
theorem ok_i_decoding_sampleAt:FnOK G0 Tryz.prog 267 S_i_decoding_sampleAt:=fn_okS tab0 σok_i_decoding_sampleAt Tryz.func267 [] (by kernel_rfl) (by exact trivial) fun x=>by kernel_rfl
noncomputable def b_i_decoding_bytesFrom_1(x:(Ty.T (.pair (.box (.pair (.list (.int .i64)) (.pair (.int .i64) (.pair (.own 2 (.int .i64)) .unit)))) (.pair (.int .i64) .unit)))):Option ((Ty.T (.pair (.box (.pair (.list (.int .i64)) (.pair (.int .i64) (.pair (.own 2 (.int .i64)) .unit)))) (.pair (.int .i64) .unit))) ⊕ ((Ty.T .unit) ⊕ (Ty.T (.pair (.box (.pair (.list (.int .i64)) (.pair (.int .i64) (.pair (.own 2 (.int .i64)) .unit)))) (.pair (.int .i64) .unit))))):=
room (x.1.2.2.1.length+ [x.2.1].length) (
 match i_decoding_sampleAt ((some (x.1.1,x.1.2.1,(x.1.2.2.1++ [x.2.1]),())),(IntKind.i64.wrap (x.2.1+(76:Int))),())with
 |none=>none
 |some v1=>
 match(v1.1==(0:Int))with
 |true=>
  some (.inr (.inr ((x.1.1,x.1.2.1,(x.1.2.2.1++ [x.2.1]),()),(IntKind.i64.wrap (x.2.1+(72:Int))),())))
 |false=>
  match i_decoding_nextAfter ((x.1.1,x.1.2.1,(x.1.2.2.1++ [x.2.1]),()),(IntKind.i64.wrap (x.2.1+(76:Int))),(0:Int),())with
  |none=>none
  |some v2=>
  match(decide (v2.1<(0:Int)))with
  |true=>
   some (.inr (.inr ((x.1.1,x.1.2.1,(x.1.2.2.1++ [x.2.1]),()),(-1:Int),())))
  |false=>
   match(decide (v2.1>(IntKind.i64.wrap ((IntKind.i64.wrap (x.2.1+(76:Int)))+(8:Int)))))with
   |true=>
    some (.inr (.inr ((x.1.1,x.1.2.1,(x.1.2.2.1++ [x.2.1]),()),(-1:Int),())))
   |false=>
    some (.inl ((x.1.1,x.1.2.1,(x.1.2.2.1++ [x.2.1]),()),v2.1,())))
noncomputable def i_decoding_bytesFrom(x:Ty.T (.pair (.box (.pair (.list (.int .i64)) (.pair (.int .i64) (.pair (.own 2 (.int .i64)) .unit)))) (.pair (.int .i64) .unit))):Option (Ty.T (.pair (.int .i64) (.pair (.box (.pair (.list (.int .i64)) (.pair (.int .i64) (.pair (.own 2 (.int .i64)) .unit)))) .unit))):=
match loopL b_i_decoding_bytesFrom_1 ((x.1.1,x.1.2.1,x.1.2.2.1,()),x.2.1,())with
|none=>none
|some (.inl v3)=>
 none
|some (.inr v4)=>
 some (v4.2.1,(v4.1.1,v4.1.2.1,v4.1.2.2.1,()),())
noncomputable def S_i_decoding_bytesFrom:Spec:=⟨(.pair (.box (.pair (.list (.int .i64)) (.pair (.int .i64) (.pair (.own 2 (.int .i64)) .unit)))) (.pair (.int .i64) .unit)),(.pair (.int .i64) .unit),(.pair (.box (.pair (.list (.int .i64)) (.pair (.int .i64) (.pair (.own 2 (.int .i64)) .unit)))) .unit),rfl,i_decoding_bytesFrom⟩
noncomputable def σ_i_decoding_bytesFrom:FuncId→Option Spec:=sig [(267,S_i_decoding_sampleAt),(319,S_i_decoding_nextAfter)]
theorem σok_i_decoding_bytesFrom:∀f s,σ_i_decoding_bytesFrom f=some s→FnOK G0 Tryz.prog f s:=sig_ok ⟨ok_i_decoding_sampleAt,ok_i_decoding_nextAfter,trivial⟩
def q_i_decoding_bytesFrom_1:LRow:=⟨[0,1],(.pair (.box (.pair (.list (.int .i64)) (.pair (.int .i64) (.pair (.own 2 (.int .i64)) .unit)))) (.pair (.int .i64) .unit)),999999,[],.unit,[0,4],(.pair (.box (.pair (.list (.int .i64)) (.pair (.int .i64) (.pair (.own 2 (.int .i64)) .unit)))) (.pair (.int .i64) .unit))⟩
noncomputable def ls_i_decoding_bytesFrom:List LSpec:=[q_i_decoding_bytesFrom_1.spec b_i_decoding_bytesFrom_1]
theorem lok_i_decoding_bytesFrom_1:Lok Γ0 E0 σ_i_decoding_bytesFrom (lam Tryz.f322 ls_i_decoding_bytesFrom) Tryz.f322 0 q_i_decoding_bytesFrom_1 b_i_decoding_bytesFrom_1:=fun x=>by kernel_rfl
theorem ok_i_decoding_bytesFrom:FnOK G0 Tryz.prog 322 S_i_decoding_bytesFrom:=fn_okS tab0 σok_i_decoding_bytesFrom Tryz.func322 ls_i_decoding_bytesFrom (by kernel_rfl) (by exact⟨(lok_i_decoding_bytesFrom_1).lok,trivial⟩) fun x=>by kernel_rfl
noncomputable def i_decoding_decode(x:Ty.T (.pair (.box (.pair (.list (.int .i64)) (.pair (.int .i64) (.pair (.own 2 (.int .i64)) .unit)))) .unit)):Option (Ty.T (.pair (.int .i64) (.pair (.box (.pair (.list (.int .i64)) (.pair (.int .i64) (.pair (.own 2 (.int .i64)) .unit)))) .unit))):=
match i_decoding_nextAfter ((x.1.1,x.1.2.1,x.1.2.2.1,()),(-1:Int),(0:Int),())with
|none=>none
|some v1=>
match(decide (v1.1<(0:Int)))with
|true=>
 some ((4:Int),(x.1.1,x.1.2.1,x.1.2.2.1,()),())
|false=>
 match i_decoding_nextAfter ((x.1.1,x.1.2.1,x.1.2.2.1,()),v1.1,(1:Int),())with
 |none=>none
 |some v2=>
 match i_roundCells ((IntKind.i64.wrap (v2.1-v1.1)),())with
 |none=>none
 |some v3=>
 match i_isPreamble (v3.1,())with
 |none=>none
 |some v4=>
 match(!v4.1)with
 |true=>
  some ((6:Int),(x.1.1,v3.1,x.1.2.2.1,()),())
 |false=>
  match i_decoding_nextAfter ((x.1.1,v3.1,x.1.2.2.1,()),v2.1,(0:Int),())with
  |none=>none
  |some v5=>
  match(decide (v5.1<(0:Int)))with
  |true=>
   some ((6:Int),(x.1.1,v3.1,x.1.2.2.1,()),())
  |false=>
   match(decide ((IntKind.i64.wrap (v5.1-v2.1))>(19:Int)))with
   |true=>
    some ((6:Int),(x.1.1,v3.1,x.1.2.2.1,()),())
   |false=>
    match(decide ((IntKind.i64.wrap (v5.1-v2.1))<(5:Int)))with
    |true=>
     some ((6:Int),(x.1.1,v3.1,x.1.2.2.1,()),())
    |false=>
     match((IntKind.i64.wrap (v5.1-v2.1))==(12:Int))with
     |true=>
      some ((6:Int),(x.1.1,v3.1,x.1.2.2.1,()),())
     |false=>
      match(decide ((IntKind.i64.wrap (v5.1-v2.1))≥(13:Int)))with
      |true=>
       match i_decoding_bytesFrom ((x.1.1,v3.1,x.1.2.2.1,()),v5.1,())with
       |none=>none
       |some v6=>
       match(decide (v6.1<(0:Int)))with
       |true=>
        some ((6:Int),(v6.2.1.1,v6.2.1.2.1,v6.2.1.2.2.1,()),())
       |false=>
        match i_decoding_nextAfter ((v6.2.1.1,v6.2.1.2.1,v6.2.1.2.2.1,()),(IntKind.i64.wrap (v6.1+(11:Int))),(0:Int),())with
        |none=>none
        |some v7=>
        match(decide (v7.1≥(0:Int)))with
        |true=>
         some ((6:Int),(v6.2.1.1,v6.2.1.2.1,v6.2.1.2.2.1,()),())
        |false=>
         some ((0:Int),(v6.2.1.1,v6.2.1.2.1,v6.2.1.2.2.1,()),())
      |false=>
       match i_decoding_nextAfter ((x.1.1,v3.1,x.1.2.2.1,()),(IntKind.i64.wrap (v5.1+(11:Int))),(0:Int),())with
       |none=>none
       |some v8=>
       match(decide (v8.1≥(0:Int)))with
       |true=>
        some ((6:Int),(x.1.1,v3.1,x.1.2.2.1,()),())
       |false=>
        some ((0:Int),(x.1.1,v3.1,x.1.2.2.1,()),())
noncomputable def S_i_decoding_decode:Spec:=⟨(.pair (.box (.pair (.list (.int .i64)) (.pair (.int .i64) (.pair (.own 2 (.int .i64)) .unit)))) .unit),(.pair (.int .i64) .unit),(.pair (.box (.pair (.list (.int .i64)) (.pair (.int .i64) (.pair (.own 2 (.int .i64)) .unit)))) .unit),rfl,i_decoding_decode⟩
noncomputable def σ_i_decoding_decode:FuncId→Option Spec:=sig [(319,S_i_decoding_nextAfter),(320,S_i_roundCells),(321,S_i_isPreamble),(322,S_i_decoding_bytesFrom)]
theorem σok_i_decoding_decode:∀f s,σ_i_decoding_decode f=some s→FnOK G0 Tryz.prog f s:=sig_ok ⟨ok_i_decoding_nextAfter,ok_i_roundCells,ok_i_isPreamble,ok_i_decoding_bytesFrom,trivial⟩
theorem ok_i_decoding_decode:FnOK G0 Tryz.prog 302 S_i_decoding_decode:=fn_okS tab0 σok_i_decoding_decode Tryz.func302 [] (by kernel_rfl) (by exact trivial) fun x=>by kernel_rfl
noncomputable def i_decodeVoted(x:Ty.T (.pair (.list (.int .i64)) .unit)):Option (Ty.T (.pair (.nptr Tdecoding) (.pair (.int .i64) .unit))):=
match i_IsBits (x.1,())with
|none=>none
|some v1=>
match(!v1.1)with
|true=>
 some (none,(1:Int),())
|false=>
 match i_decoding_decode ((x.1,(0:Int),[],()),())with
 |none=>none
 |some v2=>
 match(v2.1 != (0:Int))with
 |true=>
  some (none,v2.1,())
 |false=>
  some ((some (v2.2.1.1,v2.2.1.2.1,v2.2.1.2.2.1,())),(0:Int),())
noncomputable def S_i_decodeVoted:Spec:=⟨(.pair (.list (.int .i64)) .unit),(.pair (.nptr Tdecoding) (.pair (.int .i64) .unit)),.unit,rfl,i_decodeVoted⟩
noncomputable def σ_i_decodeVoted:FuncId→Option Spec:=sig [(138,S_i_IsBits),(302,S_i_decoding_decode)]
theorem σok_i_decodeVoted:∀f s,σ_i_decodeVoted f=some s→FnOK G0 Tryz.prog f s:=sig_ok ⟨ok_i_IsBits,ok_i_decoding_decode,trivial⟩
theorem ok_i_decodeVoted:FnOK G0 Tryz.prog 265 S_i_decodeVoted:=fn_okS tab0 σok_i_decodeVoted Tryz.func265 [] (by kernel_rfl) (by exact trivial) fun x=>by kernel_rfl
noncomputable def b_i_strobes_3(x:(Ty.T (.pair (.int .i64) (.pair (.own 2 (.int .i64)) (.pair (.int .i64) .unit))))):Option ((Ty.T (.pair (.int .i64) (.pair (.own 2 (.int .i64)) (.pair (.int .i64) .unit)))) ⊕ ((Ty.T (.pair (.own 2 (.int .i64)) .unit)) ⊕ (Ty.T .unit))):=
match(decide (x.2.2.1<(9:Int)))with
|true=>
 room (x.2.1.length+ [(IntKind.i64.wrap ((IntKind.i64.wrap (x.1+(IntKind.i64.wrap ((8:Int)*x.2.2.1))))+(12:Int)))].length) (
  some (.inl (x.1,(x.2.1++ [(IntKind.i64.wrap ((IntKind.i64.wrap (x.1+(IntKind.i64.wrap ((8:Int)*x.2.2.1))))+(12:Int)))]),(IntKind.i64.wrap (x.2.2.1+(1:Int))),())))
|false=>
 some (.inr (.inl (x.2.1,())))
noncomputable def i_strobes(x:Ty.T (.pair (.int .i64) .unit)):Option (Ty.T (.pair (.own 2 (.int .i64)) .unit)):=
match loopL b_i_strobes_3 (x.1,[],(0:Int),())with
|none=>none
|some (.inl v1)=>
 some (v1.1,())
|some (.inr v3)=>
 none
noncomputable def S_i_strobes:Spec:=⟨(.pair (.int .i64) .unit),(.pair (.own 2 (.int .i64)) .unit),.unit,rfl,i_strobes⟩
noncomputable def σ_i_strobes:FuncId→Option Spec:=sig []
theorem σok_i_strobes:∀f s,σ_i_strobes f=some s→FnOK G0 Tryz.prog f s:=sig_ok trivial
def q_i_strobes_3:LRow:=⟨[0,3,6],(.pair (.int .i64) (.pair (.own 2 (.int .i64)) (.pair (.int .i64) .unit))),0,[3],(.pair (.own 2 (.int .i64)) .unit),[],.unit⟩
noncomputable def ls_i_strobes:List LSpec:=[q_i_strobes_3.spec b_i_strobes_3]
theorem lok_i_strobes_3:Lok Γ0 E0 σ_i_strobes (lam Tryz.f266 ls_i_strobes) Tryz.f266 0 q_i_strobes_3 b_i_strobes_3:=fun x=>by kernel_rfl
theorem ok_i_strobes:FnOK G0 Tryz.prog 266 S_i_strobes:=fn_okS tab0 σok_i_strobes Tryz.func266 ls_i_strobes (by kernel_rfl) (by exact⟨(lok_i_strobes_3).lok,trivial⟩) fun x=>by kernel_rfl
noncomputable def b_i_DecodeVoted_10(x:(Ty.T (.pair (.nptr Tdecoding) (.pair (.own 2 (.int .i64)) (.pair (.int .i64) (.pair (.list (.int .i64)) (.pair (.int .i64) (.pair (.int .i64) (.pair (.own 2 (.int .i64)) TCrc))))))))):Option ((Ty.T (.pair (.nptr Tdecoding) (.pair (.own 2 (.int .i64)) (.pair (.int .i64) (.pair (.list (.int .i64)) (.pair (.int .i64) (.pair (.int .i64) (.pair (.own 2 (.int .i64)) TCrc)))))))) ⊕ ((Ty.T (.pair (.nptr Tdecoding) (.pair (.own 2 (.int .i64)) (.pair (.int .i64) (.pair (.list (.int .i64)) TCrc))))) ⊕ (Ty.T .unit))):=
match(decide (x.2.2.2.2.2.2.2.2.1<x.2.2.2.2.2.2.2.1))with
|true=>
 onSome (idx x.2.2.2.2.2.2.1 x.2.2.2.2.2.2.2.2.1) fun _=>
 match x.2.2.2.2.2.2.1[x.2.2.2.2.2.2.2.2.1.toNat]? with
 |none=>none
 |some v7=>
 match i_decoding_sampleAt (x.1,v7,())with
 |none=>none
 |some v8=>
 some (.inl (x.1,x.2.1,(IntKind.i64.wrap ((IntKind.i64.wrap ((2:Int)*x.2.2.1))+v8.1)),x.2.2.2.1,x.2.2.2.2.1,x.2.2.2.2.2.1,x.2.2.2.2.2.2.1,x.2.2.2.2.2.2.2.1,(IntKind.i64.wrap (x.2.2.2.2.2.2.2.2.1+(1:Int))),()))
|false=>
 some (.inr (.inl (x.1,x.2.1,x.2.2.1,x.2.2.2.1,x.2.2.2.2.1,x.2.2.2.2.2.1,())))
noncomputable def b_i_DecodeVoted_6(x:(Ty.T (.pair (.nptr Tdecoding) (.pair (.own 2 (.int .i64)) (.pair (.list (.int .i64)) TCrc))))):Option ((Ty.T (.pair (.nptr Tdecoding) (.pair (.own 2 (.int .i64)) (.pair (.list (.int .i64)) TCrc)))) ⊕ ((Ty.T (.pair (.own 2 (.int .i64)) .unit)) ⊕ (Ty.T .unit))):=
match(decide (x.2.2.2.2.1<x.2.2.2.1))with
|true=>
 onSome (idx x.2.2.1 x.2.2.2.2.1) fun v3=>
 match i_strobes (v3,())with
 |none=>none
 |some v4=>
 onSome (bounds v4.1.length none (some (.dat (.int .i64) (8:Int)))) fun v5=>
 match loopL b_i_DecodeVoted_10 (x.1,x.2.1,(0:Int),x.2.2.1,x.2.2.2.1,x.2.2.2.2.1,(List.take v5.2 v4.1),((List.take v5.2 v4.1).length:Int),(0:Int),())with
 |none=>none
 |some (.inl v6)=>
  room (v6.2.1.length+ [v6.2.2.1].length) (
   some (.inl (v6.1,(v6.2.1++ [v6.2.2.1]),v6.2.2.2.1,v6.2.2.2.2.1,(IntKind.i64.wrap (v6.2.2.2.2.2.1+(1:Int))),())))
 |some (.inr v8)=>
  some (.inr (.inr (())))
|false=>
 some (.inr (.inl (x.2.1,())))
noncomputable def i_DecodeVoted(x:Ty.T (.pair (.list (.int .i64)) .unit)):Option (Ty.T (.pair (.own 2 (.int .i64)) (.pair (.int .i64) .unit))):=
match i_decodeVoted (x.1,())with
|none=>none
|some v1=>
match(v1.2.1 != (0:Int))with
|true=>
 some ([],v1.2.1,())
|false=>
 onSome v1.1 fun v2=>
 match loopL b_i_DecodeVoted_6 (v1.1,[],v2.2.2.1,(v2.2.2.1.length:Int),(0:Int),())with
 |none=>none
 |some (.inl v9)=>
  some (v9.1,(0:Int),())
 |some (.inr v11)=>
  none
noncomputable def S_i_DecodeVoted:Spec:=⟨(.pair (.list (.int .i64)) .unit),(.pair (.own 2 (.int .i64)) (.pair (.int .i64) .unit)),.unit,rfl,i_DecodeVoted⟩
noncomputable def σ_i_DecodeVoted:FuncId→Option Spec:=sig [(265,S_i_decodeVoted),(266,S_i_strobes),(267,S_i_decoding_sampleAt)]
theorem σok_i_DecodeVoted:∀f s,σ_i_DecodeVoted f=some s→FnOK G0 Tryz.prog f s:=sig_ok ⟨ok_i_decodeVoted,ok_i_strobes,ok_i_decoding_sampleAt,trivial⟩
def q_i_DecodeVoted_6:LRow:=⟨[4,6,24,25,26],(.pair (.nptr Tdecoding) (.pair (.own 2 (.int .i64)) (.pair (.list (.int .i64)) TCrc))),0,[6],(.pair (.own 2 (.int .i64)) .unit),[],.unit⟩
def q_i_DecodeVoted_10:LRow:=⟨[4,6,9,24,25,26,32,33,34],(.pair (.nptr Tdecoding) (.pair (.own 2 (.int .i64)) (.pair (.int .i64) (.pair (.list (.int .i64)) (.pair (.int .i64) (.pair (.int .i64) (.pair (.own 2 (.int .i64)) TCrc))))))),2,[4,6,9,24,25,26],(.pair (.nptr Tdecoding) (.pair (.own 2 (.int .i64)) (.pair (.int .i64) (.pair (.list (.int .i64)) TCrc)))),[],.unit⟩
noncomputable def ls_i_DecodeVoted:List LSpec:=[q_i_DecodeVoted_6.spec b_i_DecodeVoted_6,q_i_DecodeVoted_10.spec b_i_DecodeVoted_10]
theorem lok_i_DecodeVoted_6:Lok Γ0 E0 σ_i_DecodeVoted (lam Tryz.f220 ls_i_DecodeVoted) Tryz.f220 0 q_i_DecodeVoted_6 b_i_DecodeVoted_6:=fun x=>by kernel_rfl
theorem lok_i_DecodeVoted_10:Lok Γ0 E0 σ_i_DecodeVoted (lam Tryz.f220 ls_i_DecodeVoted) Tryz.f220 1 q_i_DecodeVoted_10 b_i_DecodeVoted_10:=fun x=>by kernel_rfl
theorem ok_i_DecodeVoted:FnOK G0 Tryz.prog 220 S_i_DecodeVoted:=fn_okS tab0 σok_i_DecodeVoted Tryz.func220 ls_i_DecodeVoted (by kernel_rfl) (by exact⟨(lok_i_DecodeVoted_6).lok,(lok_i_DecodeVoted_10).lok,trivial⟩) fun x=>by kernel_rfl
noncomputable def i_DecodeSamples(x:Ty.T (.pair (.list (.int .i64)) .unit)):Option (Ty.T (.pair (.own 2 (.int .i64)) (.pair (.int .i64) .unit))):=
match i_VoteSamples (x.1,())with
|none=>none
|some v1=>
match(v1.2.1 != (0:Int))with
|true=>
 some ([],v1.2.1,())
|false=>
 match i_DecodeVoted (v1.1,())with
 |none=>none
 |some v2=>
 some (v2.1,v2.2.1,())
noncomputable def S_i_DecodeSamples:Spec:=⟨(.pair (.list (.int .i64)) .unit),(.pair (.own 2 (.int .i64)) (.pair (.int .i64) .unit)),.unit,rfl,i_DecodeSamples⟩
noncomputable def σ_i_DecodeSamples:FuncId→Option Spec:=sig [(219,S_i_VoteSamples),(220,S_i_DecodeVoted)]
theorem σok_i_DecodeSamples:∀f s,σ_i_DecodeSamples f=some s→FnOK G0 Tryz.prog f s:=sig_ok ⟨ok_i_VoteSamples,ok_i_DecodeVoted,trivial⟩
theorem ok_i_DecodeSamples:FnOK G0 Tryz.prog 188 S_i_DecodeSamples:=fn_okS tab0 σok_i_DecodeSamples Tryz.func188 [] (by kernel_rfl) (by exact trivial) fun x=>by kernel_rfl
noncomputable def b_slices_Equal_int64_4(x:(Ty.T (.pair (.list (.int .i64)) (.pair (.list (.int .i64)) TCrc)))):Option ((Ty.T (.pair (.list (.int .i64)) (.pair (.list (.int .i64)) TCrc))) ⊕ ((Ty.T .unit) ⊕ (Ty.T (.pair .bool .unit)))):=
match(decide (x.2.2.2.1<x.2.2.1))with
|true=>
 onSome (idx x.1 x.2.2.2.1) fun v1=>
 onSome (idx x.2.1 x.2.2.2.1) fun v2=>
 match(v1 != v2)with
 |true=>
  some (.inr (.inr (false,())))
 |false=>
  some (.inl (x.1,x.2.1,x.2.2.1,(IntKind.i64.wrap (x.2.2.2.1+(1:Int))),()))
|false=>
 some (.inr (.inl (())))
noncomputable def slices_Equal_int64(x:Ty.T (.pair (.list (.int .i64)) (.pair (.list (.int .i64)) .unit))):Option (Ty.T (.pair .bool .unit)):=
match((x.1.length:Int) != (x.2.1.length:Int))with
|true=>
 some (false,())
|false=>
 match loopL b_slices_Equal_int64_4 (x.1,x.2.1,(x.1.length:Int),(0:Int),())with
 |none=>none
 |some (.inl v3)=>
  some (true,())
 |some (.inr v4)=>
  some (v4.1,())
noncomputable def S_slices_Equal_int64:Spec:=⟨(.pair (.list (.int .i64)) (.pair (.list (.int .i64)) .unit)),(.pair .bool .unit),.unit,rfl,slices_Equal_int64⟩
noncomputable def σ_slices_Equal_int64:FuncId→Option Spec:=sig []
theorem σok_slices_Equal_int64:∀f s,σ_slices_Equal_int64 f=some s→FnOK G0 Tryz.prog f s:=sig_ok trivial
def q_slices_Equal_int64_4:LRow:=⟨[0,1,12,13],(.pair (.list (.int .i64)) (.pair (.list (.int .i64)) TCrc)),0,[],.unit,[4],(.pair .bool .unit)⟩
noncomputable def ls_slices_Equal_int64:List LSpec:=[q_slices_Equal_int64_4.spec b_slices_Equal_int64_4]
theorem lok_slices_Equal_int64_4:Lok Γ0 E0 σ_slices_Equal_int64 (lam Tryz.f223 ls_slices_Equal_int64) Tryz.f223 0 q_slices_Equal_int64_4 b_slices_Equal_int64_4:=fun x=>by kernel_rfl
theorem ok_slices_Equal_int64:FnOK G0 Tryz.prog 223 S_slices_Equal_int64:=fn_okS tab0 σok_slices_Equal_int64 Tryz.func223 ls_slices_Equal_int64 (by kernel_rfl) (by exact⟨(lok_slices_Equal_int64_4).lok,trivial⟩) fun x=>by kernel_rfl
noncomputable def i_isId(x:Ty.T (.pair (.int .i64) .unit)):Option (Ty.T (.pair .bool .unit)):=
match i_within (x.1,(0:Int),(16777215:Int),())with
|none=>none
|some v1=>
some (v1.1,())
noncomputable def S_i_isId:Spec:=⟨(.pair (.int .i64) .unit),(.pair .bool .unit),.unit,rfl,i_isId⟩
noncomputable def σ_i_isId:FuncId→Option Spec:=sig [(155,S_i_within)]
theorem σok_i_isId:∀f s,σ_i_isId f=some s→FnOK G0 Tryz.prog f s:=sig_ok ⟨ok_i_within,trivial⟩
theorem ok_i_isId:FnOK G0 Tryz.prog 268 S_i_isId:=fn_okS tab0 σok_i_isId Tryz.func268 [] (by kernel_rfl) (by exact trivial) fun x=>by kernel_rfl
noncomputable def i_stateFrom(x:Ty.T (.pair (.list (.int .i64)) .unit)):Option (Ty.T (.pair TState .unit)):=
onSome (bounds x.1.length none (some (.dat (.int .i64) (16:Int)))) fun v1=>
onSome (bounds x.1.length (some (.dat (.int .i64) (16:Int))) (some (.dat (.int .i64) (20:Int)))) fun v2=>
onSome (bounds x.1.length (some (.dat (.int .i64) (20:Int))) (some (.dat (.int .i64) (24:Int)))) fun v3=>
onSome (bounds x.1.length (some (.dat (.int .i64) (24:Int))) (some (.dat (.int .i64) (32:Int)))) fun v4=>
onSome (bounds x.1.length (some (.dat (.int .i64) (32:Int))) (some (.dat (.int .i64) (64:Int)))) fun v5=>
match i_numberOf ((List.drop v1.1 (List.take v1.2 x.1)),())with
|none=>none
|some v6=>
match i_numberOf ((List.drop v2.1 (List.take v2.2 x.1)),())with
|none=>none
|some v7=>
match i_numberOf ((List.drop v3.1 (List.take v3.2 x.1)),())with
|none=>none
|some v8=>
match i_numberOf ((List.drop v4.1 (List.take v4.2 x.1)),())with
|none=>none
|some v9=>
match i_numberOf ((List.drop v5.1 (List.take v5.2 x.1)),())with
|none=>none
|some v10=>
some ((v6.1,v7.1,v8.1,v9.1,v10.1,()),())
noncomputable def S_i_stateFrom:Spec:=⟨(.pair (.list (.int .i64)) .unit),(.pair TState .unit),.unit,rfl,i_stateFrom⟩
noncomputable def σ_i_stateFrom:FuncId→Option Spec:=sig [(298,S_i_numberOf)]
theorem σok_i_stateFrom:∀f s,σ_i_stateFrom f=some s→FnOK G0 Tryz.prog f s:=sig_ok ⟨ok_i_numberOf,trivial⟩
theorem ok_i_stateFrom:FnOK G0 Tryz.prog 303 S_i_stateFrom:=fn_okS tab0 σok_i_stateFrom Tryz.func303 [] (by kernel_rfl) (by exact trivial) fun x=>by kernel_rfl
noncomputable def i_frameFrom(x:Ty.T (.pair (.list (.int .i64)) .unit)):Option (Ty.T (.pair (.pair (.int .i64) (.pair (.int .i64) (.pair TState (.pair (.own 2 (.int .i64)) .unit)))) (.pair .bool .unit))):=
match((x.1.length:Int)==(0:Int))with
|true=>
 some (((0:Int),(0:Int),((0:Int),(0:Int),(0:Int),(0:Int),(0:Int),()),[],()),false,())
|false=>
 onSome (idx x.1 (0:Int)) fun v1=>
 onSome (idx x.1 (0:Int)) fun v2=>
 onSome (bounds x.1.length (some (.dat (.int .i64) (1:Int))) none) fun v3=>
 same (
  match i_hasState ((IntKind.i64.wrap (Int.tdiv v1 (64:Int))),())with
  |none=>none
  |some v4=>
  match v4.1 with
  |true=>
   match(decide (((List.drop v3.1 (List.take v3.2 x.1)).length:Int)<(8:Int)))with
   |true=>
    some (((0:Int),(0:Int),((0:Int),(0:Int),(0:Int),(0:Int),(0:Int),()),[],()),false,())
   |false=>
    onSome (bounds (List.drop v3.1 (List.take v3.2 x.1)).length none (some (.dat (.int .i64) (8:Int)))) fun v5=>
    match i_toBits ((List.drop v5.1 (List.take v5.2 (List.drop v3.1 (List.take v3.2 x.1)))),())with
    |none=>none
    |some v6=>
    match i_stateFrom (v6.1,())with
    |none=>none
    |some v7=>
    onSome (bounds (List.drop v3.1 (List.take v3.2 x.1)).length (some (.dat (.int .i64) (8:Int))) none) fun v8=>
    match i_hasData ((IntKind.i64.wrap (Int.tdiv v1 (64:Int))),())with
    |none=>none
    |some v9=>
    match v9.1 with
    |true=>
     match(decide (((List.drop v8.1 (List.take v8.2 (List.drop v3.1 (List.take v3.2 x.1)))).length:Int)>(0:Int)))with
     |true=>
      onSome (bounds (List.drop v8.1 (List.take v8.2 (List.drop v3.1 (List.take v3.2 x.1)))).length (some (.dat (.int .i64) (1:Int))) none) fun v10=>
      match slices_Clone_int64 ((List.drop v10.1 (List.take v10.2 (List.drop v8.1 (List.take v8.2 (List.drop v3.1 (List.take v3.2 x.1)))))),())with
      |none=>none
      |some v11=>
      match i_IsFrame (((IntKind.i64.wrap (Int.tdiv v1 (64:Int))),(Int.tmod (IntKind.i64.wrap (Int.tdiv v2 (8:Int))) (8:Int)),(v7.1.1,v7.1.2.1,v7.1.2.2.1,v7.1.2.2.2.1,v7.1.2.2.2.2.1,()),v11.1,()),())with
      |none=>none
      |some v12=>
      match(!v12.1)with
      |true=>
       some (((0:Int),(0:Int),((0:Int),(0:Int),(0:Int),(0:Int),(0:Int),()),[],()),false,())
      |false=>
       match i_bodyOf (((IntKind.i64.wrap (Int.tdiv v1 (64:Int))),(Int.tmod (IntKind.i64.wrap (Int.tdiv v2 (8:Int))) (8:Int)),(v7.1.1,v7.1.2.1,v7.1.2.2.1,v7.1.2.2.2.1,v7.1.2.2.2.2.1,()),v11.1,()),())with
       |none=>none
       |some v13=>
       match slices_Equal_int64 (v13.1,x.1,())with
       |none=>none
       |some v14=>
       match(!v14.1)with
       |true=>
        some (((0:Int),(0:Int),((0:Int),(0:Int),(0:Int),(0:Int),(0:Int),()),[],()),false,())
       |false=>
        some (((IntKind.i64.wrap (Int.tdiv v1 (64:Int))),(Int.tmod (IntKind.i64.wrap (Int.tdiv v2 (8:Int))) (8:Int)),(v7.1.1,v7.1.2.1,v7.1.2.2.1,v7.1.2.2.2.1,v7.1.2.2.2.2.1,()),v11.1,()),true,())
     |false=>
      match i_IsFrame (((IntKind.i64.wrap (Int.tdiv v1 (64:Int))),(Int.tmod (IntKind.i64.wrap (Int.tdiv v2 (8:Int))) (8:Int)),(v7.1.1,v7.1.2.1,v7.1.2.2.1,v7.1.2.2.2.1,v7.1.2.2.2.2.1,()),[],()),())with
      |none=>none
      |some v15=>
      match(!v15.1)with
      |true=>
       some (((0:Int),(0:Int),((0:Int),(0:Int),(0:Int),(0:Int),(0:Int),()),[],()),false,())
      |false=>
       match i_bodyOf (((IntKind.i64.wrap (Int.tdiv v1 (64:Int))),(Int.tmod (IntKind.i64.wrap (Int.tdiv v2 (8:Int))) (8:Int)),(v7.1.1,v7.1.2.1,v7.1.2.2.1,v7.1.2.2.2.1,v7.1.2.2.2.2.1,()),[],()),())with
       |none=>none
       |some v16=>
       match slices_Equal_int64 (v16.1,x.1,())with
       |none=>none
       |some v17=>
       match(!v17.1)with
       |true=>
        some (((0:Int),(0:Int),((0:Int),(0:Int),(0:Int),(0:Int),(0:Int),()),[],()),false,())
       |false=>
        some (((IntKind.i64.wrap (Int.tdiv v1 (64:Int))),(Int.tmod (IntKind.i64.wrap (Int.tdiv v2 (8:Int))) (8:Int)),(v7.1.1,v7.1.2.1,v7.1.2.2.1,v7.1.2.2.2.1,v7.1.2.2.2.2.1,()),[],()),true,())
    |false=>
     match i_IsFrame (((IntKind.i64.wrap (Int.tdiv v1 (64:Int))),(Int.tmod (IntKind.i64.wrap (Int.tdiv v2 (8:Int))) (8:Int)),(v7.1.1,v7.1.2.1,v7.1.2.2.1,v7.1.2.2.2.1,v7.1.2.2.2.2.1,()),[],()),())with
     |none=>none
     |some v18=>
     match(!v18.1)with
     |true=>
      some (((0:Int),(0:Int),((0:Int),(0:Int),(0:Int),(0:Int),(0:Int),()),[],()),false,())
     |false=>
      match i_bodyOf (((IntKind.i64.wrap (Int.tdiv v1 (64:Int))),(Int.tmod (IntKind.i64.wrap (Int.tdiv v2 (8:Int))) (8:Int)),(v7.1.1,v7.1.2.1,v7.1.2.2.1,v7.1.2.2.2.1,v7.1.2.2.2.2.1,()),[],()),())with
      |none=>none
      |some v19=>
      match slices_Equal_int64 (v19.1,x.1,())with
      |none=>none
      |some v20=>
      match(!v20.1)with
      |true=>
       some (((0:Int),(0:Int),((0:Int),(0:Int),(0:Int),(0:Int),(0:Int),()),[],()),false,())
      |false=>
       some (((IntKind.i64.wrap (Int.tdiv v1 (64:Int))),(Int.tmod (IntKind.i64.wrap (Int.tdiv v2 (8:Int))) (8:Int)),(v7.1.1,v7.1.2.1,v7.1.2.2.1,v7.1.2.2.2.1,v7.1.2.2.2.2.1,()),[],()),true,())
  |false=>
   match i_hasData ((IntKind.i64.wrap (Int.tdiv v1 (64:Int))),())with
   |none=>none
   |some v21=>
   match v21.1 with
   |true=>
    match(decide (((List.drop v3.1 (List.take v3.2 x.1)).length:Int)>(0:Int)))with
    |true=>
     onSome (bounds (List.drop v3.1 (List.take v3.2 x.1)).length (some (.dat (.int .i64) (1:Int))) none) fun v22=>
     match slices_Clone_int64 ((List.drop v22.1 (List.take v22.2 (List.drop v3.1 (List.take v3.2 x.1)))),())with
     |none=>none
     |some v23=>
     match i_IsFrame (((IntKind.i64.wrap (Int.tdiv v1 (64:Int))),(Int.tmod (IntKind.i64.wrap (Int.tdiv v2 (8:Int))) (8:Int)),((0:Int),(0:Int),(0:Int),(0:Int),(0:Int),()),v23.1,()),())with
     |none=>none
     |some v24=>
     match(!v24.1)with
     |true=>
      some (((0:Int),(0:Int),((0:Int),(0:Int),(0:Int),(0:Int),(0:Int),()),[],()),false,())
     |false=>
      match i_bodyOf (((IntKind.i64.wrap (Int.tdiv v1 (64:Int))),(Int.tmod (IntKind.i64.wrap (Int.tdiv v2 (8:Int))) (8:Int)),((0:Int),(0:Int),(0:Int),(0:Int),(0:Int),()),v23.1,()),())with
      |none=>none
      |some v25=>
      match slices_Equal_int64 (v25.1,x.1,())with
      |none=>none
      |some v26=>
      match(!v26.1)with
      |true=>
       some (((0:Int),(0:Int),((0:Int),(0:Int),(0:Int),(0:Int),(0:Int),()),[],()),false,())
      |false=>
       some (((IntKind.i64.wrap (Int.tdiv v1 (64:Int))),(Int.tmod (IntKind.i64.wrap (Int.tdiv v2 (8:Int))) (8:Int)),((0:Int),(0:Int),(0:Int),(0:Int),(0:Int),()),v23.1,()),true,())
    |false=>
     match i_IsFrame (((IntKind.i64.wrap (Int.tdiv v1 (64:Int))),(Int.tmod (IntKind.i64.wrap (Int.tdiv v2 (8:Int))) (8:Int)),((0:Int),(0:Int),(0:Int),(0:Int),(0:Int),()),[],()),())with
     |none=>none
     |some v27=>
     match(!v27.1)with
     |true=>
      some (((0:Int),(0:Int),((0:Int),(0:Int),(0:Int),(0:Int),(0:Int),()),[],()),false,())
     |false=>
      match i_bodyOf (((IntKind.i64.wrap (Int.tdiv v1 (64:Int))),(Int.tmod (IntKind.i64.wrap (Int.tdiv v2 (8:Int))) (8:Int)),((0:Int),(0:Int),(0:Int),(0:Int),(0:Int),()),[],()),())with
      |none=>none
      |some v28=>
      match slices_Equal_int64 (v28.1,x.1,())with
      |none=>none
      |some v29=>
      match(!v29.1)with
      |true=>
       some (((0:Int),(0:Int),((0:Int),(0:Int),(0:Int),(0:Int),(0:Int),()),[],()),false,())
      |false=>
       some (((IntKind.i64.wrap (Int.tdiv v1 (64:Int))),(Int.tmod (IntKind.i64.wrap (Int.tdiv v2 (8:Int))) (8:Int)),((0:Int),(0:Int),(0:Int),(0:Int),(0:Int),()),[],()),true,())
   |false=>
    match i_IsFrame (((IntKind.i64.wrap (Int.tdiv v1 (64:Int))),(Int.tmod (IntKind.i64.wrap (Int.tdiv v2 (8:Int))) (8:Int)),((0:Int),(0:Int),(0:Int),(0:Int),(0:Int),()),[],()),())with
    |none=>none
    |some v30=>
    match(!v30.1)with
    |true=>
     some (((0:Int),(0:Int),((0:Int),(0:Int),(0:Int),(0:Int),(0:Int),()),[],()),false,())
    |false=>
     match i_bodyOf (((IntKind.i64.wrap (Int.tdiv v1 (64:Int))),(Int.tmod (IntKind.i64.wrap (Int.tdiv v2 (8:Int))) (8:Int)),((0:Int),(0:Int),(0:Int),(0:Int),(0:Int),()),[],()),())with
     |none=>none
     |some v31=>
     match slices_Equal_int64 (v31.1,x.1,())with
     |none=>none
     |some v32=>
     match(!v32.1)with
     |true=>
      some (((0:Int),(0:Int),((0:Int),(0:Int),(0:Int),(0:Int),(0:Int),()),[],()),false,())
     |false=>
      some (((IntKind.i64.wrap (Int.tdiv v1 (64:Int))),(Int.tmod (IntKind.i64.wrap (Int.tdiv v2 (8:Int))) (8:Int)),((0:Int),(0:Int),(0:Int),(0:Int),(0:Int),()),[],()),true,()))
noncomputable def S_i_frameFrom:Spec:=⟨(.pair (.list (.int .i64)) .unit),(.pair (.pair (.int .i64) (.pair (.int .i64) (.pair TState (.pair (.own 2 (.int .i64)) .unit)))) (.pair .bool .unit)),.unit,rfl,i_frameFrom⟩
noncomputable def σ_i_frameFrom:FuncId→Option Spec:=sig [(135,S_slices_Clone_int64),(214,S_i_bodyOf),(223,S_slices_Equal_int64),(248,S_i_hasState),(259,S_i_hasData),(262,S_i_toBits),(292,S_i_IsFrame),(303,S_i_stateFrom)]
theorem σok_i_frameFrom:∀f s,σ_i_frameFrom f=some s→FnOK G0 Tryz.prog f s:=sig_ok ⟨ok_slices_Clone_int64,ok_i_bodyOf,ok_slices_Equal_int64,ok_i_hasState,ok_i_hasData,ok_i_toBits,ok_i_IsFrame,ok_i_stateFrom,trivial⟩
theorem ok_i_frameFrom:FnOK G0 Tryz.prog 270 S_i_frameFrom:=fn_okS tab0 σok_i_frameFrom Tryz.func270 [] (by kernel_rfl) (by exact trivial) fun x=>by kernel_rfl
noncomputable def i_OpenFrame(x:Ty.T (.pair (.list (.int .i64)) (.pair (.int .i64) (.pair TState .unit)))):Option (Ty.T (.pair (.pair (.int .i64) (.pair (.int .i64) (.pair TState (.pair (.own 2 (.int .i64)) .unit)))) (.pair (.int .i64) .unit))):=
match i_IsState ((x.2.2.1.1,x.2.2.1.2.1,x.2.2.1.2.2.1,x.2.2.1.2.2.2.1,x.2.2.1.2.2.2.2.1,()),())with
|none=>none
|some v1=>
match(!v1.1)with
|true=>
 some (((0:Int),(0:Int),((0:Int),(0:Int),(0:Int),(0:Int),(0:Int),()),[],()),(1:Int),())
|false=>
 match i_isId (x.2.1,())with
 |none=>none
 |some v2=>
 match(!v2.1)with
 |true=>
  some (((0:Int),(0:Int),((0:Int),(0:Int),(0:Int),(0:Int),(0:Int),()),[],()),(2:Int),())
 |false=>
  match i_IsBytes (x.1,())with
  |none=>none
  |some v3=>
  match(!v3.1)with
  |true=>
   some (((0:Int),(0:Int),((0:Int),(0:Int),(0:Int),(0:Int),(0:Int),()),[],()),(2:Int),())
  |false=>
   match(decide ((IntKind.i64.wrap ((x.1.length:Int)-(3:Int)))<(1:Int)))with
   |true=>
    some (((0:Int),(0:Int),((0:Int),(0:Int),(0:Int),(0:Int),(0:Int),()),[],()),(6:Int),())
   |false=>
    onSome (idx x.1 (0:Int)) fun v4=>
    onSome (bounds x.1.length none (some (.dat (.int .i64) (IntKind.i64.wrap ((x.1.length:Int)-(3:Int)))))) fun v5=>
    onSome (bounds x.1.length (some (.dat (.int .i64) (IntKind.i64.wrap ((x.1.length:Int)-(3:Int))))) none) fun v6=>
    match i_checkNumber ((IntKind.i64.wrap (Int.tdiv v4 (64:Int))),(List.drop v5.1 (List.take v5.2 x.1)),x.2.1,(x.2.2.1.1,x.2.2.1.2.1,x.2.2.1.2.2.1,x.2.2.1.2.2.2.1,x.2.2.1.2.2.2.2.1,()),())with
    |none=>none
    |some v7=>
    match i_threeBytes (v7.1,())with
    |none=>none
    |some v8=>
    match slices_Equal_int64 (v8.1,(List.drop v6.1 (List.take v6.2 x.1)),())with
    |none=>none
    |some v9=>
    match(!v9.1)with
    |true=>
     some (((0:Int),(0:Int),((0:Int),(0:Int),(0:Int),(0:Int),(0:Int),()),[],()),(7:Int),())
    |false=>
     onSome (bounds x.1.length none (some (.dat (.int .i64) (IntKind.i64.wrap ((x.1.length:Int)-(3:Int)))))) fun v10=>
     match i_frameFrom ((List.drop v10.1 (List.take v10.2 x.1)),())with
     |none=>none
     |some v11=>
     match(!v11.2.1)with
     |true=>
      some (((0:Int),(0:Int),((0:Int),(0:Int),(0:Int),(0:Int),(0:Int),()),[],()),(6:Int),())
     |false=>
      match i_hasState (v11.1.1,())with
      |none=>none
      |some v12=>
      match v12.1 with
      |true=>
       match(!(eqT TState (v11.1.2.2.1.1,v11.1.2.2.1.2.1,v11.1.2.2.1.2.2.1,v11.1.2.2.1.2.2.2.1,v11.1.2.2.1.2.2.2.2.1,()) (x.2.2.1.1,x.2.2.1.2.1,x.2.2.1.2.2.1,x.2.2.1.2.2.2.1,x.2.2.1.2.2.2.2.1,())))with
       |true=>
        some (((0:Int),(0:Int),((0:Int),(0:Int),(0:Int),(0:Int),(0:Int),()),[],()),(5:Int),())
       |false=>
        some ((v11.1.1,v11.1.2.1,(v11.1.2.2.1.1,v11.1.2.2.1.2.1,v11.1.2.2.1.2.2.1,v11.1.2.2.1.2.2.2.1,v11.1.2.2.1.2.2.2.2.1,()),v11.1.2.2.2.1,()),(0:Int),())
      |false=>
       some ((v11.1.1,v11.1.2.1,(v11.1.2.2.1.1,v11.1.2.2.1.2.1,v11.1.2.2.1.2.2.1,v11.1.2.2.1.2.2.2.1,v11.1.2.2.1.2.2.2.2.1,()),v11.1.2.2.2.1,()),(0:Int),())
noncomputable def S_i_OpenFrame:Spec:=⟨(.pair (.list (.int .i64)) (.pair (.int .i64) (.pair TState .unit))),(.pair (.pair (.int .i64) (.pair (.int .i64) (.pair TState (.pair (.own 2 (.int .i64)) .unit)))) (.pair (.int .i64) .unit)),.unit,rfl,i_OpenFrame⟩
noncomputable def σ_i_OpenFrame:FuncId→Option Spec:=sig [(201,S_i_IsState),(215,S_i_threeBytes),(216,S_i_checkNumber),(223,S_slices_Equal_int64),(248,S_i_hasState),(268,S_i_isId),(269,S_i_IsBytes),(270,S_i_frameFrom)]
theorem σok_i_OpenFrame:∀f s,σ_i_OpenFrame f=some s→FnOK G0 Tryz.prog f s:=sig_ok ⟨ok_i_IsState,ok_i_threeBytes,ok_i_checkNumber,ok_slices_Equal_int64,ok_i_hasState,ok_i_isId,ok_i_IsBytes,ok_i_frameFrom,trivial⟩
theorem ok_i_OpenFrame:FnOK G0 Tryz.prog 221 S_i_OpenFrame:=fn_okS tab0 σok_i_OpenFrame Tryz.func221 [] (by kernel_rfl) (by exact trivial) fun x=>by kernel_rfl
noncomputable def i_judge(x:Ty.T (.pair TMedl (.pair TState (.pair (.list (.int .i64)) .unit)))):Option (Ty.T (.pair (.pair (.int .i64) (.pair (.pair (.int .i64) (.pair (.int .i64) (.pair TState (.pair (.own 2 (.int .i64)) .unit)))) .unit)) (.pair (.int .i64) .unit))):=
match i_OpenFrame (x.2.2.1,x.1.1,(x.2.1.1,x.2.1.2.1,x.2.1.2.2.1,x.2.1.2.2.2.1,x.2.1.2.2.2.2.1,()),())with
|none=>none
|some v1=>
match(v1.2.1==(0:Int))with
|true=>
 match i_descriptorFor ((x.1.1,x.1.2.1,x.1.2.2.1,x.1.2.2.2.1,()),(x.2.1.1,x.2.1.2.1,x.2.1.2.2.1,x.2.1.2.2.2.1,x.2.1.2.2.2.2.1,()),())with
 |none=>none
 |some v2=>
 match i_fits (v2.1,(v1.1.1,v1.1.2.1,(v1.1.2.2.1.1,v1.1.2.2.1.2.1,v1.1.2.2.1.2.2.1,v1.1.2.2.1.2.2.2.1,v1.1.2.2.1.2.2.2.2.1,()),v1.1.2.2.2.1,()),())with
 |none=>none
 |some v3=>
 match(!v3.1)with
 |true=>
  match((5:Int) != (0:Int))with
  |true=>
   some (((2:Int),((0:Int),(0:Int),((0:Int),(0:Int),(0:Int),(0:Int),(0:Int),()),[],()),()),(5:Int),())
  |false=>
   some (((3:Int),(v1.1.1,v1.1.2.1,(v1.1.2.2.1.1,v1.1.2.2.1.2.1,v1.1.2.2.1.2.2.1,v1.1.2.2.1.2.2.2.1,v1.1.2.2.1.2.2.2.2.1,()),v1.1.2.2.2.1,()),()),(0:Int),())
 |false=>
  match(v1.2.1 != (0:Int))with
  |true=>
   some (((2:Int),((0:Int),(0:Int),((0:Int),(0:Int),(0:Int),(0:Int),(0:Int),()),[],()),()),v1.2.1,())
  |false=>
   some (((3:Int),(v1.1.1,v1.1.2.1,(v1.1.2.2.1.1,v1.1.2.2.1.2.1,v1.1.2.2.1.2.2.1,v1.1.2.2.1.2.2.2.1,v1.1.2.2.1.2.2.2.2.1,()),v1.1.2.2.2.1,()),()),(0:Int),())
|false=>
 match(v1.2.1 != (0:Int))with
 |true=>
  some (((2:Int),((0:Int),(0:Int),((0:Int),(0:Int),(0:Int),(0:Int),(0:Int),()),[],()),()),v1.2.1,())
 |false=>
  some (((3:Int),(v1.1.1,v1.1.2.1,(v1.1.2.2.1.1,v1.1.2.2.1.2.1,v1.1.2.2.1.2.2.1,v1.1.2.2.1.2.2.2.1,v1.1.2.2.1.2.2.2.2.1,()),v1.1.2.2.2.1,()),()),(0:Int),())
noncomputable def S_i_judge:Spec:=⟨(.pair TMedl (.pair TState (.pair (.list (.int .i64)) .unit))),(.pair (.pair (.int .i64) (.pair (.pair (.int .i64) (.pair (.int .i64) (.pair TState (.pair (.own 2 (.int .i64)) .unit)))) .unit)) (.pair (.int .i64) .unit)),.unit,rfl,i_judge⟩
noncomputable def σ_i_judge:FuncId→Option Spec:=sig [(81,S_i_descriptorFor),(221,S_i_OpenFrame),(222,S_i_fits)]
theorem σok_i_judge:∀f s,σ_i_judge f=some s→FnOK G0 Tryz.prog f s:=sig_ok ⟨ok_i_descriptorFor,ok_i_OpenFrame,ok_i_fits,trivial⟩
theorem ok_i_judge:FnOK G0 Tryz.prog 189 S_i_judge:=fn_okS tab0 σok_i_judge Tryz.func189 [] (by kernel_rfl) (by exact trivial) fun x=>by kernel_rfl
noncomputable def i_receive(x:Ty.T (.pair TMedl (.pair TState (.pair (.list (.int .i64)) .unit)))):Option (Ty.T (.pair (.pair (.int .i64) (.pair (.pair (.int .i64) (.pair (.int .i64) (.pair TState (.pair (.own 2 (.int .i64)) .unit)))) .unit)) (.pair (.int .i64) .unit))):=
match i_DecodeSamples (x.2.2.1,())with
|none=>none
|some v1=>
match(v1.2.1==(0:Int))with
|true=>
 match i_judge ((x.1.1,x.1.2.1,x.1.2.2.1,x.1.2.2.2.1,()),(x.2.1.1,x.2.1.2.1,x.2.1.2.2.1,x.2.1.2.2.2.1,x.2.1.2.2.2.2.1,()),v1.1,())with
 |none=>none
 |some v2=>
 some ((v2.1.1,(v2.1.2.1.1,v2.1.2.1.2.1,(v2.1.2.1.2.2.1.1,v2.1.2.1.2.2.1.2.1,v2.1.2.1.2.2.1.2.2.1,v2.1.2.1.2.2.1.2.2.2.1,v2.1.2.1.2.2.1.2.2.2.2.1,()),v2.1.2.1.2.2.2.1,()),()),v2.2.1,())
|false=>
 match(v1.2.1==(4:Int))with
 |true=>
  some (((0:Int),((0:Int),(0:Int),((0:Int),(0:Int),(0:Int),(0:Int),(0:Int),()),[],()),()),v1.2.1,())
 |false=>
  some (((1:Int),((0:Int),(0:Int),((0:Int),(0:Int),(0:Int),(0:Int),(0:Int),()),[],()),()),v1.2.1,())
noncomputable def S_i_receive:Spec:=⟨(.pair TMedl (.pair TState (.pair (.list (.int .i64)) .unit))),(.pair (.pair (.int .i64) (.pair (.pair (.int .i64) (.pair (.int .i64) (.pair TState (.pair (.own 2 (.int .i64)) .unit)))) .unit)) (.pair (.int .i64) .unit)),.unit,rfl,i_receive⟩
noncomputable def σ_i_receive:FuncId→Option Spec:=sig [(188,S_i_DecodeSamples),(189,S_i_judge)]
theorem σok_i_receive:∀f s,σ_i_receive f=some s→FnOK G0 Tryz.prog f s:=sig_ok ⟨ok_i_DecodeSamples,ok_i_judge,trivial⟩
theorem ok_i_receive:FnOK G0 Tryz.prog 139 S_i_receive:=fn_okS tab0 σok_i_receive Tryz.func139 [] (by kernel_rfl) (by exact trivial) fun x=>by kernel_rfl
noncomputable def i_ReceiveChannel(x:Ty.T (.pair TMedl (.pair TState (.pair (.list (.int .i64)) .unit)))):Option (Ty.T (.pair (.pair (.int .i64) (.pair (.pair (.int .i64) (.pair (.int .i64) (.pair TState (.pair (.own 2 (.int .i64)) .unit)))) .unit)) (.pair (.int .i64) .unit))):=
match i_IsBits (x.2.2.1,())with
|none=>none
|some v1=>
match i_receiveCode ((x.1.1,x.1.2.1,x.1.2.2.1,x.1.2.2.2.1,()),(x.2.1.1,x.2.1.2.1,x.2.1.2.2.1,x.2.1.2.2.2.1,x.2.1.2.2.2.2.1,()),v1.1,())with
|none=>none
|some v2=>
match(v2.1 != (0:Int))with
|true=>
 some (((0:Int),((0:Int),(0:Int),((0:Int),(0:Int),(0:Int),(0:Int),(0:Int),()),[],()),()),v2.1,())
|false=>
 match i_receive ((x.1.1,x.1.2.1,x.1.2.2.1,x.1.2.2.2.1,()),(x.2.1.1,x.2.1.2.1,x.2.1.2.2.1,x.2.1.2.2.2.1,x.2.1.2.2.2.2.1,()),x.2.2.1,())with
 |none=>none
 |some v3=>
 some ((v3.1.1,(v3.1.2.1.1,v3.1.2.1.2.1,(v3.1.2.1.2.2.1.1,v3.1.2.1.2.2.1.2.1,v3.1.2.1.2.2.1.2.2.1,v3.1.2.1.2.2.1.2.2.2.1,v3.1.2.1.2.2.1.2.2.2.2.1,()),v3.1.2.1.2.2.2.1,()),()),(0:Int),())
noncomputable def S_i_ReceiveChannel:Spec:=⟨(.pair TMedl (.pair TState (.pair (.list (.int .i64)) .unit))),(.pair (.pair (.int .i64) (.pair (.pair (.int .i64) (.pair (.int .i64) (.pair TState (.pair (.own 2 (.int .i64)) .unit)))) .unit)) (.pair (.int .i64) .unit)),.unit,rfl,i_ReceiveChannel⟩
noncomputable def σ_i_ReceiveChannel:FuncId→Option Spec:=sig [(137,S_i_receiveCode),(138,S_i_IsBits),(139,S_i_receive)]
theorem σok_i_ReceiveChannel:∀f s,σ_i_ReceiveChannel f=some s→FnOK G0 Tryz.prog f s:=sig_ok ⟨ok_i_receiveCode,ok_i_IsBits,ok_i_receive,trivial⟩
theorem ok_i_ReceiveChannel:FnOK G0 Tryz.prog 97 S_i_ReceiveChannel:=fn_okS tab0 σok_i_ReceiveChannel Tryz.func97 [] (by kernel_rfl) (by exact trivial) fun x=>by kernel_rfl
noncomputable def i_sameFrame(x:Ty.T (.pair TFrame (.pair TFrame .unit))):Option (Ty.T (.pair .bool .unit)):=
match(x.1.1==x.2.1.1)with
|true=>
 match(x.1.2.1==x.2.1.2.1)with
 |true=>
  match(eqT TState (x.1.2.2.1.1,x.1.2.2.1.2.1,x.1.2.2.1.2.2.1,x.1.2.2.1.2.2.2.1,x.1.2.2.1.2.2.2.2.1,()) (x.2.1.2.2.1.1,x.2.1.2.2.1.2.1,x.2.1.2.2.1.2.2.1,x.2.1.2.2.1.2.2.2.1,x.2.1.2.2.1.2.2.2.2.1,()))with
  |true=>
   match slices_Equal_int64 (x.1.2.2.2.1,x.2.1.2.2.2.1,())with
   |none=>none
   |some v1=>
   some (v1.1,())
  |false=>
   some (false,())
 |false=>
  some (false,())
|false=>
 some (false,())
noncomputable def S_i_sameFrame:Spec:=⟨(.pair TFrame (.pair TFrame .unit)),(.pair .bool .unit),.unit,rfl,i_sameFrame⟩
noncomputable def σ_i_sameFrame:FuncId→Option Spec:=sig [(223,S_slices_Equal_int64)]
theorem σok_i_sameFrame:∀f s,σ_i_sameFrame f=some s→FnOK G0 Tryz.prog f s:=sig_ok ⟨ok_slices_Equal_int64,trivial⟩
theorem ok_i_sameFrame:FnOK G0 Tryz.prog 190 S_i_sameFrame:=fn_okS tab0 σok_i_sameFrame Tryz.func190 [] (by kernel_rfl) (by exact trivial) fun x=>by kernel_rfl
noncomputable def i_SameVerdict(x:Ty.T (.pair TVerdict (.pair TVerdict .unit))):Option (Ty.T (.pair .bool .unit)):=
match(x.1.1==x.2.1.1)with
|true=>
 match i_sameFrame ((x.1.2.1.1,x.1.2.1.2.1,(x.1.2.1.2.2.1.1,x.1.2.1.2.2.1.2.1,x.1.2.1.2.2.1.2.2.1,x.1.2.1.2.2.1.2.2.2.1,x.1.2.1.2.2.1.2.2.2.2.1,()),x.1.2.1.2.2.2.1,()),(x.2.1.2.1.1,x.2.1.2.1.2.1,(x.2.1.2.1.2.2.1.1,x.2.1.2.1.2.2.1.2.1,x.2.1.2.1.2.2.1.2.2.1,x.2.1.2.1.2.2.1.2.2.2.1,x.2.1.2.1.2.2.1.2.2.2.2.1,()),x.2.1.2.1.2.2.2.1,()),())with
 |none=>none
 |some v1=>
 some (v1.1,())
|false=>
 some (false,())
noncomputable def S_i_SameVerdict:Spec:=⟨(.pair TVerdict (.pair TVerdict .unit)),(.pair .bool .unit),.unit,rfl,i_SameVerdict⟩
noncomputable def σ_i_SameVerdict:FuncId→Option Spec:=sig [(190,S_i_sameFrame)]
theorem σok_i_SameVerdict:∀f s,σ_i_SameVerdict f=some s→FnOK G0 Tryz.prog f s:=sig_ok ⟨ok_i_sameFrame,trivial⟩
theorem ok_i_SameVerdict:FnOK G0 Tryz.prog 140 S_i_SameVerdict:=fn_okS tab0 σok_i_SameVerdict Tryz.func140 [] (by kernel_rfl) (by exact trivial) fun x=>by kernel_rfl
noncomputable def i_merge(x:Ty.T (.pair (.pair (.int .i64) (.pair (.pair (.int .i64) (.pair (.int .i64) (.pair TState (.pair (.own 2 (.int .i64)) .unit)))) .unit)) (.pair (.pair (.int .i64) (.pair (.pair (.int .i64) (.pair (.int .i64) (.pair TState (.pair (.own 2 (.int .i64)) .unit)))) .unit)) .unit))):Option (Ty.T (.pair (.pair (.int .i64) (.pair (.pair (.int .i64) (.pair (.int .i64) (.pair TState (.pair (.own 2 (.int .i64)) .unit)))) .unit)) .unit)):=
match(x.1.1==(3:Int))with
|true=>
 match i_SameVerdict ((x.1.1,(x.1.2.1.1,x.1.2.1.2.1,(x.1.2.1.2.2.1.1,x.1.2.1.2.2.1.2.1,x.1.2.1.2.2.1.2.2.1,x.1.2.1.2.2.1.2.2.2.1,x.1.2.1.2.2.1.2.2.2.2.1,()),x.1.2.1.2.2.2.1,()),()),(x.2.1.1,(x.2.1.2.1.1,x.2.1.2.1.2.1,(x.2.1.2.1.2.2.1.1,x.2.1.2.1.2.2.1.2.1,x.2.1.2.1.2.2.1.2.2.1,x.2.1.2.1.2.2.1.2.2.2.1,x.2.1.2.1.2.2.1.2.2.2.2.1,()),x.2.1.2.1.2.2.2.1,()),()),())with
 |none=>none
 |some v1=>
 match v1.1 with
 |true=>
  some ((x.1.1,(x.1.2.1.1,x.1.2.1.2.1,(x.1.2.1.2.2.1.1,x.1.2.1.2.2.1.2.1,x.1.2.1.2.2.1.2.2.1,x.1.2.1.2.2.1.2.2.2.1,x.1.2.1.2.2.1.2.2.2.2.1,()),x.1.2.1.2.2.2.1,()),()),())
 |false=>
  match(x.1.1==(3:Int))with
  |true=>
   match(x.2.1.1==(3:Int))with
   |true=>
    some (((4:Int),((0:Int),(0:Int),((0:Int),(0:Int),(0:Int),(0:Int),(0:Int),()),[],()),()),())
   |false=>
    match(x.1.1==(4:Int))with
    |true=>
     some (((4:Int),((0:Int),(0:Int),((0:Int),(0:Int),(0:Int),(0:Int),(0:Int),()),[],()),()),())
    |false=>
     match(x.2.1.1==(4:Int))with
     |true=>
      some (((4:Int),((0:Int),(0:Int),((0:Int),(0:Int),(0:Int),(0:Int),(0:Int),()),[],()),()),())
     |false=>
      match(decide (x.1.1≥x.2.1.1))with
      |true=>
       some ((x.1.1,(x.1.2.1.1,x.1.2.1.2.1,(x.1.2.1.2.2.1.1,x.1.2.1.2.2.1.2.1,x.1.2.1.2.2.1.2.2.1,x.1.2.1.2.2.1.2.2.2.1,x.1.2.1.2.2.1.2.2.2.2.1,()),x.1.2.1.2.2.2.1,()),()),())
      |false=>
       some ((x.2.1.1,(x.2.1.2.1.1,x.2.1.2.1.2.1,(x.2.1.2.1.2.2.1.1,x.2.1.2.1.2.2.1.2.1,x.2.1.2.1.2.2.1.2.2.1,x.2.1.2.1.2.2.1.2.2.2.1,x.2.1.2.1.2.2.1.2.2.2.2.1,()),x.2.1.2.1.2.2.2.1,()),()),())
  |false=>
   match(x.1.1==(4:Int))with
   |true=>
    some (((4:Int),((0:Int),(0:Int),((0:Int),(0:Int),(0:Int),(0:Int),(0:Int),()),[],()),()),())
   |false=>
    match(x.2.1.1==(4:Int))with
    |true=>
     some (((4:Int),((0:Int),(0:Int),((0:Int),(0:Int),(0:Int),(0:Int),(0:Int),()),[],()),()),())
    |false=>
     match(decide (x.1.1≥x.2.1.1))with
     |true=>
      some ((x.1.1,(x.1.2.1.1,x.1.2.1.2.1,(x.1.2.1.2.2.1.1,x.1.2.1.2.2.1.2.1,x.1.2.1.2.2.1.2.2.1,x.1.2.1.2.2.1.2.2.2.1,x.1.2.1.2.2.1.2.2.2.2.1,()),x.1.2.1.2.2.2.1,()),()),())
     |false=>
      some ((x.2.1.1,(x.2.1.2.1.1,x.2.1.2.1.2.1,(x.2.1.2.1.2.2.1.1,x.2.1.2.1.2.2.1.2.1,x.2.1.2.1.2.2.1.2.2.1,x.2.1.2.1.2.2.1.2.2.2.1,x.2.1.2.1.2.2.1.2.2.2.2.1,()),x.2.1.2.1.2.2.2.1,()),()),())
|false=>
 match(x.1.1==(3:Int))with
 |true=>
  match(x.2.1.1==(3:Int))with
  |true=>
   some (((4:Int),((0:Int),(0:Int),((0:Int),(0:Int),(0:Int),(0:Int),(0:Int),()),[],()),()),())
  |false=>
   match(x.1.1==(4:Int))with
   |true=>
    some (((4:Int),((0:Int),(0:Int),((0:Int),(0:Int),(0:Int),(0:Int),(0:Int),()),[],()),()),())
   |false=>
    match(x.2.1.1==(4:Int))with
    |true=>
     some (((4:Int),((0:Int),(0:Int),((0:Int),(0:Int),(0:Int),(0:Int),(0:Int),()),[],()),()),())
    |false=>
     match(decide (x.1.1≥x.2.1.1))with
     |true=>
      some ((x.1.1,(x.1.2.1.1,x.1.2.1.2.1,(x.1.2.1.2.2.1.1,x.1.2.1.2.2.1.2.1,x.1.2.1.2.2.1.2.2.1,x.1.2.1.2.2.1.2.2.2.1,x.1.2.1.2.2.1.2.2.2.2.1,()),x.1.2.1.2.2.2.1,()),()),())
     |false=>
      some ((x.2.1.1,(x.2.1.2.1.1,x.2.1.2.1.2.1,(x.2.1.2.1.2.2.1.1,x.2.1.2.1.2.2.1.2.1,x.2.1.2.1.2.2.1.2.2.1,x.2.1.2.1.2.2.1.2.2.2.1,x.2.1.2.1.2.2.1.2.2.2.2.1,()),x.2.1.2.1.2.2.2.1,()),()),())
 |false=>
  match(x.1.1==(4:Int))with
  |true=>
   some (((4:Int),((0:Int),(0:Int),((0:Int),(0:Int),(0:Int),(0:Int),(0:Int),()),[],()),()),())
  |false=>
   match(x.2.1.1==(4:Int))with
   |true=>
    some (((4:Int),((0:Int),(0:Int),((0:Int),(0:Int),(0:Int),(0:Int),(0:Int),()),[],()),()),())
   |false=>
    match(decide (x.1.1≥x.2.1.1))with
    |true=>
     some ((x.1.1,(x.1.2.1.1,x.1.2.1.2.1,(x.1.2.1.2.2.1.1,x.1.2.1.2.2.1.2.1,x.1.2.1.2.2.1.2.2.1,x.1.2.1.2.2.1.2.2.2.1,x.1.2.1.2.2.1.2.2.2.2.1,()),x.1.2.1.2.2.2.1,()),()),())
    |false=>
     some ((x.2.1.1,(x.2.1.2.1.1,x.2.1.2.1.2.1,(x.2.1.2.1.2.2.1.1,x.2.1.2.1.2.2.1.2.1,x.2.1.2.1.2.2.1.2.2.1,x.2.1.2.1.2.2.1.2.2.2.1,x.2.1.2.1.2.2.1.2.2.2.2.1,()),x.2.1.2.1.2.2.2.1,()),()),())
noncomputable def S_i_merge:Spec:=⟨(.pair (.pair (.int .i64) (.pair (.pair (.int .i64) (.pair (.int .i64) (.pair TState (.pair (.own 2 (.int .i64)) .unit)))) .unit)) (.pair (.pair (.int .i64) (.pair (.pair (.int .i64) (.pair (.int .i64) (.pair TState (.pair (.own 2 (.int .i64)) .unit)))) .unit)) .unit)),(.pair (.pair (.int .i64) (.pair (.pair (.int .i64) (.pair (.int .i64) (.pair TState (.pair (.own 2 (.int .i64)) .unit)))) .unit)) .unit),.unit,rfl,i_merge⟩
noncomputable def σ_i_merge:FuncId→Option Spec:=sig [(140,S_i_SameVerdict)]
theorem σok_i_merge:∀f s,σ_i_merge f=some s→FnOK G0 Tryz.prog f s:=sig_ok ⟨ok_i_SameVerdict,trivial⟩
theorem ok_i_merge:FnOK G0 Tryz.prog 98 S_i_merge:=fn_okS tab0 σok_i_merge Tryz.func98 [] (by kernel_rfl) (by exact trivial) fun x=>by kernel_rfl
noncomputable def i_ReceiveBoth(x:Ty.T (.pair TMedl (.pair TState (.pair (.list (.int .i64)) (.pair (.list (.int .i64)) .unit))))):Option (Ty.T (.pair (.pair (.int .i64) (.pair (.pair (.int .i64) (.pair (.int .i64) (.pair TState (.pair (.own 2 (.int .i64)) .unit)))) .unit)) (.pair (.int .i64) .unit))):=
match i_ReceiveChannel ((x.1.1,x.1.2.1,x.1.2.2.1,x.1.2.2.2.1,()),(x.2.1.1,x.2.1.2.1,x.2.1.2.2.1,x.2.1.2.2.2.1,x.2.1.2.2.2.2.1,()),x.2.2.1,())with
|none=>none
|some v1=>
match(v1.2.1 != (0:Int))with
|true=>
 some (((0:Int),((0:Int),(0:Int),((0:Int),(0:Int),(0:Int),(0:Int),(0:Int),()),[],()),()),v1.2.1,())
|false=>
 match i_ReceiveChannel ((x.1.1,x.1.2.1,x.1.2.2.1,x.1.2.2.2.1,()),(x.2.1.1,x.2.1.2.1,x.2.1.2.2.1,x.2.1.2.2.2.1,x.2.1.2.2.2.2.1,()),x.2.2.2.1,())with
 |none=>none
 |some v2=>
 match(v2.2.1 != (0:Int))with
 |true=>
  some (((0:Int),((0:Int),(0:Int),((0:Int),(0:Int),(0:Int),(0:Int),(0:Int),()),[],()),()),v2.2.1,())
 |false=>
  match i_merge ((v1.1.1,(v1.1.2.1.1,v1.1.2.1.2.1,(v1.1.2.1.2.2.1.1,v1.1.2.1.2.2.1.2.1,v1.1.2.1.2.2.1.2.2.1,v1.1.2.1.2.2.1.2.2.2.1,v1.1.2.1.2.2.1.2.2.2.2.1,()),v1.1.2.1.2.2.2.1,()),()),(v2.1.1,(v2.1.2.1.1,v2.1.2.1.2.1,(v2.1.2.1.2.2.1.1,v2.1.2.1.2.2.1.2.1,v2.1.2.1.2.2.1.2.2.1,v2.1.2.1.2.2.1.2.2.2.1,v2.1.2.1.2.2.1.2.2.2.2.1,()),v2.1.2.1.2.2.2.1,()),()),())with
  |none=>none
  |some v3=>
  some ((v3.1.1,(v3.1.2.1.1,v3.1.2.1.2.1,(v3.1.2.1.2.2.1.1,v3.1.2.1.2.2.1.2.1,v3.1.2.1.2.2.1.2.2.1,v3.1.2.1.2.2.1.2.2.2.1,v3.1.2.1.2.2.1.2.2.2.2.1,()),v3.1.2.1.2.2.2.1,()),()),(0:Int),())
noncomputable def S_i_ReceiveBoth:Spec:=⟨(.pair TMedl (.pair TState (.pair (.list (.int .i64)) (.pair (.list (.int .i64)) .unit)))),(.pair (.pair (.int .i64) (.pair (.pair (.int .i64) (.pair (.int .i64) (.pair TState (.pair (.own 2 (.int .i64)) .unit)))) .unit)) (.pair (.int .i64) .unit)),.unit,rfl,i_ReceiveBoth⟩
noncomputable def σ_i_ReceiveBoth:FuncId→Option Spec:=sig [(97,S_i_ReceiveChannel),(98,S_i_merge)]
theorem σok_i_ReceiveBoth:∀f s,σ_i_ReceiveBoth f=some s→FnOK G0 Tryz.prog f s:=sig_ok ⟨ok_i_ReceiveChannel,ok_i_merge,trivial⟩
theorem ok_i_ReceiveBoth:FnOK G0 Tryz.prog 61 S_i_ReceiveBoth:=fn_okS tab0 σok_i_ReceiveBoth Tryz.func61 [] (by kernel_rfl) (by exact trivial) fun x=>by kernel_rfl
noncomputable def i_SendBoth(x:Ty.T (.pair TMedl (.pair TState (.pair TFrame (.pair (.list TFault) (.pair (.list TFault) .unit)))))):Option (Ty.T (.pair (.pair (.int .i64) (.pair (.pair (.int .i64) (.pair (.int .i64) (.pair TState (.pair (.own 2 (.int .i64)) .unit)))) .unit)) (.pair (.int .i64) .unit))):=
match i_SendScripted ((x.1.1,x.1.2.1,x.1.2.2.1,x.1.2.2.2.1,()),(x.2.1.1,x.2.1.2.1,x.2.1.2.2.1,x.2.1.2.2.2.1,x.2.1.2.2.2.2.1,()),(x.2.2.1.1,x.2.2.1.2.1,(x.2.2.1.2.2.1.1,x.2.2.1.2.2.1.2.1,x.2.2.1.2.2.1.2.2.1,x.2.2.1.2.2.1.2.2.2.1,x.2.2.1.2.2.1.2.2.2.2.1,()),x.2.2.1.2.2.2.1,()),x.2.2.2.1,())with
|none=>none
|some v1=>
match(v1.2.1 != (0:Int))with
|true=>
 some (((0:Int),((0:Int),(0:Int),((0:Int),(0:Int),(0:Int),(0:Int),(0:Int),()),[],()),()),v1.2.1,())
|false=>
 match i_SendScripted ((x.1.1,x.1.2.1,x.1.2.2.1,x.1.2.2.2.1,()),(x.2.1.1,x.2.1.2.1,x.2.1.2.2.1,x.2.1.2.2.2.1,x.2.1.2.2.2.2.1,()),(x.2.2.1.1,x.2.2.1.2.1,(x.2.2.1.2.2.1.1,x.2.2.1.2.2.1.2.1,x.2.2.1.2.2.1.2.2.1,x.2.2.1.2.2.1.2.2.2.1,x.2.2.1.2.2.1.2.2.2.2.1,()),x.2.2.1.2.2.2.1,()),x.2.2.2.2.1,())with
 |none=>none
 |some v2=>
 match(v2.2.1 != (0:Int))with
 |true=>
  some (((0:Int),((0:Int),(0:Int),((0:Int),(0:Int),(0:Int),(0:Int),(0:Int),()),[],()),()),v2.2.1,())
 |false=>
  match i_ReceiveBoth ((x.1.1,x.1.2.1,x.1.2.2.1,x.1.2.2.2.1,()),(x.2.1.1,x.2.1.2.1,x.2.1.2.2.1,x.2.1.2.2.2.1,x.2.1.2.2.2.2.1,()),v1.1,v2.1,())with
  |none=>none
  |some v3=>
  some ((v3.1.1,(v3.1.2.1.1,v3.1.2.1.2.1,(v3.1.2.1.2.2.1.1,v3.1.2.1.2.2.1.2.1,v3.1.2.1.2.2.1.2.2.1,v3.1.2.1.2.2.1.2.2.2.1,v3.1.2.1.2.2.1.2.2.2.2.1,()),v3.1.2.1.2.2.2.1,()),()),v3.2.1,())
noncomputable def S_i_SendBoth:Spec:=⟨(.pair TMedl (.pair TState (.pair TFrame (.pair (.list TFault) (.pair (.list TFault) .unit))))),(.pair (.pair (.int .i64) (.pair (.pair (.int .i64) (.pair (.int .i64) (.pair TState (.pair (.own 2 (.int .i64)) .unit)))) .unit)) (.pair (.int .i64) .unit)),.unit,rfl,i_SendBoth⟩
noncomputable def σ_i_SendBoth:FuncId→Option Spec:=sig [(60,S_i_SendScripted),(61,S_i_ReceiveBoth)]
theorem σok_i_SendBoth:∀f s,σ_i_SendBoth f=some s→FnOK G0 Tryz.prog f s:=sig_ok ⟨ok_i_SendScripted,ok_i_ReceiveBoth,trivial⟩
theorem ok_i_SendBoth:FnOK G0 Tryz.prog 16 S_i_SendBoth:=fn_okS tab0 σok_i_SendBoth Tryz.func16 [] (by kernel_rfl) (by exact trivial) fun x=>by kernel_rfl
noncomputable def l_eqState(x:Ty.T (.pair TState (.pair TState .unit))):Option (Ty.T (.pair .bool .unit)):=
match(x.1.1 != x.2.1.1)with
|true=>
 some (false,())
|false=>
 match(x.1.2.1 != x.2.1.2.1)with
 |true=>
  some (false,())
 |false=>
  match(x.1.2.2.1 != x.2.1.2.2.1)with
  |true=>
   some (false,())
  |false=>
   match(x.1.2.2.2.1 != x.2.1.2.2.2.1)with
   |true=>
    some (false,())
   |false=>
    match(x.1.2.2.2.2.1 != x.2.1.2.2.2.2.1)with
    |true=>
     some (false,())
    |false=>
     some (true,())
noncomputable def S_l_eqState:Spec:=⟨(.pair TState (.pair TState .unit)),(.pair .bool .unit),.unit,rfl,l_eqState⟩
noncomputable def σ_l_eqState:FuncId→Option Spec:=sig []
theorem σok_l_eqState:∀f s,σ_l_eqState f=some s→FnOK G0 Tryz.prog f s:=sig_ok trivial
theorem ok_l_eqState:FnOK G0 Tryz.prog 35 S_l_eqState:=fn_okS tab0 σok_l_eqState Tryz.func35 [] (by kernel_rfl) (by exact trivial) fun x=>by kernel_rfl
noncomputable def b_l_eqInt64S_4(x:(Ty.T (.pair (.list (.int .i64)) (.pair (.list (.int .i64)) (.pair (.int .i64) .unit))))):Option ((Ty.T (.pair (.list (.int .i64)) (.pair (.list (.int .i64)) (.pair (.int .i64) .unit)))) ⊕ ((Ty.T .unit) ⊕ (Ty.T (.pair .bool .unit)))):=
match(decide (x.2.2.1<(x.1.length:Int)))with
|true=>
 onSome (idx x.1 x.2.2.1) fun v1=>
 onSome (idx x.2.1 x.2.2.1) fun v2=>
 match(v1 != v2)with
 |true=>
  some (.inr (.inr (false,())))
 |false=>
  some (.inl (x.1,x.2.1,(IntKind.i64.wrap (x.2.2.1+(1:Int))),()))
|false=>
 some (.inr (.inl (())))
noncomputable def l_eqInt64S(x:Ty.T (.pair (.list (.int .i64)) (.pair (.list (.int .i64)) .unit))):Option (Ty.T (.pair .bool .unit)):=
match((x.1.length:Int) != (x.2.1.length:Int))with
|true=>
 some (false,())
|false=>
 match loopL b_l_eqInt64S_4 (x.1,x.2.1,(0:Int),())with
 |none=>none
 |some (.inl v3)=>
  some (true,())
 |some (.inr v4)=>
  some (v4.1,())
noncomputable def S_l_eqInt64S:Spec:=⟨(.pair (.list (.int .i64)) (.pair (.list (.int .i64)) .unit)),(.pair .bool .unit),.unit,rfl,l_eqInt64S⟩
noncomputable def σ_l_eqInt64S:FuncId→Option Spec:=sig []
theorem σok_l_eqInt64S:∀f s,σ_l_eqInt64S f=some s→FnOK G0 Tryz.prog f s:=sig_ok trivial
def q_l_eqInt64S_4:LRow:=⟨[0,1,5],(.pair (.list (.int .i64)) (.pair (.list (.int .i64)) (.pair (.int .i64) .unit))),0,[],.unit,[4],(.pair .bool .unit)⟩
noncomputable def ls_l_eqInt64S:List LSpec:=[q_l_eqInt64S_4.spec b_l_eqInt64S_4]
theorem lok_l_eqInt64S_4:Lok Γ0 E0 σ_l_eqInt64S (lam Tryz.f65 ls_l_eqInt64S) Tryz.f65 0 q_l_eqInt64S_4 b_l_eqInt64S_4:=fun x=>by kernel_rfl
theorem ok_l_eqInt64S:FnOK G0 Tryz.prog 65 S_l_eqInt64S:=fn_okS tab0 σok_l_eqInt64S Tryz.func65 ls_l_eqInt64S (by kernel_rfl) (by exact⟨(lok_l_eqInt64S_4).lok,trivial⟩) fun x=>by kernel_rfl
noncomputable def l_eqFrame(x:Ty.T (.pair TFrame (.pair TFrame .unit))):Option (Ty.T (.pair .bool .unit)):=
match(x.1.1 != x.2.1.1)with
|true=>
 some (false,())
|false=>
 match(x.1.2.1 != x.2.1.2.1)with
 |true=>
  some (false,())
 |false=>
  match l_eqState ((x.1.2.2.1.1,x.1.2.2.1.2.1,x.1.2.2.1.2.2.1,x.1.2.2.1.2.2.2.1,x.1.2.2.1.2.2.2.2.1,()),(x.2.1.2.2.1.1,x.2.1.2.2.1.2.1,x.2.1.2.2.1.2.2.1,x.2.1.2.2.1.2.2.2.1,x.2.1.2.2.1.2.2.2.2.1,()),())with
  |none=>none
  |some v1=>
  match(!v1.1)with
  |true=>
   some (false,())
  |false=>
   match l_eqInt64S (x.1.2.2.2.1,x.2.1.2.2.2.1,())with
   |none=>none
   |some v2=>
   match(!v2.1)with
   |true=>
    some (false,())
   |false=>
    some (true,())
noncomputable def S_l_eqFrame:Spec:=⟨(.pair TFrame (.pair TFrame .unit)),(.pair .bool .unit),.unit,rfl,l_eqFrame⟩
noncomputable def σ_l_eqFrame:FuncId→Option Spec:=sig [(35,S_l_eqState),(65,S_l_eqInt64S)]
theorem σok_l_eqFrame:∀f s,σ_l_eqFrame f=some s→FnOK G0 Tryz.prog f s:=sig_ok ⟨ok_l_eqState,ok_l_eqInt64S,trivial⟩
theorem ok_l_eqFrame:FnOK G0 Tryz.prog 19 S_l_eqFrame:=fn_okS tab0 σok_l_eqFrame Tryz.func19 [] (by kernel_rfl) (by exact trivial) fun x=>by kernel_rfl
noncomputable def l_eqVerdict(x:Ty.T (.pair TVerdict (.pair TVerdict .unit))):Option (Ty.T (.pair .bool .unit)):=
match(x.1.1 != x.2.1.1)with
|true=>
 some (false,())
|false=>
 match l_eqFrame ((x.1.2.1.1,x.1.2.1.2.1,(x.1.2.1.2.2.1.1,x.1.2.1.2.2.1.2.1,x.1.2.1.2.2.1.2.2.1,x.1.2.1.2.2.1.2.2.2.1,x.1.2.1.2.2.1.2.2.2.2.1,()),x.1.2.1.2.2.2.1,()),(x.2.1.2.1.1,x.2.1.2.1.2.1,(x.2.1.2.1.2.2.1.1,x.2.1.2.1.2.2.1.2.1,x.2.1.2.1.2.2.1.2.2.1,x.2.1.2.1.2.2.1.2.2.2.1,x.2.1.2.1.2.2.1.2.2.2.2.1,()),x.2.1.2.1.2.2.2.1,()),())with
 |none=>none
 |some v1=>
 match(!v1.1)with
 |true=>
  some (false,())
 |false=>
  some (true,())
noncomputable def S_l_eqVerdict:Spec:=⟨(.pair TVerdict (.pair TVerdict .unit)),(.pair .bool .unit),.unit,rfl,l_eqVerdict⟩
noncomputable def σ_l_eqVerdict:FuncId→Option Spec:=sig [(19,S_l_eqFrame)]
theorem σok_l_eqVerdict:∀f s,σ_l_eqVerdict f=some s→FnOK G0 Tryz.prog f s:=sig_ok ⟨ok_l_eqFrame,trivial⟩
theorem ok_l_eqVerdict:FnOK G0 Tryz.prog 17 S_l_eqVerdict:=fn_okS tab0 σok_l_eqVerdict Tryz.func17 [] (by kernel_rfl) (by exact trivial) fun x=>by kernel_rfl
noncomputable def l_eqNodeInfo(x:Ty.T (.pair TNodeInfo (.pair TNodeInfo .unit))):Option (Ty.T (.pair .bool .unit)):=
match(x.1.1 != x.2.1.1)with
|true=>
 some (false,())
|false=>
 match(!(x.1.2.1==x.2.1.2.1))with
 |true=>
  some (false,())
 |false=>
  match(x.1.2.2.1 != x.2.1.2.2.1)with
  |true=>
   some (false,())
  |false=>
   match(x.1.2.2.2.1 != x.2.1.2.2.2.1)with
   |true=>
    some (false,())
   |false=>
    some (true,())
noncomputable def S_l_eqNodeInfo:Spec:=⟨(.pair TNodeInfo (.pair TNodeInfo .unit)),(.pair .bool .unit),.unit,rfl,l_eqNodeInfo⟩
noncomputable def σ_l_eqNodeInfo:FuncId→Option Spec:=sig []
theorem σok_l_eqNodeInfo:∀f s,σ_l_eqNodeInfo f=some s→FnOK G0 Tryz.prog f s:=sig_ok trivial
theorem ok_l_eqNodeInfo:FnOK G0 Tryz.prog 99 S_l_eqNodeInfo:=fn_okS tab0 σok_l_eqNodeInfo Tryz.func99 [] (by kernel_rfl) (by exact trivial) fun x=>by kernel_rfl
noncomputable def b_l_eqNodeInfoS_4(x:(Ty.T (.pair (.list TNodeInfo) (.pair (.list TNodeInfo) (.pair (.int .i64) .unit))))):Option ((Ty.T (.pair (.list TNodeInfo) (.pair (.list TNodeInfo) (.pair (.int .i64) .unit)))) ⊕ ((Ty.T .unit) ⊕ (Ty.T (.pair .bool .unit)))):=
match(decide (x.2.2.1<(x.1.length:Int)))with
|true=>
 onSome (idx x.1 x.2.2.1) fun v1=>
 onSome (idx x.2.1 x.2.2.1) fun v2=>
 match l_eqNodeInfo (v1,v2,())with
 |none=>none
 |some v3=>
 match(!v3.1)with
 |true=>
  some (.inr (.inr (false,())))
 |false=>
  some (.inl (x.1,x.2.1,(IntKind.i64.wrap (x.2.2.1+(1:Int))),()))
|false=>
 some (.inr (.inl (())))
noncomputable def l_eqNodeInfoS(x:Ty.T (.pair (.list TNodeInfo) (.pair (.list TNodeInfo) .unit))):Option (Ty.T (.pair .bool .unit)):=
match((x.1.length:Int) != (x.2.1.length:Int))with
|true=>
 some (false,())
|false=>
 match loopL b_l_eqNodeInfoS_4 (x.1,x.2.1,(0:Int),())with
 |none=>none
 |some (.inl v4)=>
  some (true,())
 |some (.inr v5)=>
  some (v5.1,())
noncomputable def S_l_eqNodeInfoS:Spec:=⟨(.pair (.list TNodeInfo) (.pair (.list TNodeInfo) .unit)),(.pair .bool .unit),.unit,rfl,l_eqNodeInfoS⟩
noncomputable def σ_l_eqNodeInfoS:FuncId→Option Spec:=sig [(99,S_l_eqNodeInfo)]
theorem σok_l_eqNodeInfoS:∀f s,σ_l_eqNodeInfoS f=some s→FnOK G0 Tryz.prog f s:=sig_ok ⟨ok_l_eqNodeInfo,trivial⟩
def q_l_eqNodeInfoS_4:LRow:=⟨[0,1,5],(.pair (.list TNodeInfo) (.pair (.list TNodeInfo) (.pair (.int .i64) .unit))),0,[],.unit,[4],(.pair .bool .unit)⟩
noncomputable def ls_l_eqNodeInfoS:List LSpec:=[q_l_eqNodeInfoS_4.spec b_l_eqNodeInfoS_4]
theorem lok_l_eqNodeInfoS_4:Lok Γ0 E0 σ_l_eqNodeInfoS (lam Tryz.f62 ls_l_eqNodeInfoS) Tryz.f62 0 q_l_eqNodeInfoS_4 b_l_eqNodeInfoS_4:=fun x=>by kernel_rfl
theorem ok_l_eqNodeInfoS:FnOK G0 Tryz.prog 62 S_l_eqNodeInfoS:=fn_okS tab0 σok_l_eqNodeInfoS Tryz.func62 ls_l_eqNodeInfoS (by kernel_rfl) (by exact⟨(lok_l_eqNodeInfoS_4).lok,trivial⟩) fun x=>by kernel_rfl
noncomputable def l_eqModeInfo(x:Ty.T (.pair TModeInfo (.pair TModeInfo .unit))):Option (Ty.T (.pair .bool .unit)):=
match(x.1.1 != x.2.1.1)with
|true=>
 some (false,())
|false=>
 match(x.1.2.1 != x.2.1.2.1)with
 |true=>
  some (false,())
 |false=>
  match l_eqInt64S (x.1.2.2.1,x.2.1.2.2.1,())with
  |none=>none
  |some v1=>
  match(!v1.1)with
  |true=>
   some (false,())
  |false=>
   some (true,())
noncomputable def S_l_eqModeInfo:Spec:=⟨(.pair TModeInfo (.pair TModeInfo .unit)),(.pair .bool .unit),.unit,rfl,l_eqModeInfo⟩
noncomputable def σ_l_eqModeInfo:FuncId→Option Spec:=sig [(65,S_l_eqInt64S)]
theorem σok_l_eqModeInfo:∀f s,σ_l_eqModeInfo f=some s→FnOK G0 Tryz.prog f s:=sig_ok ⟨ok_l_eqInt64S,trivial⟩
theorem ok_l_eqModeInfo:FnOK G0 Tryz.prog 100 S_l_eqModeInfo:=fn_okS tab0 σok_l_eqModeInfo Tryz.func100 [] (by kernel_rfl) (by exact trivial) fun x=>by kernel_rfl
noncomputable def b_l_eqModeInfoS_4(x:(Ty.T (.pair (.list TModeInfo) (.pair (.list TModeInfo) (.pair (.int .i64) .unit))))):Option ((Ty.T (.pair (.list TModeInfo) (.pair (.list TModeInfo) (.pair (.int .i64) .unit)))) ⊕ ((Ty.T .unit) ⊕ (Ty.T (.pair .bool .unit)))):=
match(decide (x.2.2.1<(x.1.length:Int)))with
|true=>
 onSome (idx x.1 x.2.2.1) fun v1=>
 onSome (idx x.2.1 x.2.2.1) fun v2=>
 match l_eqModeInfo (v1,v2,())with
 |none=>none
 |some v3=>
 match(!v3.1)with
 |true=>
  some (.inr (.inr (false,())))
 |false=>
  some (.inl (x.1,x.2.1,(IntKind.i64.wrap (x.2.2.1+(1:Int))),()))
|false=>
 some (.inr (.inl (())))
noncomputable def l_eqModeInfoS(x:Ty.T (.pair (.list TModeInfo) (.pair (.list TModeInfo) .unit))):Option (Ty.T (.pair .bool .unit)):=
match((x.1.length:Int) != (x.2.1.length:Int))with
|true=>
 some (false,())
|false=>
 match loopL b_l_eqModeInfoS_4 (x.1,x.2.1,(0:Int),())with
 |none=>none
 |some (.inl v4)=>
  some (true,())
 |some (.inr v5)=>
  some (v5.1,())
noncomputable def S_l_eqModeInfoS:Spec:=⟨(.pair (.list TModeInfo) (.pair (.list TModeInfo) .unit)),(.pair .bool .unit),.unit,rfl,l_eqModeInfoS⟩
noncomputable def σ_l_eqModeInfoS:FuncId→Option Spec:=sig [(100,S_l_eqModeInfo)]
theorem σok_l_eqModeInfoS:∀f s,σ_l_eqModeInfoS f=some s→FnOK G0 Tryz.prog f s:=sig_ok ⟨ok_l_eqModeInfo,trivial⟩
def q_l_eqModeInfoS_4:LRow:=⟨[0,1,5],(.pair (.list TModeInfo) (.pair (.list TModeInfo) (.pair (.int .i64) .unit))),0,[],.unit,[4],(.pair .bool .unit)⟩
noncomputable def ls_l_eqModeInfoS:List LSpec:=[q_l_eqModeInfoS_4.spec b_l_eqModeInfoS_4]
theorem lok_l_eqModeInfoS_4:Lok Γ0 E0 σ_l_eqModeInfoS (lam Tryz.f63 ls_l_eqModeInfoS) Tryz.f63 0 q_l_eqModeInfoS_4 b_l_eqModeInfoS_4:=fun x=>by kernel_rfl
theorem ok_l_eqModeInfoS:FnOK G0 Tryz.prog 63 S_l_eqModeInfoS:=fn_okS tab0 σok_l_eqModeInfoS Tryz.func63 ls_l_eqModeInfoS (by kernel_rfl) (by exact⟨(lok_l_eqModeInfoS_4).lok,trivial⟩) fun x=>by kernel_rfl
noncomputable def l_eqDescriptor(x:Ty.T (.pair TDescriptor (.pair TDescriptor .unit))):Option (Ty.T (.pair .bool .unit)):=
match(x.1.1 != x.2.1.1)with
|true=>
 some (false,())
|false=>
 match(x.1.2.1 != x.2.1.2.1)with
 |true=>
  some (false,())
 |false=>
  match(x.1.2.2.1 != x.2.1.2.2.1)with
  |true=>
   some (false,())
  |false=>
   match(x.1.2.2.2.1 != x.2.1.2.2.2.1)with
   |true=>
    some (false,())
   |false=>
    match(x.1.2.2.2.2.1 != x.2.1.2.2.2.2.1)with
    |true=>
     some (false,())
    |false=>
     some (true,())
noncomputable def S_l_eqDescriptor:Spec:=⟨(.pair TDescriptor (.pair TDescriptor .unit)),(.pair .bool .unit),.unit,rfl,l_eqDescriptor⟩
noncomputable def σ_l_eqDescriptor:FuncId→Option Spec:=sig []
theorem σok_l_eqDescriptor:∀f s,σ_l_eqDescriptor f=some s→FnOK G0 Tryz.prog f s:=sig_ok trivial
theorem ok_l_eqDescriptor:FnOK G0 Tryz.prog 141 S_l_eqDescriptor:=fn_okS tab0 σok_l_eqDescriptor Tryz.func141 [] (by kernel_rfl) (by exact trivial) fun x=>by kernel_rfl
noncomputable def l_eqSlotInfo(x:Ty.T (.pair TSlotInfo (.pair TSlotInfo .unit))):Option (Ty.T (.pair .bool .unit)):=
match(x.1.1 != x.2.1.1)with
|true=>
 some (false,())
|false=>
 match(x.1.2.1 != x.2.1.2.1)with
 |true=>
  some (false,())
 |false=>
  match(x.1.2.2.1 != x.2.1.2.2.1)with
  |true=>
   some (false,())
  |false=>
   match l_eqDescriptor ((x.1.2.2.2.1.1,x.1.2.2.2.1.2.1,x.1.2.2.2.1.2.2.1,x.1.2.2.2.1.2.2.2.1,x.1.2.2.2.1.2.2.2.2.1,()),(x.2.1.2.2.2.1.1,x.2.1.2.2.2.1.2.1,x.2.1.2.2.2.1.2.2.1,x.2.1.2.2.2.1.2.2.2.1,x.2.1.2.2.2.1.2.2.2.2.1,()),())with
   |none=>none
   |some v1=>
   match(!v1.1)with
   |true=>
    some (false,())
   |false=>
    some (true,())
noncomputable def S_l_eqSlotInfo:Spec:=⟨(.pair TSlotInfo (.pair TSlotInfo .unit)),(.pair .bool .unit),.unit,rfl,l_eqSlotInfo⟩
noncomputable def σ_l_eqSlotInfo:FuncId→Option Spec:=sig [(141,S_l_eqDescriptor)]
theorem σok_l_eqSlotInfo:∀f s,σ_l_eqSlotInfo f=some s→FnOK G0 Tryz.prog f s:=sig_ok ⟨ok_l_eqDescriptor,trivial⟩
theorem ok_l_eqSlotInfo:FnOK G0 Tryz.prog 101 S_l_eqSlotInfo:=fn_okS tab0 σok_l_eqSlotInfo Tryz.func101 [] (by kernel_rfl) (by exact trivial) fun x=>by kernel_rfl
noncomputable def b_l_eqSlotInfoS_4(x:(Ty.T (.pair (.list TSlotInfo) (.pair (.list TSlotInfo) (.pair (.int .i64) .unit))))):Option ((Ty.T (.pair (.list TSlotInfo) (.pair (.list TSlotInfo) (.pair (.int .i64) .unit)))) ⊕ ((Ty.T .unit) ⊕ (Ty.T (.pair .bool .unit)))):=
match(decide (x.2.2.1<(x.1.length:Int)))with
|true=>
 onSome (idx x.1 x.2.2.1) fun v1=>
 onSome (idx x.2.1 x.2.2.1) fun v2=>
 match l_eqSlotInfo (v1,v2,())with
 |none=>none
 |some v3=>
 match(!v3.1)with
 |true=>
  some (.inr (.inr (false,())))
 |false=>
  some (.inl (x.1,x.2.1,(IntKind.i64.wrap (x.2.2.1+(1:Int))),()))
|false=>
 some (.inr (.inl (())))
noncomputable def l_eqSlotInfoS(x:Ty.T (.pair (.list TSlotInfo) (.pair (.list TSlotInfo) .unit))):Option (Ty.T (.pair .bool .unit)):=
match((x.1.length:Int) != (x.2.1.length:Int))with
|true=>
 some (false,())
|false=>
 match loopL b_l_eqSlotInfoS_4 (x.1,x.2.1,(0:Int),())with
 |none=>none
 |some (.inl v4)=>
  some (true,())
 |some (.inr v5)=>
  some (v5.1,())
noncomputable def S_l_eqSlotInfoS:Spec:=⟨(.pair (.list TSlotInfo) (.pair (.list TSlotInfo) .unit)),(.pair .bool .unit),.unit,rfl,l_eqSlotInfoS⟩
noncomputable def σ_l_eqSlotInfoS:FuncId→Option Spec:=sig [(101,S_l_eqSlotInfo)]
theorem σok_l_eqSlotInfoS:∀f s,σ_l_eqSlotInfoS f=some s→FnOK G0 Tryz.prog f s:=sig_ok ⟨ok_l_eqSlotInfo,trivial⟩
def q_l_eqSlotInfoS_4:LRow:=⟨[0,1,5],(.pair (.list TSlotInfo) (.pair (.list TSlotInfo) (.pair (.int .i64) .unit))),0,[],.unit,[4],(.pair .bool .unit)⟩
noncomputable def ls_l_eqSlotInfoS:List LSpec:=[q_l_eqSlotInfoS_4.spec b_l_eqSlotInfoS_4]
theorem lok_l_eqSlotInfoS_4:Lok Γ0 E0 σ_l_eqSlotInfoS (lam Tryz.f64 ls_l_eqSlotInfoS) Tryz.f64 0 q_l_eqSlotInfoS_4 b_l_eqSlotInfoS_4:=fun x=>by kernel_rfl
theorem ok_l_eqSlotInfoS:FnOK G0 Tryz.prog 64 S_l_eqSlotInfoS:=fn_okS tab0 σok_l_eqSlotInfoS Tryz.func64 ls_l_eqSlotInfoS (by kernel_rfl) (by exact⟨(lok_l_eqSlotInfoS_4).lok,trivial⟩) fun x=>by kernel_rfl
noncomputable def l_eqMedl(x:Ty.T (.pair TMedl (.pair TMedl .unit))):Option (Ty.T (.pair .bool .unit)):=
match(x.1.1 != x.2.1.1)with
|true=>
 some (false,())
|false=>
 match l_eqNodeInfoS (x.1.2.1,x.2.1.2.1,())with
 |none=>none
 |some v1=>
 match(!v1.1)with
 |true=>
  some (false,())
 |false=>
  match l_eqModeInfoS (x.1.2.2.1,x.2.1.2.2.1,())with
  |none=>none
  |some v2=>
  match(!v2.1)with
  |true=>
   some (false,())
  |false=>
   match l_eqSlotInfoS (x.1.2.2.2.1,x.2.1.2.2.2.1,())with
   |none=>none
   |some v3=>
   match(!v3.1)with
   |true=>
    some (false,())
   |false=>
    some (true,())
noncomputable def S_l_eqMedl:Spec:=⟨(.pair TMedl (.pair TMedl .unit)),(.pair .bool .unit),.unit,rfl,l_eqMedl⟩
noncomputable def σ_l_eqMedl:FuncId→Option Spec:=sig [(62,S_l_eqNodeInfoS),(63,S_l_eqModeInfoS),(64,S_l_eqSlotInfoS)]
theorem σok_l_eqMedl:∀f s,σ_l_eqMedl f=some s→FnOK G0 Tryz.prog f s:=sig_ok ⟨ok_l_eqNodeInfoS,ok_l_eqModeInfoS,ok_l_eqSlotInfoS,trivial⟩
theorem ok_l_eqMedl:FnOK G0 Tryz.prog 18 S_l_eqMedl:=fn_okS tab0 σok_l_eqMedl Tryz.func18 [] (by kernel_rfl) (by exact trivial) fun x=>by kernel_rfl
noncomputable def l_eqFault(x:Ty.T (.pair TFault (.pair TFault .unit))):Option (Ty.T (.pair .bool .unit)):=
match(x.1.1 != x.2.1.1)with
|true=>
 some (false,())
|false=>
 match(x.1.2.1 != x.2.1.2.1)with
 |true=>
  some (false,())
 |false=>
  match(x.1.2.2.1 != x.2.1.2.2.1)with
  |true=>
   some (false,())
  |false=>
   match(x.1.2.2.2.1 != x.2.1.2.2.2.1)with
   |true=>
    some (false,())
   |false=>
    some (true,())
noncomputable def S_l_eqFault:Spec:=⟨(.pair TFault (.pair TFault .unit)),(.pair .bool .unit),.unit,rfl,l_eqFault⟩
noncomputable def σ_l_eqFault:FuncId→Option Spec:=sig []
theorem σok_l_eqFault:∀f s,σ_l_eqFault f=some s→FnOK G0 Tryz.prog f s:=sig_ok trivial
theorem ok_l_eqFault:FnOK G0 Tryz.prog 66 S_l_eqFault:=fn_okS tab0 σok_l_eqFault Tryz.func66 [] (by kernel_rfl) (by exact trivial) fun x=>by kernel_rfl
noncomputable def b_l_eqFaultS_4(x:(Ty.T (.pair (.list TFault) (.pair (.list TFault) (.pair (.int .i64) .unit))))):Option ((Ty.T (.pair (.list TFault) (.pair (.list TFault) (.pair (.int .i64) .unit)))) ⊕ ((Ty.T .unit) ⊕ (Ty.T (.pair .bool .unit)))):=
match(decide (x.2.2.1<(x.1.length:Int)))with
|true=>
 onSome (idx x.1 x.2.2.1) fun v1=>
 onSome (idx x.2.1 x.2.2.1) fun v2=>
 match l_eqFault (v1,v2,())with
 |none=>none
 |some v3=>
 match(!v3.1)with
 |true=>
  some (.inr (.inr (false,())))
 |false=>
  some (.inl (x.1,x.2.1,(IntKind.i64.wrap (x.2.2.1+(1:Int))),()))
|false=>
 some (.inr (.inl (())))
noncomputable def l_eqFaultS(x:Ty.T (.pair (.list TFault) (.pair (.list TFault) .unit))):Option (Ty.T (.pair .bool .unit)):=
match((x.1.length:Int) != (x.2.1.length:Int))with
|true=>
 some (false,())
|false=>
 match loopL b_l_eqFaultS_4 (x.1,x.2.1,(0:Int),())with
 |none=>none
 |some (.inl v4)=>
  some (true,())
 |some (.inr v5)=>
  some (v5.1,())
noncomputable def S_l_eqFaultS:Spec:=⟨(.pair (.list TFault) (.pair (.list TFault) .unit)),(.pair .bool .unit),.unit,rfl,l_eqFaultS⟩
noncomputable def σ_l_eqFaultS:FuncId→Option Spec:=sig [(66,S_l_eqFault)]
theorem σok_l_eqFaultS:∀f s,σ_l_eqFaultS f=some s→FnOK G0 Tryz.prog f s:=sig_ok ⟨ok_l_eqFault,trivial⟩
def q_l_eqFaultS_4:LRow:=⟨[0,1,5],(.pair (.list TFault) (.pair (.list TFault) (.pair (.int .i64) .unit))),0,[],.unit,[4],(.pair .bool .unit)⟩
noncomputable def ls_l_eqFaultS:List LSpec:=[q_l_eqFaultS_4.spec b_l_eqFaultS_4]
theorem lok_l_eqFaultS_4:Lok Γ0 E0 σ_l_eqFaultS (lam Tryz.f20 ls_l_eqFaultS) Tryz.f20 0 q_l_eqFaultS_4 b_l_eqFaultS_4:=fun x=>by kernel_rfl
theorem ok_l_eqFaultS:FnOK G0 Tryz.prog 20 S_l_eqFaultS:=fn_okS tab0 σok_l_eqFaultS Tryz.func20 ls_l_eqFaultS (by kernel_rfl) (by exact⟨(lok_l_eqFaultS_4).lok,trivial⟩) fun x=>by kernel_rfl
noncomputable def b_l_markText_4(x:(Ty.T (.pair (.int .i64) (.pair .str .unit)))):Option ((Ty.T (.pair (.int .i64) (.pair .str .unit))) ⊕ ((Ty.T (.pair .str .unit)) ⊕ (Ty.T .unit))):=
match(decide (x.1>(0:Int)))with
|true=>
 room ((List.map (fun n=>UInt8.ofNat (Int.toNat n)) ([(IntKind.u8.wrap (IntKind.i64.wrap ((48:Int)+(Int.tmod x.1 (10:Int)))))]:List Int)).length+x.2.1.length) (
  some (.inl ((IntKind.i64.wrap (Int.tdiv x.1 (10:Int))),((List.map (fun n=>UInt8.ofNat (Int.toNat n)) ([(IntKind.u8.wrap (IntKind.i64.wrap ((48:Int)+(Int.tmod x.1 (10:Int)))))]:List Int))++x.2.1),())))
|false=>
 some (.inr (.inl (x.2.1,())))
noncomputable def l_markText(x:Ty.T (.pair (.int .i64) .unit)):Option (Ty.T (.pair .str .unit)):=
match(decide (x.1≤(0:Int)))with
|true=>
 some (([109,48]:List UInt8),())
|false=>
 match loopL b_l_markText_4 (x.1,[],())with
 |none=>none
 |some (.inl v1)=>
  room (([109]:List UInt8).length+v1.1.length) (
   some ((([109]:List UInt8)++v1.1),()))
 |some (.inr v3)=>
  none
noncomputable def S_l_markText:Spec:=⟨(.pair (.int .i64) .unit),(.pair .str .unit),.unit,rfl,l_markText⟩
noncomputable def σ_l_markText:FuncId→Option Spec:=sig []
theorem σok_l_markText:∀f s,σ_l_markText f=some s→FnOK G0 Tryz.prog f s:=sig_ok trivial
def q_l_markText_4:LRow:=⟨[0,3],(.pair (.int .i64) (.pair .str .unit)),0,[3],(.pair .str .unit),[],.unit⟩
noncomputable def ls_l_markText:List LSpec:=[q_l_markText_4.spec b_l_markText_4]
theorem lok_l_markText_4:Lok Γ0 E0 σ_l_markText (lam Tryz.f102 ls_l_markText) Tryz.f102 0 q_l_markText_4 b_l_markText_4:=fun x=>by kernel_rfl
theorem ok_l_markText:FnOK G0 Tryz.prog 102 S_l_markText:=fn_okS tab0 σok_l_markText Tryz.func102 ls_l_markText (by kernel_rfl) (by exact⟨(lok_l_markText_4).lok,trivial⟩) fun x=>by kernel_rfl
noncomputable def b_l_markNodeInfoS_2(x:(Ty.T (.pair (.own 143 TNodeInfo) TCrc))):Option ((Ty.T (.pair (.own 143 TNodeInfo) TCrc)) ⊕ ((Ty.T (.pair (.own 143 TNodeInfo) (.pair (.int .i64) .unit))) ⊕ (Ty.T .unit))):=
match(decide (x.2.2.1<(x.1.length:Int)))with
|true=>
 onSome (idx x.1 x.2.2.1) fun _=>
 match x.1[x.2.2.1.toNat]? with
 |none=>none
 |some v2=>
 match l_markText ((IntKind.i64.wrap (x.2.1+(1:Int))),())with
 |none=>none
 |some v3=>
 onSome (idx (x.1.set x.2.2.1.toNat (x.2.1,v2.2.1,v2.2.2.1,v2.2.2.2.1,())) x.2.2.1) fun _=>
 match(x.1.set x.2.2.1.toNat (x.2.1,v2.2.1,v2.2.2.1,v2.2.2.2.1,()))[x.2.2.1.toNat]? with
 |none=>none
 |some v5=>
 onSome (idx ((x.1.set x.2.2.1.toNat (x.2.1,v2.2.1,v2.2.2.1,v2.2.2.2.1,())).set x.2.2.1.toNat (v5.1,v3.1,v5.2.2.1,v5.2.2.2.1,())) x.2.2.1) fun _=>
 match((x.1.set x.2.2.1.toNat (x.2.1,v2.2.1,v2.2.2.1,v2.2.2.2.1,())).set x.2.2.1.toNat (v5.1,v3.1,v5.2.2.1,v5.2.2.2.1,()))[x.2.2.1.toNat]? with
 |none=>none
 |some v7=>
 onSome (idx (((x.1.set x.2.2.1.toNat (x.2.1,v2.2.1,v2.2.2.1,v2.2.2.2.1,())).set x.2.2.1.toNat (v5.1,v3.1,v5.2.2.1,v5.2.2.2.1,())).set x.2.2.1.toNat (v7.1,v7.2.1,(IntKind.i64.wrap ((IntKind.i64.wrap (x.2.1+(1:Int)))+(1:Int))),v7.2.2.2.1,())) x.2.2.1) fun _=>
 match(((x.1.set x.2.2.1.toNat (x.2.1,v2.2.1,v2.2.2.1,v2.2.2.2.1,())).set x.2.2.1.toNat (v5.1,v3.1,v5.2.2.1,v5.2.2.2.1,())).set x.2.2.1.toNat (v7.1,v7.2.1,(IntKind.i64.wrap ((IntKind.i64.wrap (x.2.1+(1:Int)))+(1:Int))),v7.2.2.2.1,()))[x.2.2.1.toNat]? with
 |none=>none
 |some v9=>
 some (.inl (((((x.1.set x.2.2.1.toNat (x.2.1,v2.2.1,v2.2.2.1,v2.2.2.2.1,())).set x.2.2.1.toNat (v5.1,v3.1,v5.2.2.1,v5.2.2.2.1,())).set x.2.2.1.toNat (v7.1,v7.2.1,(IntKind.i64.wrap ((IntKind.i64.wrap (x.2.1+(1:Int)))+(1:Int))),v7.2.2.2.1,())).set x.2.2.1.toNat (v9.1,v9.2.1,v9.2.2.1,((Int.tmod (IntKind.i64.wrap ((IntKind.i64.wrap ((IntKind.i64.wrap (x.2.1+(1:Int)))+(1:Int)))+(1:Int))) (3:Int))==(0:Int)),())),(IntKind.i64.wrap ((IntKind.i64.wrap ((IntKind.i64.wrap ((IntKind.i64.wrap (x.2.1+(1:Int)))+(1:Int)))+(1:Int)))+(1:Int))),(IntKind.i64.wrap (x.2.2.1+(1:Int))),()))
|false=>
 some (.inr (.inl (x.1,x.2.1,())))
noncomputable def l_markNodeInfoS(x:Ty.T (.pair (.own 143 TNodeInfo) (.pair (.int .i64) .unit))):Option (Ty.T (.pair (.int .i64) (.pair (.own 143 TNodeInfo) .unit))):=
match loopL b_l_markNodeInfoS_2 (x.1,x.2.1,(0:Int),())with
|none=>none
|some (.inl v10)=>
 some (v10.2.1,v10.1,())
|some (.inr v12)=>
 none
noncomputable def S_l_markNodeInfoS:Spec:=⟨(.pair (.own 143 TNodeInfo) (.pair (.int .i64) .unit)),(.pair (.int .i64) .unit),(.pair (.own 143 TNodeInfo) .unit),rfl,l_markNodeInfoS⟩
noncomputable def σ_l_markNodeInfoS:FuncId→Option Spec:=sig [(102,S_l_markText)]
theorem σok_l_markNodeInfoS:∀f s,σ_l_markNodeInfoS f=some s→FnOK G0 Tryz.prog f s:=sig_ok ⟨ok_l_markText,trivial⟩
def q_l_markNodeInfoS_2:LRow:=⟨[0,1,5],(.pair (.own 143 TNodeInfo) TCrc),0,[0,1],(.pair (.own 143 TNodeInfo) (.pair (.int .i64) .unit)),[],.unit⟩
noncomputable def ls_l_markNodeInfoS:List LSpec:=[q_l_markNodeInfoS_2.spec b_l_markNodeInfoS_2]
theorem lok_l_markNodeInfoS_2:Lok Γ0 E0 σ_l_markNodeInfoS (lam Tryz.f67 ls_l_markNodeInfoS) Tryz.f67 0 q_l_markNodeInfoS_2 b_l_markNodeInfoS_2:=fun x=>by kernel_rfl
theorem ok_l_markNodeInfoS:FnOK G0 Tryz.prog 67 S_l_markNodeInfoS:=fn_okS tab0 σok_l_markNodeInfoS Tryz.func67 ls_l_markNodeInfoS (by kernel_rfl) (by exact⟨(lok_l_markNodeInfoS_2).lok,trivial⟩) fun x=>by kernel_rfl
noncomputable def b_l_markInt64S_2(x:(Ty.T (.pair (.own 2 (.int .i64)) TCrc))):Option ((Ty.T (.pair (.own 2 (.int .i64)) TCrc)) ⊕ ((Ty.T (.pair (.own 2 (.int .i64)) (.pair (.int .i64) .unit))) ⊕ (Ty.T .unit))):=
match(decide (x.2.2.1<(x.1.length:Int)))with
|true=>
 onSome (idx x.1 x.2.2.1) fun _=>
 match x.1[x.2.2.1.toNat]? with
 |none=>none
 |some v2=>
 some (.inl ((x.1.set x.2.2.1.toNat x.2.1),(IntKind.i64.wrap (x.2.1+(1:Int))),(IntKind.i64.wrap (x.2.2.1+(1:Int))),()))
|false=>
 some (.inr (.inl (x.1,x.2.1,())))
noncomputable def l_markInt64S(x:Ty.T (.pair (.own 2 (.int .i64)) (.pair (.int .i64) .unit))):Option (Ty.T (.pair (.int .i64) (.pair (.own 2 (.int .i64)) .unit))):=
match loopL b_l_markInt64S_2 (x.1,x.2.1,(0:Int),())with
|none=>none
|some (.inl v3)=>
 some (v3.2.1,v3.1,())
|some (.inr v5)=>
 none
noncomputable def S_l_markInt64S:Spec:=⟨(.pair (.own 2 (.int .i64)) (.pair (.int .i64) .unit)),(.pair (.int .i64) .unit),(.pair (.own 2 (.int .i64)) .unit),rfl,l_markInt64S⟩
noncomputable def σ_l_markInt64S:FuncId→Option Spec:=sig []
theorem σok_l_markInt64S:∀f s,σ_l_markInt64S f=some s→FnOK G0 Tryz.prog f s:=sig_ok trivial
def q_l_markInt64S_2:LRow:=⟨[0,1,5],(.pair (.own 2 (.int .i64)) TCrc),0,[0,1],(.pair (.own 2 (.int .i64)) (.pair (.int .i64) .unit)),[],.unit⟩
noncomputable def ls_l_markInt64S:List LSpec:=[q_l_markInt64S_2.spec b_l_markInt64S_2]
theorem lok_l_markInt64S_2:Lok Γ0 E0 σ_l_markInt64S (lam Tryz.f70 ls_l_markInt64S) Tryz.f70 0 q_l_markInt64S_2 b_l_markInt64S_2:=fun x=>by kernel_rfl
theorem ok_l_markInt64S:FnOK G0 Tryz.prog 70 S_l_markInt64S:=fn_okS tab0 σok_l_markInt64S Tryz.func70 ls_l_markInt64S (by kernel_rfl) (by exact⟨(lok_l_markInt64S_2).lok,trivial⟩) fun x=>by kernel_rfl
noncomputable def b_l_markModeInfoS_2(x:(Ty.T (.pair (.own 145 (.pair (.int .i64) (.pair (.int .i64) (.pair (.own 2 (.int .i64)) .unit)))) TCrc))):Option ((Ty.T (.pair (.own 145 (.pair (.int .i64) (.pair (.int .i64) (.pair (.own 2 (.int .i64)) .unit)))) TCrc)) ⊕ ((Ty.T (.pair (.own 145 (.pair (.int .i64) (.pair (.int .i64) (.pair (.own 2 (.int .i64)) .unit)))) (.pair (.int .i64) .unit))) ⊕ (Ty.T .unit))):=
match(decide (x.2.2.1<(x.1.length:Int)))with
|true=>
 onSome (idx x.1 x.2.2.1) fun _=>
 match x.1[x.2.2.1.toNat]? with
 |none=>none
 |some v2=>
 onSome (idx (x.1.set x.2.2.1.toNat (x.2.1,v2.2)) x.2.2.1) fun _=>
 match(x.1.set x.2.2.1.toNat (x.2.1,v2.2))[x.2.2.1.toNat]? with
 |none=>none
 |some v4=>
 onSome (idx ((x.1.set x.2.2.1.toNat (x.2.1,v2.2)).set x.2.2.1.toNat (v4.1,((IntKind.i64.wrap (x.2.1+(1:Int))),v4.2.2))) x.2.2.1) fun _=>
 match((x.1.set x.2.2.1.toNat (x.2.1,v2.2)).set x.2.2.1.toNat (v4.1,((IntKind.i64.wrap (x.2.1+(1:Int))),v4.2.2)))[x.2.2.1.toNat]? with
 |none=>none
 |some v6=>
 match l_markInt64S (v6.2.2.1,(IntKind.i64.wrap ((IntKind.i64.wrap (x.2.1+(1:Int)))+(1:Int))),())with
 |none=>none
 |some v7=>
 some (.inl ((((x.1.set x.2.2.1.toNat (x.2.1,v2.2)).set x.2.2.1.toNat (v4.1,((IntKind.i64.wrap (x.2.1+(1:Int))),v4.2.2))).set x.2.2.1.toNat (v6.1,(v6.2.1,(v7.2.1,v6.2.2.2)))),v7.1,(IntKind.i64.wrap (x.2.2.1+(1:Int))),()))
|false=>
 some (.inr (.inl (x.1,x.2.1,())))
noncomputable def l_markModeInfoS(x:Ty.T (.pair (.own 145 (.pair (.int .i64) (.pair (.int .i64) (.pair (.own 2 (.int .i64)) .unit)))) (.pair (.int .i64) .unit))):Option (Ty.T (.pair (.int .i64) (.pair (.own 145 (.pair (.int .i64) (.pair (.int .i64) (.pair (.own 2 (.int .i64)) .unit)))) .unit))):=
match loopL b_l_markModeInfoS_2 (x.1,x.2.1,(0:Int),())with
|none=>none
|some (.inl v8)=>
 some (v8.2.1,v8.1,())
|some (.inr v10)=>
 none
noncomputable def S_l_markModeInfoS:Spec:=⟨(.pair (.own 145 (.pair (.int .i64) (.pair (.int .i64) (.pair (.own 2 (.int .i64)) .unit)))) (.pair (.int .i64) .unit)),(.pair (.int .i64) .unit),(.pair (.own 145 (.pair (.int .i64) (.pair (.int .i64) (.pair (.own 2 (.int .i64)) .unit)))) .unit),rfl,l_markModeInfoS⟩
noncomputable def σ_l_markModeInfoS:FuncId→Option Spec:=sig [(70,S_l_markInt64S)]
theorem σok_l_markModeInfoS:∀f s,σ_l_markModeInfoS f=some s→FnOK G0 Tryz.prog f s:=sig_ok ⟨ok_l_markInt64S,trivial⟩
def q_l_markModeInfoS_2:LRow:=⟨[0,1,5],(.pair (.own 145 (.pair (.int .i64) (.pair (.int .i64) (.pair (.own 2 (.int .i64)) .unit)))) TCrc),0,[0,1],(.pair (.own 145 (.pair (.int .i64) (.pair (.int .i64) (.pair (.own 2 (.int .i64)) .unit)))) (.pair (.int .i64) .unit)),[],.unit⟩
noncomputable def ls_l_markModeInfoS:List LSpec:=[q_l_markModeInfoS_2.spec b_l_markModeInfoS_2]
theorem lok_l_markModeInfoS_2:Lok Γ1 E1 σ_l_markModeInfoS (lam Tryz.f68 ls_l_markModeInfoS) Tryz.f68 0 q_l_markModeInfoS_2 b_l_markModeInfoS_2:=fun x=>by kernel_rfl
theorem ok_l_markModeInfoS:FnOK G0 Tryz.prog 68 S_l_markModeInfoS:=fn_okS tab1 σok_l_markModeInfoS Tryz.func68 ls_l_markModeInfoS (by kernel_rfl) (by exact⟨(lok_l_markModeInfoS_2).lok,trivial⟩) fun x=>by kernel_rfl
noncomputable def b_l_markSlotInfoS_2(x:(Ty.T (.pair (.own 148 TSlotInfo) TCrc))):Option ((Ty.T (.pair (.own 148 TSlotInfo) TCrc)) ⊕ ((Ty.T (.pair (.own 148 TSlotInfo) (.pair (.int .i64) .unit))) ⊕ (Ty.T .unit))):=
match(decide (x.2.2.1<(x.1.length:Int)))with
|true=>
 onSome (idx x.1 x.2.2.1) fun _=>
 match x.1[x.2.2.1.toNat]? with
 |none=>none
 |some v2=>
 onSome (idx (x.1.set x.2.2.1.toNat (x.2.1,v2.2.1,v2.2.2.1,(v2.2.2.2.1.1,v2.2.2.2.1.2.1,v2.2.2.2.1.2.2.1,v2.2.2.2.1.2.2.2.1,v2.2.2.2.1.2.2.2.2.1,()),())) x.2.2.1) fun _=>
 match(x.1.set x.2.2.1.toNat (x.2.1,v2.2.1,v2.2.2.1,(v2.2.2.2.1.1,v2.2.2.2.1.2.1,v2.2.2.2.1.2.2.1,v2.2.2.2.1.2.2.2.1,v2.2.2.2.1.2.2.2.2.1,()),()))[x.2.2.1.toNat]? with
 |none=>none
 |some v4=>
 onSome (idx ((x.1.set x.2.2.1.toNat (x.2.1,v2.2.1,v2.2.2.1,(v2.2.2.2.1.1,v2.2.2.2.1.2.1,v2.2.2.2.1.2.2.1,v2.2.2.2.1.2.2.2.1,v2.2.2.2.1.2.2.2.2.1,()),())).set x.2.2.1.toNat (v4.1,(IntKind.i64.wrap (x.2.1+(1:Int))),v4.2.2.1,(v4.2.2.2.1.1,v4.2.2.2.1.2.1,v4.2.2.2.1.2.2.1,v4.2.2.2.1.2.2.2.1,v4.2.2.2.1.2.2.2.2.1,()),())) x.2.2.1) fun _=>
 match((x.1.set x.2.2.1.toNat (x.2.1,v2.2.1,v2.2.2.1,(v2.2.2.2.1.1,v2.2.2.2.1.2.1,v2.2.2.2.1.2.2.1,v2.2.2.2.1.2.2.2.1,v2.2.2.2.1.2.2.2.2.1,()),())).set x.2.2.1.toNat (v4.1,(IntKind.i64.wrap (x.2.1+(1:Int))),v4.2.2.1,(v4.2.2.2.1.1,v4.2.2.2.1.2.1,v4.2.2.2.1.2.2.1,v4.2.2.2.1.2.2.2.1,v4.2.2.2.1.2.2.2.2.1,()),()))[x.2.2.1.toNat]? with
 |none=>none
 |some v6=>
 onSome (idx (((x.1.set x.2.2.1.toNat (x.2.1,v2.2.1,v2.2.2.1,(v2.2.2.2.1.1,v2.2.2.2.1.2.1,v2.2.2.2.1.2.2.1,v2.2.2.2.1.2.2.2.1,v2.2.2.2.1.2.2.2.2.1,()),())).set x.2.2.1.toNat (v4.1,(IntKind.i64.wrap (x.2.1+(1:Int))),v4.2.2.1,(v4.2.2.2.1.1,v4.2.2.2.1.2.1,v4.2.2.2.1.2.2.1,v4.2.2.2.1.2.2.2.1,v4.2.2.2.1.2.2.2.2.1,()),())).set x.2.2.1.toNat (v6.1,v6.2.1,(IntKind.i64.wrap ((IntKind.i64.wrap (x.2.1+(1:Int)))+(1:Int))),(v6.2.2.2.1.1,v6.2.2.2.1.2.1,v6.2.2.2.1.2.2.1,v6.2.2.2.1.2.2.2.1,v6.2.2.2.1.2.2.2.2.1,()),())) x.2.2.1) fun _=>
 match(((x.1.set x.2.2.1.toNat (x.2.1,v2.2.1,v2.2.2.1,(v2.2.2.2.1.1,v2.2.2.2.1.2.1,v2.2.2.2.1.2.2.1,v2.2.2.2.1.2.2.2.1,v2.2.2.2.1.2.2.2.2.1,()),())).set x.2.2.1.toNat (v4.1,(IntKind.i64.wrap (x.2.1+(1:Int))),v4.2.2.1,(v4.2.2.2.1.1,v4.2.2.2.1.2.1,v4.2.2.2.1.2.2.1,v4.2.2.2.1.2.2.2.1,v4.2.2.2.1.2.2.2.2.1,()),())).set x.2.2.1.toNat (v6.1,v6.2.1,(IntKind.i64.wrap ((IntKind.i64.wrap (x.2.1+(1:Int)))+(1:Int))),(v6.2.2.2.1.1,v6.2.2.2.1.2.1,v6.2.2.2.1.2.2.1,v6.2.2.2.1.2.2.2.1,v6.2.2.2.1.2.2.2.2.1,()),()))[x.2.2.1.toNat]? with
 |none=>none
 |some v8=>
 onSome (idx ((((x.1.set x.2.2.1.toNat (x.2.1,v2.2.1,v2.2.2.1,(v2.2.2.2.1.1,v2.2.2.2.1.2.1,v2.2.2.2.1.2.2.1,v2.2.2.2.1.2.2.2.1,v2.2.2.2.1.2.2.2.2.1,()),())).set x.2.2.1.toNat (v4.1,(IntKind.i64.wrap (x.2.1+(1:Int))),v4.2.2.1,(v4.2.2.2.1.1,v4.2.2.2.1.2.1,v4.2.2.2.1.2.2.1,v4.2.2.2.1.2.2.2.1,v4.2.2.2.1.2.2.2.2.1,()),())).set x.2.2.1.toNat (v6.1,v6.2.1,(IntKind.i64.wrap ((IntKind.i64.wrap (x.2.1+(1:Int)))+(1:Int))),(v6.2.2.2.1.1,v6.2.2.2.1.2.1,v6.2.2.2.1.2.2.1,v6.2.2.2.1.2.2.2.1,v6.2.2.2.1.2.2.2.2.1,()),())).set x.2.2.1.toNat (v8.1,v8.2.1,v8.2.2.1,((IntKind.i64.wrap ((IntKind.i64.wrap ((IntKind.i64.wrap (x.2.1+(1:Int)))+(1:Int)))+(1:Int))),v8.2.2.2.1.2.1,v8.2.2.2.1.2.2.1,v8.2.2.2.1.2.2.2.1,v8.2.2.2.1.2.2.2.2.1,()),())) x.2.2.1) fun _=>
 match((((x.1.set x.2.2.1.toNat (x.2.1,v2.2.1,v2.2.2.1,(v2.2.2.2.1.1,v2.2.2.2.1.2.1,v2.2.2.2.1.2.2.1,v2.2.2.2.1.2.2.2.1,v2.2.2.2.1.2.2.2.2.1,()),())).set x.2.2.1.toNat (v4.1,(IntKind.i64.wrap (x.2.1+(1:Int))),v4.2.2.1,(v4.2.2.2.1.1,v4.2.2.2.1.2.1,v4.2.2.2.1.2.2.1,v4.2.2.2.1.2.2.2.1,v4.2.2.2.1.2.2.2.2.1,()),())).set x.2.2.1.toNat (v6.1,v6.2.1,(IntKind.i64.wrap ((IntKind.i64.wrap (x.2.1+(1:Int)))+(1:Int))),(v6.2.2.2.1.1,v6.2.2.2.1.2.1,v6.2.2.2.1.2.2.1,v6.2.2.2.1.2.2.2.1,v6.2.2.2.1.2.2.2.2.1,()),())).set x.2.2.1.toNat (v8.1,v8.2.1,v8.2.2.1,((IntKind.i64.wrap ((IntKind.i64.wrap ((IntKind.i64.wrap (x.2.1+(1:Int)))+(1:Int)))+(1:Int))),v8.2.2.2.1.2.1,v8.2.2.2.1.2.2.1,v8.2.2.2.1.2.2.2.1,v8.2.2.2.1.2.2.2.2.1,()),()))[x.2.2.1.toNat]? with
 |none=>none
 |some v10=>
 onSome (idx (((((x.1.set x.2.2.1.toNat (x.2.1,v2.2.1,v2.2.2.1,(v2.2.2.2.1.1,v2.2.2.2.1.2.1,v2.2.2.2.1.2.2.1,v2.2.2.2.1.2.2.2.1,v2.2.2.2.1.2.2.2.2.1,()),())).set x.2.2.1.toNat (v4.1,(IntKind.i64.wrap (x.2.1+(1:Int))),v4.2.2.1,(v4.2.2.2.1.1,v4.2.2.2.1.2.1,v4.2.2.2.1.2.2.1,v4.2.2.2.1.2.2.2.1,v4.2.2.2.1.2.2.2.2.1,()),())).set x.2.2.1.toNat (v6.1,v6.2.1,(IntKind.i64.wrap ((IntKind.i64.wrap (x.2.1+(1:Int)))+(1:Int))),(v6.2.2.2.1.1,v6.2.2.2.1.2.1,v6.2.2.2.1.2.2.1,v6.2.2.2.1.2.2.2.1,v6.2.2.2.1.2.2.2.2.1,()),())).set x.2.2.1.toNat (v8.1,v8.2.1,v8.2.2.1,((IntKind.i64.wrap ((IntKind.i64.wrap ((IntKind.i64.wrap (x.2.1+(1:Int)))+(1:Int)))+(1:Int))),v8.2.2.2.1.2.1,v8.2.2.2.1.2.2.1,v8.2.2.2.1.2.2.2.1,v8.2.2.2.1.2.2.2.2.1,()),())).set x.2.2.1.toNat (v10.1,v10.2.1,v10.2.2.1,(v10.2.2.2.1.1,(IntKind.i64.wrap ((IntKind.i64.wrap ((IntKind.i64.wrap ((IntKind.i64.wrap (x.2.1+(1:Int)))+(1:Int)))+(1:Int)))+(1:Int))),v10.2.2.2.1.2.2.1,v10.2.2.2.1.2.2.2.1,v10.2.2.2.1.2.2.2.2.1,()),())) x.2.2.1) fun _=>
 match(((((x.1.set x.2.2.1.toNat (x.2.1,v2.2.1,v2.2.2.1,(v2.2.2.2.1.1,v2.2.2.2.1.2.1,v2.2.2.2.1.2.2.1,v2.2.2.2.1.2.2.2.1,v2.2.2.2.1.2.2.2.2.1,()),())).set x.2.2.1.toNat (v4.1,(IntKind.i64.wrap (x.2.1+(1:Int))),v4.2.2.1,(v4.2.2.2.1.1,v4.2.2.2.1.2.1,v4.2.2.2.1.2.2.1,v4.2.2.2.1.2.2.2.1,v4.2.2.2.1.2.2.2.2.1,()),())).set x.2.2.1.toNat (v6.1,v6.2.1,(IntKind.i64.wrap ((IntKind.i64.wrap (x.2.1+(1:Int)))+(1:Int))),(v6.2.2.2.1.1,v6.2.2.2.1.2.1,v6.2.2.2.1.2.2.1,v6.2.2.2.1.2.2.2.1,v6.2.2.2.1.2.2.2.2.1,()),())).set x.2.2.1.toNat (v8.1,v8.2.1,v8.2.2.1,((IntKind.i64.wrap ((IntKind.i64.wrap ((IntKind.i64.wrap (x.2.1+(1:Int)))+(1:Int)))+(1:Int))),v8.2.2.2.1.2.1,v8.2.2.2.1.2.2.1,v8.2.2.2.1.2.2.2.1,v8.2.2.2.1.2.2.2.2.1,()),())).set x.2.2.1.toNat (v10.1,v10.2.1,v10.2.2.1,(v10.2.2.2.1.1,(IntKind.i64.wrap ((IntKind.i64.wrap ((IntKind.i64.wrap ((IntKind.i64.wrap (x.2.1+(1:Int)))+(1:Int)))+(1:Int)))+(1:Int))),v10.2.2.2.1.2.2.1,v10.2.2.2.1.2.2.2.1,v10.2.2.2.1.2.2.2.2.1,()),()))[x.2.2.1.toNat]? with
 |none=>none
 |some v12=>
 onSome (idx ((((((x.1.set x.2.2.1.toNat (x.2.1,v2.2.1,v2.2.2.1,(v2.2.2.2.1.1,v2.2.2.2.1.2.1,v2.2.2.2.1.2.2.1,v2.2.2.2.1.2.2.2.1,v2.2.2.2.1.2.2.2.2.1,()),())).set x.2.2.1.toNat (v4.1,(IntKind.i64.wrap (x.2.1+(1:Int))),v4.2.2.1,(v4.2.2.2.1.1,v4.2.2.2.1.2.1,v4.2.2.2.1.2.2.1,v4.2.2.2.1.2.2.2.1,v4.2.2.2.1.2.2.2.2.1,()),())).set x.2.2.1.toNat (v6.1,v6.2.1,(IntKind.i64.wrap ((IntKind.i64.wrap (x.2.1+(1:Int)))+(1:Int))),(v6.2.2.2.1.1,v6.2.2.2.1.2.1,v6.2.2.2.1.2.2.1,v6.2.2.2.1.2.2.2.1,v6.2.2.2.1.2.2.2.2.1,()),())).set x.2.2.1.toNat (v8.1,v8.2.1,v8.2.2.1,((IntKind.i64.wrap ((IntKind.i64.wrap ((IntKind.i64.wrap (x.2.1+(1:Int)))+(1:Int)))+(1:Int))),v8.2.2.2.1.2.1,v8.2.2.2.1.2.2.1,v8.2.2.2.1.2.2.2.1,v8.2.2.2.1.2.2.2.2.1,()),())).set x.2.2.1.toNat (v10.1,v10.2.1,v10.2.2.1,(v10.2.2.2.1.1,(IntKind.i64.wrap ((IntKind.i64.wrap ((IntKind.i64.wrap ((IntKind.i64.wrap (x.2.1+(1:Int)))+(1:Int)))+(1:Int)))+(1:Int))),v10.2.2.2.1.2.2.1,v10.2.2.2.1.2.2.2.1,v10.2.2.2.1.2.2.2.2.1,()),())).set x.2.2.1.toNat (v12.1,v12.2.1,v12.2.2.1,(v12.2.2.2.1.1,v12.2.2.2.1.2.1,(IntKind.i64.wrap ((IntKind.i64.wrap ((IntKind.i64.wrap ((IntKind.i64.wrap ((IntKind.i64.wrap (x.2.1+(1:Int)))+(1:Int)))+(1:Int)))+(1:Int)))+(1:Int))),v12.2.2.2.1.2.2.2.1,v12.2.2.2.1.2.2.2.2.1,()),())) x.2.2.1) fun _=>
 match((((((x.1.set x.2.2.1.toNat (x.2.1,v2.2.1,v2.2.2.1,(v2.2.2.2.1.1,v2.2.2.2.1.2.1,v2.2.2.2.1.2.2.1,v2.2.2.2.1.2.2.2.1,v2.2.2.2.1.2.2.2.2.1,()),())).set x.2.2.1.toNat (v4.1,(IntKind.i64.wrap (x.2.1+(1:Int))),v4.2.2.1,(v4.2.2.2.1.1,v4.2.2.2.1.2.1,v4.2.2.2.1.2.2.1,v4.2.2.2.1.2.2.2.1,v4.2.2.2.1.2.2.2.2.1,()),())).set x.2.2.1.toNat (v6.1,v6.2.1,(IntKind.i64.wrap ((IntKind.i64.wrap (x.2.1+(1:Int)))+(1:Int))),(v6.2.2.2.1.1,v6.2.2.2.1.2.1,v6.2.2.2.1.2.2.1,v6.2.2.2.1.2.2.2.1,v6.2.2.2.1.2.2.2.2.1,()),())).set x.2.2.1.toNat (v8.1,v8.2.1,v8.2.2.1,((IntKind.i64.wrap ((IntKind.i64.wrap ((IntKind.i64.wrap (x.2.1+(1:Int)))+(1:Int)))+(1:Int))),v8.2.2.2.1.2.1,v8.2.2.2.1.2.2.1,v8.2.2.2.1.2.2.2.1,v8.2.2.2.1.2.2.2.2.1,()),())).set x.2.2.1.toNat (v10.1,v10.2.1,v10.2.2.1,(v10.2.2.2.1.1,(IntKind.i64.wrap ((IntKind.i64.wrap ((IntKind.i64.wrap ((IntKind.i64.wrap (x.2.1+(1:Int)))+(1:Int)))+(1:Int)))+(1:Int))),v10.2.2.2.1.2.2.1,v10.2.2.2.1.2.2.2.1,v10.2.2.2.1.2.2.2.2.1,()),())).set x.2.2.1.toNat (v12.1,v12.2.1,v12.2.2.1,(v12.2.2.2.1.1,v12.2.2.2.1.2.1,(IntKind.i64.wrap ((IntKind.i64.wrap ((IntKind.i64.wrap ((IntKind.i64.wrap ((IntKind.i64.wrap (x.2.1+(1:Int)))+(1:Int)))+(1:Int)))+(1:Int)))+(1:Int))),v12.2.2.2.1.2.2.2.1,v12.2.2.2.1.2.2.2.2.1,()),()))[x.2.2.1.toNat]? with
 |none=>none
 |some v14=>
 onSome (idx (((((((x.1.set x.2.2.1.toNat (x.2.1,v2.2.1,v2.2.2.1,(v2.2.2.2.1.1,v2.2.2.2.1.2.1,v2.2.2.2.1.2.2.1,v2.2.2.2.1.2.2.2.1,v2.2.2.2.1.2.2.2.2.1,()),())).set x.2.2.1.toNat (v4.1,(IntKind.i64.wrap (x.2.1+(1:Int))),v4.2.2.1,(v4.2.2.2.1.1,v4.2.2.2.1.2.1,v4.2.2.2.1.2.2.1,v4.2.2.2.1.2.2.2.1,v4.2.2.2.1.2.2.2.2.1,()),())).set x.2.2.1.toNat (v6.1,v6.2.1,(IntKind.i64.wrap ((IntKind.i64.wrap (x.2.1+(1:Int)))+(1:Int))),(v6.2.2.2.1.1,v6.2.2.2.1.2.1,v6.2.2.2.1.2.2.1,v6.2.2.2.1.2.2.2.1,v6.2.2.2.1.2.2.2.2.1,()),())).set x.2.2.1.toNat (v8.1,v8.2.1,v8.2.2.1,((IntKind.i64.wrap ((IntKind.i64.wrap ((IntKind.i64.wrap (x.2.1+(1:Int)))+(1:Int)))+(1:Int))),v8.2.2.2.1.2.1,v8.2.2.2.1.2.2.1,v8.2.2.2.1.2.2.2.1,v8.2.2.2.1.2.2.2.2.1,()),())).set x.2.2.1.toNat (v10.1,v10.2.1,v10.2.2.1,(v10.2.2.2.1.1,(IntKind.i64.wrap ((IntKind.i64.wrap ((IntKind.i64.wrap ((IntKind.i64.wrap (x.2.1+(1:Int)))+(1:Int)))+(1:Int)))+(1:Int))),v10.2.2.2.1.2.2.1,v10.2.2.2.1.2.2.2.1,v10.2.2.2.1.2.2.2.2.1,()),())).set x.2.2.1.toNat (v12.1,v12.2.1,v12.2.2.1,(v12.2.2.2.1.1,v12.2.2.2.1.2.1,(IntKind.i64.wrap ((IntKind.i64.wrap ((IntKind.i64.wrap ((IntKind.i64.wrap ((IntKind.i64.wrap (x.2.1+(1:Int)))+(1:Int)))+(1:Int)))+(1:Int)))+(1:Int))),v12.2.2.2.1.2.2.2.1,v12.2.2.2.1.2.2.2.2.1,()),())).set x.2.2.1.toNat (v14.1,v14.2.1,v14.2.2.1,(v14.2.2.2.1.1,v14.2.2.2.1.2.1,v14.2.2.2.1.2.2.1,(IntKind.i64.wrap ((IntKind.i64.wrap ((IntKind.i64.wrap ((IntKind.i64.wrap ((IntKind.i64.wrap ((IntKind.i64.wrap (x.2.1+(1:Int)))+(1:Int)))+(1:Int)))+(1:Int)))+(1:Int)))+(1:Int))),v14.2.2.2.1.2.2.2.2.1,()),())) x.2.2.1) fun _=>
 match(((((((x.1.set x.2.2.1.toNat (x.2.1,v2.2.1,v2.2.2.1,(v2.2.2.2.1.1,v2.2.2.2.1.2.1,v2.2.2.2.1.2.2.1,v2.2.2.2.1.2.2.2.1,v2.2.2.2.1.2.2.2.2.1,()),())).set x.2.2.1.toNat (v4.1,(IntKind.i64.wrap (x.2.1+(1:Int))),v4.2.2.1,(v4.2.2.2.1.1,v4.2.2.2.1.2.1,v4.2.2.2.1.2.2.1,v4.2.2.2.1.2.2.2.1,v4.2.2.2.1.2.2.2.2.1,()),())).set x.2.2.1.toNat (v6.1,v6.2.1,(IntKind.i64.wrap ((IntKind.i64.wrap (x.2.1+(1:Int)))+(1:Int))),(v6.2.2.2.1.1,v6.2.2.2.1.2.1,v6.2.2.2.1.2.2.1,v6.2.2.2.1.2.2.2.1,v6.2.2.2.1.2.2.2.2.1,()),())).set x.2.2.1.toNat (v8.1,v8.2.1,v8.2.2.1,((IntKind.i64.wrap ((IntKind.i64.wrap ((IntKind.i64.wrap (x.2.1+(1:Int)))+(1:Int)))+(1:Int))),v8.2.2.2.1.2.1,v8.2.2.2.1.2.2.1,v8.2.2.2.1.2.2.2.1,v8.2.2.2.1.2.2.2.2.1,()),())).set x.2.2.1.toNat (v10.1,v10.2.1,v10.2.2.1,(v10.2.2.2.1.1,(IntKind.i64.wrap ((IntKind.i64.wrap ((IntKind.i64.wrap ((IntKind.i64.wrap (x.2.1+(1:Int)))+(1:Int)))+(1:Int)))+(1:Int))),v10.2.2.2.1.2.2.1,v10.2.2.2.1.2.2.2.1,v10.2.2.2.1.2.2.2.2.1,()),())).set x.2.2.1.toNat (v12.1,v12.2.1,v12.2.2.1,(v12.2.2.2.1.1,v12.2.2.2.1.2.1,(IntKind.i64.wrap ((IntKind.i64.wrap ((IntKind.i64.wrap ((IntKind.i64.wrap ((IntKind.i64.wrap (x.2.1+(1:Int)))+(1:Int)))+(1:Int)))+(1:Int)))+(1:Int))),v12.2.2.2.1.2.2.2.1,v12.2.2.2.1.2.2.2.2.1,()),())).set x.2.2.1.toNat (v14.1,v14.2.1,v14.2.2.1,(v14.2.2.2.1.1,v14.2.2.2.1.2.1,v14.2.2.2.1.2.2.1,(IntKind.i64.wrap ((IntKind.i64.wrap ((IntKind.i64.wrap ((IntKind.i64.wrap ((IntKind.i64.wrap ((IntKind.i64.wrap (x.2.1+(1:Int)))+(1:Int)))+(1:Int)))+(1:Int)))+(1:Int)))+(1:Int))),v14.2.2.2.1.2.2.2.2.1,()),()))[x.2.2.1.toNat]? with
 |none=>none
 |some v16=>
 some (.inl (((((((((x.1.set x.2.2.1.toNat (x.2.1,v2.2.1,v2.2.2.1,(v2.2.2.2.1.1,v2.2.2.2.1.2.1,v2.2.2.2.1.2.2.1,v2.2.2.2.1.2.2.2.1,v2.2.2.2.1.2.2.2.2.1,()),())).set x.2.2.1.toNat (v4.1,(IntKind.i64.wrap (x.2.1+(1:Int))),v4.2.2.1,(v4.2.2.2.1.1,v4.2.2.2.1.2.1,v4.2.2.2.1.2.2.1,v4.2.2.2.1.2.2.2.1,v4.2.2.2.1.2.2.2.2.1,()),())).set x.2.2.1.toNat (v6.1,v6.2.1,(IntKind.i64.wrap ((IntKind.i64.wrap (x.2.1+(1:Int)))+(1:Int))),(v6.2.2.2.1.1,v6.2.2.2.1.2.1,v6.2.2.2.1.2.2.1,v6.2.2.2.1.2.2.2.1,v6.2.2.2.1.2.2.2.2.1,()),())).set x.2.2.1.toNat (v8.1,v8.2.1,v8.2.2.1,((IntKind.i64.wrap ((IntKind.i64.wrap ((IntKind.i64.wrap (x.2.1+(1:Int)))+(1:Int)))+(1:Int))),v8.2.2.2.1.2.1,v8.2.2.2.1.2.2.1,v8.2.2.2.1.2.2.2.1,v8.2.2.2.1.2.2.2.2.1,()),())).set x.2.2.1.toNat (v10.1,v10.2.1,v10.2.2.1,(v10.2.2.2.1.1,(IntKind.i64.wrap ((IntKind.i64.wrap ((IntKind.i64.wrap ((IntKind.i64.wrap (x.2.1+(1:Int)))+(1:Int)))+(1:Int)))+(1:Int))),v10.2.2.2.1.2.2.1,v10.2.2.2.1.2.2.2.1,v10.2.2.2.1.2.2.2.2.1,()),())).set x.2.2.1.toNat (v12.1,v12.2.1,v12.2.2.1,(v12.2.2.2.1.1,v12.2.2.2.1.2.1,(IntKind.i64.wrap ((IntKind.i64.wrap ((IntKind.i64.wrap ((IntKind.i64.wrap ((IntKind.i64.wrap (x.2.1+(1:Int)))+(1:Int)))+(1:Int)))+(1:Int)))+(1:Int))),v12.2.2.2.1.2.2.2.1,v12.2.2.2.1.2.2.2.2.1,()),())).set x.2.2.1.toNat (v14.1,v14.2.1,v14.2.2.1,(v14.2.2.2.1.1,v14.2.2.2.1.2.1,v14.2.2.2.1.2.2.1,(IntKind.i64.wrap ((IntKind.i64.wrap ((IntKind.i64.wrap ((IntKind.i64.wrap ((IntKind.i64.wrap ((IntKind.i64.wrap (x.2.1+(1:Int)))+(1:Int)))+(1:Int)))+(1:Int)))+(1:Int)))+(1:Int))),v14.2.2.2.1.2.2.2.2.1,()),())).set x.2.2.1.toNat (v16.1,v16.2.1,v16.2.2.1,(v16.2.2.2.1.1,v16.2.2.2.1.2.1,v16.2.2.2.1.2.2.1,v16.2.2.2.1.2.2.2.1,((Int.tmod (IntKind.i64.wrap ((IntKind.i64.wrap ((IntKind.i64.wrap ((IntKind.i64.wrap ((IntKind.i64.wrap ((IntKind.i64.wrap ((IntKind.i64.wrap (x.2.1+(1:Int)))+(1:Int)))+(1:Int)))+(1:Int)))+(1:Int)))+(1:Int)))+(1:Int))) (3:Int))==(0:Int)),()),())),(IntKind.i64.wrap ((IntKind.i64.wrap ((IntKind.i64.wrap ((IntKind.i64.wrap ((IntKind.i64.wrap ((IntKind.i64.wrap ((IntKind.i64.wrap ((IntKind.i64.wrap (x.2.1+(1:Int)))+(1:Int)))+(1:Int)))+(1:Int)))+(1:Int)))+(1:Int)))+(1:Int)))+(1:Int))),(IntKind.i64.wrap (x.2.2.1+(1:Int))),()))
|false=>
 some (.inr (.inl (x.1,x.2.1,())))
noncomputable def l_markSlotInfoS(x:Ty.T (.pair (.own 148 TSlotInfo) (.pair (.int .i64) .unit))):Option (Ty.T (.pair (.int .i64) (.pair (.own 148 TSlotInfo) .unit))):=
match loopL b_l_markSlotInfoS_2 (x.1,x.2.1,(0:Int),())with
|none=>none
|some (.inl v17)=>
 some (v17.2.1,v17.1,())
|some (.inr v19)=>
 none
noncomputable def S_l_markSlotInfoS:Spec:=⟨(.pair (.own 148 TSlotInfo) (.pair (.int .i64) .unit)),(.pair (.int .i64) .unit),(.pair (.own 148 TSlotInfo) .unit),rfl,l_markSlotInfoS⟩
noncomputable def σ_l_markSlotInfoS:FuncId→Option Spec:=sig []
theorem σok_l_markSlotInfoS:∀f s,σ_l_markSlotInfoS f=some s→FnOK G0 Tryz.prog f s:=sig_ok trivial
def q_l_markSlotInfoS_2:LRow:=⟨[0,1,5],(.pair (.own 148 TSlotInfo) TCrc),0,[0,1],(.pair (.own 148 TSlotInfo) (.pair (.int .i64) .unit)),[],.unit⟩
noncomputable def ls_l_markSlotInfoS:List LSpec:=[q_l_markSlotInfoS_2.spec b_l_markSlotInfoS_2]
theorem lok_l_markSlotInfoS_2:Lok Γ0 E0 σ_l_markSlotInfoS (lam Tryz.f69 ls_l_markSlotInfoS) Tryz.f69 0 q_l_markSlotInfoS_2 b_l_markSlotInfoS_2:=fun x=>by kernel_rfl
theorem ok_l_markSlotInfoS:FnOK G0 Tryz.prog 69 S_l_markSlotInfoS:=fn_okS tab0 σok_l_markSlotInfoS Tryz.func69 ls_l_markSlotInfoS (by kernel_rfl) (by exact⟨(lok_l_markSlotInfoS_2).lok,trivial⟩) fun x=>by kernel_rfl
noncomputable def l_markMedl(x:Ty.T (.pair (.pair (.int .i64) (.pair (.own 143 TNodeInfo) (.pair (.own 145 (.pair (.int .i64) (.pair (.int .i64) (.pair (.own 2 (.int .i64)) .unit)))) (.pair (.own 148 TSlotInfo) .unit)))) (.pair (.int .i64) .unit))):Option (Ty.T (.pair (.int .i64) (.pair (.pair (.int .i64) (.pair (.own 143 TNodeInfo) (.pair (.own 145 (.pair (.int .i64) (.pair (.int .i64) (.pair (.own 2 (.int .i64)) .unit)))) (.pair (.own 148 TSlotInfo) .unit)))) .unit))):=
match l_markNodeInfoS (x.1.2.1,x.2.1,())with
|none=>none
|some v1=>
match l_markModeInfoS (x.1.2.2.1,v1.1,())with
|none=>none
|some v2=>
match l_markSlotInfoS (x.1.2.2.2.1,v2.1,())with
|none=>none
|some v3=>
some (v3.1,(x.1.1,v1.2.1,v2.2.1,v3.2.1,()),())
noncomputable def S_l_markMedl:Spec:=⟨(.pair (.pair (.int .i64) (.pair (.own 143 TNodeInfo) (.pair (.own 145 (.pair (.int .i64) (.pair (.int .i64) (.pair (.own 2 (.int .i64)) .unit)))) (.pair (.own 148 TSlotInfo) .unit)))) (.pair (.int .i64) .unit)),(.pair (.int .i64) .unit),(.pair (.pair (.int .i64) (.pair (.own 143 TNodeInfo) (.pair (.own 145 (.pair (.int .i64) (.pair (.int .i64) (.pair (.own 2 (.int .i64)) .unit)))) (.pair (.own 148 TSlotInfo) .unit)))) .unit),rfl,l_markMedl⟩
noncomputable def σ_l_markMedl:FuncId→Option Spec:=sig [(67,S_l_markNodeInfoS),(68,S_l_markModeInfoS),(69,S_l_markSlotInfoS)]
theorem σok_l_markMedl:∀f s,σ_l_markMedl f=some s→FnOK G0 Tryz.prog f s:=sig_ok ⟨ok_l_markNodeInfoS,ok_l_markModeInfoS,ok_l_markSlotInfoS,trivial⟩
theorem ok_l_markMedl:FnOK G0 Tryz.prog 21 S_l_markMedl:=fn_okS tab1 σok_l_markMedl Tryz.func21 [] (by kernel_rfl) (by exact trivial) fun x=>by kernel_rfl
noncomputable def l_markFrame(x:Ty.T (.pair (.pair (.int .i64) (.pair (.int .i64) (.pair TState (.pair (.own 2 (.int .i64)) .unit)))) (.pair (.int .i64) .unit))):Option (Ty.T (.pair (.int .i64) (.pair (.pair (.int .i64) (.pair (.int .i64) (.pair TState (.pair (.own 2 (.int .i64)) .unit)))) .unit))):=
match l_markInt64S (x.1.2.2.2.1,x.2.1,())with
|none=>none
|some v1=>
some (v1.1,(x.1.1,x.1.2.1,(x.1.2.2.1.1,x.1.2.2.1.2.1,x.1.2.2.1.2.2.1,x.1.2.2.1.2.2.2.1,x.1.2.2.1.2.2.2.2.1,()),v1.2.1,()),())
noncomputable def S_l_markFrame:Spec:=⟨(.pair (.pair (.int .i64) (.pair (.int .i64) (.pair TState (.pair (.own 2 (.int .i64)) .unit)))) (.pair (.int .i64) .unit)),(.pair (.int .i64) .unit),(.pair (.pair (.int .i64) (.pair (.int .i64) (.pair TState (.pair (.own 2 (.int .i64)) .unit)))) .unit),rfl,l_markFrame⟩
noncomputable def σ_l_markFrame:FuncId→Option Spec:=sig [(70,S_l_markInt64S)]
theorem σok_l_markFrame:∀f s,σ_l_markFrame f=some s→FnOK G0 Tryz.prog f s:=sig_ok ⟨ok_l_markInt64S,trivial⟩
theorem ok_l_markFrame:FnOK G0 Tryz.prog 22 S_l_markFrame:=fn_okS tab0 σok_l_markFrame Tryz.func22 [] (by kernel_rfl) (by exact trivial) fun x=>by kernel_rfl
noncomputable def b_l_markFaultS_2(x:(Ty.T (.pair (.own 105 TFault) TCrc))):Option ((Ty.T (.pair (.own 105 TFault) TCrc)) ⊕ ((Ty.T (.pair (.own 105 TFault) (.pair (.int .i64) .unit))) ⊕ (Ty.T .unit))):=
match(decide (x.2.2.1<(x.1.length:Int)))with
|true=>
 onSome (idx x.1 x.2.2.1) fun _=>
 match x.1[x.2.2.1.toNat]? with
 |none=>none
 |some v2=>
 onSome (idx (x.1.set x.2.2.1.toNat (x.2.1,v2.2.1,v2.2.2.1,v2.2.2.2.1,())) x.2.2.1) fun _=>
 match(x.1.set x.2.2.1.toNat (x.2.1,v2.2.1,v2.2.2.1,v2.2.2.2.1,()))[x.2.2.1.toNat]? with
 |none=>none
 |some v4=>
 onSome (idx ((x.1.set x.2.2.1.toNat (x.2.1,v2.2.1,v2.2.2.1,v2.2.2.2.1,())).set x.2.2.1.toNat (v4.1,(IntKind.i64.wrap (x.2.1+(1:Int))),v4.2.2.1,v4.2.2.2.1,())) x.2.2.1) fun _=>
 match((x.1.set x.2.2.1.toNat (x.2.1,v2.2.1,v2.2.2.1,v2.2.2.2.1,())).set x.2.2.1.toNat (v4.1,(IntKind.i64.wrap (x.2.1+(1:Int))),v4.2.2.1,v4.2.2.2.1,()))[x.2.2.1.toNat]? with
 |none=>none
 |some v6=>
 onSome (idx (((x.1.set x.2.2.1.toNat (x.2.1,v2.2.1,v2.2.2.1,v2.2.2.2.1,())).set x.2.2.1.toNat (v4.1,(IntKind.i64.wrap (x.2.1+(1:Int))),v4.2.2.1,v4.2.2.2.1,())).set x.2.2.1.toNat (v6.1,v6.2.1,(IntKind.i64.wrap ((IntKind.i64.wrap (x.2.1+(1:Int)))+(1:Int))),v6.2.2.2.1,())) x.2.2.1) fun _=>
 match(((x.1.set x.2.2.1.toNat (x.2.1,v2.2.1,v2.2.2.1,v2.2.2.2.1,())).set x.2.2.1.toNat (v4.1,(IntKind.i64.wrap (x.2.1+(1:Int))),v4.2.2.1,v4.2.2.2.1,())).set x.2.2.1.toNat (v6.1,v6.2.1,(IntKind.i64.wrap ((IntKind.i64.wrap (x.2.1+(1:Int)))+(1:Int))),v6.2.2.2.1,()))[x.2.2.1.toNat]? with
 |none=>none
 |some v8=>
 some (.inl (((((x.1.set x.2.2.1.toNat (x.2.1,v2.2.1,v2.2.2.1,v2.2.2.2.1,())).set x.2.2.1.toNat (v4.1,(IntKind.i64.wrap (x.2.1+(1:Int))),v4.2.2.1,v4.2.2.2.1,())).set x.2.2.1.toNat (v6.1,v6.2.1,(IntKind.i64.wrap ((IntKind.i64.wrap (x.2.1+(1:Int)))+(1:Int))),v6.2.2.2.1,())).set x.2.2.1.toNat (v8.1,v8.2.1,v8.2.2.1,(IntKind.i64.wrap ((IntKind.i64.wrap ((IntKind.i64.wrap (x.2.1+(1:Int)))+(1:Int)))+(1:Int))),())),(IntKind.i64.wrap ((IntKind.i64.wrap ((IntKind.i64.wrap ((IntKind.i64.wrap (x.2.1+(1:Int)))+(1:Int)))+(1:Int)))+(1:Int))),(IntKind.i64.wrap (x.2.2.1+(1:Int))),()))
|false=>
 some (.inr (.inl (x.1,x.2.1,())))
noncomputable def l_markFaultS(x:Ty.T (.pair (.own 105 TFault) (.pair (.int .i64) .unit))):Option (Ty.T (.pair (.int .i64) (.pair (.own 105 TFault) .unit))):=
match loopL b_l_markFaultS_2 (x.1,x.2.1,(0:Int),())with
|none=>none
|some (.inl v9)=>
 some (v9.2.1,v9.1,())
|some (.inr v11)=>
 none
noncomputable def S_l_markFaultS:Spec:=⟨(.pair (.own 105 TFault) (.pair (.int .i64) .unit)),(.pair (.int .i64) .unit),(.pair (.own 105 TFault) .unit),rfl,l_markFaultS⟩
noncomputable def σ_l_markFaultS:FuncId→Option Spec:=sig []
theorem σok_l_markFaultS:∀f s,σ_l_markFaultS f=some s→FnOK G0 Tryz.prog f s:=sig_ok trivial
def q_l_markFaultS_2:LRow:=⟨[0,1,5],(.pair (.own 105 TFault) TCrc),0,[0,1],(.pair (.own 105 TFault) (.pair (.int .i64) .unit)),[],.unit⟩
noncomputable def ls_l_markFaultS:List LSpec:=[q_l_markFaultS_2.spec b_l_markFaultS_2]
theorem lok_l_markFaultS_2:Lok Γ0 E0 σ_l_markFaultS (lam Tryz.f23 ls_l_markFaultS) Tryz.f23 0 q_l_markFaultS_2 b_l_markFaultS_2:=fun x=>by kernel_rfl
theorem ok_l_markFaultS:FnOK G0 Tryz.prog 23 S_l_markFaultS:=fn_okS tab0 σok_l_markFaultS Tryz.func23 ls_l_markFaultS (by kernel_rfl) (by exact⟨(lok_l_markFaultS_2).lok,trivial⟩) fun x=>by kernel_rfl
end Go.Proofs.YthfgmmmeplanbaaGreatDoor
