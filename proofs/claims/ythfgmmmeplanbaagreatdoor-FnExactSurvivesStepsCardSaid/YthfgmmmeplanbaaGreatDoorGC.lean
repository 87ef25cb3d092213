import Derived.Test.YthfgmmmeplanbaaGreatDoorGB
namespace Go.Proofs.YthfgmmmeplanbaaGreatDoor
open Go.RowKit
set_option linter.unusedVariables false
noncomputable def dr(x:(Ty.T (.pair (.own 148 ag) ah))):Option ((Ty.T (.pair (.own 148 ag) ah)) ⊕ ((Ty.T (.pair (.own 148 ag) (.pair (.int .i64) .unit))) ⊕ (Ty.T .unit))):=
match(decide (x.2.2.1<(x.1.length:Int)))with
|true=>
 aa (au x.1 x.2.2.1) fun _=>
 match x.1[x.2.2.1.toNat]? with
 |none=>none
 |some v2=>
 aa (au (x.1.set x.2.2.1.toNat (x.2.1,v2.2.1,v2.2.2.1,v2.2.2.2.1,())) x.2.2.1) fun _=>
 match(x.1.set x.2.2.1.toNat (x.2.1,v2.2.1,v2.2.2.1,v2.2.2.2.1,()))[x.2.2.1.toNat]? with
 |none=>none
 |some v4=>
 aa (au ((x.1.set x.2.2.1.toNat (x.2.1,v2.2.1,v2.2.2.1,v2.2.2.2.1,())).set x.2.2.1.toNat (v4.1,(IntKind.i64.wrap (x.2.1+(1:Int))),v4.2.2.1,v4.2.2.2.1,())) x.2.2.1) fun _=>
 match((x.1.set x.2.2.1.toNat (x.2.1,v2.2.1,v2.2.2.1,v2.2.2.2.1,())).set x.2.2.1.toNat (v4.1,(IntKind.i64.wrap (x.2.1+(1:Int))),v4.2.2.1,v4.2.2.2.1,()))[x.2.2.1.toNat]? with
 |none=>none
 |some v6=>
 aa (au (((x.1.set x.2.2.1.toNat (x.2.1,v2.2.1,v2.2.2.1,v2.2.2.2.1,())).set x.2.2.1.toNat (v4.1,(IntKind.i64.wrap (x.2.1+(1:Int))),v4.2.2.1,v4.2.2.2.1,())).set x.2.2.1.toNat (v6.1,v6.2.1,(IntKind.i64.wrap ((IntKind.i64.wrap (x.2.1+(1:Int)))+(1:Int))),v6.2.2.2.1,())) x.2.2.1) fun _=>
 match(((x.1.set x.2.2.1.toNat (x.2.1,v2.2.1,v2.2.2.1,v2.2.2.2.1,())).set x.2.2.1.toNat (v4.1,(IntKind.i64.wrap (x.2.1+(1:Int))),v4.2.2.1,v4.2.2.2.1,())).set x.2.2.1.toNat (v6.1,v6.2.1,(IntKind.i64.wrap ((IntKind.i64.wrap (x.2.1+(1:Int)))+(1:Int))),v6.2.2.2.1,()))[x.2.2.1.toNat]? with
 |none=>none
 |some v8=>
 aa (au ((((x.1.set x.2.2.1.toNat (x.2.1,v2.2.1,v2.2.2.1,v2.2.2.2.1,())).set x.2.2.1.toNat (v4.1,(IntKind.i64.wrap (x.2.1+(1:Int))),v4.2.2.1,v4.2.2.2.1,())).set x.2.2.1.toNat (v6.1,v6.2.1,(IntKind.i64.wrap ((IntKind.i64.wrap (x.2.1+(1:Int)))+(1:Int))),v6.2.2.2.1,())).set x.2.2.1.toNat (v8.1,v8.2.1,v8.2.2.1,((IntKind.i64.wrap ((IntKind.i64.wrap ((IntKind.i64.wrap (x.2.1+(1:Int)))+(1:Int)))+(1:Int))),v8.2.2.2.1.2.1,v8.2.2.2.1.2.2.1,v8.2.2.2.1.2.2.2.1,v8.2.2.2.1.2.2.2.2.1,()),())) x.2.2.1) fun _=>
 match((((x.1.set x.2.2.1.toNat (x.2.1,v2.2.1,v2.2.2.1,v2.2.2.2.1,())).set x.2.2.1.toNat (v4.1,(IntKind.i64.wrap (x.2.1+(1:Int))),v4.2.2.1,v4.2.2.2.1,())).set x.2.2.1.toNat (v6.1,v6.2.1,(IntKind.i64.wrap ((IntKind.i64.wrap (x.2.1+(1:Int)))+(1:Int))),v6.2.2.2.1,())).set x.2.2.1.toNat (v8.1,v8.2.1,v8.2.2.1,((IntKind.i64.wrap ((IntKind.i64.wrap ((IntKind.i64.wrap (x.2.1+(1:Int)))+(1:Int)))+(1:Int))),v8.2.2.2.1.2.1,v8.2.2.2.1.2.2.1,v8.2.2.2.1.2.2.2.1,v8.2.2.2.1.2.2.2.2.1,()),()))[x.2.2.1.toNat]? with
 |none=>none
 |some v10=>
 aa (au (((((x.1.set x.2.2.1.toNat (x.2.1,v2.2.1,v2.2.2.1,v2.2.2.2.1,())).set x.2.2.1.toNat (v4.1,(IntKind.i64.wrap (x.2.1+(1:Int))),v4.2.2.1,v4.2.2.2.1,())).set x.2.2.1.toNat (v6.1,v6.2.1,(IntKind.i64.wrap ((IntKind.i64.wrap (x.2.1+(1:Int)))+(1:Int))),v6.2.2.2.1,())).set x.2.2.1.toNat (v8.1,v8.2.1,v8.2.2.1,((IntKind.i64.wrap ((IntKind.i64.wrap ((IntKind.i64.wrap (x.2.1+(1:Int)))+(1:Int)))+(1:Int))),v8.2.2.2.1.2.1,v8.2.2.2.1.2.2.1,v8.2.2.2.1.2.2.2.1,v8.2.2.2.1.2.2.2.2.1,()),())).set x.2.2.1.toNat (v10.1,v10.2.1,v10.2.2.1,(v10.2.2.2.1.1,(IntKind.i64.wrap ((IntKind.i64.wrap ((IntKind.i64.wrap ((IntKind.i64.wrap (x.2.1+(1:Int)))+(1:Int)))+(1:Int)))+(1:Int))),v10.2.2.2.1.2.2.1,v10.2.2.2.1.2.2.2.1,v10.2.2.2.1.2.2.2.2.1,()),())) x.2.2.1) fun _=>
 match(((((x.1.set x.2.2.1.toNat (x.2.1,v2.2.1,v2.2.2.1,v2.2.2.2.1,())).set x.2.2.1.toNat (v4.1,(IntKind.i64.wrap (x.2.1+(1:Int))),v4.2.2.1,v4.2.2.2.1,())).set x.2.2.1.toNat (v6.1,v6.2.1,(IntKind.i64.wrap ((IntKind.i64.wrap (x.2.1+(1:Int)))+(1:Int))),v6.2.2.2.1,())).set x.2.2.1.toNat (v8.1,v8.2.1,v8.2.2.1,((IntKind.i64.wrap ((IntKind.i64.wrap ((IntKind.i64.wrap (x.2.1+(1:Int)))+(1:Int)))+(1:Int))),v8.2.2.2.1.2.1,v8.2.2.2.1.2.2.1,v8.2.2.2.1.2.2.2.1,v8.2.2.2.1.2.2.2.2.1,()),())).set x.2.2.1.toNat (v10.1,v10.2.1,v10.2.2.1,(v10.2.2.2.1.1,(IntKind.i64.wrap ((IntKind.i64.wrap ((IntKind.i64.wrap ((IntKind.i64.wrap (x.2.1+(1:Int)))+(1:Int)))+(1:Int)))+(1:Int))),v10.2.2.2.1.2.2.1,v10.2.2.2.1.2.2.2.1,v10.2.2.2.1.2.2.2.2.1,()),()))[x.2.2.1.toNat]? with
 |none=>none
 |some v12=>
 aa (au ((((((x.1.set x.2.2.1.toNat (x.2.1,v2.2.1,v2.2.2.1,v2.2.2.2.1,())).set x.2.2.1.toNat (v4.1,(IntKind.i64.wrap (x.2.1+(1:Int))),v4.2.2.1,v4.2.2.2.1,())).set x.2.2.1.toNat (v6.1,v6.2.1,(IntKind.i64.wrap ((IntKind.i64.wrap (x.2.1+(1:Int)))+(1:Int))),v6.2.2.2.1,())).set x.2.2.1.toNat (v8.1,v8.2.1,v8.2.2.1,((IntKind.i64.wrap ((IntKind.i64.wrap ((IntKind.i64.wrap (x.2.1+(1:Int)))+(1:Int)))+(1:Int))),v8.2.2.2.1.2.1,v8.2.2.2.1.2.2.1,v8.2.2.2.1.2.2.2.1,v8.2.2.2.1.2.2.2.2.1,()),())).set x.2.2.1.toNat (v10.1,v10.2.1,v10.2.2.1,(v10.2.2.2.1.1,(IntKind.i64.wrap ((IntKind.i64.wrap ((IntKind.i64.wrap ((IntKind.i64.wrap (x.2.1+(1:Int)))+(1:Int)))+(1:Int)))+(1:Int))),v10.2.2.2.1.2.2.1,v10.2.2.2.1.2.2.2.1,v10.2.2.2.1.2.2.2.2.1,()),())).set x.2.2.1.toNat (v12.1,v12.2.1,v12.2.2.1,(v12.2.2.2.1.1,v12.2.2.2.1.2.1,(IntKind.i64.wrap ((IntKind.i64.wrap ((IntKind.i64.wrap ((IntKind.i64.wrap ((IntKind.i64.wrap (x.2.1+(1:Int)))+(1:Int)))+(1:Int)))+(1:Int)))+(1:Int))),v12.2.2.2.1.2.2.2.1,v12.2.2.2.1.2.2.2.2.1,()),())) x.2.2.1) fun _=>
 match((((((x.1.set x.2.2.1.toNat (x.2.1,v2.2.1,v2.2.2.1,v2.2.2.2.1,())).set x.2.2.1.toNat (v4.1,(IntKind.i64.wrap (x.2.1+(1:Int))),v4.2.2.1,v4.2.2.2.1,())).set x.2.2.1.toNat (v6.1,v6.2.1,(IntKind.i64.wrap ((IntKind.i64.wrap (x.2.1+(1:Int)))+(1:Int))),v6.2.2.2.1,())).set x.2.2.1.toNat (v8.1,v8.2.1,v8.2.2.1,((IntKind.i64.wrap ((IntKind.i64.wrap ((IntKind.i64.wrap (x.2.1+(1:Int)))+(1:Int)))+(1:Int))),v8.2.2.2.1.2.1,v8.2.2.2.1.2.2.1,v8.2.2.2.1.2.2.2.1,v8.2.2.2.1.2.2.2.2.1,()),())).set x.2.2.1.toNat (v10.1,v10.2.1,v10.2.2.1,(v10.2.2.2.1.1,(IntKind.i64.wrap ((IntKind.i64.wrap ((IntKind.i64.wrap ((IntKind.i64.wrap (x.2.1+(1:Int)))+(1:Int)))+(1:Int)))+(1:Int))),v10.2.2.2.1.2.2.1,v10.2.2.2.1.2.2.2.1,v10.2.2.2.1.2.2.2.2.1,()),())).set x.2.2.1.toNat (v12.1,v12.2.1,v12.2.2.1,(v12.2.2.2.1.1,v12.2.2.2.1.2.1,(IntKind.i64.wrap ((IntKind.i64.wrap ((IntKind.i64.wrap ((IntKind.i64.wrap ((IntKind.i64.wrap (x.2.1+(1:Int)))+(1:Int)))+(1:Int)))+(1:Int)))+(1:Int))),v12.2.2.2.1.2.2.2.1,v12.2.2.2.1.2.2.2.2.1,()),()))[x.2.2.1.toNat]? with
 |none=>none
 |some v14=>
 aa (au (((((((x.1.set x.2.2.1.toNat (x.2.1,v2.2.1,v2.2.2.1,v2.2.2.2.1,())).set x.2.2.1.toNat (v4.1,(IntKind.i64.wrap (x.2.1+(1:Int))),v4.2.2.1,v4.2.2.2.1,())).set x.2.2.1.toNat (v6.1,v6.2.1,(IntKind.i64.wrap ((IntKind.i64.wrap (x.2.1+(1:Int)))+(1:Int))),v6.2.2.2.1,())).set x.2.2.1.toNat (v8.1,v8.2.1,v8.2.2.1,((IntKind.i64.wrap ((IntKind.i64.wrap ((IntKind.i64.wrap (x.2.1+(1:Int)))+(1:Int)))+(1:Int))),v8.2.2.2.1.2.1,v8.2.2.2.1.2.2.1,v8.2.2.2.1.2.2.2.1,v8.2.2.2.1.2.2.2.2.1,()),())).set x.2.2.1.toNat (v10.1,v10.2.1,v10.2.2.1,(v10.2.2.2.1.1,(IntKind.i64.wrap ((IntKind.i64.wrap ((IntKind.i64.wrap ((IntKind.i64.wrap (x.2.1+(1:Int)))+(1:Int)))+(1:Int)))+(1:Int))),v10.2.2.2.1.2.2.1,v10.2.2.2.1.2.2.2.1,v10.2.2.2.1.2.2.2.2.1,()),())).set x.2.2.1.toNat (v12.1,v12.2.1,v12.2.2.1,(v12.2.2.2.1.1,v12.2.2.2.1.2.1,(IntKind.i64.wrap ((IntKind.i64.wrap ((IntKind.i64.wrap ((IntKind.i64.wrap ((IntKind.i64.wrap (x.2.1+(1:Int)))+(1:Int)))+(1:Int)))+(1:Int)))+(1:Int))),v12.2.2.2.1.2.2.2.1,v12.2.2.2.1.2.2.2.2.1,()),())).set x.2.2.1.toNat (v14.1,v14.2.1,v14.2.2.1,(v14.2.2.2.1.1,v14.2.2.2.1.2.1,v14.2.2.2.1.2.2.1,(IntKind.i64.wrap ((IntKind.i64.wrap ((IntKind.i64.wrap ((IntKind.i64.wrap ((IntKind.i64.wrap ((IntKind.i64.wrap (x.2.1+(1:Int)))+(1:Int)))+(1:Int)))+(1:Int)))+(1:Int)))+(1:Int))),v14.2.2.2.1.2.2.2.2.1,()),())) x.2.2.1) fun _=>
 match(((((((x.1.set x.2.2.1.toNat (x.2.1,v2.2.1,v2.2.2.1,v2.2.2.2.1,())).set x.2.2.1.toNat (v4.1,(IntKind.i64.wrap (x.2.1+(1:Int))),v4.2.2.1,v4.2.2.2.1,())).set x.2.2.1.toNat (v6.1,v6.2.1,(IntKind.i64.wrap ((IntKind.i64.wrap (x.2.1+(1:Int)))+(1:Int))),v6.2.2.2.1,())).set x.2.2.1.toNat (v8.1,v8.2.1,v8.2.2.1,((IntKind.i64.wrap ((IntKind.i64.wrap ((IntKind.i64.wrap (x.2.1+(1:Int)))+(1:Int)))+(1:Int))),v8.2.2.2.1.2.1,v8.2.2.2.1.2.2.1,v8.2.2.2.1.2.2.2.1,v8.2.2.2.1.2.2.2.2.1,()),())).set x.2.2.1.toNat (v10.1,v10.2.1,v10.2.2.1,(v10.2.2.2.1.1,(IntKind.i64.wrap ((IntKind.i64.wrap ((IntKind.i64.wrap ((IntKind.i64.wrap (x.2.1+(1:Int)))+(1:Int)))+(1:Int)))+(1:Int))),v10.2.2.2.1.2.2.1,v10.2.2.2.1.2.2.2.1,v10.2.2.2.1.2.2.2.2.1,()),())).set x.2.2.1.toNat (v12.1,v12.2.1,v12.2.2.1,(v12.2.2.2.1.1,v12.2.2.2.1.2.1,(IntKind.i64.wrap ((IntKind.i64.wrap ((IntKind.i64.wrap ((IntKind.i64.wrap ((IntKind.i64.wrap (x.2.1+(1:Int)))+(1:Int)))+(1:Int)))+(1:Int)))+(1:Int))),v12.2.2.2.1.2.2.2.1,v12.2.2.2.1.2.2.2.2.1,()),())).set x.2.2.1.toNat (v14.1,v14.2.1,v14.2.2.1,(v14.2.2.2.1.1,v14.2.2.2.1.2.1,v14.2.2.2.1.2.2.1,(IntKind.i64.wrap ((IntKind.i64.wrap ((IntKind.i64.wrap ((IntKind.i64.wrap ((IntKind.i64.wrap ((IntKind.i64.wrap (x.2.1+(1:Int)))+(1:Int)))+(1:Int)))+(1:Int)))+(1:Int)))+(1:Int))),v14.2.2.2.1.2.2.2.2.1,()),()))[x.2.2.1.toNat]? with
 |none=>none
 |some v16=>
 some (.inl (((((((((x.1.set x.2.2.1.toNat (x.2.1,v2.2.1,v2.2.2.1,v2.2.2.2.1,())).set x.2.2.1.toNat (v4.1,(IntKind.i64.wrap (x.2.1+(1:Int))),v4.2.2.1,v4.2.2.2.1,())).set x.2.2.1.toNat (v6.1,v6.2.1,(IntKind.i64.wrap ((IntKind.i64.wrap (x.2.1+(1:Int)))+(1:Int))),v6.2.2.2.1,())).set x.2.2.1.toNat (v8.1,v8.2.1,v8.2.2.1,((IntKind.i64.wrap ((IntKind.i64.wrap ((IntKind.i64.wrap (x.2.1+(1:Int)))+(1:Int)))+(1:Int))),v8.2.2.2.1.2.1,v8.2.2.2.1.2.2.1,v8.2.2.2.1.2.2.2.1,v8.2.2.2.1.2.2.2.2.1,()),())).set x.2.2.1.toNat (v10.1,v10.2.1,v10.2.2.1,(v10.2.2.2.1.1,(IntKind.i64.wrap ((IntKind.i64.wrap ((IntKind.i64.wrap ((IntKind.i64.wrap (x.2.1+(1:Int)))+(1:Int)))+(1:Int)))+(1:Int))),v10.2.2.2.1.2.2.1,v10.2.2.2.1.2.2.2.1,v10.2.2.2.1.2.2.2.2.1,()),())).set x.2.2.1.toNat (v12.1,v12.2.1,v12.2.2.1,(v12.2.2.2.1.1,v12.2.2.2.1.2.1,(IntKind.i64.wrap ((IntKind.i64.wrap ((IntKind.i64.wrap ((IntKind.i64.wrap ((IntKind.i64.wrap (x.2.1+(1:Int)))+(1:Int)))+(1:Int)))+(1:Int)))+(1:Int))),v12.2.2.2.1.2.2.2.1,v12.2.2.2.1.2.2.2.2.1,()),())).set x.2.2.1.toNat (v14.1,v14.2.1,v14.2.2.1,(v14.2.2.2.1.1,v14.2.2.2.1.2.1,v14.2.2.2.1.2.2.1,(IntKind.i64.wrap ((IntKind.i64.wrap ((IntKind.i64.wrap ((IntKind.i64.wrap ((IntKind.i64.wrap ((IntKind.i64.wrap (x.2.1+(1:Int)))+(1:Int)))+(1:Int)))+(1:Int)))+(1:Int)))+(1:Int))),v14.2.2.2.1.2.2.2.2.1,()),())).set x.2.2.1.toNat (v16.1,v16.2.1,v16.2.2.1,(v16.2.2.2.1.1,v16.2.2.2.1.2.1,v16.2.2.2.1.2.2.1,v16.2.2.2.1.2.2.2.1,((Int.tmod (IntKind.i64.wrap ((IntKind.i64.wrap ((IntKind.i64.wrap ((IntKind.i64.wrap ((IntKind.i64.wrap ((IntKind.i64.wrap ((IntKind.i64.wrap (x.2.1+(1:Int)))+(1:Int)))+(1:Int)))+(1:Int)))+(1:Int)))+(1:Int)))+(1:Int))) (3:Int))==(0:Int)),()),())),(IntKind.i64.wrap ((IntKind.i64.wrap ((IntKind.i64.wrap ((IntKind.i64.wrap ((IntKind.i64.wrap ((IntKind.i64.wrap ((IntKind.i64.wrap ((IntKind.i64.wrap (x.2.1+(1:Int)))+(1:Int)))+(1:Int)))+(1:Int)))+(1:Int)))+(1:Int)))+(1:Int)))+(1:Int))),(IntKind.i64.wrap (x.2.2.1+(1:Int))),()))
|false=>
 some (.inr (.inl (x.1,x.2.1,())))
noncomputable def lh(x:Ty.T (.pair (.own 148 ag) (.pair (.int .i64) .unit))):Option (Ty.T (.pair (.int .i64) (.pair (.own 148 ag) .unit))):=
match ac dr (x.1,x.2.1,(0:Int),())with
|none=>none
|some (.inl v17)=>
 some (v17.2.1,v17.1,())
|some (.inr v19)=>
 none
noncomputable def FR:Spec:=⟨_,(.pair (.int .i64) .unit),(.pair (.own 148 ag) .unit),rfl,lh⟩
noncomputable def rl:FuncId→Option Spec:=aX []
theorem zZ:∀f s,rl f=some s→FnOK G0 Tryz.prog f s:=aw trivial
def pT:aG:=⟨[0,1,5],(.pair (.own 148 ag) ah),0,[0,1],(.pair (.own 148 ag) (.pair (.int .i64) .unit)),[],.unit⟩
noncomputable def rm:List a9z:=[pT.spec dr]
theorem yO:aU aV E0 rl (aR Tryz.f69 rm) Tryz.f69 0 pT dr:=fun x=>by kernel_rfl
theorem El:FnOK G0 Tryz.prog 69 FR:=ax ai zZ Tryz.func69 rm (by kernel_rfl) (by exact⟨(yO).lok,trivial⟩) fun x=>by kernel_rfl
noncomputable def td(x:Ty.T (.pair (.pair (.int .i64) (.pair (.own 143 ak) (.pair (.own 145 (.pair (.int .i64) (.pair (.int .i64) (.pair (.own 2 (.int .i64)) .unit)))) (.pair (.own 148 ag) .unit)))) (.pair (.int .i64) .unit))):Option (Ty.T (.pair (.int .i64) (.pair (.pair (.int .i64) (.pair (.own 143 ak) (.pair (.own 145 (.pair (.int .i64) (.pair (.int .i64) (.pair (.own 2 (.int .i64)) .unit)))) (.pair (.own 148 ag) .unit)))) .unit))):=
match lf (x.1.2.1,x.2.1,())with
|none=>none
|some v1=>
match lg (x.1.2.2.1,v1.1,())with
|none=>none
|some v2=>
match lh (x.1.2.2.2.1,v2.1,())with
|none=>none
|some v3=>
some (v3.1,(x.1.1,v1.2.1,v2.2.1,v3.2.1,()),())
noncomputable def Q0:Spec:=⟨_,(.pair (.int .i64) .unit),(.pair (.pair (.int .i64) (.pair (.own 143 ak) (.pair (.own 145 (.pair (.int .i64) (.pair (.int .i64) (.pair (.own 2 (.int .i64)) .unit)))) (.pair (.own 148 ag) .unit)))) .unit),rfl,td⟩
theorem O2:FnOK G0 Tryz.prog 21 Q0:=aj US (sg Ei (sg Ek (sg El (aC)))) Tryz.func21
noncomputable def pB(x:Ty.T (.pair ae (.pair ab (.pair (.list ar) .unit)))):Option (Ty.T (.pair (.own 40 az) (.pair ab (.pair (.int .i64) .unit)))):=
match n9 x with
|none=>none
|some v1=>
match(v1.1 != (0:Int))with
|true=>
 some ([],((0:Int),(0:Int),(0:Int),(0:Int),(0:Int),()),v1.1,())
|false=>
 match lE x with
 |none=>none
 |some v2=>
 some (v2.1,v2.2.1,(0:Int),())
noncomputable def Em:Spec:=⟨_,(.pair (.own 40 az) (.pair ab (.pair (.int .i64) .unit))),.unit,rfl,pB⟩
theorem O3:FnOK G0 Tryz.prog 44 Em:=aj ai (sg Dc (sg xa (aC))) Tryz.func44
noncomputable def eU(x:(Ty.T (.pair (.list ar) (.pair (.ptr ae) (.pair (.box ab) (.pair (.own 40 az) (.pair (.own 127 bk) (.pair (.int .i64) .unit)))))))):Option ((Ty.T (.pair (.list ar) (.pair (.ptr ae) (.pair (.box ab) (.pair (.own 40 az) (.pair (.own 127 bk) (.pair (.int .i64) .unit))))))) ⊕ ((Ty.T (.pair (.own 127 bk) .unit)) ⊕ (Ty.T .unit))):=
match(decide (x.2.2.2.2.2.1<(x.2.2.2.1.length:Int)))with
|true=>
 aa (aH x.1.length none (some (.dat (.int .i64) x.2.2.2.2.2.1))) fun v2=>
 ba (
  match lE (x.2.1,(x.2.2.1.1,x.2.2.1.2.1,x.2.2.1.2.2.1,x.2.2.1.2.2.2.1,x.2.2.1.2.2.2.2.1,()),(List.drop v2.1 (List.take v2.2 x.1)),())with
  |none=>none
  |some v3=>
  aa (au x.2.2.2.1 x.2.2.2.2.2.1) fun _=>
  bf (
   match cn (x.2.1,(v3.2.1.1,v3.2.1.2.1,v3.2.1.2.2.1,v3.2.1.2.2.2.1,v3.2.1.2.2.2.2.1,()),())with
   |none=>none
   |some v5=>
   match x.2.2.2.1[x.2.2.2.2.2.1.toNat]? with
   |none=>none
   |some v6=>
   aM (x.2.2.2.2.1.length+ [((v3.2.1.1,v3.2.1.2.1,v3.2.1.2.2.1,v3.2.1.2.2.2.1,v3.2.1.2.2.2.2.1,()),v5.1.1,v6.1,())].length) (
    some (.inl (x.1,x.2.1,(x.2.2.1.1,x.2.2.1.2.1,x.2.2.1.2.2.1,x.2.2.1.2.2.2.1,x.2.2.1.2.2.2.2.1,()),x.2.2.2.1,(x.2.2.2.2.1++ [((v3.2.1.1,v3.2.1.2.1,v3.2.1.2.2.1,v3.2.1.2.2.2.1,v3.2.1.2.2.2.2.1,()),v5.1.1,v6.1,())]),(IntKind.i64.wrap (x.2.2.2.2.2.1+(1:Int))),())))) (
   match x.2.2.2.1[x.2.2.2.2.2.1.toNat]? with
   |none=>none
   |some v5=>
   match cn (x.2.1,(v3.2.1.1,v3.2.1.2.1,v3.2.1.2.2.1,v3.2.1.2.2.2.1,v3.2.1.2.2.2.2.1,()),())with
   |none=>none
   |some v6=>
   aM (x.2.2.2.2.1.length+ [((v3.2.1.1,v3.2.1.2.1,v3.2.1.2.2.1,v3.2.1.2.2.2.1,v3.2.1.2.2.2.2.1,()),v6.1.1,v5.1,())].length) (
    some (.inl (x.1,x.2.1,(x.2.2.1.1,x.2.2.1.2.1,x.2.2.1.2.2.1,x.2.2.1.2.2.2.1,x.2.2.1.2.2.2.2.1,()),x.2.2.2.1,(x.2.2.2.2.1++ [((v3.2.1.1,v3.2.1.2.1,v3.2.1.2.2.1,v3.2.1.2.2.2.1,v3.2.1.2.2.2.2.1,()),v6.1.1,v5.1,())]),(IntKind.i64.wrap (x.2.2.2.2.2.1+(1:Int))),())))))
|false=>
 some (.inr (.inl (x.2.2.2.2.1,())))
noncomputable def pC(x:Ty.T (.pair ae (.pair ab (.pair (.list ar) .unit)))):Option (Ty.T (.pair (.own 127 bk) (.pair (.int .i64) .unit))):=
match pB ((x.1.1,x.1.2.1,x.1.2.2.1,x.1.2.2.2.1,()),(x.2.1.1,x.2.1.2.1,x.2.1.2.2.1,x.2.1.2.2.2.1,x.2.1.2.2.2.2.1,()),x.2.2.1,())with
|none=>none
|some v1=>
match(v1.2.2.1 != (0:Int))with
|true=>
 some ([],v1.2.2.1,())
|false=>
 match ac eU (x.2.2.1,(x.1.1,x.1.2.1,x.1.2.2.1,x.1.2.2.2.1,()),(x.2.1.1,x.2.1.2.1,x.2.1.2.2.1,x.2.1.2.2.2.1,x.2.1.2.2.2.2.1,()),v1.1,[],(0:Int),())with
 |none=>none
 |some (.inl v7)=>
  some (v7.1,(0:Int),())
 |some (.inr v9)=>
  none
noncomputable def MJ:Spec:=⟨_,(.pair (.own 127 bk) (.pair (.int .i64) .unit)),.unit,rfl,pC⟩
noncomputable def wq:FuncId→Option Spec:=aX [(44,Em),(73,zI),(79,wZ)]
theorem FS:∀f s,wq f=some s→FnOK G0 Tryz.prog f s:=aw ⟨O3,xa,gx,trivial⟩
def u7:aG:=⟨[2,3,4,8,11,12],(.pair (.list ar) (.pair (.ptr ae) (.pair (.box ab) (.pair (.own 40 az) (.pair (.own 127 bk) (.pair (.int .i64) .unit)))))),0,[11],(.pair (.own 127 bk) .unit),[],.unit⟩
noncomputable def ws:List a9z:=[u7.spec eU]
theorem En:aU aV E0 wq (aR Tryz.f38 ws) Tryz.f38 0 u7 eU:=fun x=>by kernel_rfl
theorem K5:FnOK G0 Tryz.prog 38 MJ:=ax ai FS Tryz.func38 ws (by kernel_rfl) (by exact⟨(En).lok,trivial⟩) fun x=>by kernel_rfl
noncomputable def eV(x:(Ty.T (.pair (.ptr ae) (.pair (.own 127 bk) (.pair (.own 36 ab) (.pair (.own 40 az) ah)))))):Option ((Ty.T (.pair (.ptr ae) (.pair (.own 127 bk) (.pair (.own 36 ab) (.pair (.own 40 az) ah))))) ⊕ ((Ty.T (.pair (.own 127 bk) .unit)) ⊕ (Ty.T .unit))):=
match(decide (x.2.2.2.2.2.1<x.2.2.2.2.1))with
|true=>
 aa (au x.2.2.2.1 x.2.2.2.2.2.1) fun _=>
 match x.2.2.2.1[x.2.2.2.2.2.1.toNat]? with
 |none=>none
 |some v4=>
 aa (au x.2.2.1 x.2.2.2.2.2.1) fun _=>
 aa (au x.2.2.1 x.2.2.2.2.2.1) fun _=>
 bf (
  match x.2.2.1[x.2.2.2.2.2.1.toNat]? with
  |none=>none
  |some v7=>
  match x.2.2.1[x.2.2.2.2.2.1.toNat]? with
  |none=>none
  |some v8=>
  match ay (x.1,v8,())with
  |none=>none
  |some v9=>
  aM (x.2.1.length+ [((v7.1,v7.2.1,v7.2.2.1,v7.2.2.2.1,v7.2.2.2.2.1,()),v9.1.1,v4.1,())].length) (
   some (.inl (x.1,(x.2.1++ [((v7.1,v7.2.1,v7.2.2.1,v7.2.2.2.1,v7.2.2.2.2.1,()),v9.1.1,v4.1,())]),x.2.2.1,x.2.2.2.1,x.2.2.2.2.1,(IntKind.i64.wrap (x.2.2.2.2.2.1+(1:Int))),())))) (
  match x.2.2.1[x.2.2.2.2.2.1.toNat]? with
  |none=>none
  |some v7=>
  bf (
   match x.2.2.1[x.2.2.2.2.2.1.toNat]? with
   |none=>none
   |some v8=>
   match ay (x.1,v7,())with
   |none=>none
   |some v9=>
   aM (x.2.1.length+ [((v8.1,v8.2.1,v8.2.2.1,v8.2.2.2.1,v8.2.2.2.2.1,()),v9.1.1,v4.1,())].length) (
    some (.inl (x.1,(x.2.1++ [((v8.1,v8.2.1,v8.2.2.1,v8.2.2.2.1,v8.2.2.2.2.1,()),v9.1.1,v4.1,())]),x.2.2.1,x.2.2.2.1,x.2.2.2.2.1,(IntKind.i64.wrap (x.2.2.2.2.2.1+(1:Int))),())))) (
   match ay (x.1,v7,())with
   |none=>none
   |some v8=>
   match x.2.2.1[x.2.2.2.2.2.1.toNat]? with
   |none=>none
   |some v9=>
   aM (x.2.1.length+ [((v9.1,v9.2.1,v9.2.2.1,v9.2.2.2.1,v9.2.2.2.2.1,()),v8.1.1,v4.1,())].length) (
    some (.inl (x.1,(x.2.1++ [((v9.1,v9.2.1,v9.2.2.1,v9.2.2.2.1,v9.2.2.2.2.1,()),v8.1.1,v4.1,())]),x.2.2.1,x.2.2.2.1,x.2.2.2.2.1,(IntKind.i64.wrap (x.2.2.2.2.2.1+(1:Int))),())))))
|false=>
 some (.inr (.inl (x.2.1,())))
noncomputable def lW(x:Ty.T (.pair ae (.pair ab (.pair (.list ar) .unit)))):Option (Ty.T (.pair (.own 127 bk) (.pair (.int .i64) .unit))):=
match kR ((x.1.1,x.1.2.1,x.1.2.2.1,x.1.2.2.2.1,()),(x.2.1.1,x.2.1.2.1,x.2.1.2.2.1,x.2.1.2.2.2.1,x.2.1.2.2.2.2.1,()),x.2.2.1,())with
|none=>none
|some v1=>
match(v1.1 != (0:Int))with
|true=>
 some ([],v1.1,())
|false=>
 match mr ((x.1.1,x.1.2.1,x.1.2.2.1,x.1.2.2.2.1,()),(x.2.1.1,x.2.1.2.1,x.2.1.2.2.1,x.2.1.2.2.2.1,x.2.1.2.2.2.2.1,()),x.2.2.1,())with
 |none=>none
 |some v2=>
 match ac eV ((x.1.1,x.1.2.1,x.1.2.2.1,x.1.2.2.2.1,()),[],v2.2.1,v2.1,(v2.1.length:Int),(0:Int),())with
 |none=>none
 |some (.inl v10)=>
  some (v10.1,(0:Int),())
 |some (.inr v12)=>
  none
noncomputable def MK:Spec:=⟨_,(.pair (.own 127 bk) (.pair (.int .i64) .unit)),.unit,rfl,lW⟩
noncomputable def wt:FuncId→Option Spec:=aX [(77,Bl),(80,Ec),(81,mK)]
theorem FT:∀f s,wt f=some s→FnOK G0 Tryz.prog f s:=aw ⟨yo,BC,cX,trivial⟩
def u9:aG:=⟨[3,9,11,31,32,33],(.pair (.ptr ae) (.pair (.own 127 bk) (.pair (.own 36 ab) (.pair (.own 40 az) ah)))),0,[9],(.pair (.own 127 bk) .unit),[],.unit⟩
noncomputable def wu:List a9z:=[u9.spec eV]
theorem Eo:aU aV E0 wt (aR Tryz.f39 wu) Tryz.f39 0 u9 eV:=fun x=>by kernel_rfl
theorem K6:FnOK G0 Tryz.prog 39 MK:=ax ai FT Tryz.func39 wu (by kernel_rfl) (by exact⟨(Eo).lok,trivial⟩) fun x=>by kernel_rfl
noncomputable def wv(x:Ty.T (.pair ab (.pair ab .unit))):Option (Ty.T (.pair .bool .unit)):=
match(x.1.1 != x.2.1.1)with
|true=>
 some (false,())
|false=>
 match(x.1.2.1 != x.2.1.2.1)with
 |true=>
  some (false,())
 |false=>
  match(x.1.2.2.1 != x.2.1.2.2.1)with
  |true=>
   some (false,())
  |false=>
   match(x.1.2.2.2.1 != x.2.1.2.2.2.1)with
   |true=>
    some (false,())
   |false=>
    match(x.1.2.2.2.2.1 != x.2.1.2.2.2.2.1)with
    |true=>
     some (false,())
    |false=>
     some (true,())
noncomputable def S5:Spec:=⟨_,(.pair .bool .unit),.unit,rfl,wv⟩
theorem Q5:FnOK G0 Tryz.prog 35 S5:=aj ai aC Tryz.func35
noncomputable def z6(x:Ty.T (.pair bk (.pair bk .unit))):Option (Ty.T (.pair .bool .unit)):=
match wv (x.1.1,x.2.1.1,())with
|none=>none
|some v1=>
match(!v1.1)with
|true=>
 some (false,())
|false=>
 match(x.1.2.1 != x.2.1.2.1)with
 |true=>
  some (false,())
 |false=>
  match(x.1.2.2.1 != x.2.1.2.2.1)with
  |true=>
   some (false,())
  |false=>
   some (true,())
noncomputable def K7:Spec:=⟨_,(.pair .bool .unit),.unit,rfl,z6⟩
theorem S6:FnOK G0 Tryz.prog 82 K7:=aj ai (sg Q5 (aC)) Tryz.func82
noncomputable def i7(x:(Ty.T (.pair (.list bk) (.pair (.list bk) (.pair (.int .i64) .unit))))):Option ((Ty.T (.pair (.list bk) (.pair (.list bk) (.pair (.int .i64) .unit)))) ⊕ ((Ty.T .unit) ⊕ (Ty.T (.pair .bool .unit)))):=
match(decide (x.2.2.1<(x.1.length:Int)))with
|true=>
 aa (au x.1 x.2.2.1) fun v1=>
 aa (au x.2.1 x.2.2.1) fun v2=>
 match z6 (v1,v2,())with
 |none=>none
 |some v3=>
 match(!v3.1)with
 |true=>
  some (.inr (.inr (false,())))
 |false=>
  some (.inl (x.1,x.2.1,(IntKind.i64.wrap (x.2.2.1+(1:Int))),()))
|false=>
 some (.inr (.inl (())))
noncomputable def lX(x:Ty.T (.pair (.list bk) (.pair (.list bk) .unit))):Option (Ty.T (.pair .bool .unit)):=
match((x.1.length:Int) != (x.2.1.length:Int))with
|true=>
 some (false,())
|false=>
 match ac i7 (x.1,x.2.1,(0:Int),())with
 |none=>none
 |some (.inl v4)=>
  some (true,())
 |some (.inr v5)=>
  some (v5.1,())
noncomputable def S7:Spec:=⟨_,(.pair .bool .unit),.unit,rfl,lX⟩
noncomputable def Ep:FuncId→Option Spec:=aX [(82,K7)]
theorem ML:∀f s,Ep f=some s→FnOK G0 Tryz.prog f s:=aw ⟨S6,trivial⟩
def BI:aG:=⟨[0,1,5],(.pair (.list bk) (.pair (.list bk) (.pair (.int .i64) .unit))),0,[],.unit,[4],(.pair .bool .unit)⟩
noncomputable def Er:List a9z:=[BI.spec i7]
theorem K8:aU aV E0 Ep (aR Tryz.f40 Er) Tryz.f40 0 BI i7:=fun x=>by kernel_rfl
theorem Q6:FnOK G0 Tryz.prog 40 S7:=ax ai ML Tryz.func40 Er (by kernel_rfl) (by exact⟨(K8).lok,trivial⟩) fun x=>by kernel_rfl
noncomputable def gi(x:(Ty.T (.pair (.own 105 al) ah))):Option ((Ty.T (.pair (.own 105 al) ah)) ⊕ ((Ty.T (.pair (.own 105 al) (.pair (.int .i64) .unit))) ⊕ (Ty.T .unit))):=
match(decide (x.2.2.1<(x.1.length:Int)))with
|true=>
 aa (au x.1 x.2.2.1) fun _=>
 match x.1[x.2.2.1.toNat]? with
 |none=>none
 |some v2=>
 aa (au (x.1.set x.2.2.1.toNat (x.2.1,v2.2.1,v2.2.2.1,v2.2.2.2.1,())) x.2.2.1) fun _=>
 match(x.1.set x.2.2.1.toNat (x.2.1,v2.2.1,v2.2.2.1,v2.2.2.2.1,()))[x.2.2.1.toNat]? with
 |none=>none
 |some v4=>
 aa (au ((x.1.set x.2.2.1.toNat (x.2.1,v2.2.1,v2.2.2.1,v2.2.2.2.1,())).set x.2.2.1.toNat (v4.1,(IntKind.i64.wrap (x.2.1+(1:Int))),v4.2.2.1,v4.2.2.2.1,())) x.2.2.1) fun _=>
 match((x.1.set x.2.2.1.toNat (x.2.1,v2.2.1,v2.2.2.1,v2.2.2.2.1,())).set x.2.2.1.toNat (v4.1,(IntKind.i64.wrap (x.2.1+(1:Int))),v4.2.2.1,v4.2.2.2.1,()))[x.2.2.1.toNat]? with
 |none=>none
 |some v6=>
 aa (au (((x.1.set x.2.2.1.toNat (x.2.1,v2.2.1,v2.2.2.1,v2.2.2.2.1,())).set x.2.2.1.toNat (v4.1,(IntKind.i64.wrap (x.2.1+(1:Int))),v4.2.2.1,v4.2.2.2.1,())).set x.2.2.1.toNat (v6.1,v6.2.1,(IntKind.i64.wrap ((IntKind.i64.wrap (x.2.1+(1:Int)))+(1:Int))),v6.2.2.2.1,())) x.2.2.1) fun _=>
 match(((x.1.set x.2.2.1.toNat (x.2.1,v2.2.1,v2.2.2.1,v2.2.2.2.1,())).set x.2.2.1.toNat (v4.1,(IntKind.i64.wrap (x.2.1+(1:Int))),v4.2.2.1,v4.2.2.2.1,())).set x.2.2.1.toNat (v6.1,v6.2.1,(IntKind.i64.wrap ((IntKind.i64.wrap (x.2.1+(1:Int)))+(1:Int))),v6.2.2.2.1,()))[x.2.2.1.toNat]? with
 |none=>none
 |some v8=>
 some (.inl (((((x.1.set x.2.2.1.toNat (x.2.1,v2.2.1,v2.2.2.1,v2.2.2.2.1,())).set x.2.2.1.toNat (v4.1,(IntKind.i64.wrap (x.2.1+(1:Int))),v4.2.2.1,v4.2.2.2.1,())).set x.2.2.1.toNat (v6.1,v6.2.1,(IntKind.i64.wrap ((IntKind.i64.wrap (x.2.1+(1:Int)))+(1:Int))),v6.2.2.2.1,())).set x.2.2.1.toNat (v8.1,v8.2.1,v8.2.2.1,(IntKind.i64.wrap ((IntKind.i64.wrap ((IntKind.i64.wrap (x.2.1+(1:Int)))+(1:Int)))+(1:Int))),())),(IntKind.i64.wrap ((IntKind.i64.wrap ((IntKind.i64.wrap ((IntKind.i64.wrap (x.2.1+(1:Int)))+(1:Int)))+(1:Int)))+(1:Int))),(IntKind.i64.wrap (x.2.2.1+(1:Int))),()))
|false=>
 some (.inr (.inl (x.1,x.2.1,())))
noncomputable def iC(x:Ty.T (.pair (.own 105 al) (.pair (.int .i64) .unit))):Option (Ty.T (.pair (.int .i64) (.pair (.own 105 al) .unit))):=
match ac gi (x.1,x.2.1,(0:Int),())with
|none=>none
|some (.inl v9)=>
 some (v9.2.1,v9.1,())
|some (.inr v11)=>
 none
noncomputable def yP:Spec:=⟨_,(.pair (.int .i64) .unit),(.pair (.own 105 al) .unit),rfl,iC⟩
noncomputable def ww:FuncId→Option Spec:=aX []
theorem FU:∀f s,ww f=some s→FnOK G0 Tryz.prog f s:=aw trivial
def va:aG:=⟨[0,1,5],(.pair (.own 105 al) ah),0,[0,1],(.pair (.own 105 al) (.pair (.int .i64) .unit)),[],.unit⟩
noncomputable def wA:List a9z:=[va.spec gi]
theorem Es:aU aV E0 ww (aR Tryz.f23 wA) Tryz.f23 0 va gi:=fun x=>by kernel_rfl
theorem K9:FnOK G0 Tryz.prog 23 yP:=ax ai FU Tryz.func23 wA (by kernel_rfl) (by exact⟨(Es).lok,trivial⟩) fun x=>by kernel_rfl
noncomputable def fw(x:(Ty.T (.pair (.own 76 (.pair (.int .i64) (.pair (.int .i64) (.pair (.own 105 al) (.pair (.own 105 al) .unit))))) ah))):Option ((Ty.T (.pair (.own 76 (.pair (.int .i64) (.pair (.int .i64) (.pair (.own 105 al) (.pair (.own 105 al) .unit))))) ah)) ⊕ ((Ty.T (.pair (.own 76 (.pair (.int .i64) (.pair (.int .i64) (.pair (.own 105 al) (.pair (.own 105 al) .unit))))) (.pair (.int .i64) .unit))) ⊕ (Ty.T .unit))):=
match(decide (x.2.2.1<(x.1.length:Int)))with
|true=>
 aa (au x.1 x.2.2.1) fun _=>
 match x.1[x.2.2.1.toNat]? with
 |none=>none
 |some v2=>
 aa (au (x.1.set x.2.2.1.toNat (x.2.1,v2.2)) x.2.2.1) fun _=>
 match(x.1.set x.2.2.1.toNat (x.2.1,v2.2))[x.2.2.1.toNat]? with
 |none=>none
 |some v4=>
 aa (au ((x.1.set x.2.2.1.toNat (x.2.1,v2.2)).set x.2.2.1.toNat (v4.1,((IntKind.i64.wrap (x.2.1+(1:Int))),v4.2.2))) x.2.2.1) fun _=>
 match((x.1.set x.2.2.1.toNat (x.2.1,v2.2)).set x.2.2.1.toNat (v4.1,((IntKind.i64.wrap (x.2.1+(1:Int))),v4.2.2)))[x.2.2.1.toNat]? with
 |none=>none
 |some v6=>
 match iC (v6.2.2.1,(IntKind.i64.wrap ((IntKind.i64.wrap (x.2.1+(1:Int)))+(1:Int))),())with
 |none=>none
 |some v7=>
 aa (au (((x.1.set x.2.2.1.toNat (x.2.1,v2.2)).set x.2.2.1.toNat (v4.1,((IntKind.i64.wrap (x.2.1+(1:Int))),v4.2.2))).set x.2.2.1.toNat (v6.1,(v6.2.1,(v7.2.1,v6.2.2.2)))) x.2.2.1) fun _=>
 match(((x.1.set x.2.2.1.toNat (x.2.1,v2.2)).set x.2.2.1.toNat (v4.1,((IntKind.i64.wrap (x.2.1+(1:Int))),v4.2.2))).set x.2.2.1.toNat (v6.1,(v6.2.1,(v7.2.1,v6.2.2.2))))[x.2.2.1.toNat]? with
 |none=>none
 |some v9=>
 match iC (v9.2.2.2.1,v7.1,())with
 |none=>none
 |some v10=>
 some (.inl (((((x.1.set x.2.2.1.toNat (x.2.1,v2.2)).set x.2.2.1.toNat (v4.1,((IntKind.i64.wrap (x.2.1+(1:Int))),v4.2.2))).set x.2.2.1.toNat (v6.1,(v6.2.1,(v7.2.1,v6.2.2.2)))).set x.2.2.1.toNat (v9.1,(v9.2.1,(v9.2.2.1,(v10.2.1,v9.2.2.2.2))))),v10.1,(IntKind.i64.wrap (x.2.2.1+(1:Int))),()))
|false=>
 some (.inr (.inl (x.1,x.2.1,())))
noncomputable def qu(x:Ty.T (.pair (.own 76 (.pair (.int .i64) (.pair (.int .i64) (.pair (.own 105 al) (.pair (.own 105 al) .unit))))) (.pair (.int .i64) .unit))):Option (Ty.T (.pair (.int .i64) (.pair (.own 76 (.pair (.int .i64) (.pair (.int .i64) (.pair (.own 105 al) (.pair (.own 105 al) .unit))))) .unit))):=
match ac fw (x.1,x.2.1,(0:Int),())with
|none=>none
|some (.inl v11)=>
 some (v11.2.1,v11.1,())
|some (.inr v13)=>
 none
noncomputable def O4:Spec:=⟨_,(.pair (.int .i64) .unit),(.pair (.own 76 (.pair (.int .i64) (.pair (.int .i64) (.pair (.own 105 al) (.pair (.own 105 al) .unit))))) .unit),rfl,qu⟩
noncomputable def yQ:FuncId→Option Spec:=aX [(23,yP)]
theorem Ix:∀f s,yQ f=some s→FnOK G0 Tryz.prog f s:=aw ⟨K9,trivial⟩
def wB:aG:=⟨[0,1,5],(.pair (.own 76 (.pair (.int .i64) (.pair (.int .i64) (.pair (.own 105 al) (.pair (.own 105 al) .unit))))) ah),0,[0,1],(.pair (.own 76 (.pair (.int .i64) (.pair (.int .i64) (.pair (.own 105 al) (.pair (.own 105 al) .unit))))) (.pair (.int .i64) .unit)),[],.unit⟩
noncomputable def yR:List a9z:=[wB.spec fw]
theorem FV:aU ZH E2 yQ (aR Tryz.f41 yR) Tryz.f41 0 wB fw:=fun x=>by kernel_rfl
theorem MM:FnOK G0 Tryz.prog 41 O4:=ax ZI Ix Tryz.func41 yR (by kernel_rfl) (by exact⟨(FV).lok,trivial⟩) fun x=>by kernel_rfl
noncomputable def gG(x:(Ty.T (.pair (.own 127 bk) ah))):Option ((Ty.T (.pair (.own 127 bk) ah)) ⊕ ((Ty.T (.pair (.own 127 bk) (.pair (.int .i64) .unit))) ⊕ (Ty.T .unit))):=
match(decide (x.2.2.1<(x.1.length:Int)))with
|true=>
 aa (au x.1 x.2.2.1) fun _=>
 match x.1[x.2.2.1.toNat]? with
 |none=>none
 |some v2=>
 aa (au (x.1.set x.2.2.1.toNat ((x.2.1,v2.1.2.1,v2.1.2.2.1,v2.1.2.2.2.1,v2.1.2.2.2.2.1,()),v2.2.1,v2.2.2.1,())) x.2.2.1) fun _=>
 match(x.1.set x.2.2.1.toNat ((x.2.1,v2.1.2.1,v2.1.2.2.1,v2.1.2.2.2.1,v2.1.2.2.2.2.1,()),v2.2.1,v2.2.2.1,()))[x.2.2.1.toNat]? with
 |none=>none
 |some v4=>
 aa (au ((x.1.set x.2.2.1.toNat ((x.2.1,v2.1.2.1,v2.1.2.2.1,v2.1.2.2.2.1,v2.1.2.2.2.2.1,()),v2.2.1,v2.2.2.1,())).set x.2.2.1.toNat ((v4.1.1,(IntKind.i64.wrap (x.2.1+(1:Int))),v4.1.2.2.1,v4.1.2.2.2.1,v4.1.2.2.2.2.1,()),v4.2.1,v4.2.2.1,())) x.2.2.1) fun _=>
 match((x.1.set x.2.2.1.toNat ((x.2.1,v2.1.2.1,v2.1.2.2.1,v2.1.2.2.2.1,v2.1.2.2.2.2.1,()),v2.2.1,v2.2.2.1,())).set x.2.2.1.toNat ((v4.1.1,(IntKind.i64.wrap (x.2.1+(1:Int))),v4.1.2.2.1,v4.1.2.2.2.1,v4.1.2.2.2.2.1,()),v4.2.1,v4.2.2.1,()))[x.2.2.1.toNat]? with
 |none=>none
 |some v6=>
 aa (au (((x.1.set x.2.2.1.toNat ((x.2.1,v2.1.2.1,v2.1.2.2.1,v2.1.2.2.2.1,v2.1.2.2.2.2.1,()),v2.2.1,v2.2.2.1,())).set x.2.2.1.toNat ((v4.1.1,(IntKind.i64.wrap (x.2.1+(1:Int))),v4.1.2.2.1,v4.1.2.2.2.1,v4.1.2.2.2.2.1,()),v4.2.1,v4.2.2.1,())).set x.2.2.1.toNat ((v6.1.1,v6.1.2.1,(IntKind.i64.wrap ((IntKind.i64.wrap (x.2.1+(1:Int)))+(1:Int))),v6.1.2.2.2.1,v6.1.2.2.2.2.1,()),v6.2.1,v6.2.2.1,())) x.2.2.1) fun _=>
 match(((x.1.set x.2.2.1.toNat ((x.2.1,v2.1.2.1,v2.1.2.2.1,v2.1.2.2.2.1,v2.1.2.2.2.2.1,()),v2.2.1,v2.2.2.1,())).set x.2.2.1.toNat ((v4.1.1,(IntKind.i64.wrap (x.2.1+(1:Int))),v4.1.2.2.1,v4.1.2.2.2.1,v4.1.2.2.2.2.1,()),v4.2.1,v4.2.2.1,())).set x.2.2.1.toNat ((v6.1.1,v6.1.2.1,(IntKind.i64.wrap ((IntKind.i64.wrap (x.2.1+(1:Int)))+(1:Int))),v6.1.2.2.2.1,v6.1.2.2.2.2.1,()),v6.2.1,v6.2.2.1,()))[x.2.2.1.toNat]? with
 |none=>none
 |some v8=>
 aa (au ((((x.1.set x.2.2.1.toNat ((x.2.1,v2.1.2.1,v2.1.2.2.1,v2.1.2.2.2.1,v2.1.2.2.2.2.1,()),v2.2.1,v2.2.2.1,())).set x.2.2.1.toNat ((v4.1.1,(IntKind.i64.wrap (x.2.1+(1:Int))),v4.1.2.2.1,v4.1.2.2.2.1,v4.1.2.2.2.2.1,()),v4.2.1,v4.2.2.1,())).set x.2.2.1.toNat ((v6.1.1,v6.1.2.1,(IntKind.i64.wrap ((IntKind.i64.wrap (x.2.1+(1:Int)))+(1:Int))),v6.1.2.2.2.1,v6.1.2.2.2.2.1,()),v6.2.1,v6.2.2.1,())).set x.2.2.1.toNat ((v8.1.1,v8.1.2.1,v8.1.2.2.1,(IntKind.i64.wrap ((IntKind.i64.wrap ((IntKind.i64.wrap (x.2.1+(1:Int)))+(1:Int)))+(1:Int))),v8.1.2.2.2.2.1,()),v8.2.1,v8.2.2.1,())) x.2.2.1) fun _=>
 match((((x.1.set x.2.2.1.toNat ((x.2.1,v2.1.2.1,v2.1.2.2.1,v2.1.2.2.2.1,v2.1.2.2.2.2.1,()),v2.2.1,v2.2.2.1,())).set x.2.2.1.toNat ((v4.1.1,(IntKind.i64.wrap (x.2.1+(1:Int))),v4.1.2.2.1,v4.1.2.2.2.1,v4.1.2.2.2.2.1,()),v4.2.1,v4.2.2.1,())).set x.2.2.1.toNat ((v6.1.1,v6.1.2.1,(IntKind.i64.wrap ((IntKind.i64.wrap (x.2.1+(1:Int)))+(1:Int))),v6.1.2.2.2.1,v6.1.2.2.2.2.1,()),v6.2.1,v6.2.2.1,())).set x.2.2.1.toNat ((v8.1.1,v8.1.2.1,v8.1.2.2.1,(IntKind.i64.wrap ((IntKind.i64.wrap ((IntKind.i64.wrap (x.2.1+(1:Int)))+(1:Int)))+(1:Int))),v8.1.2.2.2.2.1,()),v8.2.1,v8.2.2.1,()))[x.2.2.1.toNat]? with
 |none=>none
 |some v10=>
 aa (au (((((x.1.set x.2.2.1.toNat ((x.2.1,v2.1.2.1,v2.1.2.2.1,v2.1.2.2.2.1,v2.1.2.2.2.2.1,()),v2.2.1,v2.2.2.1,())).set x.2.2.1.toNat ((v4.1.1,(IntKind.i64.wrap (x.2.1+(1:Int))),v4.1.2.2.1,v4.1.2.2.2.1,v4.1.2.2.2.2.1,()),v4.2.1,v4.2.2.1,())).set x.2.2.1.toNat ((v6.1.1,v6.1.2.1,(IntKind.i64.wrap ((IntKind.i64.wrap (x.2.1+(1:Int)))+(1:Int))),v6.1.2.2.2.1,v6.1.2.2.2.2.1,()),v6.2.1,v6.2.2.1,())).set x.2.2.1.toNat ((v8.1.1,v8.1.2.1,v8.1.2.2.1,(IntKind.i64.wrap ((IntKind.i64.wrap ((IntKind.i64.wrap (x.2.1+(1:Int)))+(1:Int)))+(1:Int))),v8.1.2.2.2.2.1,()),v8.2.1,v8.2.2.1,())).set x.2.2.1.toNat ((v10.1.1,v10.1.2.1,v10.1.2.2.1,v10.1.2.2.2.1,(IntKind.i64.wrap ((IntKind.i64.wrap ((IntKind.i64.wrap ((IntKind.i64.wrap (x.2.1+(1:Int)))+(1:Int)))+(1:Int)))+(1:Int))),()),v10.2.1,v10.2.2.1,())) x.2.2.1) fun _=>
 match(((((x.1.set x.2.2.1.toNat ((x.2.1,v2.1.2.1,v2.1.2.2.1,v2.1.2.2.2.1,v2.1.2.2.2.2.1,()),v2.2.1,v2.2.2.1,())).set x.2.2.1.toNat ((v4.1.1,(IntKind.i64.wrap (x.2.1+(1:Int))),v4.1.2.2.1,v4.1.2.2.2.1,v4.1.2.2.2.2.1,()),v4.2.1,v4.2.2.1,())).set x.2.2.1.toNat ((v6.1.1,v6.1.2.1,(IntKind.i64.wrap ((IntKind.i64.wrap (x.2.1+(1:Int)))+(1:Int))),v6.1.2.2.2.1,v6.1.2.2.2.2.1,()),v6.2.1,v6.2.2.1,())).set x.2.2.1.toNat ((v8.1.1,v8.1.2.1,v8.1.2.2.1,(IntKind.i64.wrap ((IntKind.i64.wrap ((IntKind.i64.wrap (x.2.1+(1:Int)))+(1:Int)))+(1:Int))),v8.1.2.2.2.2.1,()),v8.2.1,v8.2.2.1,())).set x.2.2.1.toNat ((v10.1.1,v10.1.2.1,v10.1.2.2.1,v10.1.2.2.2.1,(IntKind.i64.wrap ((IntKind.i64.wrap ((IntKind.i64.wrap ((IntKind.i64.wrap (x.2.1+(1:Int)))+(1:Int)))+(1:Int)))+(1:Int))),()),v10.2.1,v10.2.2.1,()))[x.2.2.1.toNat]? with
 |none=>none
 |some v12=>
 aa (au ((((((x.1.set x.2.2.1.toNat ((x.2.1,v2.1.2.1,v2.1.2.2.1,v2.1.2.2.2.1,v2.1.2.2.2.2.1,()),v2.2.1,v2.2.2.1,())).set x.2.2.1.toNat ((v4.1.1,(IntKind.i64.wrap (x.2.1+(1:Int))),v4.1.2.2.1,v4.1.2.2.2.1,v4.1.2.2.2.2.1,()),v4.2.1,v4.2.2.1,())).set x.2.2.1.toNat ((v6.1.1,v6.1.2.1,(IntKind.i64.wrap ((IntKind.i64.wrap (x.2.1+(1:Int)))+(1:Int))),v6.1.2.2.2.1,v6.1.2.2.2.2.1,()),v6.2.1,v6.2.2.1,())).set x.2.2.1.toNat ((v8.1.1,v8.1.2.1,v8.1.2.2.1,(IntKind.i64.wrap ((IntKind.i64.wrap ((IntKind.i64.wrap (x.2.1+(1:Int)))+(1:Int)))+(1:Int))),v8.1.2.2.2.2.1,()),v8.2.1,v8.2.2.1,())).set x.2.2.1.toNat ((v10.1.1,v10.1.2.1,v10.1.2.2.1,v10.1.2.2.2.1,(IntKind.i64.wrap ((IntKind.i64.wrap ((IntKind.i64.wrap ((IntKind.i64.wrap (x.2.1+(1:Int)))+(1:Int)))+(1:Int)))+(1:Int))),()),v10.2.1,v10.2.2.1,())).set x.2.2.1.toNat (v12.1,(IntKind.i64.wrap ((IntKind.i64.wrap ((IntKind.i64.wrap ((IntKind.i64.wrap ((IntKind.i64.wrap (x.2.1+(1:Int)))+(1:Int)))+(1:Int)))+(1:Int)))+(1:Int))),v12.2.2.1,())) x.2.2.1) fun _=>
 match((((((x.1.set x.2.2.1.toNat ((x.2.1,v2.1.2.1,v2.1.2.2.1,v2.1.2.2.2.1,v2.1.2.2.2.2.1,()),v2.2.1,v2.2.2.1,())).set x.2.2.1.toNat ((v4.1.1,(IntKind.i64.wrap (x.2.1+(1:Int))),v4.1.2.2.1,v4.1.2.2.2.1,v4.1.2.2.2.2.1,()),v4.2.1,v4.2.2.1,())).set x.2.2.1.toNat ((v6.1.1,v6.1.2.1,(IntKind.i64.wrap ((IntKind.i64.wrap (x.2.1+(1:Int)))+(1:Int))),v6.1.2.2.2.1,v6.1.2.2.2.2.1,()),v6.2.1,v6.2.2.1,())).set x.2.2.1.toNat ((v8.1.1,v8.1.2.1,v8.1.2.2.1,(IntKind.i64.wrap ((IntKind.i64.wrap ((IntKind.i64.wrap (x.2.1+(1:Int)))+(1:Int)))+(1:Int))),v8.1.2.2.2.2.1,()),v8.2.1,v8.2.2.1,())).set x.2.2.1.toNat ((v10.1.1,v10.1.2.1,v10.1.2.2.1,v10.1.2.2.2.1,(IntKind.i64.wrap ((IntKind.i64.wrap ((IntKind.i64.wrap ((IntKind.i64.wrap (x.2.1+(1:Int)))+(1:Int)))+(1:Int)))+(1:Int))),()),v10.2.1,v10.2.2.1,())).set x.2.2.1.toNat (v12.1,(IntKind.i64.wrap ((IntKind.i64.wrap ((IntKind.i64.wrap ((IntKind.i64.wrap ((IntKind.i64.wrap (x.2.1+(1:Int)))+(1:Int)))+(1:Int)))+(1:Int)))+(1:Int))),v12.2.2.1,()))[x.2.2.1.toNat]? with
 |none=>none
 |some v14=>
 some (.inl ((((((((x.1.set x.2.2.1.toNat ((x.2.1,v2.1.2.1,v2.1.2.2.1,v2.1.2.2.2.1,v2.1.2.2.2.2.1,()),v2.2.1,v2.2.2.1,())).set x.2.2.1.toNat ((v4.1.1,(IntKind.i64.wrap (x.2.1+(1:Int))),v4.1.2.2.1,v4.1.2.2.2.1,v4.1.2.2.2.2.1,()),v4.2.1,v4.2.2.1,())).set x.2.2.1.toNat ((v6.1.1,v6.1.2.1,(IntKind.i64.wrap ((IntKind.i64.wrap (x.2.1+(1:Int)))+(1:Int))),v6.1.2.2.2.1,v6.1.2.2.2.2.1,()),v6.2.1,v6.2.2.1,())).set x.2.2.1.toNat ((v8.1.1,v8.1.2.1,v8.1.2.2.1,(IntKind.i64.wrap ((IntKind.i64.wrap ((IntKind.i64.wrap (x.2.1+(1:Int)))+(1:Int)))+(1:Int))),v8.1.2.2.2.2.1,()),v8.2.1,v8.2.2.1,())).set x.2.2.1.toNat ((v10.1.1,v10.1.2.1,v10.1.2.2.1,v10.1.2.2.2.1,(IntKind.i64.wrap ((IntKind.i64.wrap ((IntKind.i64.wrap ((IntKind.i64.wrap (x.2.1+(1:Int)))+(1:Int)))+(1:Int)))+(1:Int))),()),v10.2.1,v10.2.2.1,())).set x.2.2.1.toNat (v12.1,(IntKind.i64.wrap ((IntKind.i64.wrap ((IntKind.i64.wrap ((IntKind.i64.wrap ((IntKind.i64.wrap (x.2.1+(1:Int)))+(1:Int)))+(1:Int)))+(1:Int)))+(1:Int))),v12.2.2.1,())).set x.2.2.1.toNat (v14.1,v14.2.1,(IntKind.i64.wrap ((IntKind.i64.wrap ((IntKind.i64.wrap ((IntKind.i64.wrap ((IntKind.i64.wrap ((IntKind.i64.wrap (x.2.1+(1:Int)))+(1:Int)))+(1:Int)))+(1:Int)))+(1:Int)))+(1:Int))),())),(IntKind.i64.wrap ((IntKind.i64.wrap ((IntKind.i64.wrap ((IntKind.i64.wrap ((IntKind.i64.wrap ((IntKind.i64.wrap ((IntKind.i64.wrap (x.2.1+(1:Int)))+(1:Int)))+(1:Int)))+(1:Int)))+(1:Int)))+(1:Int)))+(1:Int))),(IntKind.i64.wrap (x.2.2.1+(1:Int))),()))
|false=>
 some (.inr (.inl (x.1,x.2.1,())))
noncomputable def na(x:Ty.T (.pair (.own 127 bk) (.pair (.int .i64) .unit))):Option (Ty.T (.pair (.int .i64) (.pair (.own 127 bk) .unit))):=
match ac gG (x.1,x.2.1,(0:Int),())with
|none=>none
|some (.inl v15)=>
 some (v15.2.1,v15.1,())
|some (.inr v17)=>
 none
noncomputable def O5:Spec:=⟨_,(.pair (.int .i64) .unit),(.pair (.own 127 bk) .unit),rfl,na⟩
noncomputable def yS:FuncId→Option Spec:=aX []
theorem Iy:∀f s,yS f=some s→FnOK G0 Tryz.prog f s:=aw trivial
def wC:aG:=⟨[0,1,5],(.pair (.own 127 bk) ah),0,[0,1],(.pair (.own 127 bk) (.pair (.int .i64) .unit)),[],.unit⟩
noncomputable def yT:List a9z:=[wC.spec gG]
theorem FW:aU aV E0 yS (aR Tryz.f42 yT) Tryz.f42 0 wC gG:=fun x=>by kernel_rfl
theorem MN:FnOK G0 Tryz.prog 42 O5:=ax ai Iy Tryz.func42 yT (by kernel_rfl) (by exact⟨(FW).lok,trivial⟩) fun x=>by kernel_rfl
noncomputable def gH(x:(Ty.T (.pair (.list bk) ah))):Option ((Ty.T (.pair (.list bk) ah)) ⊕ ((Ty.T (.pair (.int .i64) .unit)) ⊕ (Ty.T (.pair (.int .i64) .unit)))):=
match(decide (x.2.2.1<(x.1.length:Int)))with
|true=>
 aa (au x.1 x.2.2.1) fun v1=>
 match(v1.1.1 != x.2.1)with
 |true=>
  some (.inr (.inr ((-1:Int),())))
 |false=>
  aa (au x.1 x.2.2.1) fun v2=>
  match(v2.1.2.1 != (IntKind.i64.wrap (x.2.1+(1:Int))))with
  |true=>
   some (.inr (.inr ((-1:Int),())))
  |false=>
   aa (au x.1 x.2.2.1) fun v3=>
   match(v3.1.2.2.1 != (IntKind.i64.wrap ((IntKind.i64.wrap (x.2.1+(1:Int)))+(1:Int))))with
   |true=>
    some (.inr (.inr ((-1:Int),())))
   |false=>
    aa (au x.1 x.2.2.1) fun v4=>
    match(v4.1.2.2.2.1 != (IntKind.i64.wrap ((IntKind.i64.wrap ((IntKind.i64.wrap (x.2.1+(1:Int)))+(1:Int)))+(1:Int))))with
    |true=>
     some (.inr (.inr ((-1:Int),())))
    |false=>
     aa (au x.1 x.2.2.1) fun v5=>
     match(v5.1.2.2.2.2.1 != (IntKind.i64.wrap ((IntKind.i64.wrap ((IntKind.i64.wrap ((IntKind.i64.wrap (x.2.1+(1:Int)))+(1:Int)))+(1:Int)))+(1:Int))))with
     |true=>
      some (.inr (.inr ((-1:Int),())))
     |false=>
      aa (au x.1 x.2.2.1) fun v6=>
      match(v6.2.1 != (IntKind.i64.wrap ((IntKind.i64.wrap ((IntKind.i64.wrap ((IntKind.i64.wrap ((IntKind.i64.wrap (x.2.1+(1:Int)))+(1:Int)))+(1:Int)))+(1:Int)))+(1:Int))))with
      |true=>
       some (.inr (.inr ((-1:Int),())))
      |false=>
       aa (au x.1 x.2.2.1) fun v7=>
       match(v7.2.2.1 != (IntKind.i64.wrap ((IntKind.i64.wrap ((IntKind.i64.wrap ((IntKind.i64.wrap ((IntKind.i64.wrap ((IntKind.i64.wrap (x.2.1+(1:Int)))+(1:Int)))+(1:Int)))+(1:Int)))+(1:Int)))+(1:Int))))with
       |true=>
        some (.inr (.inr ((-1:Int),())))
       |false=>
        some (.inl (x.1,(IntKind.i64.wrap ((IntKind.i64.wrap ((IntKind.i64.wrap ((IntKind.i64.wrap ((IntKind.i64.wrap ((IntKind.i64.wrap ((IntKind.i64.wrap (x.2.1+(1:Int)))+(1:Int)))+(1:Int)))+(1:Int)))+(1:Int)))+(1:Int)))+(1:Int))),(IntKind.i64.wrap (x.2.2.1+(1:Int))),()))
|false=>
 some (.inr (.inl (x.2.1,())))
noncomputable def kS(x:Ty.T (.pair (.list bk) (.pair (.int .i64) .unit))):Option (Ty.T (.pair (.int .i64) .unit)):=
match ac gH (x.1,x.2.1,(0:Int),())with
|none=>none
|some (.inl v8)=>
 some (v8.1,())
|some (.inr v9)=>
 some (v9.1,())
noncomputable def O6:Spec:=⟨_,(.pair (.int .i64) .unit),.unit,rfl,kS⟩
noncomputable def yU:FuncId→Option Spec:=aX []
theorem Iz:∀f s,yU f=some s→FnOK G0 Tryz.prog f s:=aw trivial
def wD:aG:=⟨[0,1,5],(.pair (.list bk) ah),0,[1],(.pair (.int .i64) .unit),[4],(.pair (.int .i64) .unit)⟩
noncomputable def yV:List a9z:=[wD.spec gH]
theorem FX:aU aV E0 yU (aR Tryz.f43 yV) Tryz.f43 0 wD gH:=fun x=>by kernel_rfl
theorem MO:FnOK G0 Tryz.prog 43 O6:=ax ai Iz Tryz.func43 yV (by kernel_rfl) (by exact⟨(FX).lok,trivial⟩) fun x=>by kernel_rfl
noncomputable def fV(x:Ty.T (.pair ae (.pair ab (.pair (.list ar) .unit)))):Option (Ty.T (.pair .bool .unit)):=
match nC (x.1,(1048576:Int),())with
|none=>none
|some v1=>
match(decide (v1.1<(0:Int)))with
|true=>
 some (true,())
|false=>
 match lv (x.2.2.1,v1.1,())with
 |none=>none
 |some v2=>
 match(decide (v2.1<(0:Int)))with
 |true=>
  some (true,())
 |false=>
  match jl (x.1,())with
  |none=>none
  |some v3=>
  match jb (x.2.1,())with
  |none=>none
  |some v4=>
  match ib (x.2.2.1,())with
  |none=>none
  |some v5=>
  match pC (v3.1,v4.1,v5.1,())with
  |none=>none
  |some v6=>
  match jl (x.1,())with
  |none=>none
  |some v7=>
  match ib (x.2.2.1,())with
  |none=>none
  |some v8=>
  match jb (x.2.1,())with
  |none=>none
  |some v9=>
  match lW (v7.1,v9.1,v8.1,())with
  |none=>none
  |some v10=>
  match lX (v10.1,v6.1,())with
  |none=>none
  |some v11=>
  match(!v11.1)with
  |true=>
   some (false,())
  |false=>
   match(v10.2.1 != v6.2.1)with
   |true=>
    some (false,())
   |false=>
    match jl (x.1,())with
    |none=>none
    |some v12=>
    match uc (v7.1,v12.1,())with
    |none=>none
    |some v13=>
    match(!v13.1)with
    |true=>
     some (false,())
    |false=>
     match ib (x.2.2.1,())with
     |none=>none
     |some v14=>
     match rg (v8.1,v14.1,())with
     |none=>none
     |some v15=>
     match(!v15.1)with
     |true=>
      some (false,())
     |false=>
      match td (v7.1,(1:Int),())with
      |none=>none
      |some v16=>
      match qu (v8.1,v16.1,())with
      |none=>none
      |some v17=>
      match(decide (v17.1<(0:Int)))with
      |true=>
       some (false,())
      |false=>
       match lX (v10.1,v6.1,())with
       |none=>none
       |some v18=>
       match(!v18.1)with
       |true=>
        some (false,())
       |false=>
        match(v10.2.1 != v6.2.1)with
        |true=>
         some (false,())
        |false=>
         match na (v10.1,(1:Int),())with
         |none=>none
         |some v19=>
         match kS (v19.2.1,(1:Int),())with
         |none=>none
         |some v20=>
         match(decide (v20.1<(0:Int)))with
         |true=>
          some (false,())
         |false=>
          match(v20.1 != v19.1)with
          |true=>
           some (false,())
          |false=>
           match jl (x.1,())with
           |none=>none
           |some v21=>
           match jb (x.2.1,())with
           |none=>none
           |some v22=>
           match ib (x.2.2.1,())with
           |none=>none
           |some v23=>
           match lW (v21.1,v22.1,v23.1,())with
           |none=>none
           |some v24=>
           match lX (v24.1,v6.1,())with
           |none=>none
           |some v25=>
           match(!v25.1)with
           |true=>
            some (false,())
           |false=>
            match(v24.2.1 != v6.2.1)with
            |true=>
             some (false,())
            |false=>
             match kS (v19.2.1,(1:Int),())with
             |none=>none
             |some v26=>
             match(decide (v26.1<(0:Int)))with
             |true=>
              some (false,())
             |false=>
              match(v26.1 != v19.1)with
              |true=>
               some (false,())
              |false=>
               some (true,())
noncomputable def yW:Spec:=⟨_,(.pair .bool .unit),.unit,rfl,fV⟩
theorem xk:FnOK G0 Tryz.prog 6 yW:=aj ai (sg Ga (sg Gb (sg CJ (sg Gc (sg O2 (sg CP (sg DG (sg Eg (sg K5 (sg K6 (sg Q6 (sg MM (sg MN (sg MO (aC))))))))))))))) Tryz.func6
end Go.Proofs.YthfgmmmeplanbaaGreatDoor
