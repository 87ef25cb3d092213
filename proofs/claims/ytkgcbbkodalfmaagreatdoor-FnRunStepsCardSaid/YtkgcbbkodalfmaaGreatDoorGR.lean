import Derived.Test.YtkgcbbkodalfmaaGreatDoorGC
namespace Go.Proofs.YtkgcbbkodalfmaaGreatDoor
open Go.RowKit
set_option linter.unusedVariables false
abbrev acs:Ty:=aem
abbrev adB:Ty:=ae0
noncomputable def qe(x:(Ty.T acs)):Option ((Ty.T acs) ⊕ ((Ty.T adB) ⊕ (Ty.T ae))):=
match(decide (x.2.2.2.2.2.2.2.2.2.1<(x.2.2.2.2.1.length:Int)))with
|true=>
 aa (aq x.2.2.2.2.1 x.2.2.2.2.2.2.2.2.2.1) fun _=>
 match x.2.2.2.2.1[x.2.2.2.2.2.2.2.2.2.1.toNat]? with
 |none=>none
 |some v6=>
 aa (aq x.2.2.2.2.2.2.2.1 x.2.2.2.2.2.2.2.2.2.1) fun _=>
 match x.2.2.2.2.2.2.2.1[x.2.2.2.2.2.2.2.2.2.1.toNat]? with
 |none=>none
 |some v8=>
 match PA (v6,v8,())with
 |none=>none
 |some v9=>
 match(!v9.1)with
 |true=>
  some (.inr (.inr (false,())))
 |false=>
  match x.2.2.2.2.2.2.2.2.1 with
  |true=>
   some (.inl (x.1,x.2.1,x.2.2.1,x.2.2.2.1,x.2.2.2.2.1,x.2.2.2.2.2.1,x.2.2.2.2.2.2.1,x.2.2.2.2.2.2.2.1,true,(IntKind.i64.wrap (x.2.2.2.2.2.2.2.2.2.1+(1:Int))),()))
  |false=>
   aa (aq x.2.2.2.1 x.2.2.2.2.2.2.2.2.2.1) fun v10=>
   some (.inl (x.1,x.2.1,x.2.2.1,x.2.2.2.1,x.2.2.2.2.1,x.2.2.2.2.2.1,x.2.2.2.2.2.2.1,x.2.2.2.2.2.2.2.1,(decide (v10.2.1>(0:Int))),(IntKind.i64.wrap (x.2.2.2.2.2.2.2.2.2.1+(1:Int))),()))
|false=>
 some (.inr (.inl (x.1,x.2.1,x.2.2.1,x.2.2.2.1,x.2.2.2.2.1,x.2.2.2.2.2.1,x.2.2.2.2.2.2.1,x.2.2.2.2.2.2.2.2.1,())))
abbrev acu:Ty:=ael
noncomputable def ql(x:(Ty.T acu)):Option ((Ty.T acu) ⊕ ((Ty.T .unit) ⊕ (Ty.T ae))):=
match(decide (x.2.2.2.1<(x.1.length:Int)))with
|true=>
 match(decide (x.2.2.2.1<(x.2.1.length:Int)))with
 |true=>
  aa (aq x.2.1 x.2.2.2.1) fun _=>
  match x.2.1[x.2.2.2.1.toNat]? with
  |none=>none
  |some v10=>
  aa (aq x.1 x.2.2.2.1) fun _=>
  match x.1[x.2.2.2.1.toNat]? with
  |none=>none
  |some v12=>
  match PA (v10,v12,())with
  |none=>none
  |some v13=>
  match(!v13.1)with
  |true=>
   some (.inr (.inr (false,())))
  |false=>
   match(decide (x.2.2.2.1≥(x.2.1.length:Int)))with
   |true=>
    aa (aq x.1 x.2.2.2.1) fun _=>
    match x.1[x.2.2.2.1.toNat]? with
    |none=>none
    |some v15=>
    aa (aq x.2.2.1 (IntKind.i64.wrap (x.2.2.2.1-(x.2.1.length:Int)))) fun _=>
    match x.2.2.1[(IntKind.i64.wrap (x.2.2.2.1-(x.2.1.length:Int))).toNat]? with
    |none=>none
    |some v17=>
    match PA (v17,v15,())with
    |none=>none
    |some v18=>
    match(!v18.1)with
    |true=>
     some (.inr (.inr (false,())))
    |false=>
     some (.inl (x.1,x.2.1,x.2.2.1,(IntKind.i64.wrap (x.2.2.2.1+(1:Int))),()))
   |false=>
    some (.inl (x.1,x.2.1,x.2.2.1,(IntKind.i64.wrap (x.2.2.2.1+(1:Int))),()))
 |false=>
  match(decide (x.2.2.2.1≥(x.2.1.length:Int)))with
  |true=>
   aa (aq x.1 x.2.2.2.1) fun _=>
   match x.1[x.2.2.2.1.toNat]? with
   |none=>none
   |some v20=>
   aa (aq x.2.2.1 (IntKind.i64.wrap (x.2.2.2.1-(x.2.1.length:Int)))) fun _=>
   match x.2.2.1[(IntKind.i64.wrap (x.2.2.2.1-(x.2.1.length:Int))).toNat]? with
   |none=>none
   |some v22=>
   match PA (v22,v20,())with
   |none=>none
   |some v23=>
   match(!v23.1)with
   |true=>
    some (.inr (.inr (false,())))
   |false=>
    some (.inl (x.1,x.2.1,x.2.2.1,(IntKind.i64.wrap (x.2.2.2.1+(1:Int))),()))
  |false=>
   some (.inl (x.1,x.2.1,x.2.2.1,(IntKind.i64.wrap (x.2.2.2.1+(1:Int))),()))
|false=>
 some (.inr (.inl (())))
noncomputable def Q5(x:Ty.T afz):Option (Unit ⊕ (Ty.T ae)):=
match(x.2.2.2.1 != (0:Int))with
|true=>
 some (.inr (false,()))
|false=>
 match(x.2.2.2.2.2.2.1 != (0:Int))with
 |true=>
  some (.inr (false,()))
 |false=>
  match(!(dy ab x.2.2.2.2.2.1 x.2.1))with
  |true=>
   some (.inr (false,()))
  |false=>
   match((IntKind.i64.wrap ((x.2.2.1.length:Int)+(x.2.2.2.2.1.length:Int))) != (x.1.length:Int))with
   |true=>
    some (.inr (false,()))
   |false=>
    match ag ql (x.1,x.2.2.1,x.2.2.2.2.1,(0:Int),())with
    |none=>none
    |some (.inl v9)=>
     some (.inr (true,()))
    |some (.inr v10)=>
     some (.inr (v10.1,()))
noncomputable def Q6(x:Ty.T afA):Option (Unit ⊕ (Ty.T ae)):=
aa (aL x.2.1.length (some (.dat (.int .i64) x.2.2.2.2.1)) none) fun v11=>
aI (
 match pZ (x.1,x.2.2.2.2.2.2.1,(List.drop v11.1 (List.take v11.2 x.2.1)),())with
 |none=>none
 |some v12=>
 match Q5 (x.2.2.1,x.2.2.2.1,x.2.2.2.2.2.1,x.2.2.2.2.2.2.2.1,v12.1,v12.2.1,v12.2.2.1,())with
 |none=>none
 |some (.inl v14)=>none
 |some (.inr v13)=>
  some (.inr (v13.1,())))
noncomputable def abz(x:Ty.T aeP):Option (Ty.T ae):=
match Jm (x.1,())with
|none=>none
|some v1=>
match v1.1 with
|true=>
 some (true,())
|false=>
 match aaZ (x.1,())with
 |none=>none
 |some v2=>
 match pZ v2 with
 |none=>none
 |some v3=>
 match qf v2 with
 |none=>none
 |some v4=>
 match(v3.2.2.1 != v4.2.2.1)with
 |true=>
  some (false,())
 |false=>
  match((v3.1.length:Int) != (v4.1.length:Int))with
  |true=>
   some (false,())
  |false=>
   match(!(dy ab v3.2.1 v4.2.1))with
   |true=>
    some (false,())
   |false=>
    match ag qe (x.1,v2.1,v2.2.1,v2.2.2.1,v3.1,v3.2.1,v3.2.2.1,v4.1,false,(0:Int),())with
    |none=>none
    |some (.inl v5)=>
     match(v5.2.2.2.2.2.2.1 != (0:Int))with
     |true=>
      some (true,())
     |false=>
      match v5.2.2.2.2.2.2.2.1 with
      |true=>
       some (true,())
      |false=>
       match adL (v5.1,(3203:Int),())with
       |none=>none
       |some v7=>
       match abn (v7.1,(IntKind.i64.wrap ((v5.2.2.2.1.length:Int)+(1:Int))),())with
       |none=>none
       |some v8=>
       aa (aL v5.2.2.2.1.length none (some (.dat (.int .i64) v8.1))) fun v15=>
       aI (
        match pZ (v5.2.1,v5.2.2.1,(List.drop v15.1 (List.take v15.2 v5.2.2.2.1)),())with
        |none=>none
        |some v16=>
        match Q6 (v5.2.1,v5.2.2.2.1,v5.2.2.2.2.1,v5.2.2.2.2.2.1,v8.1,v16.1,v16.2.1,v16.2.2.1,())with
        |none=>none
        |some (.inl v18)=>none
        |some (.inr v17)=>
         some (v17.1,()))
    |some (.inr v6)=>
     some (v6.1,())
noncomputable def ac2:Spec:=⟨_,ae,.unit,rfl,abz⟩
noncomputable def Av:FuncId→Option Spec:=bh [(8,LI),(12,acC),(25,aeo),(26,acU),(27,acD),(28,Qw),(29,EA)]
theorem adC:∀f s,Av f=some s→FnOK G0 Tryz.prog f s:=aF ⟨P1,adz,ae5,adN,adA,OD,OY,trivial⟩
noncomputable def acv:List (Nat×ay):=[(19,⟨[3,5,6,7,14,15,16,17],afA,1000019,[],.unit,[2],ae,Q6⟩),(20,⟨[6,7,15,17,18,19,20],afz,1000020,[],.unit,[2],ae,Q5⟩)]
noncomputable def Q3:Nat→Option ay:=PP (bZ (ff Tryz.f5)) [⟨[0,3,4,5,6,7,8,9,12,13],aem,0,[0,3,4,5,6,7,8,12],ae0,[2],ae,ag qe⟩,⟨[6,15,18,21],ael,2,[],.unit,[2],ae,ag ql⟩] acv
theorem ado(x):eY bd E0 Av Q3 Tryz.f5.ntmps (VT Tryz.f5 23) (eX Tryz.f5.ntmps [3,5,6,7,14,15,16,17] afA x) (zZ Av Tryz.f5.ntmps 1000019 [] .unit [2] ae)=Q6 x:=by kernel_rfl
theorem adp(x):eY bd E0 Av Q3 Tryz.f5.ntmps (VT Tryz.f5 24) (eX Tryz.f5.ntmps [6,7,15,17,18,19,20] afz x) (zZ Av Tryz.f5.ntmps 1000020 [] .unit [2] ae)=Q5 x:=by kernel_rfl
theorem adq(x):eY bd E0 Av Q3 Tryz.f5.ntmps (LF Tryz.f5 0) (eX Tryz.f5.ntmps [0,3,4,5,6,7,8,9,12,13] aem x) (z6 Av Tryz.f5.ntmps [0,3,4,5,6,7,8,9,12,13] aem 0 [0,3,4,5,6,7,8,12] ae0 [2] ae)=qe x:=by kernel_rfl
theorem adr(x):eY bd E0 Av Q3 Tryz.f5.ntmps (LF Tryz.f5 1) (eX Tryz.f5.ntmps [6,15,18,21] ael x) (z6 Av Tryz.f5.ntmps [6,15,18,21] ael 2 [] .unit [2] ae)=ql x:=by kernel_rfl
theorem adT:FnOK G0 Tryz.prog 5 ac2:=Zr (Λ:=Q3) ao adC Tryz.func5 (by kernel_rfl) (show Tryz.f5.body=some (ff Tryz.f5) by kernel_rfl) [⟨[0,3,4,5,6,7,8,9,12,13],aem,0,[0,3,4,5,6,7,8,12],ae0,[2],ae,ag qe⟩,⟨[6,15,18,21],ael,2,[],.unit,[2],ae,ag ql⟩] acv rfl (by kernel_rfl) (by exact⟨PR (adq),PR (adr),trivial⟩) (by exact⟨trivial,trivial,trivial,trivial,trivial,trivial,trivial,trivial,trivial,trivial,trivial,trivial,trivial,trivial,trivial,trivial,trivial,trivial,trivial,trivial,trivial,trivial,trivial,Tz ado,Tz adp,trivial,trivial,trivial,trivial,trivial,trivial,trivial,trivial,trivial,trivial,trivial,trivial⟩) (by kernel_rfl)
 fun x y h=>(show rn bd E0 Av Q3 Tryz.f5 ac2 x=abz x by kernel_rfl).trans h
end Go.Proofs.YtkgcbbkodalfmaaGreatDoor
