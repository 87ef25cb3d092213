import Derived.Test.YtkgcbbkodalfmaaGreatDoorSho
import Derived.Test.YtkgcbbkodalfmaaGreatDoorDelW
import Derived.Test.YtkgcbbkodalfmaaGreatDoorInsW
import Derived.Test.YtkgcbbkodalfmaaGreatDoorLibS
import Derived.Test.YtkgcbbkodalfmaaGreatDoorRepW
import Derived.Test.YtkgcbbkodalfmaaGreatDoorSh
import Derived.Test.YtkgcbbkodalfmaaGreatDoorTdW
import Derived.Test.YtkgcbbkodalfmaaGreatDoorTrW
import Derived.Test.YtkgcbbkodalfmaaGreatDoorProg
import Derived.KernelRfl
namespace Go.Proofs.YtkgcbbkodalfmaaGreatDoor
open Go.RowKit
set_option linter.unusedVariables false
abbrev an:Ty:=(.pair (.int .i64) (.pair (.list (.pair (.int .i64) (.pair .str (.pair (.int .i64) (.pair .bool .unit))))) (.pair (.list (.pair (.int .i64) (.pair (.int .i64) (.pair (.list (.int .i64)) .unit)))) (.pair (.list (.pair (.int .i64) (.pair (.int .i64) (.pair (.int .i64) (.pair (.pair (.int .i64) (.pair (.int .i64) (.pair (.int .i64) (.pair (.int .i64) (.pair .bool .unit))))) .unit))))) .unit))))
abbrev ai:Ty:=(.pair (.int .i64) (.pair (.int .i64) (.pair (.int .i64) (.pair (.int .i64) (.pair (.int .i64) .unit)))))
abbrev aB:Ty:=(.pair (.int .i64) (.pair (.int .i64) (.pair ai (.pair (.list (.int .i64)) .unit))))
abbrev cA:Ty:=(.pair (.int .i64) (.pair aB .unit))
abbrev av:Ty:=(.pair (.int .i64) (.pair (.int .i64) (.pair (.int .i64) (.pair (.int .i64) .unit))))
abbrev dE:Ty:=(.pair (.int .i64) (.pair (.int .i64) (.pair (.int .i64) (.pair (.int .i64) (.pair .bool .unit)))))
abbrev adh:Ty:=(.pair ai (.pair (.int .i64) (.pair (.int .i64) .unit)))
abbrev ah:Ty:=(.pair (.list (.int .u8)) (.pair (.int .i64) (.pair (.int .i64) .unit)))
abbrev au:Ty:=(.pair (.int .i64) (.pair .str (.pair (.int .i64) (.pair .bool .unit))))
abbrev ay:Ty:=(.pair (.int .i64) (.pair (.int .i64) (.pair (.list (.int .i64)) .unit)))
abbrev al:Ty:=(.pair (.int .i64) (.pair (.int .i64) (.pair (.int .i64) (.pair dE .unit))))
abbrev bB:Ty:=(.pair (.int .i64) (.pair (.int .i64) .unit))
abbrev qz:Ty:=(.pair (.int .i64) (.pair (.list (.int .i64)) (.pair (.int .i64) .unit)))
abbrev pV:Ty:=(.pair (.list (.int .i64)) (.pair (.int .i64) (.pair (.list (.int .i64)) .unit)))
abbrev qA:Ty:=(.pair .str .unit)
abbrev VQ:Ty:=(.pair bB .unit)
abbrev ao:Ty:=(.pair .bool .unit)
abbrev r7:Ty:=(.pair an .unit)
abbrev zG:Ty:=(.pair ai .unit)
abbrev Jf:Ty:=(.pair av .unit)
abbrev Nn:Ty:=(.pair aB .unit)
abbrev Y0:Ty:=(.pair al .unit)
abbrev aE:Ty:=(.pair (.int .i64) .unit)
abbrev vh:Ty:=(.pair (.box an) bB)
abbrev Fd:Ty:=(.pair dE .unit)
abbrev Y1:Ty:=(.pair (.ptr an) bB)
abbrev Rt:Ty:=(.pair (.box an) av)
abbrev Y2:Ty:=(.pair (.box an) ai)
abbrev Y3:Ty:=(.pair (.list av) bB)
abbrev Np:Ty:=(.pair (.list av) .unit)
abbrev VS:Ty:=(.pair (.ptr pV) bB)
abbrev Nq:Ty:=(.pair (.list au) bB)
abbrev abL:Ty:=(.pair (.own 43 av) .unit)
abbrev gB:Ty:=(.pair (.box ah) .unit)
abbrev Nr:Ty:=(.pair (.list au) .unit)
abbrev Ru:Ty:=(.pair (.list al) .unit)
abbrev VT:Ty:=(.pair (.list ay) .unit)
abbrev abM:Ty:=(.pair .str (.pair .str .unit))
abbrev tD:Ty:=(.pair (.list (.int .i64)) bB)
abbrev VU:Ty:=(.pair (.list (.int .u8)) .unit)
abbrev Y4:Ty:=(.pair (.list al) av)
abbrev eG:Ty:=(.pair (.list (.int .i64)) .unit)
abbrev Jg:Ty:=(.pair (.own 2 (.int .i64)) bB)
abbrev abN:Ty:=(.pair .bool (.pair .bool .unit))
abbrev a8:Ty:=(.pair (.own 2 (.int .i64)) .unit)
abbrev Fe:Ty:=(.pair an (.pair ai .unit))
abbrev VV:Ty:=(.pair (.own 167 al) .unit)
abbrev Y5:Ty:=(.pair (.list (.int .i64)) av)
abbrev abO:Ty:=(.pair (.own 136 au) .unit)
abbrev Y6:Ty:=(.pair aB (.pair aB .unit))
abbrev Y7:Ty:=(.pair .str (.pair (.int .i64) .unit))
abbrev abP:Ty:=(.pair an (.pair (.int .i64) .unit))
abbrev aaa:Ty:=(.pair cA (.pair cA .unit))
abbrev Y8:Ty:=(.pair dE (.pair aB .unit))
abbrev abQ:Ty:=(.pair al (.pair al .unit))
abbrev aab:Ty:=(.pair qz (.pair (.int .i64) .unit))
abbrev Y9:Ty:=(.pair (.box an) (.pair (.int .i64) bB))
abbrev VW:Ty:=(.pair (.box an) (.pair (.int .i64) .unit))
abbrev abR:Ty:=(.pair ai (.pair (.box ah) .unit))
abbrev abT:Ty:=(.pair (.ptr an) (.pair (.int .i64) .unit))
abbrev abU:Ty:=(.pair aB (.pair (.box ah) .unit))
abbrev abV:Ty:=(.pair av (.pair (.box ah) .unit))
abbrev VX:Ty:=(.pair (.list (.int .i64)) (.pair av .unit))
abbrev aac:Ty:=(.pair (.list av) (.pair (.int .i64) .unit))
abbrev Cf:Ty:=(.pair an (.pair ai (.pair aB .unit)))
abbrev abW:Ty:=(.pair (.list al) (.pair (.int .i64) bB))
abbrev Ff:Ty:=(.pair (.int .i64) (.pair (.box ah) .unit))
abbrev Rv:Ty:=(.pair (.box ah) (.pair (.int .i64) .unit))
abbrev Za:Ty:=(.pair (.nptr pV) (.pair (.int .i64) .unit))
abbrev abX:Ty:=(.pair dE (.pair (.box ah) .unit))
abbrev abY:Ty:=(.pair (.list au) (.pair (.int .i64) .unit))
abbrev abZ:Ty:=(.pair (.list ay) (.pair (.int .i64) .unit))
abbrev ab0:Ty:=(.pair (.box an) (.pair (.list ay) bB))
abbrev Zb:Ty:=(.pair (.list (.int .i64)) (.pair (.int .i64) bB))
abbrev qB:Ty:=(.pair (.list (.int .i64)) (.pair (.int .i64) .unit))
abbrev ma:Ty:=(.pair (.own 2 (.int .i64)) (.pair (.int .i64) .unit))
abbrev Zc:Ty:=(.pair (.list (.int .i64)) (.pair (.box av) bB))
abbrev ab1:Ty:=(.pair aB (.pair (.int .i64) (.pair ai .unit)))
abbrev Rx:Ty:=(.pair (.box ah) (.pair (.own 43 av) .unit))
abbrev Ry:Ty:=(.pair (.list (.int .i64)) (.pair (.list av) .unit))
abbrev ab2:Ty:=(.pair (.own 43 av) (.pair (.box ah) .unit))
abbrev VY:Ty:=(.pair an (.pair ai (.pair (.box ah) .unit)))
abbrev ab3:Ty:=(.pair (.own 136 au) (.pair (.box ah) .unit))
abbrev Rz:Ty:=(.pair (.list (.int .i64)) (.pair (.list (.int .i64)) .unit))
abbrev Zd:Ty:=(.pair (.own 2 (.int .i64)) (.pair (.list (.int .i64)) bB))
abbrev ab4:Ty:=(.pair (.list (.int .i64)) (.pair (.own 2 (.int .i64)) bB))
abbrev Jh:Ty:=(.pair an (.pair ai (.pair (.list (.int .i64)) .unit)))
abbrev ab5:Ty:=(.pair bB (.pair (.int .i64) (.pair (.list (.int .i64)) .unit)))
abbrev aad:Ty:=(.pair (.list (.int .i64)) (.pair (.int .i64) (.pair ai .unit)))
abbrev ab6:Ty:=(.pair (.box an) (.pair (.int .i64) (.pair (.list ay) bB)))
abbrev ab7:Ty:=(.pair an (.pair ai (.pair aB (.pair (.list av) .unit))))
abbrev Ze:Ty:=(.pair (.int .i64) (.pair (.own 2 (.int .i64)) (.pair (.int .i64) .unit)))
abbrev Zf:Ty:=(.pair (.list (.int .i64)) (.pair (.box av) (.pair (.int .i64) bB)))
abbrev ab8:Ty:=(.pair (.int .i64) (.pair (.int .i64) (.pair (.own 2 (.int .i64)) .unit)))
abbrev RA:Ty:=(.pair an (.pair ai (.pair aB (.pair (.box ah) .unit))))
abbrev aae:Ty:=(.pair (.list (.int .i64)) (.pair (.list (.int .i64)) (.pair (.int .i64) .unit)))
abbrev RB:Ty:=(.pair (.list (.int .i64)) (.pair (.own 2 (.int .i64)) (.pair (.int .i64) .unit)))
abbrev ab9:Ty:=(.pair (.list av) (.pair (.fn (.pair av .unit) (.pair .bool .unit)) .unit))
abbrev aca:Ty:=(.pair (.own 2 (.int .i64)) (.pair (.int .i64) (.pair (.own 2 (.int .i64)) .unit)))
abbrev acb:Ty:=(.pair (.int .i64) (.pair (.list (.int .i64)) (.pair (.int .i64) (.pair ai .unit))))
abbrev acd:Ty:=(.pair (.list (.int .i64)) (.pair (.list (.int .i64)) (.pair (.own 2 (.int .i64)) bB)))
abbrev ace:Ty:=(.pair (.list al) (.pair (.fn (.pair al .unit) (.pair .bool .unit)) .unit))
abbrev acf:Ty:=(.pair (.list au) (.pair (.fn (.pair au .unit) (.pair .bool .unit)) .unit))
abbrev aaf:Ty:=(.pair an (.pair ai (.pair (.list (.int .i64)) (.pair (.list (.int .i64)) .unit))))
abbrev aag:Ty:=(.pair an (.pair ai (.pair aB (.pair (.list av) (.pair (.list av) .unit)))))
abbrev RC:Ty:=(.pair (.box av) (.pair (.int .i64) (.pair (.own 2 (.int .i64)) (.pair (.int .i64) .unit))))
abbrev acg:Ty:=(.pair (.own 159 (.pair (.int .i64) (.pair (.int .i64) (.pair (.own 2 (.int .i64)) .unit)))) .unit)
abbrev ach:Ty:=(.pair an (.pair ai (.pair aB (.pair (.own 43 av) (.pair (.own 43 av) .unit)))))
abbrev Zg:Ty:=(.pair (.box (.pair (.list (.int .i64)) (.pair (.int .i64) (.pair (.own 2 (.int .i64)) .unit)))) .unit)
abbrev aci:Ty:=(.pair (.pair (.int .i64) (.pair (.int .i64) (.pair ai (.pair (.own 2 (.int .i64)) .unit)))) .unit)
abbrev Zh:Ty:=(.pair (.list (.int .i64)) (.pair (.list (.int .i64)) (.pair (.own 2 (.int .i64)) (.pair (.int .i64) .unit))))
abbrev VZ:Ty:=(.pair (.pair (.int .i64) (.pair (.int .i64) (.pair ai (.pair (.own 2 (.int .i64)) .unit)))) (.pair .bool .unit))
abbrev V0:Ty:=(.pair (.pair (.int .i64) (.pair (.int .i64) (.pair ai (.pair (.own 2 (.int .i64)) .unit)))) (.pair (.int .i64) .unit))
abbrev acj:Ty:=(.pair (.box (.pair (.list (.int .i64)) (.pair (.int .i64) (.pair (.own 2 (.int .i64)) .unit)))) (.pair (.int .i64) .unit))
abbrev aah:Ty:=(.pair (.int .i64) (.pair (.box (.pair (.list (.int .i64)) (.pair (.int .i64) (.pair (.own 2 (.int .i64)) .unit)))) .unit))
abbrev ack:Ty:=(.pair (.own 159 (.pair (.int .i64) (.pair (.int .i64) (.pair (.own 2 (.int .i64)) .unit)))) (.pair (.box ah) .unit))
abbrev Zi:Ty:=(.pair (.pair (.int .i64) (.pair (.own 136 au) (.pair (.own 159 ay) (.pair (.own 167 al) .unit)))) .unit)
abbrev V1:Ty:=(.pair (.pair (.int .i64) (.pair (.pair (.int .i64) (.pair (.int .i64) (.pair ai (.pair (.own 2 (.int .i64)) .unit)))) .unit)) .unit)
abbrev pW:Ty:=(.pair (.pair (.int .i64) (.pair (.pair (.int .i64) (.pair (.int .i64) (.pair ai (.pair (.own 2 (.int .i64)) .unit)))) .unit)) (.pair (.int .i64) .unit))
abbrev acl:Ty:=(.pair (.box ah) (.pair (.box an) (.pair (.own 136 au) (.pair (.own 2 (.int .i64)) (.pair (.own 159 ay) (.pair (.own 167 al) bB))))))
abbrev acm:Ty:=(.pair (.box ah) (.pair (.box an) (.pair (.box ai) (.pair (.box aB) (.pair (.ptr an) (.pair (.box ai) (.pair (.box (.pair (.int .i64) (.pair (.int .i64) (.pair ai (.pair (.own 2 (.int .i64)) .unit))))) .unit)))))))
abbrev aai:Ty:=(.pair (.pair (.int .i64) (.pair (.pair (.int .i64) (.pair (.int .i64) (.pair ai (.pair (.own 2 (.int .i64)) .unit)))) .unit)) (.pair (.pair (.int .i64) (.pair (.pair (.int .i64) (.pair (.int .i64) (.pair ai (.pair (.own 2 (.int .i64)) .unit)))) .unit)) .unit))
abbrev Zj:Ty:=(.pair (.box ah) (.pair (.box an) (.pair (.own 136 au) (.pair (.own 2 (.int .i64)) (.pair (.own 159 ay) (.pair (.own 167 al) (.pair (.int .i64) (.pair (.int .i64) (.pair (.box ay) (.pair (.own 2 (.int .i64)) (.pair (.int .i64) .unit)))))))))))
def bi:cp:=[(2,(.int .i64)),(3,(.int .i64)),(4,.bool),(5,(.int .u8)),(9,.str),(22,(.list (.int .u8))),(24,(.list au)),(25,(.list ay)),(26,(.list al)),(28,an),(30,ai),(31,(.list (.int .i64))),(33,aB),(34,(.list av)),(38,cA),(43,av),(56,dE),(120,(.int .u64)),(133,ah),(136,au),(159,ay),(167,al),(184,(.list (.list (.int .i64)))),(215,bB),(221,(.list .str)),(242,qz),(255,pV)]
def E0:bG:=[(22,5),(24,136),(25,159),(26,167),(31,2),(34,43),(184,31),(221,9)]
theorem aj:ck Tryz.prog bi E0=true:=by kernel_rfl
def XA:cp:=[(2,(.int .i64)),(2,(.int .i64)),(4,.bool),(24,(.list au)),(25,(.list ay)),(26,(.list al)),(28,an),(31,(.list (.int .i64))),(56,dE),(136,au),(159,ay),(167,al)]
def E1:bG:=[(24,136),(25,159),(26,167),(31,2)]
theorem adz:ck Tryz.prog XA E1=true:=by kernel_rfl
def Γ2:cp:=[(2,(.int .i64)),(25,(.list ab8)),(31,(.list (.int .i64))),(159,ay)]
def E2:bG:=[(25,159),(31,2)]
theorem aco:ck Tryz.prog Γ2 E2=true:=by kernel_rfl
def Γ3:cp:=[(2,(.int .i64)),(4,.bool),(4,.bool),(24,(.list au)),(28,an),(30,ai),(31,(.list (.int .i64))),(33,aB),(56,dE),(120,(.int .u64)),(136,au)]
def E3:bG:=[(24,136),(31,2)]
theorem adA:ck Tryz.prog Γ3 E3=true:=by kernel_rfl
abbrev G0:Gl:=Gl.none
noncomputable def KZ(x:Ty.T VU):Option (Ty.T ao):=
some ((decide ((x.1.length:Int)>(4096:Int))),())
noncomputable def aaE:ae:=⟨_,ao,.unit,rfl,KZ⟩
theorem Zk:FnOK G0 Tryz.prog 8 aaE:=ak aj aL Tryz.func8
abbrev uA:Ty:=(.pair (.list (.int .u8)) (.pair (.box ah) (.pair (.int .i64) .unit)))
noncomputable def iI(x:(Ty.T uA)):Option ((Ty.T uA) ⊕ ((Ty.T gB) ⊕ (Ty.T .unit))):=
match(decide (x.2.2.1<(x.1.length:Int)))with
|true=>
 match(decide (x.2.2.1<(64:Int)))with
 |true=>
  ab (aq x.1 x.2.2.1) fun v1=>
  some (.inl (x.1,(x.2.1.1,x.2.1.2.1,(Int.tmod (IntKind.i64.wrap ((IntKind.i64.wrap (x.2.1.2.2.1*(53:Int)))+(IntKind.i64.wrap v1))) (2147483647:Int)),()),(IntKind.i64.wrap (x.2.2.1+(1:Int))),()))
 |false=>
  some (.inr (.inl ((x.2.1.1,x.2.1.2.1,x.2.1.2.2.1,()),())))
|false=>
 some (.inr (.inl ((x.2.1.1,x.2.1.2.1,x.2.1.2.2.1,()),())))
noncomputable def yH(x:Ty.T VU):Option (Ty.T gB):=
match ac iI (x.1,(x.1,(0:Int),(40009:Int),()),(0:Int),())with
|none=>none
|some (.inl v2)=>
 some ((v2.1.1,v2.1.2.1,v2.1.2.2.1,()),())
|some (.inr v4)=>
 none
noncomputable def Tw:ae:=⟨_,gB,.unit,rfl,yH⟩
noncomputable def Fg:FuncId→Option ae:=bC []
theorem Ns:∀f s,Fg f=some s→FnOK G0 Tryz.prog f s:=aD trivial
def C2:aO:=⟨[0,3,4],uA,0,[3],gB,[],.unit⟩
noncomputable def Fh:List aw:=[C2.spec iI]
theorem K0:bg bi E0 Fg (bc Tryz.f47 Fh) Tryz.f47 0 C2 iI:=fun x=>by kernel_rfl
theorem RD:FnOK G0 Tryz.prog 47 Tw:=aJ aj Ns Tryz.func47 Fh (by kernel_rfl) (by exact⟨(K0).lok,trivial⟩) fun x=>by kernel_rfl
noncomputable def aa(x:Ty.T Rv):Option (Ty.T Ff):=
match(decide (x.2.1≤(1:Int)))with
|true=>
 some ((0:Int),(x.1.1,x.1.2.1,x.1.2.2.1,()),())
|false=>
 match(decide (x.1.2.1<(x.1.1.length:Int)))with
 |true=>
  ab (aq x.1.1 x.1.2.1) fun v1=>
  match(decide (x.2.1≤(256:Int)))with
  |true=>
   match((Int.tmod (IntKind.i64.wrap (x.1.2.1+(1:Int))) (2:Int))==(0:Int))with
   |true=>
    ab (aq x.1.1 (IntKind.i64.wrap ((IntKind.i64.wrap (x.1.2.1+(1:Int)))-(1:Int)))) fun v2=>
    if x.2.1=0 then none else
    some ((Int.tmod (IntKind.i64.wrap v2) x.2.1),(x.1.1,(IntKind.i64.wrap (x.1.2.1+(1:Int))),(Int.tmod (IntKind.i64.wrap ((IntKind.i64.wrap (x.1.2.2.1*(48271:Int)))+(17:Int))) (2147483647:Int)),()),())
   |false=>
    if x.2.1=0 then none else
    some ((Int.tmod (IntKind.i64.wrap ((IntKind.i64.wrap (Int.tdiv (Int.tmod (IntKind.i64.wrap ((IntKind.i64.wrap (x.1.2.2.1*(48271:Int)))+(17:Int))) (2147483647:Int)) (23:Int)))+(IntKind.i64.wrap v1))) x.2.1),(x.1.1,(IntKind.i64.wrap (x.1.2.1+(1:Int))),(Int.tmod (IntKind.i64.wrap ((IntKind.i64.wrap (x.1.2.2.1*(48271:Int)))+(17:Int))) (2147483647:Int)),()),())
  |false=>
   if x.2.1=0 then none else
   some ((Int.tmod (IntKind.i64.wrap ((IntKind.i64.wrap (Int.tdiv (Int.tmod (IntKind.i64.wrap ((IntKind.i64.wrap (x.1.2.2.1*(48271:Int)))+(17:Int))) (2147483647:Int)) (23:Int)))+(IntKind.i64.wrap v1))) x.2.1),(x.1.1,(IntKind.i64.wrap (x.1.2.1+(1:Int))),(Int.tmod (IntKind.i64.wrap ((IntKind.i64.wrap (x.1.2.2.1*(48271:Int)))+(17:Int))) (2147483647:Int)),()),())
 |false=>
  if x.2.1=0 then none else
  some ((Int.tmod (IntKind.i64.wrap (Int.tdiv (Int.tmod (IntKind.i64.wrap ((IntKind.i64.wrap (x.1.2.2.1*(48271:Int)))+(17:Int))) (2147483647:Int)) (23:Int))) x.2.1),(x.1.1,x.1.2.1,(Int.tmod (IntKind.i64.wrap ((IntKind.i64.wrap (x.1.2.2.1*(48271:Int)))+(17:Int))) (2147483647:Int)),()),())
noncomputable def gg:ae:=⟨_,aE,gB,rfl,aa⟩
theorem bK:FnOK G0 Tryz.prog 52 gg:=ak aj aL Tryz.func52
noncomputable def pm(x:Ty.T bB):Option (Ty.T ao):=
if(IntKind.u64.wrap x.2.1)<0 then none else
some (((bits BinOp.and .i64 (Int.fdiv x.1 (2^min (IntKind.u64.wrap x.2.1).toNat IntKind.i64.bits)) (1:Int))==(1:Int)),())
noncomputable def Cg:ae:=⟨_,ao,.unit,rfl,pm⟩
theorem zH:FnOK G0 Tryz.prog 195 Cg:=ak aj aL Tryz.func195
noncomputable def w9(x:Ty.T (.pair (.int .i64) (.pair (.int .i64) (.pair .bool .unit)))):Option (Ty.T aE):=
match pm (x.1,x.2.1,())with
|none=>none
|some v1=>
match(v1.1==x.2.2.1)with
|true=>
 some (x.1,())
|false=>
 if(IntKind.u64.wrap x.2.1)<0 then none else
 some ((bits BinOp.xor .i64 x.1 (IntKind.i64.wrap ((1:Int)*2^min (IntKind.u64.wrap x.2.1).toNat IntKind.i64.bits))),())
noncomputable def Ci:ae:=⟨_,aE,.unit,rfl,w9⟩
theorem H9:FnOK G0 Tryz.prog 135 Ci:=ak aj (sg zH (aL)) Tryz.func135
noncomputable def cX(x:(Ty.T Nq)):Option ((Ty.T Nq) ⊕ ((Ty.T aE) ⊕ (Ty.T .unit))):=
match(decide (x.2.2.1<(x.1.length:Int)))with
|true=>
 ab (aq x.1 x.2.2.1) fun v1=>
 match(!v1.2.2.2.1)with
 |true=>
  ab (aq x.1 x.2.2.1) fun v2=>
  match w9 (x.2.1,v2.1,true,())with
  |none=>none
  |some v3=>
  some (.inl (x.1,v3.1,(IntKind.i64.wrap (x.2.2.1+(1:Int))),()))
 |false=>
  some (.inl (x.1,x.2.1,(IntKind.i64.wrap (x.2.2.1+(1:Int))),()))
|false=>
 some (.inr (.inl (x.2.1,())))
noncomputable def cV(x:Ty.T Nr):Option (Ty.T aE):=
match ac cX (x.1,(0:Int),(0:Int),())with
|none=>none
|some (.inl v4)=>
 some (v4.1,())
|some (.inr v6)=>
 none
noncomputable def oX:ae:=⟨_,aE,.unit,rfl,cV⟩
noncomputable def Al:FuncId→Option ae:=bC [(135,Ci)]
theorem Ji:∀f s,Al f=some s→FnOK G0 Tryz.prog f s:=aD ⟨H9,trivial⟩
def yI:aO:=⟨[0,3,4],Nq,0,[3],aE,[],.unit⟩
noncomputable def Am:List aw:=[yI.spec cX]
theorem Hn:bg bi E0 Al (bc Tryz.f126 Am) Tryz.f126 0 yI cX:=fun x=>by kernel_rfl
theorem kM:FnOK G0 Tryz.prog 126 oX:=aJ aj Ji Tryz.func126 Am (by kernel_rfl) (by exact⟨(Hn).lok,trivial⟩) fun x=>by kernel_rfl
noncomputable def zI(x:Ty.T .unit):Option (Ty.T Zi):=
some (((77:Int),[((0:Int),([97]:List UInt8),(100:Int),false,()),((1:Int),([98]:List UInt8),(50:Int),false,())],[((2:Int),(2:Int),[(1:Int)],()),((1:Int),(2:Int),[(0:Int)],())],[((0:Int),(0:Int),(0:Int),((0:Int),(3:Int),(0:Int),(200:Int),false,()),()),((0:Int),(0:Int),(1:Int),((1:Int),(1:Int),(0:Int),(200:Int),false,()),()),((0:Int),(1:Int),(0:Int),((0:Int),(0:Int),(4:Int),(200:Int),true,()),()),((0:Int),(1:Int),(1:Int),((1:Int),(0:Int),(2:Int),(200:Int),false,()),()),((1:Int),(0:Int),(0:Int),((1:Int),(2:Int),(3:Int),(300:Int),true,()),()),((1:Int),(0:Int),(1:Int),((0:Int),(0:Int),(0:Int),(150:Int),false,()),())],()),())
noncomputable def C3:ae:=⟨_,Zi,.unit,rfl,zI⟩
theorem Nt:FnOK G0 Tryz.prog 235 C3:=ak aj aL Tryz.func235
noncomputable def ka(rec:Ty.T aE→Option (Ty.T qA))(x:Ty.T aE):Option (Ty.T qA):=
match(decide (x.1<(10:Int)))with
|true=>
 some ((List.map (fun n=>UInt8.ofNat (Int.toNat n)) ([(IntKind.u8.wrap (IntKind.i64.wrap ((48:Int)+x.1)))]:List Int)),())
|false=>
 aN (
  match rec ((IntKind.i64.wrap (Int.tdiv x.1 (10:Int))),())with
  |none=>none
  |some v1=>
  aI (v1.1.length+(List.map (fun n=>UInt8.ofNat (Int.toNat n)) ([(IntKind.u8.wrap (IntKind.i64.wrap ((48:Int)+(Int.tmod x.1 (10:Int)))))]:List Int)).length) (
   some ((v1.1++(List.map (fun n=>UInt8.ofNat (Int.toNat n)) ([(IntKind.u8.wrap (IntKind.i64.wrap ((48:Int)+(Int.tmod x.1 (10:Int)))))]:List Int))),()))) (
  aX (
   match rec ((IntKind.i64.wrap (Int.tdiv x.1 (10:Int))),())with
   |none=>none
   |some v1=>
   aI (v1.1.length+(List.map (fun n=>UInt8.ofNat (Int.toNat n)) ([(IntKind.u8.wrap (IntKind.i64.wrap ((48:Int)+(Int.tmod x.1 (10:Int)))))]:List Int)).length) (
    some ((v1.1++(List.map (fun n=>UInt8.ofNat (Int.toNat n)) ([(IntKind.u8.wrap (IntKind.i64.wrap ((48:Int)+(Int.tmod x.1 (10:Int)))))]:List Int))),()))))
noncomputable def kr(i:Nat):Ty.T aE→Option (Ty.T qA):=Nat.rec (fun _=>none) (fun _ f=>ka f) i
noncomputable def lr(rec:Ty.T aE→Option (Ty.T qA)):ae:=⟨aE,qA,.unit,rfl,rec⟩
noncomputable def K1:ae:=lr (kr 100)
noncomputable def Ia(rec:Ty.T aE→Option (Ty.T qA)):FuncId→Option ae:=bC [(280,lr rec)]
theorem PP(rec:Ty.T aE→Option (Ty.T qA))(hr:FnOK G0 Tryz.prog 280 (lr rec)):∀f s,(Ia rec) f=some s→FnOK G0 Tryz.prog f s:=aD ⟨hr,trivial⟩
noncomputable def Ib(rec:Ty.T aE→Option (Ty.T qA)):Nat→Option aw:=Ai (ch (fE Tryz.f280)) []
theorem PQ(rec:Ty.T aE→Option (Ty.T qA))(hr:FnOK G0 Tryz.prog 280 (lr rec)):FnOK G0 Tryz.prog 280 (lr (ka rec)):=Z7 (Λ:=(Ib rec)) aj (PP rec hr) Tryz.func280 (by kernel_rfl) (show Tryz.f280.body=some (fE Tryz.f280) by kernel_rfl) [] rfl (by kernel_rfl) (by exact trivial) (by kernel_rfl)
 fun x y h=>(show tv bi E0 (Ia rec) (Ib rec) Tryz.f280 (lr (ka rec)) x=ka rec x by kernel_rfl).trans h
theorem C4:∀i,FnOK G0 Tryz.prog 280 (lr (kr i))
 |0=>aaC Tryz.func280 (by kernel_rfl) (show Tryz.f280.body=some (fE Tryz.f280) by kernel_rfl)
 |i+1=>PQ _ (C4 i)
theorem Tx:FnOK G0 Tryz.prog 280 K1:=C4 100
abbrev uB:Ty:=(.pair (.box ah) (.pair (.own 136 au) bB))
abbrev C5:Ty:=(.pair (.box ah) (.pair (.own 136 au) .unit))
noncomputable def iJ(x:(Ty.T uB)):Option ((Ty.T uB) ⊕ ((Ty.T C5) ⊕ (Ty.T .unit))):=
match(decide (x.2.2.2.1>(0:Int)))with
|true=>
 match kr 100 (x.2.2.1,())with
 |none=>none
 |some v3=>
 aI (([110]:List UInt8).length+v3.1.length) (
  match aa ((x.1.1,x.1.2.1,x.1.2.2.1,()),(200:Int),())with
  |none=>none
  |some v4=>
  match aa ((v4.2.1.1,v4.2.1.2.1,v4.2.1.2.2.1,()),(5:Int),())with
  |none=>none
  |some v5=>
  aI (x.2.1.length+ [(x.2.2.1,(([110]:List UInt8)++v3.1),v4.1,(v5.1==(0:Int)),())].length) (
   match aa ((v5.2.1.1,v5.2.1.2.1,v5.2.1.2.2.1,()),(3:Int),())with
   |none=>none
   |some v6=>
   some (.inl ((v6.2.1.1,v6.2.1.2.1,v6.2.1.2.2.1,()),(x.2.1++ [(x.2.2.1,(([110]:List UInt8)++v3.1),v4.1,(v5.1==(0:Int)),())]),(IntKind.i64.wrap ((IntKind.i64.wrap (x.2.2.1+(1:Int)))+v6.1)),(IntKind.i64.wrap (x.2.2.2.1-(1:Int))),()))))
|false=>
 some (.inr (.inl ((x.1.1,x.1.2.1,x.1.2.2.1,()),x.2.1,())))
noncomputable def tE(x:Ty.T gB):Option (Ty.T ab3):=
match aa ((x.1.1,x.1.2.1,x.1.2.2.1,()),(2:Int),())with
|none=>none
|some v1=>
match aa ((v1.2.1.1,v1.2.1.2.1,v1.2.1.2.2.1,()),(4:Int),())with
|none=>none
|some v2=>
match ac iJ ((v2.2.1.1,v2.2.1.2.1,v2.2.1.2.2.1,()),[],v1.1,(IntKind.i64.wrap ((1:Int)+v2.1)),())with
|none=>none
|some (.inl v7)=>
 some (v7.2.1,(v7.1.1,v7.1.2.1,v7.1.2.2.1,()),())
|some (.inr v9)=>
 none
noncomputable def Ic:ae:=⟨_,abO,gB,rfl,tE⟩
noncomputable def Fi:FuncId→Option ae:=bC [(52,gg),(280,K1)]
theorem Nu:∀f s,Fi f=some s→FnOK G0 Tryz.prog f s:=aD ⟨bK,Tx,trivial⟩
def C6:aO:=⟨[0,3,4,5],uB,0,[0,3],C5,[],.unit⟩
noncomputable def Fj:List aw:=[C6.spec iJ]
theorem K2:bg bi E0 Fi (bc Tryz.f236 Fj) Tryz.f236 0 C6 iJ:=fun x=>by kernel_rfl
theorem Fk:FnOK G0 Tryz.prog 236 Ic:=aJ aj Nu Tryz.func236 Fj (by kernel_rfl) (by exact⟨(K2).lok,trivial⟩) fun x=>by kernel_rfl
noncomputable def bE(x:Ty.T (.pair (.int .i64) bB)):Option (Ty.T ao):=
match(decide (x.1≥x.2.1))with
|true=>
 some ((decide (x.1≤x.2.2.1)),())
|false=>
 some (false,())
noncomputable def lg:ae:=⟨_,ao,.unit,rfl,bE⟩
theorem cT:FnOK G0 Tryz.prog 70 lg:=ak aj aL Tryz.func70
abbrev qC:Ty:=qB
noncomputable def gi(x:(Ty.T qC)):Option ((Ty.T qC) ⊕ ((Ty.T .unit) ⊕ (Ty.T ao))):=
match(decide (x.2.1<(x.1.length:Int)))with
|true=>
 ab (aq x.1 x.2.1) fun v1=>
 match bE (v1,(0:Int),(4294967295:Int),())with
 |none=>none
 |some v2=>
 match(!v2.1)with
 |true=>
  some (.inr (.inr (false,())))
 |false=>
  some (.inl (x.1,(IntKind.i64.wrap (x.2.1+(1:Int))),()))
|false=>
 some (.inr (.inl (())))
noncomputable def oA(x:Ty.T eG):Option (Ty.T ao):=
match ac gi (x.1,(0:Int),())with
|none=>none
|some (.inl v3)=>
 some (true,())
|some (.inr v4)=>
 some (v4.1,())
noncomputable def C7:ae:=⟨_,ao,.unit,rfl,oA⟩
noncomputable def An:FuncId→Option ae:=bC [(70,lg)]
theorem Jj:∀f s,An f=some s→FnOK G0 Tryz.prog f s:=aD ⟨cT,trivial⟩
def yJ:aO:=⟨[0,3],qC,0,[],.unit,[2],ao⟩
noncomputable def Ao:List aw:=[yJ.spec gi]
theorem Ho:bg bi E0 An (bc Tryz.f281 Ao) Tryz.f281 0 yJ gi:=fun x=>by kernel_rfl
theorem Nv:FnOK G0 Tryz.prog 281 C7:=aJ aj Jj Tryz.func281 Ao (by kernel_rfl) (by exact⟨(Ho).lok,trivial⟩) fun x=>by kernel_rfl
abbrev qD:Ty:=Ze
noncomputable def gj(x:(Ty.T qD)):Option ((Ty.T qD) ⊕ ((Ty.T a8) ⊕ (Ty.T .unit))):=
match(decide (x.2.2.1<(32:Int)))with
|true=>
 match pm (x.1,x.2.2.1,())with
 |none=>none
 |some v2=>
 match v2.1 with
 |true=>
  aI (x.2.1.length+ [x.2.2.1].length) (
   some (.inl (x.1,(x.2.1++ [x.2.2.1]),(IntKind.i64.wrap (x.2.2.1+(1:Int))),())))
 |false=>
  some (.inl (x.1,x.2.1,(IntKind.i64.wrap (x.2.2.1+(1:Int))),()))
|false=>
 some (.inr (.inl (x.2.1,())))
noncomputable def jk(x:Ty.T aE):Option (Ty.T ma):=
match oA ([x.1],())with
|none=>none
|some v1=>
match(!v1.1)with
|true=>
 some ([],(2:Int),())
|false=>
 match ac gj (x.1,[],(0:Int),())with
 |none=>none
 |some (.inl v3)=>
  some (v3.1,(0:Int),())
 |some (.inr v5)=>
  none
noncomputable def C8:ae:=⟨_,ma,.unit,rfl,jk⟩
noncomputable def Ap:FuncId→Option ae:=bC [(195,Cg),(281,C7)]
theorem Jk:∀f s,Ap f=some s→FnOK G0 Tryz.prog f s:=aD ⟨zH,Nv,trivial⟩
def yK:aO:=⟨[0,4,5],qD,0,[4],a8,[],.unit⟩
noncomputable def Aq:List aw:=[yK.spec gj]
theorem Hp:bg bi E0 Ap (bc Tryz.f237 Aq) Tryz.f237 0 yK gj:=fun x=>by kernel_rfl
theorem Ar:FnOK G0 Tryz.prog 237 C8:=aJ aj Jk Tryz.func237 Aq (by kernel_rfl) (by exact⟨(Hp).lok,trivial⟩) fun x=>by kernel_rfl
noncomputable def fZ(x:Ty.T aE):Option (Ty.T ao):=
match(x.1==(0:Int))with
|true=>
 some (true,())
|false=>
 some ((x.1==(2:Int)),())
noncomputable def Ie:ae:=⟨_,ao,.unit,rfl,fZ⟩
theorem mp:FnOK G0 Tryz.prog 217 Ie:=ak aj aL Tryz.func217
noncomputable def dP(x:Ty.T aE):Option (Ty.T ao):=
some ((x.1 != (0:Int)),())
noncomputable def Fl:ae:=⟨_,ao,.unit,rfl,dP⟩
theorem iK:FnOK G0 Tryz.prog 154 Fl:=ak aj aL Tryz.func154
noncomputable def jV(x:Ty.T bB):Option (Ty.T aE):=
match dP (x.1,())with
|none=>none
|some v1=>
match v1.1 with
|true=>
 match fZ (x.1,())with
 |none=>none
 |some v2=>
 match v2.1 with
 |true=>
  some ((IntKind.i64.wrap ((IntKind.i64.wrap ((IntKind.i64.wrap ((1:Int)+(8:Int)))+(1:Int)))+x.2.1)),())
 |false=>
  some ((IntKind.i64.wrap ((1:Int)+(8:Int))),())
|false=>
 match fZ (x.1,())with
 |none=>none
 |some v3=>
 match v3.1 with
 |true=>
  some ((IntKind.i64.wrap ((IntKind.i64.wrap ((1:Int)+(1:Int)))+x.2.1)),())
 |false=>
  some ((1:Int),())
noncomputable def K3:ae:=⟨_,aE,.unit,rfl,jV⟩
theorem Jl:FnOK G0 Tryz.prog 282 K3:=ak aj (sg iK (sg mp (aL))) Tryz.func282
noncomputable def eA(x:Ty.T bB):Option (Ty.T aE):=
match jV (x.1,x.2.1,())with
|none=>none
|some v1=>
some ((IntKind.i64.wrap ((11:Int)+(IntKind.i64.wrap ((10:Int)*(IntKind.i64.wrap (v1.1+(3:Int))))))),())
noncomputable def RE:ae:=⟨_,aE,.unit,rfl,eA⟩
theorem uC:FnOK G0 Tryz.prog 240 RE:=ak aj (sg Jl (aL)) Tryz.func240
noncomputable def pX(x:Ty.T gB):Option (Ty.T abX):=
match aa ((x.1.1,x.1.2.1,x.1.2.2.1,()),(4:Int),())with
|none=>none
|some v1=>
match aa ((v1.2.1.1,v1.2.1.2.1,v1.2.1.2.2.1,()),(4:Int),())with
|none=>none
|some v2=>
match aa ((v2.2.1.1,v2.2.1.2.1,v2.2.1.2.2.1,()),(2:Int),())with
|none=>none
|some v3=>
match fZ (v2.1,())with
|none=>none
|some v4=>
match v4.1 with
|true=>
 match aa ((v3.2.1.1,v3.2.1.2.1,v3.2.1.2.2.1,()),(5:Int),())with
 |none=>none
 |some v5=>
 match(v2.1==(3:Int))with
 |true=>
  match eA (v2.1,(IntKind.i64.wrap ((1:Int)+v5.1)),())with
  |none=>none
  |some v6=>
  match aa ((v5.2.1.1,v5.2.1.2.1,v5.2.1.2.2.1,()),(200:Int),())with
  |none=>none
  |some v7=>
  some ((v1.1,v2.1,(IntKind.i64.wrap ((1:Int)+v5.1)),(IntKind.i64.wrap ((IntKind.i64.wrap (v6.1+(20:Int)))+v7.1)),false,()),(v7.2.1.1,v7.2.1.2.1,v7.2.1.2.2.1,()),())
 |false=>
  match eA (v2.1,(IntKind.i64.wrap ((1:Int)+v5.1)),())with
  |none=>none
  |some v8=>
  match aa ((v5.2.1.1,v5.2.1.2.1,v5.2.1.2.2.1,()),(200:Int),())with
  |none=>none
  |some v9=>
  some ((v1.1,v2.1,(IntKind.i64.wrap ((1:Int)+v5.1)),(IntKind.i64.wrap ((IntKind.i64.wrap (v8.1+(20:Int)))+v9.1)),(v3.1==(0:Int)),()),(v9.2.1.1,v9.2.1.2.1,v9.2.1.2.2.1,()),())
|false=>
 match(v2.1==(3:Int))with
 |true=>
  match eA (v2.1,(0:Int),())with
  |none=>none
  |some v10=>
  match aa ((v3.2.1.1,v3.2.1.2.1,v3.2.1.2.2.1,()),(200:Int),())with
  |none=>none
  |some v11=>
  some ((v1.1,v2.1,(0:Int),(IntKind.i64.wrap ((IntKind.i64.wrap (v10.1+(20:Int)))+v11.1)),false,()),(v11.2.1.1,v11.2.1.2.1,v11.2.1.2.2.1,()),())
 |false=>
  match eA (v2.1,(0:Int),())with
  |none=>none
  |some v12=>
  match aa ((v3.2.1.1,v3.2.1.2.1,v3.2.1.2.2.1,()),(200:Int),())with
  |none=>none
  |some v13=>
  some ((v1.1,v2.1,(0:Int),(IntKind.i64.wrap ((IntKind.i64.wrap (v12.1+(20:Int)))+v13.1)),(v3.1==(0:Int)),()),(v13.2.1.1,v13.2.1.2.1,v13.2.1.2.2.1,()),())
noncomputable def Ig:ae:=⟨_,Fd,gB,rfl,pX⟩
theorem Fm:FnOK G0 Tryz.prog 238 Ig:=ak aj (sg bK (sg mp (sg uC (aL)))) Tryz.func238
abbrev sb:Ty:=Zj
abbrev As:Ty:=(.pair (.box ah) (.pair (.box an) (.pair (.own 136 au) (.pair (.own 2 (.int .i64)) (.pair (.own 159 ay) (.pair (.own 167 al) (.pair (.int .i64) (.pair (.int .i64) (.pair (.box ay) (.pair (.own 2 (.int .i64)) .unit))))))))))
noncomputable def f3(x:(Ty.T sb)):Option ((Ty.T sb) ⊕ ((Ty.T As) ⊕ (Ty.T .unit))):=
match(decide (x.2.2.2.2.2.2.2.2.2.2.1<x.2.2.2.2.2.2.2.2.1.2.1))with
|true=>
 match aa ((x.1.1,x.1.2.1,x.1.2.2.1,()),(100:Int),())with
 |none=>none
 |some v12=>
 aI (x.2.2.2.2.2.2.2.2.2.1.length+ [(IntKind.i64.wrap ((260:Int)+v12.1))].length) (
  some (.inl ((v12.2.1.1,v12.2.1.2.1,v12.2.1.2.2.1,()),(x.2.1.1,x.2.1.2.1,x.2.1.2.2.1,x.2.1.2.2.2.1,()),x.2.2.1,x.2.2.2.1,x.2.2.2.2.1,x.2.2.2.2.2.1,x.2.2.2.2.2.2.1,x.2.2.2.2.2.2.2.1,(x.2.2.2.2.2.2.2.2.1.1,x.2.2.2.2.2.2.2.2.1.2.1,x.2.2.2.2.2.2.2.2.1.2.2.1,()),(x.2.2.2.2.2.2.2.2.2.1++ [(IntKind.i64.wrap ((260:Int)+v12.1))]),(IntKind.i64.wrap (x.2.2.2.2.2.2.2.2.2.2.1+(1:Int))),())))
|false=>
 some (.inr (.inl ((x.1.1,x.1.2.1,x.1.2.2.1,()),(x.2.1.1,x.2.1.2.1,x.2.1.2.2.1,x.2.1.2.2.2.1,()),x.2.2.1,x.2.2.2.1,x.2.2.2.2.1,x.2.2.2.2.2.1,x.2.2.2.2.2.2.1,x.2.2.2.2.2.2.2.1,(x.2.2.2.2.2.2.2.2.1.1,x.2.2.2.2.2.2.2.2.1.2.1,x.2.2.2.2.2.2.2.2.1.2.2.1,()),x.2.2.2.2.2.2.2.2.2.1,())))
abbrev sd:Ty:=(.pair (.box ah) (.pair (.box an) (.pair (.own 136 au) (.pair (.own 2 (.int .i64)) (.pair (.own 159 ay) (.pair (.own 167 al) (.pair (.int .i64) (.pair (.int .i64) (.pair (.box ay) (.pair (.own 2 (.int .i64)) bB))))))))))
abbrev Au:Ty:=Zj
noncomputable def eY(x:(Ty.T sd)):Option ((Ty.T sd) ⊕ ((Ty.T Au) ⊕ (Ty.T .unit))):=
match(decide (x.2.2.2.2.2.2.2.2.2.2.2.1<x.2.2.2.2.2.2.2.2.1.2.1))with
|true=>
 match pX ((x.1.1,x.1.2.1,x.1.2.2.1,()),())with
 |none=>none
 |some v15=>
 if(x.2.2.2.1.length:Int)=0 then none else
 ab (aq x.2.2.2.1 (Int.tmod x.2.2.2.2.2.2.2.2.2.2.2.1 (x.2.2.2.1.length:Int))) fun _=>
 match x.2.2.2.1[(Int.tmod x.2.2.2.2.2.2.2.2.2.2.2.1 (x.2.2.2.1.length:Int)).toNat]? with
 |none=>none
 |some v17=>
 match(v15.1.2.1==(3:Int))with
 |true=>
  match(decide (x.2.2.2.2.2.2.2.1>(0:Int)))with
  |true=>
   ab (aq x.2.2.2.2.2.2.2.2.2.1 x.2.2.2.2.2.2.2.2.2.2.2.1) fun _=>
   match x.2.2.2.2.2.2.2.2.2.1[x.2.2.2.2.2.2.2.2.2.2.2.1.toNat]? with
   |none=>none
   |some v19=>
   aI (x.2.2.2.2.2.1.length+ [(x.2.2.2.2.2.2.2.1,x.2.2.2.2.2.2.2.2.2.2.1,x.2.2.2.2.2.2.2.2.2.2.2.1,(v17,(1:Int),v15.1.2.2.1,v19,v15.1.2.2.2.2.1,()),())].length) (
    some (.inl ((v15.2.1.1,v15.2.1.2.1,v15.2.1.2.2.1,()),(x.2.1.1,x.2.1.2.1,x.2.1.2.2.1,x.2.1.2.2.2.1,()),x.2.2.1,x.2.2.2.1,x.2.2.2.2.1,(x.2.2.2.2.2.1++ [(x.2.2.2.2.2.2.2.1,x.2.2.2.2.2.2.2.2.2.2.1,x.2.2.2.2.2.2.2.2.2.2.2.1,(v17,(1:Int),v15.1.2.2.1,v19,v15.1.2.2.2.2.1,()),())]),x.2.2.2.2.2.2.1,x.2.2.2.2.2.2.2.1,(x.2.2.2.2.2.2.2.2.1.1,x.2.2.2.2.2.2.2.2.1.2.1,x.2.2.2.2.2.2.2.2.1.2.2.1,()),x.2.2.2.2.2.2.2.2.2.1,x.2.2.2.2.2.2.2.2.2.2.1,(IntKind.i64.wrap (x.2.2.2.2.2.2.2.2.2.2.2.1+(1:Int))),())))
  |false=>
   ab (aq x.2.2.2.2.2.2.2.2.2.1 x.2.2.2.2.2.2.2.2.2.2.2.1) fun _=>
   match x.2.2.2.2.2.2.2.2.2.1[x.2.2.2.2.2.2.2.2.2.2.2.1.toNat]? with
   |none=>none
   |some v21=>
   aI (x.2.2.2.2.2.1.length+ [(x.2.2.2.2.2.2.2.1,x.2.2.2.2.2.2.2.2.2.2.1,x.2.2.2.2.2.2.2.2.2.2.2.1,(v17,v15.1.2.1,v15.1.2.2.1,v21,v15.1.2.2.2.2.1,()),())].length) (
    some (.inl ((v15.2.1.1,v15.2.1.2.1,v15.2.1.2.2.1,()),(x.2.1.1,x.2.1.2.1,x.2.1.2.2.1,x.2.1.2.2.2.1,()),x.2.2.1,x.2.2.2.1,x.2.2.2.2.1,(x.2.2.2.2.2.1++ [(x.2.2.2.2.2.2.2.1,x.2.2.2.2.2.2.2.2.2.2.1,x.2.2.2.2.2.2.2.2.2.2.2.1,(v17,v15.1.2.1,v15.1.2.2.1,v21,v15.1.2.2.2.2.1,()),())]),x.2.2.2.2.2.2.1,x.2.2.2.2.2.2.2.1,(x.2.2.2.2.2.2.2.2.1.1,x.2.2.2.2.2.2.2.2.1.2.1,x.2.2.2.2.2.2.2.2.1.2.2.1,()),x.2.2.2.2.2.2.2.2.2.1,x.2.2.2.2.2.2.2.2.2.2.1,(IntKind.i64.wrap (x.2.2.2.2.2.2.2.2.2.2.2.1+(1:Int))),())))
 |false=>
  ab (aq x.2.2.2.2.2.2.2.2.2.1 x.2.2.2.2.2.2.2.2.2.2.2.1) fun _=>
  match x.2.2.2.2.2.2.2.2.2.1[x.2.2.2.2.2.2.2.2.2.2.2.1.toNat]? with
  |none=>none
  |some v23=>
  aI (x.2.2.2.2.2.1.length+ [(x.2.2.2.2.2.2.2.1,x.2.2.2.2.2.2.2.2.2.2.1,x.2.2.2.2.2.2.2.2.2.2.2.1,(v17,v15.1.2.1,v15.1.2.2.1,v23,v15.1.2.2.2.2.1,()),())].length) (
   some (.inl ((v15.2.1.1,v15.2.1.2.1,v15.2.1.2.2.1,()),(x.2.1.1,x.2.1.2.1,x.2.1.2.2.1,x.2.1.2.2.2.1,()),x.2.2.1,x.2.2.2.1,x.2.2.2.2.1,(x.2.2.2.2.2.1++ [(x.2.2.2.2.2.2.2.1,x.2.2.2.2.2.2.2.2.2.2.1,x.2.2.2.2.2.2.2.2.2.2.2.1,(v17,v15.1.2.1,v15.1.2.2.1,v23,v15.1.2.2.2.2.1,()),())]),x.2.2.2.2.2.2.1,x.2.2.2.2.2.2.2.1,(x.2.2.2.2.2.2.2.2.1.1,x.2.2.2.2.2.2.2.2.1.2.1,x.2.2.2.2.2.2.2.2.1.2.2.1,()),x.2.2.2.2.2.2.2.2.2.1,x.2.2.2.2.2.2.2.2.2.2.1,(IntKind.i64.wrap (x.2.2.2.2.2.2.2.2.2.2.2.1+(1:Int))),())))
|false=>
 some (.inr (.inl ((x.1.1,x.1.2.1,x.1.2.2.1,()),(x.2.1.1,x.2.1.2.1,x.2.1.2.2.1,x.2.1.2.2.2.1,()),x.2.2.1,x.2.2.2.1,x.2.2.2.2.1,x.2.2.2.2.2.1,x.2.2.2.2.2.2.1,x.2.2.2.2.2.2.2.1,(x.2.2.2.2.2.2.2.2.1.1,x.2.2.2.2.2.2.2.2.1.2.1,x.2.2.2.2.2.2.2.2.1.2.2.1,()),x.2.2.2.2.2.2.2.2.2.1,x.2.2.2.2.2.2.2.2.2.2.1,())))
abbrev se:Ty:=Zj
abbrev Av:Ty:=acl
noncomputable def f4(x:(Ty.T se)):Option ((Ty.T se) ⊕ ((Ty.T Av) ⊕ (Ty.T .unit))):=
match(decide (x.2.2.2.2.2.2.2.2.2.2.1<x.2.2.2.2.2.2.2.2.1.1))with
|true=>
 match ac eY ((x.1.1,x.1.2.1,x.1.2.2.1,()),(x.2.1.1,x.2.1.2.1,x.2.1.2.2.1,x.2.1.2.2.2.1,()),x.2.2.1,x.2.2.2.1,x.2.2.2.2.1,x.2.2.2.2.2.1,x.2.2.2.2.2.2.1,x.2.2.2.2.2.2.2.1,(x.2.2.2.2.2.2.2.2.1.1,x.2.2.2.2.2.2.2.2.1.2.1,x.2.2.2.2.2.2.2.2.1.2.2.1,()),x.2.2.2.2.2.2.2.2.2.1,x.2.2.2.2.2.2.2.2.2.2.1,(0:Int),())with
 |none=>none
 |some (.inl v15)=>
  some (.inl ((v15.1.1,v15.1.2.1,v15.1.2.2.1,()),(v15.2.1.1,v15.2.1.2.1,v15.2.1.2.2.1,v15.2.1.2.2.2.1,()),v15.2.2.1,v15.2.2.2.1,v15.2.2.2.2.1,v15.2.2.2.2.2.1,v15.2.2.2.2.2.2.1,v15.2.2.2.2.2.2.2.1,(v15.2.2.2.2.2.2.2.2.1.1,v15.2.2.2.2.2.2.2.2.1.2.1,v15.2.2.2.2.2.2.2.2.1.2.2.1,()),v15.2.2.2.2.2.2.2.2.2.1,(IntKind.i64.wrap (v15.2.2.2.2.2.2.2.2.2.2.1+(1:Int))),()))
 |some (.inr v17)=>
  some (.inr (.inr (())))
|false=>
 some (.inr (.inl ((x.1.1,x.1.2.1,x.1.2.2.1,()),(x.2.1.1,x.2.1.2.1,x.2.1.2.2.1,x.2.1.2.2.2.1,()),x.2.2.1,x.2.2.2.1,x.2.2.2.2.1,x.2.2.2.2.2.1,x.2.2.2.2.2.2.1,x.2.2.2.2.2.2.2.1,())))
abbrev sf:Ty:=acl
abbrev Aw:Ty:=(.pair (.box ah) (.pair (.box an) (.pair (.own 136 au) (.pair (.own 159 ay) (.pair (.own 167 al) .unit)))))
noncomputable def ej(x:(Ty.T sf)):Option ((Ty.T sf) ⊕ ((Ty.T Aw) ⊕ (Ty.T .unit))):=
match(decide (x.2.2.2.2.2.2.2.1<x.2.2.2.2.2.2.1))with
|true=>
 match aa ((x.1.1,x.1.2.1,x.1.2.2.1,()),(2:Int),())with
 |none=>none
 |some v10=>
 match aa ((v10.2.1.1,v10.2.1.2.1,v10.2.1.2.2.1,()),(2:Int),())with
 |none=>none
 |some v11=>
 match(decide (x.2.2.2.2.2.2.1>(1:Int)))with
 |true=>
  aI (x.2.2.2.2.1.length+ [((IntKind.i64.wrap ((1:Int)+v10.1)),(IntKind.i64.wrap ((x.2.2.2.1.length:Int)+v11.1)),[(IntKind.i64.wrap ((1:Int)-x.2.2.2.2.2.2.2.1))],())].length) (
   match ac f3 ((v11.2.1.1,v11.2.1.2.1,v11.2.1.2.2.1,()),(x.2.1.1,x.2.1.2.1,x.2.1.2.2.1,x.2.1.2.2.2.1,()),x.2.2.1,x.2.2.2.1,(x.2.2.2.2.1++ [((IntKind.i64.wrap ((1:Int)+v10.1)),(IntKind.i64.wrap ((x.2.2.2.1.length:Int)+v11.1)),[(IntKind.i64.wrap ((1:Int)-x.2.2.2.2.2.2.2.1))],())]),x.2.2.2.2.2.1,x.2.2.2.2.2.2.1,x.2.2.2.2.2.2.2.1,((IntKind.i64.wrap ((1:Int)+v10.1)),(IntKind.i64.wrap ((x.2.2.2.1.length:Int)+v11.1)),[(IntKind.i64.wrap ((1:Int)-x.2.2.2.2.2.2.2.1))],()),[],(0:Int),())with
   |none=>none
   |some (.inl v12)=>
    match ac f4 ((v12.1.1,v12.1.2.1,v12.1.2.2.1,()),(v12.2.1.1,v12.2.1.2.1,v12.2.1.2.2.1,v12.2.1.2.2.2.1,()),v12.2.2.1,v12.2.2.2.1,v12.2.2.2.2.1,v12.2.2.2.2.2.1,v12.2.2.2.2.2.2.1,v12.2.2.2.2.2.2.2.1,(v12.2.2.2.2.2.2.2.2.1.1,v12.2.2.2.2.2.2.2.2.1.2.1,v12.2.2.2.2.2.2.2.2.1.2.2.1,()),v12.2.2.2.2.2.2.2.2.2.1,(0:Int),())with
    |none=>none
    |some (.inl v14)=>
     some (.inl ((v14.1.1,v14.1.2.1,v14.1.2.2.1,()),(v14.2.1.1,v14.2.1.2.1,v14.2.1.2.2.1,v14.2.1.2.2.2.1,()),v14.2.2.1,v14.2.2.2.1,v14.2.2.2.2.1,v14.2.2.2.2.2.1,v14.2.2.2.2.2.2.1,(IntKind.i64.wrap (v14.2.2.2.2.2.2.2.1+(1:Int))),()))
    |some (.inr v16)=>
     some (.inr (.inr (())))
   |some (.inr v17)=>
    some (.inr (.inr (()))))
 |false=>
  aI (x.2.2.2.2.1.length+([((IntKind.i64.wrap ((1:Int)+v10.1)),(IntKind.i64.wrap ((x.2.2.2.1.length:Int)+v11.1)),[],())]:List (Ty.T ay)).length) (
   match ac f3 ((v11.2.1.1,v11.2.1.2.1,v11.2.1.2.2.1,()),(x.2.1.1,x.2.1.2.1,x.2.1.2.2.1,x.2.1.2.2.2.1,()),x.2.2.1,x.2.2.2.1,(x.2.2.2.2.1++([((IntKind.i64.wrap ((1:Int)+v10.1)),(IntKind.i64.wrap ((x.2.2.2.1.length:Int)+v11.1)),[],())]:List (Ty.T ay))),x.2.2.2.2.2.1,x.2.2.2.2.2.2.1,x.2.2.2.2.2.2.2.1,((IntKind.i64.wrap ((1:Int)+v10.1)),(IntKind.i64.wrap ((x.2.2.2.1.length:Int)+v11.1)),[],()),[],(0:Int),())with
   |none=>none
   |some (.inl v18)=>
    match ac f4 ((v18.1.1,v18.1.2.1,v18.1.2.2.1,()),(v18.2.1.1,v18.2.1.2.1,v18.2.1.2.2.1,v18.2.1.2.2.2.1,()),v18.2.2.1,v18.2.2.2.1,v18.2.2.2.2.1,v18.2.2.2.2.2.1,v18.2.2.2.2.2.2.1,v18.2.2.2.2.2.2.2.1,(v18.2.2.2.2.2.2.2.2.1.1,v18.2.2.2.2.2.2.2.2.1.2.1,v18.2.2.2.2.2.2.2.2.1.2.2.1,()),v18.2.2.2.2.2.2.2.2.2.1,(0:Int),())with
    |none=>none
    |some (.inl v20)=>
     some (.inl ((v20.1.1,v20.1.2.1,v20.1.2.2.1,()),(v20.2.1.1,v20.2.1.2.1,v20.2.1.2.2.1,v20.2.1.2.2.2.1,()),v20.2.2.1,v20.2.2.2.1,v20.2.2.2.2.1,v20.2.2.2.2.2.1,v20.2.2.2.2.2.2.1,(IntKind.i64.wrap (v20.2.2.2.2.2.2.2.1+(1:Int))),()))
    |some (.inr v22)=>
     some (.inr (.inr (())))
   |some (.inr v23)=>
    some (.inr (.inr (()))))
|false=>
 some (.inr (.inl ((x.1.1,x.1.2.1,x.1.2.2.1,()),(x.2.1.1,x.2.1.2.1,x.2.1.2.2.1,x.2.1.2.2.2.1,()),x.2.2.1,x.2.2.2.2.1,x.2.2.2.2.2.1,())))
noncomputable def yL(x:Ty.T gB):Option (Ty.T (.pair (.pair (.int .i64) (.pair (.own 136 au) (.pair (.own 159 ay) (.pair (.own 167 al) .unit)))) (.pair (.box ah) .unit))):=
match aa ((x.1.1,x.1.2.1,x.1.2.2.1,()),(4:Int),())with
|none=>none
|some v1=>
match(v1.1==(0:Int))with
|true=>
 match zI (())with
 |none=>none
 |some v2=>
 some ((v2.1.1,v2.1.2.1,v2.1.2.2.1,v2.1.2.2.2.1,()),(v1.2.1.1,v1.2.1.2.1,v1.2.1.2.2.1,()),())
|false=>
 match tE ((v1.2.1.1,v1.2.1.2.1,v1.2.1.2.2.1,()),())with
 |none=>none
 |some v3=>
 ab (aq v3.1 (0:Int)) fun _=>
 match v3.1[(0:Int).toNat]? with
 |none=>none
 |some v5=>
 match(decide (((v3.1.set ((0:Int).toNat) (v5.1,v5.2.1,v5.2.2.1,false,())).length:Int)>(3:Int)))with
 |true=>
  ab (aH (v3.1.set ((0:Int).toNat) (v5.1,v5.2.1,v5.2.2.1,false,())).length none (some (.dat (.int .i64) (3:Int)))) fun v6=>
  match cV ((List.take v6.2 (v3.1.set ((0:Int).toNat) (v5.1,v5.2.1,v5.2.2.1,false,()))),())with
  |none=>none
  |some v7=>
  match jk (v7.1,())with
  |none=>none
  |some v8=>
  match aa ((v3.2.1.1,v3.2.1.2.1,v3.2.1.2.2.1,()),(2:Int),())with
  |none=>none
  |some v9=>
  match ac ej ((v9.2.1.1,v9.2.1.2.1,v9.2.1.2.2.1,()),((0:Int),[],[],[],()),(List.take v6.2 (v3.1.set ((0:Int).toNat) (v5.1,v5.2.1,v5.2.2.1,false,()))),v8.1,[],[],(IntKind.i64.wrap ((1:Int)+v9.1)),(0:Int),())with
  |none=>none
  |some (.inl v24)=>
   match aa ((v24.1.1,v24.1.2.1,v24.1.2.2.1,()),(5000:Int),())with
   |none=>none
   |some v26=>
   some (((IntKind.i64.wrap ((1:Int)+v26.1)),v24.2.2.1,v24.2.2.2.1,v24.2.2.2.2.1,()),(v26.2.1.1,v26.2.1.2.1,v26.2.1.2.2.1,()),())
  |some (.inr v27)=>
   none
 |false=>
  match cV ((v3.1.set ((0:Int).toNat) (v5.1,v5.2.1,v5.2.2.1,false,())),())with
  |none=>none
  |some v28=>
  match jk (v28.1,())with
  |none=>none
  |some v29=>
  match aa ((v3.2.1.1,v3.2.1.2.1,v3.2.1.2.2.1,()),(2:Int),())with
  |none=>none
  |some v30=>
  match ac ej ((v30.2.1.1,v30.2.1.2.1,v30.2.1.2.2.1,()),((0:Int),[],[],[],()),(v3.1.set ((0:Int).toNat) (v5.1,v5.2.1,v5.2.2.1,false,())),v29.1,[],[],(IntKind.i64.wrap ((1:Int)+v30.1)),(0:Int),())with
  |none=>none
  |some (.inl v31)=>
   match aa ((v31.1.1,v31.1.2.1,v31.1.2.2.1,()),(5000:Int),())with
   |none=>none
   |some v33=>
   some (((IntKind.i64.wrap ((1:Int)+v33.1)),v31.2.2.1,v31.2.2.2.1,v31.2.2.2.2.1,()),(v33.2.1.1,v33.2.1.2.1,v33.2.1.2.2.1,()),())
  |some (.inr v34)=>
   none
noncomputable def Ih:ae:=⟨_,Zi,gB,rfl,yL⟩
noncomputable def mq:FuncId→Option ae:=bC [(52,gg),(126,oX),(235,C3),(236,Ic),(237,C8),(238,Ig)]
theorem Nw:∀f s,mq f=some s→FnOK G0 Tryz.prog f s:=aD ⟨bK,kM,Nt,Fk,Ar,Fm,trivial⟩
def Ax:aO:=⟨[0,2,3,4,6,7,8,9],sf,0,[0,2,3,6,7],Aw,[],.unit⟩
def Ay:aO:=⟨[0,2,3,4,6,7,8,9,10,11,12],sb,2,[0,2,3,4,6,7,8,9,10,11],As,[],.unit⟩
def Az:aO:=⟨[0,2,3,4,6,7,8,9,10,11,13],se,4,[0,2,3,4,6,7,8,9],Av,[],.unit⟩
def AA:aO:=⟨[0,2,3,4,6,7,8,9,10,11,13,14],sd,6,[0,2,3,4,6,7,8,9,10,11,13],Au,[],.unit⟩
noncomputable def mr:List aw:=[Ax.spec ej,Ay.spec f3,Az.spec f4,AA.spec eY]
theorem Jm:bg XA E1 mq (bc Tryz.f184 mr) Tryz.f184 0 Ax ej:=fun x=>by kernel_rfl
theorem Jn:bg XA E1 mq (bc Tryz.f184 mr) Tryz.f184 1 Ay f3:=fun x=>by kernel_rfl
theorem Jo:bg XA E1 mq (bc Tryz.f184 mr) Tryz.f184 2 Az f4:=fun x=>by kernel_rfl
theorem Jp:bg XA E1 mq (bc Tryz.f184 mr) Tryz.f184 3 AA eY:=fun x=>by kernel_rfl
theorem RF:FnOK G0 Tryz.prog 184 Ih:=aJ adz Nw Tryz.func184 mr (by kernel_rfl) (by exact⟨(Jm).lok,(Jn).lok,(Jo).lok,(Jp).lok,trivial⟩) fun x=>by kernel_rfl
noncomputable def qE(x:Ty.T gB):Option (Ty.T ab3):=
match tE ((x.1.1,x.1.2.1,x.1.2.2.1,()),())with
|none=>none
|some v1=>
match aa ((v1.2.1.1,v1.2.1.2.1,v1.2.1.2.2.1,()),(v1.1.length:Int),())with
|none=>none
|some v2=>
match aa ((v2.2.1.1,v2.2.1.2.1,v2.2.1.2.2.1,()),(24:Int),())with
|none=>none
|some v3=>
match(v3.1==(0:Int))with
|true=>
 match aa ((v3.2.1.1,v3.2.1.2.1,v3.2.1.2.2.1,()),(3:Int),())with
 |none=>none
 |some v4=>
 ab (aq [(-1:Int),(31:Int),(32:Int)] v4.1) fun _=>
 match [(-1:Int),(31:Int),(32:Int)][v4.1.toNat]? with
 |none=>none
 |some v6=>
 ab (aq v1.1 v2.1) fun _=>
 match v1.1[v2.1.toNat]? with
 |none=>none
 |some v8=>
 some ((v1.1.set v2.1.toNat (v6,v8.2.1,v8.2.2.1,v8.2.2.2.1,())),(v4.2.1.1,v4.2.1.2.1,v4.2.1.2.2.1,()),())
|false=>
 match(v3.1==(1:Int))with
 |true=>
  match aa ((v3.2.1.1,v3.2.1.2.1,v3.2.1.2.2.1,()),(5:Int),())with
  |none=>none
  |some v9=>
  ab (aq [[],([115,101,118,101,110,110,55]:List UInt8),([115,105,120,120,120,54]:List UInt8),([78,49]:List UInt8),([110,48]:List UInt8)] v9.1) fun _=>
  match [[],([115,101,118,101,110,110,55]:List UInt8),([115,105,120,120,120,54]:List UInt8),([78,49]:List UInt8),([110,48]:List UInt8)][v9.1.toNat]? with
  |none=>none
  |some v11=>
  ab (aq v1.1 v2.1) fun _=>
  match v1.1[v2.1.toNat]? with
  |none=>none
  |some v13=>
  some ((v1.1.set v2.1.toNat (v13.1,v11,v13.2.2.1,v13.2.2.2.1,())),(v9.2.1.1,v9.2.1.2.1,v9.2.1.2.2.1,()),())
 |false=>
  match(v3.1==(2:Int))with
  |true=>
   match aa ((v3.2.1.1,v3.2.1.2.1,v3.2.1.2.2.1,()),(3:Int),())with
   |none=>none
   |some v14=>
   ab (aq [(-1:Int),(1000:Int),(1001:Int)] v14.1) fun _=>
   match [(-1:Int),(1000:Int),(1001:Int)][v14.1.toNat]? with
   |none=>none
   |some v16=>
   ab (aq v1.1 v2.1) fun _=>
   match v1.1[v2.1.toNat]? with
   |none=>none
   |some v18=>
   some ((v1.1.set v2.1.toNat (v18.1,v18.2.1,v16,v18.2.2.2.1,())),(v14.2.1.1,v14.2.1.2.1,v14.2.1.2.2.1,()),())
  |false=>
   match(v3.1==(3:Int))with
   |true=>
    ab (aq v1.1 v2.1) fun _=>
    match v1.1[v2.1.toNat]? with
    |none=>none
    |some v20=>
    aI (v1.1.length+ [v20].length) (
     some ((v1.1++ [v20]),(v3.2.1.1,v3.2.1.2.1,v3.2.1.2.2.1,()),()))
   |false=>
    match(v3.1==(4:Int))with
    |true=>
     some ([],(v3.2.1.1,v3.2.1.2.1,v3.2.1.2.2.1,()),())
    |false=>
     some (v1.1,(v3.2.1.1,v3.2.1.2.1,v3.2.1.2.2.1,()),())
noncomputable def AB:ae:=⟨_,abO,gB,rfl,qE⟩
theorem K4:FnOK G0 Tryz.prog 185 AB:=ak aj (sg bK (sg Fk (aL))) Tryz.func185
abbrev uD:Ty:=(.pair (.box ah) (.pair (.own 159 (.pair (.int .i64) (.pair (.int .i64) (.pair (.own 2 (.int .i64)) .unit)))) (.pair (.int .i64) (.pair (.int .i64) (.pair (.own 2 (.int .i64)) (.pair (.int .i64) .unit))))))
abbrev C9:Ty:=(.pair (.box ah) (.pair (.own 159 (.pair (.int .i64) (.pair (.int .i64) (.pair (.own 2 (.int .i64)) .unit)))) (.pair (.int .i64) (.pair (.int .i64) (.pair (.own 2 (.int .i64)) .unit)))))
noncomputable def gC(x:(Ty.T uD)):Option ((Ty.T uD) ⊕ ((Ty.T C9) ⊕ (Ty.T .unit))):=
match(decide (x.2.2.2.2.2.1<x.2.2.1))with
|true=>
 match(x.2.2.2.2.2.1 != x.2.2.2.1)with
 |true=>
  match aa ((x.1.1,x.1.2.1,x.1.2.2.1,()),(2:Int),())with
  |none=>none
  |some v2=>
  match(v2.1==(0:Int))with
  |true=>
   aI (x.2.2.2.2.1.length+ [x.2.2.2.2.2.1].length) (
    some (.inl ((v2.2.1.1,v2.2.1.2.1,v2.2.1.2.2.1,()),x.2.1,x.2.2.1,x.2.2.2.1,(x.2.2.2.2.1++ [x.2.2.2.2.2.1]),(IntKind.i64.wrap (x.2.2.2.2.2.1+(1:Int))),())))
  |false=>
   some (.inl ((v2.2.1.1,v2.2.1.2.1,v2.2.1.2.2.1,()),x.2.1,x.2.2.1,x.2.2.2.1,x.2.2.2.2.1,(IntKind.i64.wrap (x.2.2.2.2.2.1+(1:Int))),()))
 |false=>
  some (.inl ((x.1.1,x.1.2.1,x.1.2.2.1,()),x.2.1,x.2.2.1,x.2.2.2.1,x.2.2.2.2.1,(IntKind.i64.wrap (x.2.2.2.2.2.1+(1:Int))),()))
|false=>
 some (.inr (.inl ((x.1.1,x.1.2.1,x.1.2.2.1,()),x.2.1,x.2.2.1,x.2.2.2.1,x.2.2.2.2.1,())))
abbrev uE:Ty:=(.pair (.box ah) (.pair (.own 159 (.pair (.int .i64) (.pair (.int .i64) (.pair (.own 2 (.int .i64)) .unit)))) bB))
abbrev Da:Ty:=(.pair (.box ah) (.pair (.own 159 (.pair (.int .i64) (.pair (.int .i64) (.pair (.own 2 (.int .i64)) .unit)))) .unit))
noncomputable def jW(x:(Ty.T uE)):Option ((Ty.T uE) ⊕ ((Ty.T Da) ⊕ (Ty.T .unit))):=
match(decide (x.2.2.2.1<x.2.2.1))with
|true=>
 match ac gC ((x.1.1,x.1.2.1,x.1.2.2.1,()),x.2.1,x.2.2.1,x.2.2.2.1,[],(0:Int),())with
 |none=>none
 |some (.inl v2)=>
  match aa ((v2.1.1,v2.1.2.1,v2.1.2.2.1,()),(3:Int),())with
  |none=>none
  |some v4=>
  match aa ((v4.2.1.1,v4.2.1.2.1,v4.2.1.2.2.1,()),(4:Int),())with
  |none=>none
  |some v5=>
  aI (v2.2.1.length+ [((IntKind.i64.wrap ((1:Int)+v4.1)),(IntKind.i64.wrap ((1:Int)+v5.1)),v2.2.2.2.2.1,())].length) (
   some (.inl ((v5.2.1.1,v5.2.1.2.1,v5.2.1.2.2.1,()),(v2.2.1++ [((IntKind.i64.wrap ((1:Int)+v4.1)),(IntKind.i64.wrap ((1:Int)+v5.1)),v2.2.2.2.2.1,())]),v2.2.2.1,(IntKind.i64.wrap (v2.2.2.2.1+(1:Int))),())))
 |some (.inr v6)=>
  some (.inr (.inr (())))
|false=>
 some (.inr (.inl ((x.1.1,x.1.2.1,x.1.2.2.1,()),x.2.1,())))
noncomputable def yM(x:Ty.T gB):Option (Ty.T ack):=
match aa ((x.1.1,x.1.2.1,x.1.2.2.1,()),(4:Int),())with
|none=>none
|some v1=>
match ac jW ((v1.2.1.1,v1.2.1.2.1,v1.2.1.2.2.1,()),[],(IntKind.i64.wrap ((1:Int)+v1.1)),(0:Int),())with
|none=>none
|some (.inl v7)=>
 some (v7.2.1,(v7.1.1,v7.1.2.1,v7.1.2.2.1,()),())
|some (.inr v9)=>
 none
noncomputable def Tz:ae:=⟨_,acg,gB,rfl,yM⟩
noncomputable def xa:FuncId→Option ae:=bC [(52,gg)]
theorem Nx:∀f s,xa f=some s→FnOK G0 Tryz.prog f s:=aD ⟨bK,trivial⟩
def Db:aO:=⟨[0,3,4,5],uE,0,[0,3],Da,[],.unit⟩
def Dc:aO:=⟨[0,3,4,5,6,7],uD,2,[0,3,4,5,6],C9,[],.unit⟩
noncomputable def xb:List aw:=[Db.spec jW,Dc.spec gC]
theorem K5:bg Γ2 E2 xa (bc Tryz.f239 xb) Tryz.f239 0 Db jW:=fun x=>by kernel_rfl
theorem K6:bg Γ2 E2 xa (bc Tryz.f239 xb) Tryz.f239 1 Dc gC:=fun x=>by kernel_rfl
theorem RG:FnOK G0 Tryz.prog 239 Tz:=aJ aco Nx Tryz.func239 xb (by kernel_rfl) (by exact⟨(K5).lok,(K6).lok,trivial⟩) fun x=>by kernel_rfl
noncomputable def qF(x:Ty.T gB):Option (Ty.T ack):=
match yM ((x.1.1,x.1.2.1,x.1.2.2.1,()),())with
|none=>none
|some v1=>
match aa ((v1.2.1.1,v1.2.1.2.1,v1.2.1.2.2.1,()),(v1.1.length:Int),())with
|none=>none
|some v2=>
match aa ((v2.2.1.1,v2.2.1.2.1,v2.2.1.2.2.1,()),(24:Int),())with
|none=>none
|some v3=>
match(v3.1==(0:Int))with
|true=>
 match aa ((v3.2.1.1,v3.2.1.2.1,v3.2.1.2.2.1,()),(3:Int),())with
 |none=>none
 |some v4=>
 ab (aq [(0:Int),(8:Int),(9:Int)] v4.1) fun _=>
 match [(0:Int),(8:Int),(9:Int)][v4.1.toNat]? with
 |none=>none
 |some v6=>
 ab (aq v1.1 v2.1) fun _=>
 match v1.1[v2.1.toNat]? with
 |none=>none
 |some v8=>
 some ((v1.1.set v2.1.toNat (v6,v8.2)),(v4.2.1.1,v4.2.1.2.1,v4.2.1.2.2.1,()),())
|false=>
 match(v3.1==(1:Int))with
 |true=>
  match aa ((v3.2.1.1,v3.2.1.2.1,v3.2.1.2.2.1,()),(3:Int),())with
  |none=>none
  |some v9=>
  ab (aq [(0:Int),(16:Int),(17:Int)] v9.1) fun _=>
  match [(0:Int),(16:Int),(17:Int)][v9.1.toNat]? with
  |none=>none
  |some v11=>
  ab (aq v1.1 v2.1) fun _=>
  match v1.1[v2.1.toNat]? with
  |none=>none
  |some v13=>
  some ((v1.1.set v2.1.toNat (v13.1,(v11,v13.2.2))),(v9.2.1.1,v9.2.1.2.1,v9.2.1.2.2.1,()),())
 |false=>
  match(v3.1==(2:Int))with
  |true=>
   ab (aq v1.1 v2.1) fun _=>
   aN (
    match v1.1[v2.1.toNat]? with
    |none=>none
    |some v15=>
    aN (
     aX (
      match aa ((v3.2.1.1,v3.2.1.2.1,v3.2.1.2.2.1,()),(3:Int),())with
      |none=>none
      |some v16=>
      ab (aq [v2.1,(v1.1.length:Int),(0:Int)] v16.1) fun _=>
      match [v2.1,(v1.1.length:Int),(0:Int)][v16.1.toNat]? with
      |none=>none
      |some v18=>
      aI (v15.2.2.1.length+ [v18].length) (
       ab (aq v1.1 v2.1) fun _=>
       if v2.1.toNat=v2.1.toNat then
        some ((v1.1.set v2.1.toNat (v15.1,(v15.2.1,((v15.2.2.1++ [v18]),v15.2.2.2)))),(v16.2.1.1,v16.2.1.2.1,v16.2.1.2.2.1,()),())
       else none))) (
     match aa ((v3.2.1.1,v3.2.1.2.1,v3.2.1.2.2.1,()),(3:Int),())with
     |none=>none
     |some v16=>
     ab (aq [v2.1,(v1.1.length:Int),(0:Int)] v16.1) fun _=>
     match [v2.1,(v1.1.length:Int),(0:Int)][v16.1.toNat]? with
     |none=>none
     |some v18=>
     aI (v15.2.2.1.length+ [v18].length) (
      ab (aq v1.1 v2.1) fun _=>
      if v2.1.toNat=v2.1.toNat then
       some ((v1.1.set v2.1.toNat (v15.1,(v15.2.1,((v15.2.2.1++ [v18]),v15.2.2.2)))),(v16.2.1.1,v16.2.1.2.1,v16.2.1.2.2.1,()),())
      else none))) (
    aN (
     aN (
      match v1.1[v2.1.toNat]? with
      |none=>none
      |some v15=>
      aX (
       match aa ((v3.2.1.1,v3.2.1.2.1,v3.2.1.2.2.1,()),(3:Int),())with
       |none=>none
       |some v16=>
       ab (aq [v2.1,(v1.1.length:Int),(0:Int)] v16.1) fun _=>
       match [v2.1,(v1.1.length:Int),(0:Int)][v16.1.toNat]? with
       |none=>none
       |some v18=>
       aI (v15.2.2.1.length+ [v18].length) (
        ab (aq v1.1 v2.1) fun _=>
        if v2.1.toNat=v2.1.toNat then
         some ((v1.1.set v2.1.toNat (v15.1,(v15.2.1,((v15.2.2.1++ [v18]),v15.2.2.2)))),(v16.2.1.1,v16.2.1.2.1,v16.2.1.2.2.1,()),())
        else none))) (
      aN (
       aN (
        match v1.1[v2.1.toNat]? with
        |none=>none
        |some v15=>
        match aa ((v3.2.1.1,v3.2.1.2.1,v3.2.1.2.2.1,()),(3:Int),())with
        |none=>none
        |some v16=>
        ab (aq [v2.1,(v1.1.length:Int),(0:Int)] v16.1) fun _=>
        match [v2.1,(v1.1.length:Int),(0:Int)][v16.1.toNat]? with
        |none=>none
        |some v18=>
        aI (v15.2.2.1.length+ [v18].length) (
         ab (aq v1.1 v2.1) fun _=>
         if v2.1.toNat=v2.1.toNat then
          some ((v1.1.set v2.1.toNat (v15.1,(v15.2.1,((v15.2.2.1++ [v18]),v15.2.2.2)))),(v16.2.1.1,v16.2.1.2.1,v16.2.1.2.2.1,()),())
         else none)) (
        match aa ((v3.2.1.1,v3.2.1.2.1,v3.2.1.2.2.1,()),(3:Int),())with
        |none=>none
        |some v15=>
        ab (aq [v2.1,(v1.1.length:Int),(0:Int)] v15.1) fun _=>
        aN (
         match v1.1[v2.1.toNat]? with
         |none=>none
         |some v17=>
         match [v2.1,(v1.1.length:Int),(0:Int)][v15.1.toNat]? with
         |none=>none
         |some v18=>
         aI (v17.2.2.1.length+ [v18].length) (
          ab (aq v1.1 v2.1) fun _=>
          if v2.1.toNat=v2.1.toNat then
           some ((v1.1.set v2.1.toNat (v17.1,(v17.2.1,((v17.2.2.1++ [v18]),v17.2.2.2)))),(v15.2.1.1,v15.2.1.2.1,v15.2.1.2.2.1,()),())
          else none)) (
         match [v2.1,(v1.1.length:Int),(0:Int)][v15.1.toNat]? with
         |none=>none
         |some v17=>
         aX (
          match v1.1[v2.1.toNat]? with
          |none=>none
          |some v18=>
          aI (v18.2.2.1.length+ [v17].length) (
           ab (aq v1.1 v2.1) fun _=>
           if v2.1.toNat=v2.1.toNat then
            some ((v1.1.set v2.1.toNat (v18.1,(v18.2.1,((v18.2.2.1++ [v17]),v18.2.2.2)))),(v15.2.1.1,v15.2.1.2.1,v15.2.1.2.2.1,()),())
           else none))))) (
       match aa ((v3.2.1.1,v3.2.1.2.1,v3.2.1.2.2.1,()),(3:Int),())with
       |none=>none
       |some v15=>
       aN (
        match v1.1[v2.1.toNat]? with
        |none=>none
        |some v16=>
        ab (aq [v2.1,(v1.1.length:Int),(0:Int)] v15.1) fun _=>
        match [v2.1,(v1.1.length:Int),(0:Int)][v15.1.toNat]? with
        |none=>none
        |some v18=>
        aI (v16.2.2.1.length+ [v18].length) (
         ab (aq v1.1 v2.1) fun _=>
         if v2.1.toNat=v2.1.toNat then
          some ((v1.1.set v2.1.toNat (v16.1,(v16.2.1,((v16.2.2.1++ [v18]),v16.2.2.2)))),(v15.2.1.1,v15.2.1.2.1,v15.2.1.2.2.1,()),())
         else none)) (
        ab (aq [v2.1,(v1.1.length:Int),(0:Int)] v15.1) fun _=>
        aN (
         match v1.1[v2.1.toNat]? with
         |none=>none
         |some v17=>
         match [v2.1,(v1.1.length:Int),(0:Int)][v15.1.toNat]? with
         |none=>none
         |some v18=>
         aI (v17.2.2.1.length+ [v18].length) (
          ab (aq v1.1 v2.1) fun _=>
          if v2.1.toNat=v2.1.toNat then
           some ((v1.1.set v2.1.toNat (v17.1,(v17.2.1,((v17.2.2.1++ [v18]),v17.2.2.2)))),(v15.2.1.1,v15.2.1.2.1,v15.2.1.2.2.1,()),())
          else none)) (
         match [v2.1,(v1.1.length:Int),(0:Int)][v15.1.toNat]? with
         |none=>none
         |some v17=>
         aX (
          match v1.1[v2.1.toNat]? with
          |none=>none
          |some v18=>
          aI (v18.2.2.1.length+ [v17].length) (
           ab (aq v1.1 v2.1) fun _=>
           if v2.1.toNat=v2.1.toNat then
            some ((v1.1.set v2.1.toNat (v18.1,(v18.2.1,((v18.2.2.1++ [v17]),v18.2.2.2)))),(v15.2.1.1,v15.2.1.2.1,v15.2.1.2.2.1,()),())
           else none))))))) (
     match aa ((v3.2.1.1,v3.2.1.2.1,v3.2.1.2.2.1,()),(3:Int),())with
     |none=>none
     |some v15=>
     aN (
      match v1.1[v2.1.toNat]? with
      |none=>none
      |some v16=>
      ab (aq [v2.1,(v1.1.length:Int),(0:Int)] v15.1) fun _=>
      match [v2.1,(v1.1.length:Int),(0:Int)][v15.1.toNat]? with
      |none=>none
      |some v18=>
      aI (v16.2.2.1.length+ [v18].length) (
       ab (aq v1.1 v2.1) fun _=>
       if v2.1.toNat=v2.1.toNat then
        some ((v1.1.set v2.1.toNat (v16.1,(v16.2.1,((v16.2.2.1++ [v18]),v16.2.2.2)))),(v15.2.1.1,v15.2.1.2.1,v15.2.1.2.2.1,()),())
       else none)) (
      aN (
       match v1.1[v2.1.toNat]? with
       |none=>none
       |some v16=>
       ab (aq [v2.1,(v1.1.length:Int),(0:Int)] v15.1) fun _=>
       match [v2.1,(v1.1.length:Int),(0:Int)][v15.1.toNat]? with
       |none=>none
       |some v18=>
       aI (v16.2.2.1.length+ [v18].length) (
        ab (aq v1.1 v2.1) fun _=>
        if v2.1.toNat=v2.1.toNat then
         some ((v1.1.set v2.1.toNat (v16.1,(v16.2.1,((v16.2.2.1++ [v18]),v16.2.2.2)))),(v15.2.1.1,v15.2.1.2.1,v15.2.1.2.2.1,()),())
        else none)) (
       ab (aq [v2.1,(v1.1.length:Int),(0:Int)] v15.1) fun _=>
       aN (
        match v1.1[v2.1.toNat]? with
        |none=>none
        |some v17=>
        match [v2.1,(v1.1.length:Int),(0:Int)][v15.1.toNat]? with
        |none=>none
        |some v18=>
        aI (v17.2.2.1.length+ [v18].length) (
         ab (aq v1.1 v2.1) fun _=>
         if v2.1.toNat=v2.1.toNat then
          some ((v1.1.set v2.1.toNat (v17.1,(v17.2.1,((v17.2.2.1++ [v18]),v17.2.2.2)))),(v15.2.1.1,v15.2.1.2.1,v15.2.1.2.2.1,()),())
         else none)) (
        match [v2.1,(v1.1.length:Int),(0:Int)][v15.1.toNat]? with
        |none=>none
        |some v17=>
        aX (
         match v1.1[v2.1.toNat]? with
         |none=>none
         |some v18=>
         aI (v18.2.2.1.length+ [v17].length) (
          ab (aq v1.1 v2.1) fun _=>
          if v2.1.toNat=v2.1.toNat then
           some ((v1.1.set v2.1.toNat (v18.1,(v18.2.1,((v18.2.2.1++ [v17]),v18.2.2.2)))),(v15.2.1.1,v15.2.1.2.1,v15.2.1.2.2.1,()),())
          else none)))))))
  |false=>
   match(v3.1==(3:Int))with
   |true=>
    some ([],(v3.2.1.1,v3.2.1.2.1,v3.2.1.2.2.1,()),())
   |false=>
    match(v3.1==(4:Int))with
    |true=>
     if 0≤(17:Int)∧(17:Int)≤(17:Int)then
      aI ((17:Int).toNat) (
       some ((List.replicate (17:Int).toNat ((0:Int),(0:Int),[],())),(v3.2.1.1,v3.2.1.2.1,v3.2.1.2.2.1,()),()))
     else none
    |false=>
     some (v1.1,(v3.2.1.1,v3.2.1.2.1,v3.2.1.2.2.1,()),())
noncomputable def AC:ae:=⟨_,acg,gB,rfl,qF⟩
theorem K7:FnOK G0 Tryz.prog 186 AC:=ak aco (sg bK (sg RG (aL))) Tryz.func186
noncomputable def qG(x:Ty.T gB):Option (Ty.T abX):=
match pX ((x.1.1,x.1.2.1,x.1.2.2.1,()),())with
|none=>none
|some v1=>
match aa ((v1.2.1.1,v1.2.1.2.1,v1.2.1.2.2.1,()),(30:Int),())with
|none=>none
|some v2=>
match(v2.1==(0:Int))with
|true=>
 match aa ((v2.2.1.1,v2.2.1.2.1,v2.2.1.2.2.1,()),(3:Int),())with
 |none=>none
 |some v3=>
 ab (aq [(-1:Int),(31:Int),(32:Int)] v3.1) fun _=>
 match [(-1:Int),(31:Int),(32:Int)][v3.1.toNat]? with
 |none=>none
 |some v5=>
 some ((v5,v1.1.2.1,v1.1.2.2.1,v1.1.2.2.2.1,v1.1.2.2.2.2.1,()),(v3.2.1.1,v3.2.1.2.1,v3.2.1.2.2.1,()),())
|false=>
 match(v2.1==(1:Int))with
 |true=>
  match aa ((v2.2.1.1,v2.2.1.2.1,v2.2.1.2.2.1,()),(6:Int),())with
  |none=>none
  |some v6=>
  some ((v1.1.1,(IntKind.i64.wrap (v6.1-(1:Int))),v1.1.2.2.1,v1.1.2.2.2.1,v1.1.2.2.2.2.1,()),(v6.2.1.1,v6.2.1.2.1,v6.2.1.2.2.1,()),())
 |false=>
  match(v2.1==(2:Int))with
  |true=>
   match aa ((v2.2.1.1,v2.2.1.2.1,v2.2.1.2.2.1,()),(4:Int),())with
   |none=>none
   |some v7=>
   ab (aq [(-1:Int),(0:Int),(32:Int),(33:Int)] v7.1) fun _=>
   match [(-1:Int),(0:Int),(32:Int),(33:Int)][v7.1.toNat]? with
   |none=>none
   |some v9=>
   some ((v1.1.1,v1.1.2.1,v9,v1.1.2.2.2.1,v1.1.2.2.2.2.1,()),(v7.2.1.1,v7.2.1.2.1,v7.2.1.2.2.1,()),())
  |false=>
   match(v2.1==(3:Int))with
   |true=>
    match eA (v1.1.2.1,v1.1.2.2.1,())with
    |none=>none
    |some v10=>
    match aa ((v2.2.1.1,v2.2.1.2.1,v2.2.1.2.2.1,()),(4:Int),())with
    |none=>none
    |some v11=>
    ab (aq [(0:Int),(IntKind.i64.wrap ((IntKind.i64.wrap (v10.1+(20:Int)))-(1:Int))),(1000:Int),(1001:Int)] v11.1) fun _=>
    match [(0:Int),(IntKind.i64.wrap ((IntKind.i64.wrap (v10.1+(20:Int)))-(1:Int))),(1000:Int),(1001:Int)][v11.1.toNat]? with
    |none=>none
    |some v13=>
    some ((v1.1.1,v1.1.2.1,v1.1.2.2.1,v13,v1.1.2.2.2.2.1,()),(v11.2.1.1,v11.2.1.2.1,v11.2.1.2.2.1,()),())
   |false=>
    match(v2.1==(4:Int))with
    |true=>
     some ((v1.1.1,v1.1.2.1,v1.1.2.2.1,v1.1.2.2.2.1,(!v1.1.2.2.2.2.1),()),(v2.2.1.1,v2.2.1.2.1,v2.2.1.2.2.1,()),())
    |false=>
     some ((v1.1.1,v1.1.2.1,v1.1.2.2.1,v1.1.2.2.2.1,v1.1.2.2.2.2.1,()),(v2.2.1.1,v2.2.1.2.1,v2.2.1.2.2.1,()),())
noncomputable def AD:ae:=⟨_,Fd,gB,rfl,qG⟩
theorem K8:FnOK G0 Tryz.prog 187 AD:=ak aj (sg bK (sg Fm (sg uC (aL)))) Tryz.func187
abbrev nS:Ty:=(.pair (.box ah) (.pair (.box an) (.pair (.box (.pair (.int .i64) (.pair (.own 136 au) (.pair (.own 159 ay) (.pair (.own 167 al) .unit))))) (.pair (.int .i64) .unit))))
abbrev vi:Ty:=(.pair (.box ah) (.pair (.box an) (.pair (.box (.pair (.int .i64) (.pair (.own 136 au) (.pair (.own 159 ay) (.pair (.own 167 al) .unit))))) .unit)))
noncomputable def ep(x:(Ty.T nS)):Option ((Ty.T nS) ⊕ ((Ty.T vi) ⊕ (Ty.T .unit))):=
match(decide (x.2.2.2.1<(x.2.2.1.2.2.2.1.length:Int)))with
|true=>
 ab (aq x.2.2.1.2.2.2.1 x.2.2.2.1) fun _=>
 match x.2.2.1.2.2.2.1[x.2.2.2.1.toNat]? with
 |none=>none
 |some v27=>
 some (.inl ((x.1.1,x.1.2.1,x.1.2.2.1,()),(x.2.1.1,x.2.1.2.1,x.2.1.2.2.1,x.2.1.2.2.2.1,()),(x.2.2.1.1,x.2.2.1.2.1,x.2.2.1.2.2.1,(x.2.2.1.2.2.2.1.set x.2.2.2.1.toNat (v27.1,v27.2.1,v27.2.2.1,(v27.2.2.2.1.1,v27.2.2.2.1.2.1,v27.2.2.2.1.2.2.1,(1000:Int),v27.2.2.2.1.2.2.2.2.1,()),())),()),(IntKind.i64.wrap (x.2.2.2.1+(1:Int))),()))
|false=>
 some (.inr (.inl ((x.1.1,x.1.2.1,x.1.2.2.1,()),(x.2.1.1,x.2.1.2.1,x.2.1.2.2.1,x.2.1.2.2.2.1,()),(x.2.2.1.1,x.2.2.1.2.1,x.2.2.1.2.2.1,x.2.2.1.2.2.2.1,()),())))
abbrev nT:Ty:=(.pair (.box ah) (.pair (.box an) (.pair (.box (.pair (.int .i64) (.pair (.own 136 au) (.pair (.own 159 ay) (.pair (.list al) .unit))))) (.pair (.own 167 al) (.pair (.int .i64) .unit)))))
abbrev vj:Ty:=(.pair (.box ah) (.pair (.box an) (.pair (.box (.pair (.int .i64) (.pair (.own 136 au) (.pair (.own 159 ay) (.pair (.list al) .unit))))) (.pair (.own 167 al) .unit))))
noncomputable def cK(x:(Ty.T nT)):Option ((Ty.T nT) ⊕ ((Ty.T vj) ⊕ (Ty.T .unit))):=
ab (aq x.2.2.1.2.2.1 (0:Int)) fun _=>
match x.2.2.1.2.2.1[(0:Int).toNat]? with
|none=>none
|some v33=>
ab (aq x.2.2.1.2.2.1 (0:Int)) fun _=>
match x.2.2.1.2.2.1[(0:Int).toNat]? with
|none=>none
|some v35=>
match(decide (x.2.2.2.2.1<(IntKind.i64.wrap (v33.1*v35.2.1))))with
|true=>
 aN (
  ab (aq x.2.2.1.2.2.1 (0:Int)) fun _=>
  aN (
   match x.2.2.1.2.2.1[(0:Int).toNat]? with
   |none=>none
   |some v37=>
   if v37.2.1=0 then none else
   ab (aq x.2.2.1.2.2.1 (0:Int)) fun _=>
   match x.2.2.1.2.2.1[(0:Int).toNat]? with
   |none=>none
   |some v39=>
   if v39.2.1=0 then none else
   aI (x.2.2.2.1.length+ [((0:Int),(IntKind.i64.wrap (Int.tdiv x.2.2.2.2.1 v37.2.1)),(Int.tmod x.2.2.2.2.1 v39.2.1),((0:Int),(1:Int),(0:Int),(1000:Int),false,()),())].length) (
    some (.inl ((x.1.1,x.1.2.1,x.1.2.2.1,()),(x.2.1.1,x.2.1.2.1,x.2.1.2.2.1,x.2.1.2.2.2.1,()),(x.2.2.1.1,x.2.2.1.2.1,x.2.2.1.2.2.1,x.2.2.1.2.2.2.1,()),(x.2.2.2.1++ [((0:Int),(IntKind.i64.wrap (Int.tdiv x.2.2.2.2.1 v37.2.1)),(Int.tmod x.2.2.2.2.1 v39.2.1),((0:Int),(1:Int),(0:Int),(1000:Int),false,()),())]),(IntKind.i64.wrap (x.2.2.2.2.1+(1:Int))),())))) (
   ab (aq x.2.2.1.2.2.1 (0:Int)) fun _=>
   aN (
    match x.2.2.1.2.2.1[(0:Int).toNat]? with
    |none=>none
    |some v38=>
    if v38.2.1=0 then none else
    match x.2.2.1.2.2.1[(0:Int).toNat]? with
    |none=>none
    |some v39=>
    if v39.2.1=0 then none else
    aI (x.2.2.2.1.length+ [((0:Int),(IntKind.i64.wrap (Int.tdiv x.2.2.2.2.1 v38.2.1)),(Int.tmod x.2.2.2.2.1 v39.2.1),((0:Int),(1:Int),(0:Int),(1000:Int),false,()),())].length) (
     some (.inl ((x.1.1,x.1.2.1,x.1.2.2.1,()),(x.2.1.1,x.2.1.2.1,x.2.1.2.2.1,x.2.1.2.2.2.1,()),(x.2.2.1.1,x.2.2.1.2.1,x.2.2.1.2.2.1,x.2.2.1.2.2.2.1,()),(x.2.2.2.1++ [((0:Int),(IntKind.i64.wrap (Int.tdiv x.2.2.2.2.1 v38.2.1)),(Int.tmod x.2.2.2.2.1 v39.2.1),((0:Int),(1:Int),(0:Int),(1000:Int),false,()),())]),(IntKind.i64.wrap (x.2.2.2.2.1+(1:Int))),())))) (
    match x.2.2.1.2.2.1[(0:Int).toNat]? with
    |none=>none
    |some v38=>
    if v38.2.1=0 then none else
    match x.2.2.1.2.2.1[(0:Int).toNat]? with
    |none=>none
    |some v39=>
    if v39.2.1=0 then none else
    aI (x.2.2.2.1.length+ [((0:Int),(IntKind.i64.wrap (Int.tdiv x.2.2.2.2.1 v39.2.1)),(Int.tmod x.2.2.2.2.1 v38.2.1),((0:Int),(1:Int),(0:Int),(1000:Int),false,()),())].length) (
     some (.inl ((x.1.1,x.1.2.1,x.1.2.2.1,()),(x.2.1.1,x.2.1.2.1,x.2.1.2.2.1,x.2.1.2.2.2.1,()),(x.2.2.1.1,x.2.2.1.2.1,x.2.2.1.2.2.1,x.2.2.1.2.2.2.1,()),(x.2.2.2.1++ [((0:Int),(IntKind.i64.wrap (Int.tdiv x.2.2.2.2.1 v39.2.1)),(Int.tmod x.2.2.2.2.1 v38.2.1),((0:Int),(1:Int),(0:Int),(1000:Int),false,()),())]),(IntKind.i64.wrap (x.2.2.2.2.1+(1:Int))),())))))) (
  ab (aq x.2.2.1.2.2.1 (0:Int)) fun _=>
  aN (
   ab (aq x.2.2.1.2.2.1 (0:Int)) fun _=>
   aN (
    match x.2.2.1.2.2.1[(0:Int).toNat]? with
    |none=>none
    |some v38=>
    if v38.2.1=0 then none else
    match x.2.2.1.2.2.1[(0:Int).toNat]? with
    |none=>none
    |some v39=>
    if v39.2.1=0 then none else
    aI (x.2.2.2.1.length+ [((0:Int),(IntKind.i64.wrap (Int.tdiv x.2.2.2.2.1 v38.2.1)),(Int.tmod x.2.2.2.2.1 v39.2.1),((0:Int),(1:Int),(0:Int),(1000:Int),false,()),())].length) (
     some (.inl ((x.1.1,x.1.2.1,x.1.2.2.1,()),(x.2.1.1,x.2.1.2.1,x.2.1.2.2.1,x.2.1.2.2.2.1,()),(x.2.2.1.1,x.2.2.1.2.1,x.2.2.1.2.2.1,x.2.2.1.2.2.2.1,()),(x.2.2.2.1++ [((0:Int),(IntKind.i64.wrap (Int.tdiv x.2.2.2.2.1 v38.2.1)),(Int.tmod x.2.2.2.2.1 v39.2.1),((0:Int),(1:Int),(0:Int),(1000:Int),false,()),())]),(IntKind.i64.wrap (x.2.2.2.2.1+(1:Int))),())))) (
    match x.2.2.1.2.2.1[(0:Int).toNat]? with
    |none=>none
    |some v38=>
    if v38.2.1=0 then none else
    match x.2.2.1.2.2.1[(0:Int).toNat]? with
    |none=>none
    |some v39=>
    if v39.2.1=0 then none else
    aI (x.2.2.2.1.length+ [((0:Int),(IntKind.i64.wrap (Int.tdiv x.2.2.2.2.1 v39.2.1)),(Int.tmod x.2.2.2.2.1 v38.2.1),((0:Int),(1:Int),(0:Int),(1000:Int),false,()),())].length) (
     some (.inl ((x.1.1,x.1.2.1,x.1.2.2.1,()),(x.2.1.1,x.2.1.2.1,x.2.1.2.2.1,x.2.1.2.2.2.1,()),(x.2.2.1.1,x.2.2.1.2.1,x.2.2.1.2.2.1,x.2.2.1.2.2.2.1,()),(x.2.2.2.1++ [((0:Int),(IntKind.i64.wrap (Int.tdiv x.2.2.2.2.1 v39.2.1)),(Int.tmod x.2.2.2.2.1 v38.2.1),((0:Int),(1:Int),(0:Int),(1000:Int),false,()),())]),(IntKind.i64.wrap (x.2.2.2.2.1+(1:Int))),()))))) (
   match x.2.2.1.2.2.1[(0:Int).toNat]? with
   |none=>none
   |some v37=>
   if v37.2.1=0 then none else
   ab (aq x.2.2.1.2.2.1 (0:Int)) fun _=>
   match x.2.2.1.2.2.1[(0:Int).toNat]? with
   |none=>none
   |some v39=>
   if v39.2.1=0 then none else
   aI (x.2.2.2.1.length+ [((0:Int),(IntKind.i64.wrap (Int.tdiv x.2.2.2.2.1 v39.2.1)),(Int.tmod x.2.2.2.2.1 v37.2.1),((0:Int),(1:Int),(0:Int),(1000:Int),false,()),())].length) (
    some (.inl ((x.1.1,x.1.2.1,x.1.2.2.1,()),(x.2.1.1,x.2.1.2.1,x.2.1.2.2.1,x.2.1.2.2.2.1,()),(x.2.2.1.1,x.2.2.1.2.1,x.2.2.1.2.2.1,x.2.2.1.2.2.2.1,()),(x.2.2.2.1++ [((0:Int),(IntKind.i64.wrap (Int.tdiv x.2.2.2.2.1 v39.2.1)),(Int.tmod x.2.2.2.2.1 v37.2.1),((0:Int),(1:Int),(0:Int),(1000:Int),false,()),())]),(IntKind.i64.wrap (x.2.2.2.2.1+(1:Int))),())))))
|false=>
 some (.inr (.inl ((x.1.1,x.1.2.1,x.1.2.2.1,()),(x.2.1.1,x.2.1.2.1,x.2.1.2.2.1,x.2.1.2.2.2.1,()),(x.2.2.1.1,x.2.2.1.2.1,x.2.2.1.2.2.1,x.2.2.1.2.2.2.1,()),x.2.2.2.1,())))
noncomputable def mu(x:Ty.T gB):Option (Ty.T (.pair an (.pair (.box ah) .unit))):=
match yL ((x.1.1,x.1.2.1,x.1.2.2.1,()),())with
|none=>none
|some v1=>
match aa ((v1.2.1.1,v1.2.1.2.1,v1.2.1.2.2.1,()),(v1.1.2.2.2.1.length:Int),())with
|none=>none
|some v2=>
match aa ((v2.2.1.1,v2.2.1.2.1,v2.2.1.2.2.1,()),(30:Int),())with
|none=>none
|some v3=>
match(v3.1==(0:Int))with
|true=>
 match aa ((v3.2.1.1,v3.2.1.2.1,v3.2.1.2.2.1,()),(3:Int),())with
 |none=>none
 |some v4=>
 ab (aq [(0:Int),(16777215:Int),(16777216:Int)] v4.1) fun _=>
 match [(0:Int),(16777215:Int),(16777216:Int)][v4.1.toNat]? with
 |none=>none
 |some v6=>
 some ((v6,v1.1.2.1,v1.1.2.2.1,v1.1.2.2.2.1,()),(v4.2.1.1,v4.2.1.2.1,v4.2.1.2.2.1,()),())
|false=>
 match(v3.1==(1:Int))with
 |true=>
  match qE ((v3.2.1.1,v3.2.1.2.1,v3.2.1.2.2.1,()),())with
  |none=>none
  |some v7=>
  some ((v1.1.1,v7.1,v1.1.2.2.1,v1.1.2.2.2.1,()),(v7.2.1.1,v7.2.1.2.1,v7.2.1.2.2.1,()),())
 |false=>
  match(v3.1==(2:Int))with
  |true=>
   match qF ((v3.2.1.1,v3.2.1.2.1,v3.2.1.2.2.1,()),())with
   |none=>none
   |some v8=>
   some ((v1.1.1,v1.1.2.1,v8.1,v1.1.2.2.2.1,()),(v8.2.1.1,v8.2.1.2.1,v8.2.1.2.2.1,()),())
  |false=>
   match(v3.1==(3:Int))with
   |true=>
    ab (aH v1.1.2.2.2.1.length (some (.dat (.int .i64) (1:Int))) none) fun v9=>
    some ((v1.1.1,v1.1.2.1,v1.1.2.2.1,(List.drop v9.1 (List.take v9.2 v1.1.2.2.2.1)),()),(v3.2.1.1,v3.2.1.2.1,v3.2.1.2.2.1,()),())
   |false=>
    match(v3.1==(4:Int))with
    |true=>
     aX (
      match qG ((v3.2.1.1,v3.2.1.2.1,v3.2.1.2.2.1,()),())with
      |none=>none
      |some v10=>
      ab (aq v1.1.2.2.2.1 v2.1) fun _=>
      match v1.1.2.2.2.1[v2.1.toNat]? with
      |none=>none
      |some v12=>
      some ((v1.1.1,v1.1.2.1,v1.1.2.2.1,(v1.1.2.2.2.1.set v2.1.toNat (v12.1,v12.2.1,v12.2.2.1,(v10.1.1,v10.1.2.1,v10.1.2.2.1,v10.1.2.2.2.1,v10.1.2.2.2.2.1,()),())),()),(v10.2.1.1,v10.2.1.2.1,v10.2.1.2.2.1,()),()))
    |false=>
     match(v3.1==(5:Int))with
     |true=>
      aN (
       ab (aq v1.1.2.2.2.1 v2.1) fun _=>
       match v1.1.2.2.2.1[v2.1.toNat]? with
       |none=>none
       |some v14=>
       ab (aq v1.1.2.2.2.1 v2.1) fun _=>
       match v1.1.2.2.2.1[v2.1.toNat]? with
       |none=>none
       |some v16=>
       some ((v1.1.1,v1.1.2.1,v1.1.2.2.1,(v1.1.2.2.2.1.set v2.1.toNat (v16.1,v16.2.1,v16.2.2.1,(v16.2.2.2.1.1,v16.2.2.2.1.2.1,v16.2.2.2.1.2.2.1,(IntKind.i64.wrap (v14.2.2.2.1.2.2.2.1+(1:Int))),v16.2.2.2.1.2.2.2.2.1,()),())),()),(v3.2.1.1,v3.2.1.2.1,v3.2.1.2.2.1,()),())) (
       ab (aq v1.1.2.2.2.1 v2.1) fun _=>
       aX (
        match v1.1.2.2.2.1[v2.1.toNat]? with
        |none=>none
        |some v14=>
        ab (aq v1.1.2.2.2.1 v2.1) fun _=>
        match v1.1.2.2.2.1[v2.1.toNat]? with
        |none=>none
        |some v16=>
        some ((v1.1.1,v1.1.2.1,v1.1.2.2.1,(v1.1.2.2.2.1.set v2.1.toNat (v16.1,v16.2.1,v16.2.2.1,(v16.2.2.2.1.1,v16.2.2.2.1.2.1,v16.2.2.2.1.2.2.1,(IntKind.i64.wrap (v14.2.2.2.1.2.2.2.1+(1:Int))),v16.2.2.2.1.2.2.2.2.1,()),())),()),(v3.2.1.1,v3.2.1.2.1,v3.2.1.2.2.1,()),())))
     |false=>
      match(v3.1==(6:Int))with
      |true=>
       aX (
        match aa ((v3.2.1.1,v3.2.1.2.1,v3.2.1.2.2.1,()),(9:Int),())with
        |none=>none
        |some v17=>
        ab (aq v1.1.2.2.2.1 v2.1) fun _=>
        match v1.1.2.2.2.1[v2.1.toNat]? with
        |none=>none
        |some v19=>
        some ((v1.1.1,v1.1.2.1,v1.1.2.2.1,(v1.1.2.2.2.1.set v2.1.toNat (v19.1,v19.2.1,v19.2.2.1,(v17.1,v19.2.2.2.1.2.1,v19.2.2.2.1.2.2.1,v19.2.2.2.1.2.2.2.1,v19.2.2.2.1.2.2.2.2.1,()),())),()),(v17.2.1.1,v17.2.1.2.1,v17.2.1.2.2.1,()),()))
      |false=>
       match(v3.1==(7:Int))with
       |true=>
        ab (aq v1.1.2.2.2.1 v2.1) fun _=>
        match v1.1.2.2.2.1[v2.1.toNat]? with
        |none=>none
        |some v21=>
        ab (aq (v1.1.2.2.2.1.set v2.1.toNat (v21.1,v21.2.1,v21.2.2.1,(v21.2.2.2.1.1,(3:Int),v21.2.2.2.1.2.2.1,v21.2.2.2.1.2.2.2.1,v21.2.2.2.1.2.2.2.2.1,()),())) v2.1) fun _=>
        match(v1.1.2.2.2.1.set v2.1.toNat (v21.1,v21.2.1,v21.2.2.1,(v21.2.2.2.1.1,(3:Int),v21.2.2.2.1.2.2.1,v21.2.2.2.1.2.2.2.1,v21.2.2.2.1.2.2.2.2.1,()),()))[v2.1.toNat]? with
        |none=>none
        |some v23=>
        ab (aq ((v1.1.2.2.2.1.set v2.1.toNat (v21.1,v21.2.1,v21.2.2.1,(v21.2.2.2.1.1,(3:Int),v21.2.2.2.1.2.2.1,v21.2.2.2.1.2.2.2.1,v21.2.2.2.1.2.2.2.2.1,()),())).set v2.1.toNat (v23.1,v23.2.1,v23.2.2.1,(v23.2.2.2.1.1,v23.2.2.2.1.2.1,(0:Int),v23.2.2.2.1.2.2.2.1,v23.2.2.2.1.2.2.2.2.1,()),())) v2.1) fun _=>
        match((v1.1.2.2.2.1.set v2.1.toNat (v21.1,v21.2.1,v21.2.2.1,(v21.2.2.2.1.1,(3:Int),v21.2.2.2.1.2.2.1,v21.2.2.2.1.2.2.2.1,v21.2.2.2.1.2.2.2.2.1,()),())).set v2.1.toNat (v23.1,v23.2.1,v23.2.2.1,(v23.2.2.2.1.1,v23.2.2.2.1.2.1,(0:Int),v23.2.2.2.1.2.2.2.1,v23.2.2.2.1.2.2.2.2.1,()),()))[v2.1.toNat]? with
        |none=>none
        |some v25=>
        some ((v1.1.1,v1.1.2.1,v1.1.2.2.1,(((v1.1.2.2.2.1.set v2.1.toNat (v21.1,v21.2.1,v21.2.2.1,(v21.2.2.2.1.1,(3:Int),v21.2.2.2.1.2.2.1,v21.2.2.2.1.2.2.2.1,v21.2.2.2.1.2.2.2.2.1,()),())).set v2.1.toNat (v23.1,v23.2.1,v23.2.2.1,(v23.2.2.2.1.1,v23.2.2.2.1.2.1,(0:Int),v23.2.2.2.1.2.2.2.1,v23.2.2.2.1.2.2.2.2.1,()),())).set v2.1.toNat (v25.1,v25.2.1,v25.2.2.1,(v25.2.2.2.1.1,v25.2.2.2.1.2.1,v25.2.2.2.1.2.2.1,v25.2.2.2.1.2.2.2.1,false,()),())),()),(v3.2.1.1,v3.2.1.2.1,v3.2.1.2.2.1,()),())
       |false=>
        match(v3.1==(8:Int))with
        |true=>
         match ac ep ((v3.2.1.1,v3.2.1.2.1,v3.2.1.2.2.1,()),((0:Int),[],[],[],()),(v1.1.1,v1.1.2.1,v1.1.2.2.1,v1.1.2.2.2.1,()),(0:Int),())with
         |none=>none
         |some (.inl v28)=>
          match aa ((v28.1.1,v28.1.2.1,v28.1.2.2.1,()),(2:Int),())with
          |none=>none
          |some v30=>
          match(v30.1==(0:Int))with
          |true=>
           match aa ((v30.2.1.1,v30.2.1.2.1,v30.2.1.2.2.1,()),(2:Int),())with
           |none=>none
           |some v31=>
           match(v31.1==(0:Int))with
           |true=>
            match ac cK ((v31.2.1.1,v31.2.1.2.1,v31.2.1.2.2.1,()),(v28.2.1.1,v28.2.1.2.1,v28.2.1.2.2.1,v28.2.1.2.2.2.1,()),((3:Int),[((0:Int),([97]:List UInt8),(0:Int),false,())],[((3:Int),(11:Int),[],())],[],()),[],(0:Int),())with
            |none=>none
            |some (.inl v40)=>
             some ((v40.2.2.1.1,v40.2.2.1.2.1,v40.2.2.1.2.2.1,v40.2.2.2.1,()),(v40.1.1,v40.1.2.1,v40.1.2.2.1,()),())
            |some (.inr v42)=>
             none
           |false=>
            match ac cK ((v31.2.1.1,v31.2.1.2.1,v31.2.1.2.2.1,()),(v28.2.1.1,v28.2.1.2.1,v28.2.1.2.2.1,v28.2.1.2.2.2.1,()),((3:Int),[((0:Int),([97]:List UInt8),(0:Int),false,())],[((2:Int),(16:Int),[],())],[],()),[],(0:Int),())with
            |none=>none
            |some (.inl v43)=>
             some ((v43.2.2.1.1,v43.2.2.1.2.1,v43.2.2.1.2.2.1,v43.2.2.2.1,()),(v43.1.1,v43.1.2.1,v43.1.2.2.1,()),())
            |some (.inr v45)=>
             none
          |false=>
           some ((v28.2.2.1.1,v28.2.2.1.2.1,v28.2.2.1.2.2.1,v28.2.2.1.2.2.2.1,()),(v30.2.1.1,v30.2.1.2.1,v30.2.1.2.2.1,()),())
         |some (.inr v46)=>
          none
        |false=>
         some ((v1.1.1,v1.1.2.1,v1.1.2.2.1,v1.1.2.2.2.1,()),(v3.2.1.1,v3.2.1.2.1,v3.2.1.2.2.1,()),())
noncomputable def Ny:ae:=⟨_,r7,gB,rfl,mu⟩
noncomputable def qH:FuncId→Option ae:=bC [(52,gg),(184,Ih),(185,AB),(186,AC),(187,AD)]
theorem Hq:∀f s,qH f=some s→FnOK G0 Tryz.prog f s:=aD ⟨bK,RF,K4,K7,K8,trivial⟩
def vk:aO:=⟨[0,2,3,5],nS,1,[0,2,3],vi,[],.unit⟩
def vl:aO:=⟨[0,2,3,6,7],nT,3,[0,2,3,6],vj,[],.unit⟩
noncomputable def qI:List aw:=[vk.spec ep,vl.spec cK]
theorem Ek:bg bi E0 qH (bc Tryz.f123 qI) Tryz.f123 0 vk ep:=fun x=>by kernel_rfl
theorem El:bg bi E0 qH (bc Tryz.f123 qI) Tryz.f123 1 vl cK:=fun x=>by kernel_rfl
theorem K9:FnOK G0 Tryz.prog 123 Ny:=aJ aj Hq Tryz.func123 qI (by kernel_rfl) (by exact⟨(Ek).lok,(El).lok,trivial⟩) fun x=>by kernel_rfl
noncomputable def ip(x:Ty.T gB):Option (Ty.T abR):=
match aa ((x.1.1,x.1.2.1,x.1.2.2.1,()),(200:Int),())with
|none=>none
|some v1=>
match aa ((v1.2.1.1,v1.2.1.2.1,v1.2.1.2.2.1,()),(3:Int),())with
|none=>none
|some v2=>
match aa ((v2.2.1.1,v2.2.1.2.1,v2.2.1.2.2.1,()),(3:Int),())with
|none=>none
|some v3=>
match aa ((v3.2.1.1,v3.2.1.2.1,v3.2.1.2.2.1,()),(6:Int),())with
|none=>none
|some v4=>
match aa ((v4.2.1.1,v4.2.1.2.1,v4.2.1.2.2.1,()),(256:Int),())with
|none=>none
|some v5=>
match aa ((v5.2.1.1,v5.2.1.2.1,v5.2.1.2.2.1,()),(8:Int),())with
|none=>none
|some v6=>
match(v6.1==(0:Int))with
|true=>
 match aa ((v6.2.1.1,v6.2.1.2.1,v6.2.1.2.2.1,()),(9:Int),())with
 |none=>none
 |some v7=>
 match aa ((v7.2.1.1,v7.2.1.2.1,v7.2.1.2.2.1,()),(16:Int),())with
 |none=>none
 |some v8=>
 match aa ((v8.2.1.1,v8.2.1.2.1,v8.2.1.2.2.1,()),(16:Int),())with
 |none=>none
 |some v9=>
 match aa ((v9.2.1.1,v9.2.1.2.1,v9.2.1.2.2.1,()),(256:Int),())with
 |none=>none
 |some v10=>
 match aa ((v10.2.1.1,v10.2.1.2.1,v10.2.1.2.2.1,()),(99:Int),())with
 |none=>none
 |some v11=>
 some (((IntKind.i64.wrap ((65535:Int)-v7.1)),v8.1,v9.1,v10.1,(IntKind.i64.wrap ((4294967295:Int)-v11.1)),()),(v11.2.1.1,v11.2.1.2.1,v11.2.1.2.2.1,()),())
|false=>
 some ((v1.1,v2.1,v3.1,v4.1,v5.1,()),(v6.2.1.1,v6.2.1.2.1,v6.2.1.2.2.1,()),())
noncomputable def zJ:ae:=⟨_,zG,gB,rfl,ip⟩
theorem xd:FnOK G0 Tryz.prog 96 zJ:=ak aj (sg bK (aL)) Tryz.func96
noncomputable def mv(x:Ty.T gB):Option (Ty.T abR):=
match ip ((x.1.1,x.1.2.1,x.1.2.2.1,()),())with
|none=>none
|some v1=>
match aa ((v1.2.1.1,v1.2.1.2.1,v1.2.1.2.2.1,()),(30:Int),())with
|none=>none
|some v2=>
match(v2.1==(0:Int))with
|true=>
 match aa ((v2.2.1.1,v2.2.1.2.1,v2.2.1.2.2.1,()),(3:Int),())with
 |none=>none
 |some v3=>
 ab (aq [(-1:Int),(65535:Int),(65536:Int)] v3.1) fun _=>
 match [(-1:Int),(65535:Int),(65536:Int)][v3.1.toNat]? with
 |none=>none
 |some v5=>
 some ((v5,v1.1.2.1,v1.1.2.2.1,v1.1.2.2.2.1,v1.1.2.2.2.2.1,()),(v3.2.1.1,v3.2.1.2.1,v3.2.1.2.2.1,()),())
|false=>
 match(v2.1==(1:Int))with
 |true=>
  match aa ((v2.2.1.1,v2.2.1.2.1,v2.2.1.2.2.1,()),(2:Int),())with
  |none=>none
  |some v6=>
  ab (aq [(-1:Int),(16:Int)] v6.1) fun _=>
  match [(-1:Int),(16:Int)][v6.1.toNat]? with
  |none=>none
  |some v8=>
  some ((v1.1.1,v8,v1.1.2.2.1,v1.1.2.2.2.1,v1.1.2.2.2.2.1,()),(v6.2.1.1,v6.2.1.2.1,v6.2.1.2.2.1,()),())
 |false=>
  match(v2.1==(2:Int))with
  |true=>
   match aa ((v2.2.1.1,v2.2.1.2.1,v2.2.1.2.2.1,()),(2:Int),())with
   |none=>none
   |some v9=>
   ab (aq [(-1:Int),(16:Int)] v9.1) fun _=>
   match [(-1:Int),(16:Int)][v9.1.toNat]? with
   |none=>none
   |some v11=>
   some ((v1.1.1,v1.1.2.1,v11,v1.1.2.2.2.1,v1.1.2.2.2.2.1,()),(v9.2.1.1,v9.2.1.2.1,v9.2.1.2.2.1,()),())
  |false=>
   match(v2.1==(3:Int))with
   |true=>
    match aa ((v2.2.1.1,v2.2.1.2.1,v2.2.1.2.2.1,()),(2:Int),())with
    |none=>none
    |some v12=>
    ab (aq [(-1:Int),(256:Int)] v12.1) fun _=>
    match [(-1:Int),(256:Int)][v12.1.toNat]? with
    |none=>none
    |some v14=>
    some ((v1.1.1,v1.1.2.1,v1.1.2.2.1,v14,v1.1.2.2.2.2.1,()),(v12.2.1.1,v12.2.1.2.1,v12.2.1.2.2.1,()),())
   |false=>
    match(v2.1==(4:Int))with
    |true=>
     match aa ((v2.2.1.1,v2.2.1.2.1,v2.2.1.2.2.1,()),(2:Int),())with
     |none=>none
     |some v15=>
     ab (aq [(-1:Int),(4294967296:Int)] v15.1) fun _=>
     match [(-1:Int),(4294967296:Int)][v15.1.toNat]? with
     |none=>none
     |some v17=>
     some ((v1.1.1,v1.1.2.1,v1.1.2.2.1,v1.1.2.2.2.1,v17,()),(v15.2.1.1,v15.2.1.2.1,v15.2.1.2.2.1,()),())
    |false=>
     some ((v1.1.1,v1.1.2.1,v1.1.2.2.1,v1.1.2.2.2.1,v1.1.2.2.2.2.1,()),(v2.2.1.1,v2.2.1.2.1,v2.2.1.2.2.1,()),())
noncomputable def Nz:ae:=⟨_,zG,gB,rfl,mv⟩
theorem yN:FnOK G0 Tryz.prog 124 Nz:=ak aj (sg bK (sg xd (aL))) Tryz.func124
noncomputable def tF(x:Ty.T aE):Option (Ty.T ao):=
match bE (x.1,(0:Int),(31:Int),())with
|none=>none
|some v1=>
some (v1.1,())
noncomputable def TA:ae:=⟨_,ao,.unit,rfl,tF⟩
theorem Fn:FnOK G0 Tryz.prog 295 TA:=ak aj (sg cT (aL)) Tryz.func295
noncomputable def iL(x:(Ty.T Y7)):Option ((Ty.T Y7) ⊕ ((Ty.T qA) ⊕ (Ty.T ao))):=
match(decide (x.2.1<(x.1.length:Int)))with
|true=>
 ab (aq x.1 x.2.1) fun v1=>
 match(decide ((v1.toNat:Int)<(97:Int)))with
 |true=>
  ab (aq x.1 x.2.1) fun v2=>
  match(decide ((v2.toNat:Int)<(48:Int)))with
  |true=>
   some (.inr (.inr (false,())))
  |false=>
   ab (aq x.1 x.2.1) fun v3=>
   match(decide ((v3.toNat:Int)>(57:Int)))with
   |true=>
    some (.inr (.inr (false,())))
   |false=>
    some (.inl (x.1,(IntKind.i64.wrap (x.2.1+(1:Int))),()))
 |false=>
  ab (aq x.1 x.2.1) fun v4=>
  match(decide ((v4.toNat:Int)>(122:Int)))with
  |true=>
   ab (aq x.1 x.2.1) fun v5=>
   match(decide ((v5.toNat:Int)<(48:Int)))with
   |true=>
    some (.inr (.inr (false,())))
   |false=>
    ab (aq x.1 x.2.1) fun v6=>
    match(decide ((v6.toNat:Int)>(57:Int)))with
    |true=>
     some (.inr (.inr (false,())))
    |false=>
     some (.inl (x.1,(IntKind.i64.wrap (x.2.1+(1:Int))),()))
  |false=>
   some (.inl (x.1,(IntKind.i64.wrap (x.2.1+(1:Int))),()))
|false=>
 some (.inr (.inl (x.1,())))
noncomputable def yO(x:Ty.T qA):Option (Ty.T ao):=
match ac iL (x.1,(0:Int),())with
|none=>none
|some (.inl v7)=>
 match(decide ((v7.1.length:Int)≥(1:Int)))with
 |true=>
  some ((decide ((v7.1.length:Int)≤(6:Int))),())
 |false=>
  some (false,())
|some (.inr v8)=>
 some (v8.1,())
noncomputable def TB:ae:=⟨_,ao,.unit,rfl,yO⟩
noncomputable def Fo:FuncId→Option ae:=bC []
theorem NA:∀f s,Fo f=some s→FnOK G0 Tryz.prog f s:=aD trivial
def Dd:aO:=⟨[0,3],Y7,0,[0],qA,[2],ao⟩
noncomputable def Fp:List aw:=[Dd.spec iL]
theorem La:bg bi E0 Fo (bc Tryz.f309 Fp) Tryz.f309 0 Dd iL:=fun x=>by kernel_rfl
theorem RH:FnOK G0 Tryz.prog 309 TB:=aJ aj NA Tryz.func309 Fp (by kernel_rfl) (by exact⟨(La).lok,trivial⟩) fun x=>by kernel_rfl
noncomputable def qJ(x:Ty.T (.pair au .unit)):Option (Ty.T ao):=
match tF (x.1.1,())with
|none=>none
|some v1=>
match v1.1 with
|true=>
 match yO (x.1.2.1,())with
 |none=>none
 |some v2=>
 match v2.1 with
 |true=>
  match bE (x.1.2.2.1,(0:Int),(1000:Int),())with
  |none=>none
  |some v3=>
  some (v3.1,())
 |false=>
  some (false,())
|false=>
 some (false,())
noncomputable def AE:ae:=⟨_,ao,.unit,rfl,qJ⟩
theorem Lb:FnOK G0 Tryz.prog 283 AE:=ak aj (sg cT (sg Fn (sg RH (aL)))) Tryz.func283
abbrev vm:Ty:=abY
noncomputable def dr(x:(Ty.T Nq)):Option ((Ty.T Nq) ⊕ ((Ty.T vm) ⊕ (Ty.T ao))):=
match(decide (x.2.2.1<x.2.1))with
|true=>
 ab (aq x.1 x.2.2.1) fun v6=>
 ab (aq x.1 x.2.1) fun v7=>
 match(v6.2.1==v7.2.1)with
 |true=>
  some (.inr (.inr (false,())))
 |false=>
  some (.inl (x.1,x.2.1,(IntKind.i64.wrap (x.2.2.1+(1:Int))),()))
|false=>
 some (.inr (.inl (x.1,x.2.1,())))
abbrev nU:Ty:=abY
noncomputable def fj(x:(Ty.T nU)):Option ((Ty.T nU) ⊕ ((Ty.T .unit) ⊕ (Ty.T ao))):=
match(decide (x.2.1<(x.1.length:Int)))with
|true=>
 ab (aq x.1 x.2.1) fun v2=>
 match qJ (v2,())with
 |none=>none
 |some v3=>
 match(!v3.1)with
 |true=>
  some (.inr (.inr (false,())))
 |false=>
  match(decide (x.2.1>(0:Int)))with
  |true=>
   ab (aq x.1 x.2.1) fun v4=>
   ab (aq x.1 (IntKind.i64.wrap (x.2.1-(1:Int)))) fun v5=>
   match(decide (v4.1≤v5.1))with
   |true=>
    some (.inr (.inr (false,())))
   |false=>
    match ac dr (x.1,x.2.1,(0:Int),())with
    |none=>none
    |some (.inl v6)=>
     some (.inl (v6.1,(IntKind.i64.wrap (v6.2.1+(1:Int))),()))
    |some (.inr v7)=>
     some (.inr (.inr (v7.1,())))
  |false=>
   match ac dr (x.1,x.2.1,(0:Int),())with
   |none=>none
   |some (.inl v8)=>
    some (.inl (v8.1,(IntKind.i64.wrap (v8.2.1+(1:Int))),()))
   |some (.inr v9)=>
    some (.inr (.inr (v9.1,())))
|false=>
 some (.inr (.inl (())))
noncomputable def oY(x:Ty.T Nr):Option (Ty.T ao):=
match bE ((x.1.length:Int),(1:Int),(32:Int),())with
|none=>none
|some v1=>
match(!v1.1)with
|true=>
 some (false,())
|false=>
 match ac fj (x.1,(0:Int),())with
 |none=>none
 |some (.inl v10)=>
  some (true,())
 |some (.inr v11)=>
  some (v11.1,())
noncomputable def yP:ae:=⟨_,ao,.unit,rfl,oY⟩
noncomputable def pn:FuncId→Option ae:=bC [(70,lg),(283,AE)]
theorem Fq:∀f s,pn f=some s→FnOK G0 Tryz.prog f s:=aD ⟨cT,Lb,trivial⟩
def vn:aO:=⟨[0,3],nU,0,[],.unit,[2],ao⟩
def vo:aO:=⟨[0,3,4],Nq,2,[0,3],vm,[2],ao⟩
noncomputable def po:List aw:=[vn.spec fj,vo.spec dr]
theorem Em:bg bi E0 pn (bc Tryz.f241 po) Tryz.f241 0 vn fj:=fun x=>by kernel_rfl
theorem En:bg bi E0 pn (bc Tryz.f241 po) Tryz.f241 1 vo dr:=fun x=>by kernel_rfl
theorem Jq:FnOK G0 Tryz.prog 241 yP:=aJ aj Fq Tryz.func241 po (by kernel_rfl) (by exact⟨(Em).lok,(En).lok,trivial⟩) fun x=>by kernel_rfl
noncomputable def jw(x:(Ty.T tD)):Option ((Ty.T tD) ⊕ ((Ty.T .unit) ⊕ (Ty.T ao))):=
match(decide (x.2.2.1<(x.1.length:Int)))with
|true=>
 ab (aq x.1 x.2.2.1) fun v1=>
 match(v1==x.2.1)with
 |true=>
  some (.inr (.inr (true,())))
 |false=>
  some (.inl (x.1,x.2.1,(IntKind.i64.wrap (x.2.2.1+(1:Int))),()))
|false=>
 some (.inr (.inl (())))
noncomputable def Cj(x:Ty.T qB):Option (Ty.T ao):=
match ac jw (x.1,x.2.1,(0:Int),())with
|none=>none
|some (.inl v2)=>
 some (false,())
|some (.inr v3)=>
 some (v3.1,())
noncomputable def Lc:ae:=⟨_,ao,.unit,rfl,Cj⟩
noncomputable def Ii:FuncId→Option ae:=bC []
theorem PR:∀f s,Ii f=some s→FnOK G0 Tryz.prog f s:=aD trivial
def Fr:aO:=⟨[0,1,5],tD,0,[],.unit,[4],ao⟩
noncomputable def Ij:List aw:=[Fr.spec jw]
theorem NB:bg bi E0 Ii (bc Tryz.f145 Ij) Tryz.f145 0 Fr jw:=fun x=>by kernel_rfl
theorem TC:FnOK G0 Tryz.prog 145 Lc:=aJ aj PR Tryz.func145 Ij (by kernel_rfl) (by exact⟨(NB).lok,trivial⟩) fun x=>by kernel_rfl
noncomputable def gN(x:(Ty.T tD)):Option ((Ty.T tD) ⊕ ((Ty.T .unit) ⊕ (Ty.T ao))):=
match(decide (x.2.2.1<(x.1.length:Int)))with
|true=>
 ab (aq x.1 x.2.2.1) fun v1=>
 match bE (v1,(0:Int),(IntKind.i64.wrap (x.2.1-(1:Int))),())with
 |none=>none
 |some v2=>
 match(!v2.1)with
 |true=>
  some (.inr (.inr (false,())))
 |false=>
  match(decide (x.2.2.1>(0:Int)))with
  |true=>
   ab (aq x.1 x.2.2.1) fun v3=>
   ab (aq x.1 (IntKind.i64.wrap (x.2.2.1-(1:Int)))) fun v4=>
   match(decide (v3≤v4))with
   |true=>
    some (.inr (.inr (false,())))
   |false=>
    some (.inl (x.1,x.2.1,(IntKind.i64.wrap (x.2.2.1+(1:Int))),()))
  |false=>
   some (.inl (x.1,x.2.1,(IntKind.i64.wrap (x.2.2.1+(1:Int))),()))
|false=>
 some (.inr (.inl (())))
noncomputable def wg(x:Ty.T qB):Option (Ty.T ao):=
match ac gN (x.1,x.2.1,(0:Int),())with
|none=>none
|some (.inl v5)=>
 some (true,())
|some (.inr v6)=>
 some (v6.1,())
noncomputable def Fs:ae:=⟨_,ao,.unit,rfl,wg⟩
noncomputable def De:FuncId→Option ae:=bC [(70,lg)]
theorem Ld:∀f s,De f=some s→FnOK G0 Tryz.prog f s:=aD ⟨cT,trivial⟩
def AG:aO:=⟨[0,1,5],tD,0,[],.unit,[4],ao⟩
noncomputable def Df:List aw:=[AG.spec gN]
theorem Jr:bg bi E0 De (bc Tryz.f284 Df) Tryz.f284 0 AG gN:=fun x=>by kernel_rfl
theorem PS:FnOK G0 Tryz.prog 284 Fs:=aJ aj Ld Tryz.func284 Df (by kernel_rfl) (by exact⟨(Jr).lok,trivial⟩) fun x=>by kernel_rfl
abbrev nV:Ty:=abZ
noncomputable def fk(x:(Ty.T nV)):Option ((Ty.T nV) ⊕ ((Ty.T .unit) ⊕ (Ty.T ao))):=
match(decide (x.2.1<(x.1.length:Int)))with
|true=>
 ab (aq x.1 x.2.1) fun v2=>
 match bE (v2.1,(1:Int),(8:Int),())with
 |none=>none
 |some v3=>
 match(!v3.1)with
 |true=>
  some (.inr (.inr (false,())))
 |false=>
  match bE (v2.2.1,(1:Int),(16:Int),())with
  |none=>none
  |some v4=>
  match(!v4.1)with
  |true=>
   some (.inr (.inr (false,())))
  |false=>
   match wg (v2.2.2.1,(x.1.length:Int),())with
   |none=>none
   |some v5=>
   match(!v5.1)with
   |true=>
    some (.inr (.inr (false,())))
   |false=>
    match Cj (v2.2.2.1,x.2.1,())with
    |none=>none
    |some v6=>
    match v6.1 with
    |true=>
     some (.inr (.inr (false,())))
    |false=>
     some (.inl (x.1,(IntKind.i64.wrap (x.2.1+(1:Int))),()))
|false=>
 some (.inr (.inl (())))
noncomputable def oZ(x:Ty.T VT):Option (Ty.T ao):=
match bE ((x.1.length:Int),(1:Int),(16:Int),())with
|none=>none
|some v1=>
match(!v1.1)with
|true=>
 some (false,())
|false=>
 match ac fk (x.1,(0:Int),())with
 |none=>none
 |some (.inl v7)=>
  some (true,())
 |some (.inr v8)=>
  some (v8.1,())
noncomputable def yQ:ae:=⟨_,ao,.unit,rfl,oZ⟩
noncomputable def xe:FuncId→Option ae:=bC [(70,lg),(145,Lc),(284,Fs)]
theorem Ft:∀f s,xe f=some s→FnOK G0 Tryz.prog f s:=aD ⟨cT,TC,PS,trivial⟩
def vp:aO:=⟨[0,3],nV,0,[],.unit,[2],ao⟩
noncomputable def xf:List aw:=[vp.spec fk]
theorem Eo:bg bi E0 xe (bc Tryz.f242 xf) Tryz.f242 0 vp fk:=fun x=>by kernel_rfl
theorem Js:FnOK G0 Tryz.prog 242 yQ:=aJ aj Ft Tryz.func242 xf (by kernel_rfl) (by exact⟨(Eo).lok,trivial⟩) fun x=>by kernel_rfl
noncomputable def tG(x:Ty.T aE):Option (Ty.T ao):=
match bE (x.1,(0:Int),(3:Int),())with
|none=>none
|some v1=>
some (v1.1,())
noncomputable def TD:ae:=⟨_,ao,.unit,rfl,tG⟩
theorem Fu:FnOK G0 Tryz.prog 296 TD:=ak aj (sg cT (aL)) Tryz.func296
noncomputable def tH(x:Ty.T bB):Option (Ty.T ao):=
match(x.1==(0:Int))with
|true=>
 match bE (x.2.1,(0:Int),(32:Int),())with
 |none=>none
 |some v1=>
 some (v1.1,())
|false=>
 match(x.1==(2:Int))with
 |true=>
  match bE (x.2.1,(1:Int),(32:Int),())with
  |none=>none
  |some v2=>
  some (v2.1,())
 |false=>
  some ((x.2.1==(0:Int)),())
noncomputable def TE:ae:=⟨_,ao,.unit,rfl,tH⟩
theorem Fv:FnOK G0 Tryz.prog 297 TE:=ak aj (sg cT (aL)) Tryz.func297
noncomputable def eZ(x:Ty.T Fd):Option (Ty.T ao):=
match tF (x.1.1,())with
|none=>none
|some v1=>
match(!v1.1)with
|true=>
 some (false,())
|false=>
 match tG (x.1.2.1,())with
 |none=>none
 |some v2=>
 match(!v2.1)with
 |true=>
  some (false,())
 |false=>
  match tH (x.1.2.1,x.1.2.2.1,())with
  |none=>none
  |some v3=>
  match(!v3.1)with
  |true=>
   some (false,())
  |false=>
   match(x.1.2.1==(3:Int))with
   |true=>
    match x.1.2.2.2.2.1 with
    |true=>
     some (false,())
    |false=>
     match eA (x.1.2.1,x.1.2.2.1,())with
     |none=>none
     |some v4=>
     match bE (x.1.2.2.2.1,(IntKind.i64.wrap (v4.1+(20:Int))),(1000:Int),())with
     |none=>none
     |some v5=>
     some (v5.1,())
   |false=>
    match eA (x.1.2.1,x.1.2.2.1,())with
    |none=>none
    |some v6=>
    match bE (x.1.2.2.2.1,(IntKind.i64.wrap (v6.1+(20:Int))),(1000:Int),())with
    |none=>none
    |some v7=>
    some (v7.1,())
noncomputable def Jt:ae:=⟨_,ao,.unit,rfl,eZ⟩
theorem vq:FnOK G0 Tryz.prog 265 Jt:=ak aj (sg cT (sg uC (sg Fn (sg Fu (sg Fv (aL)))))) Tryz.func265
noncomputable def G6(x:Ty.T Y0):Option (Ty.T ao):=
match bE (x.1.1,(0:Int),(15:Int),())with
|none=>none
|some v1=>
match v1.1 with
|true=>
 match bE (x.1.2.1,(0:Int),(7:Int),())with
 |none=>none
 |some v2=>
 match v2.1 with
 |true=>
  match bE (x.1.2.2.1,(0:Int),(15:Int),())with
  |none=>none
  |some v3=>
  match v3.1 with
  |true=>
   match eZ ((x.1.2.2.2.1.1,x.1.2.2.2.1.2.1,x.1.2.2.2.1.2.2.1,x.1.2.2.2.1.2.2.2.1,x.1.2.2.2.1.2.2.2.2.1,()),())with
   |none=>none
   |some v4=>
   some (v4.1,())
  |false=>
   some (false,())
 |false=>
  some (false,())
|false=>
 some (false,())
noncomputable def Pf:ae:=⟨_,ao,.unit,rfl,G6⟩
theorem V2:FnOK G0 Tryz.prog 285 Pf:=ak aj (sg cT (sg vq (aL))) Tryz.func285
abbrev mw:Ty:=(.pair (.own 2 (.int .i64)) (.pair (.own 2 (.int .i64)) (.pair (.int .i64) .unit)))
noncomputable def cB(x:(Ty.T mw)):Option ((Ty.T mw) ⊕ ((Ty.T .unit) ⊕ (Ty.T aE))):=
match(decide (x.2.2.1<(3:Int)))with
|true=>
 ab (aq x.1 x.2.2.1) fun _=>
 match x.1[x.2.2.1.toNat]? with
 |none=>none
 |some v2=>
 ab (aq x.2.1 x.2.2.1) fun _=>
 match x.2.1[x.2.2.1.toNat]? with
 |none=>none
 |some v4=>
 match(decide (v2<v4))with
 |true=>
  some (.inr (.inr ((-1:Int),())))
 |false=>
  ab (aq x.1 x.2.2.1) fun _=>
  match x.1[x.2.2.1.toNat]? with
  |none=>none
  |some v6=>
  ab (aq x.2.1 x.2.2.1) fun _=>
  match x.2.1[x.2.2.1.toNat]? with
  |none=>none
  |some v8=>
  match(decide (v6>v8))with
  |true=>
   some (.inr (.inr ((1:Int),())))
  |false=>
   some (.inl (x.1,x.2.1,(IntKind.i64.wrap (x.2.2.1+(1:Int))),()))
|false=>
 some (.inr (.inl (())))
noncomputable def ni(x:Ty.T abQ):Option (Ty.T aE):=
aN (
 match ac cB ([x.1.1,x.1.2.1,x.1.2.2.1],[x.2.1.1,x.2.1.2.1,x.2.1.2.2.1],(0:Int),())with
 |none=>none
 |some (.inl v9)=>
  some ((0:Int),())
 |some (.inr v10)=>
  some (v10.1,())) (
 match ac cB ([x.1.1,x.1.2.1,x.1.2.2.1],[x.2.1.1,x.2.1.2.1,x.2.1.2.2.1],(0:Int),())with
 |none=>none
 |some (.inl v1)=>
  some ((0:Int),())
 |some (.inr v2)=>
  some (v2.1,()))
noncomputable def xg:ae:=⟨_,aE,.unit,rfl,ni⟩
noncomputable def vr:FuncId→Option ae:=bC []
theorem Ep:∀f s,vr f=some s→FnOK G0 Tryz.prog f s:=aD trivial
def tI:aO:=⟨[5,6,7],mw,0,[],.unit,[4],aE⟩
noncomputable def vt:List aw:=[tI.spec cB]
theorem Ck:bg bi E0 vr (bc Tryz.f286 vt) Tryz.f286 0 tI cB:=fun x=>by kernel_rfl
theorem Hr:FnOK G0 Tryz.prog 286 xg:=aJ aj Ep Tryz.func286 vt (by kernel_rfl) (by exact⟨(Ck).lok,trivial⟩) fun x=>by kernel_rfl
abbrev nW:Ty:=(.pair (.list al) (.pair (.int .i64) .unit))
noncomputable def fm(x:(Ty.T nW)):Option ((Ty.T nW) ⊕ ((Ty.T .unit) ⊕ (Ty.T ao))):=
match(decide (x.2.1<(x.1.length:Int)))with
|true=>
 ab (aq x.1 x.2.1) fun v1=>
 match G6 (v1,())with
 |none=>none
 |some v2=>
 match(!v2.1)with
 |true=>
  some (.inr (.inr (false,())))
 |false=>
  match(decide (x.2.1>(0:Int)))with
  |true=>
   ab (aq x.1 (IntKind.i64.wrap (x.2.1-(1:Int)))) fun v3=>
   ab (aq x.1 x.2.1) fun v4=>
   match ni (v3,v4,())with
   |none=>none
   |some v5=>
   match(decide (v5.1≥(0:Int)))with
   |true=>
    some (.inr (.inr (false,())))
   |false=>
    some (.inl (x.1,(IntKind.i64.wrap (x.2.1+(1:Int))),()))
  |false=>
   some (.inl (x.1,(IntKind.i64.wrap (x.2.1+(1:Int))),()))
|false=>
 some (.inr (.inl (())))
noncomputable def o5(x:Ty.T Ru):Option (Ty.T ao):=
match(decide ((x.1.length:Int)>(120:Int)))with
|true=>
 some (false,())
|false=>
 match ac fm (x.1,(0:Int),())with
 |none=>none
 |some (.inl v6)=>
  some (true,())
 |some (.inr v7)=>
  some (v7.1,())
noncomputable def yR:ae:=⟨_,ao,.unit,rfl,o5⟩
noncomputable def xh:FuncId→Option ae:=bC [(285,Pf),(286,xg)]
theorem Fw:∀f s,xh f=some s→FnOK G0 Tryz.prog f s:=aD ⟨V2,Hr,trivial⟩
def vu:aO:=⟨[0,3],nW,0,[],.unit,[2],ao⟩
noncomputable def xi:List aw:=[vu.spec fm]
theorem Er:bg bi E0 xh (bc Tryz.f243 xi) Tryz.f243 0 vu fm:=fun x=>by kernel_rfl
theorem Ju:FnOK G0 Tryz.prog 243 yR:=aJ aj Fw Tryz.func243 xi (by kernel_rfl) (by exact⟨(Er).lok,trivial⟩) fun x=>by kernel_rfl
noncomputable def iM(x:(Ty.T Y4)):Option ((Ty.T Y4) ⊕ ((Ty.T .unit) ⊕ (Ty.T aE))):=
match(decide (x.2.2.2.2.1<(x.1.length:Int)))with
|true=>
 ab (aq x.1 x.2.2.2.2.1) fun v1=>
 match(v1.1==x.2.1)with
 |true=>
  ab (aq x.1 x.2.2.2.2.1) fun v2=>
  match(v2.2.1==x.2.2.1)with
  |true=>
   ab (aq x.1 x.2.2.2.2.1) fun v3=>
   match(v3.2.2.1==x.2.2.2.1)with
   |true=>
    some (.inr (.inr (x.2.2.2.2.1,())))
   |false=>
    some (.inl (x.1,x.2.1,x.2.2.1,x.2.2.2.1,(IntKind.i64.wrap (x.2.2.2.2.1+(1:Int))),()))
  |false=>
   some (.inl (x.1,x.2.1,x.2.2.1,x.2.2.2.1,(IntKind.i64.wrap (x.2.2.2.2.1+(1:Int))),()))
 |false=>
  some (.inl (x.1,x.2.1,x.2.2.1,x.2.2.2.1,(IntKind.i64.wrap (x.2.2.2.2.1+(1:Int))),()))
|false=>
 some (.inr (.inl (())))
noncomputable def tJ(x:Ty.T abW):Option (Ty.T aE):=
match ac iM (x.1,x.2.1,x.2.2.1,x.2.2.2.1,(0:Int),())with
|none=>none
|some (.inl v4)=>
 some ((-1:Int),())
|some (.inr v5)=>
 some (v5.1,())
noncomputable def Ik:ae:=⟨_,aE,.unit,rfl,tJ⟩
noncomputable def Fx:FuncId→Option ae:=bC []
theorem NC:∀f s,Fx f=some s→FnOK G0 Tryz.prog f s:=aD trivial
def Dg:aO:=⟨[0,1,2,3,9],Y4,0,[],.unit,[8],aE⟩
noncomputable def Fy:List aw:=[Dg.spec iM]
theorem Le:bg bi E0 Fx (bc Tryz.f146 Fy) Tryz.f146 0 Dg iM:=fun x=>by kernel_rfl
theorem Fz:FnOK G0 Tryz.prog 146 Ik:=aJ aj NC Tryz.func146 Fy (by kernel_rfl) (by exact⟨(Le).lok,trivial⟩) fun x=>by kernel_rfl
abbrev vv:Ty:=Y9
noncomputable def fo(x:(Ty.T Rt)):Option ((Ty.T Rt) ⊕ ((Ty.T vv) ⊕ (Ty.T ao))):=
ab (aq x.1.2.2.1 x.2.2.1) fun v2=>
match(decide (x.2.2.2.2.1<v2.2.1))with
|true=>
 match tJ (x.1.2.2.2.1,x.2.2.1,x.2.2.2.1,x.2.2.2.2.1,())with
 |none=>none
 |some v3=>
 match(decide (v3.1<(0:Int)))with
 |true=>
  some (.inr (.inr (false,())))
 |false=>
  some (.inl ((x.1.1,x.1.2.1,x.1.2.2.1,x.1.2.2.2.1,()),(IntKind.i64.wrap (x.2.1+(1:Int))),x.2.2.1,x.2.2.2.1,(IntKind.i64.wrap (x.2.2.2.2.1+(1:Int))),()))
|false=>
 some (.inr (.inl ((x.1.1,x.1.2.1,x.1.2.2.1,x.1.2.2.2.1,()),x.2.1,x.2.2.1,x.2.2.2.1,())))
abbrev nX:Ty:=Y9
noncomputable def fp(x:(Ty.T nX)):Option ((Ty.T nX) ⊕ ((Ty.T vh) ⊕ (Ty.T ao))):=
ab (aq x.1.2.2.1 x.2.2.1) fun v1=>
match(decide (x.2.2.2.1<v1.1))with
|true=>
 match ac fo ((x.1.1,x.1.2.1,x.1.2.2.1,x.1.2.2.2.1,()),x.2.1,x.2.2.1,x.2.2.2.1,(0:Int),())with
 |none=>none
 |some (.inl v2)=>
  some (.inl ((v2.1.1,v2.1.2.1,v2.1.2.2.1,v2.1.2.2.2.1,()),v2.2.1,v2.2.2.1,(IntKind.i64.wrap (v2.2.2.2.1+(1:Int))),()))
 |some (.inr v3)=>
  some (.inr (.inr (v3.1,())))
|false=>
 some (.inr (.inl ((x.1.1,x.1.2.1,x.1.2.2.1,x.1.2.2.2.1,()),x.2.1,x.2.2.1,())))
abbrev vw:Ty:=VW
noncomputable def dt(x:(Ty.T vh)):Option ((Ty.T vh) ⊕ ((Ty.T vw) ⊕ (Ty.T ao))):=
match(decide (x.2.2.1<(x.1.2.2.1.length:Int)))with
|true=>
 match ac fp ((x.1.1,x.1.2.1,x.1.2.2.1,x.1.2.2.2.1,()),x.2.1,x.2.2.1,(0:Int),())with
 |none=>none
 |some (.inl v1)=>
  some (.inl ((v1.1.1,v1.1.2.1,v1.1.2.2.1,v1.1.2.2.2.1,()),v1.2.1,(IntKind.i64.wrap (v1.2.2.1+(1:Int))),()))
 |some (.inr v2)=>
  some (.inr (.inr (v2.1,())))
|false=>
 some (.inr (.inl ((x.1.1,x.1.2.1,x.1.2.2.1,x.1.2.2.2.1,()),x.2.1,())))
noncomputable def lD(x:Ty.T r7):Option (Ty.T ao):=
match ac dt ((x.1.1,x.1.2.1,x.1.2.2.1,x.1.2.2.2.1,()),(0:Int),(0:Int),())with
|none=>none
|some (.inl v3)=>
 some ((v3.2.1==(v3.1.2.2.2.1.length:Int)),())
|some (.inr v4)=>
 some (v4.1,())
noncomputable def yS:ae:=⟨_,ao,.unit,rfl,lD⟩
noncomputable def lu:FuncId→Option ae:=bC [(146,Ik)]
theorem FA:∀f s,lu f=some s→FnOK G0 Tryz.prog f s:=aD ⟨Fz,trivial⟩
def vx:aO:=⟨[1,3,4],vh,0,[1,3],vw,[2],ao⟩
def vy:aO:=⟨[1,3,4,5],nX,2,[1,3,4],vh,[2],ao⟩
def vz:aO:=⟨[1,3,4,5,6],Rt,4,[1,3,4,5],vv,[2],ao⟩
noncomputable def lv:List aw:=[vx.spec dt,vy.spec fp,vz.spec fo]
theorem Es:bg bi E0 lu (bc Tryz.f244 lv) Tryz.f244 0 vx dt:=fun x=>by kernel_rfl
theorem Et:bg bi E0 lu (bc Tryz.f244 lv) Tryz.f244 1 vy fp:=fun x=>by kernel_rfl
theorem Eu:bg bi E0 lu (bc Tryz.f244 lv) Tryz.f244 2 vz fo:=fun x=>by kernel_rfl
theorem Jv:FnOK G0 Tryz.prog 244 yS:=aJ aj FA Tryz.func244 lv (by kernel_rfl) (by exact⟨(Es).lok,(Et).lok,(Eu).lok,trivial⟩) fun x=>by kernel_rfl
noncomputable def fR(x:(Ty.T vh)):Option ((Ty.T vh) ⊕ ((Ty.T .unit) ⊕ (Ty.T ao))):=
match(decide (x.2.2.1<(x.1.2.2.2.1.length:Int)))with
|true=>
 ab (aq x.1.2.2.2.1 x.2.2.1) fun v2=>
 match pm (x.2.1,v2.2.2.2.1.1,())with
 |none=>none
 |some v3=>
 match(!v3.1)with
 |true=>
  some (.inr (.inr (false,())))
 |false=>
  some (.inl ((x.1.1,x.1.2.1,x.1.2.2.1,x.1.2.2.2.1,()),x.2.1,(IntKind.i64.wrap (x.2.2.1+(1:Int))),()))
|false=>
 some (.inr (.inl (())))
noncomputable def my(x:Ty.T r7):Option (Ty.T ao):=
match cV (x.1.2.1,())with
|none=>none
|some v1=>
match ac fR ((x.1.1,x.1.2.1,x.1.2.2.1,x.1.2.2.2.1,()),v1.1,(0:Int),())with
|none=>none
|some (.inl v4)=>
 some (true,())
|some (.inr v5)=>
 some (v5.1,())
noncomputable def AH:ae:=⟨_,ao,.unit,rfl,my⟩
noncomputable def yT:FuncId→Option ae:=bC [(126,oX),(195,Cg)]
theorem Hs:∀f s,yT f=some s→FnOK G0 Tryz.prog f s:=aD ⟨kM,zH,trivial⟩
def xj:aO:=⟨[1,3,4],vh,0,[],.unit,[2],ao⟩
noncomputable def yU:List aw:=[xj.spec fR]
theorem FB:bg bi E0 yT (bc Tryz.f245 yU) Tryz.f245 0 xj fR:=fun x=>by kernel_rfl
theorem Lf:FnOK G0 Tryz.prog 245 AH:=aJ aj Hs Tryz.func245 yU (by kernel_rfl) (by exact⟨(FB).lok,trivial⟩) fun x=>by kernel_rfl
abbrev tK:Ty:=abT
noncomputable def eH(x:(Ty.T Y1)):Option ((Ty.T Y1) ⊕ ((Ty.T tK) ⊕ (Ty.T ao))):=
match(decide (x.2.2.1<x.2.1))with
|true=>
 ab (aq x.1.2.2.2.1 x.2.1) fun v1=>
 ab (aq x.1.2.2.2.1 x.2.2.1) fun v2=>
 aX (
  match(v1.1==v2.1)with
  |true=>
   match(v1.2.2.1==v2.2.2.1)with
   |true=>
    match(v1.2.2.2.1.2.2.2.1 != v2.2.2.2.1.2.2.2.1)with
    |true=>
     some (.inr (.inr (false,())))
    |false=>
     some (.inl (x.1,x.2.1,(IntKind.i64.wrap (x.2.2.1+(1:Int))),()))
   |false=>
    some (.inl (x.1,x.2.1,(IntKind.i64.wrap (x.2.2.1+(1:Int))),()))
  |false=>
   some (.inl (x.1,x.2.1,(IntKind.i64.wrap (x.2.2.1+(1:Int))),())))
|false=>
 some (.inr (.inl (x.1,x.2.1,())))
abbrev mz:Ty:=abT
noncomputable def eI(x:(Ty.T mz)):Option ((Ty.T mz) ⊕ ((Ty.T .unit) ⊕ (Ty.T ao))):=
match(decide (x.2.1<(x.1.2.2.2.1.length:Int)))with
|true=>
 match ac eH (x.1,x.2.1,(0:Int),())with
 |none=>none
 |some (.inl v1)=>
  some (.inl (v1.1,(IntKind.i64.wrap (v1.2.1+(1:Int))),()))
 |some (.inr v2)=>
  some (.inr (.inr (v2.1,())))
|false=>
 some (.inr (.inl (())))
noncomputable def kN(x:Ty.T r7):Option (Ty.T ao):=
match ac eI ((x.1.1,x.1.2.1,x.1.2.2.1,x.1.2.2.2.1,()),(0:Int),())with
|none=>none
|some (.inl v3)=>
 some (true,())
|some (.inr v4)=>
 some (v4.1,())
noncomputable def xk:ae:=⟨_,ao,.unit,rfl,kN⟩
noncomputable def nY:FuncId→Option ae:=bC []
theorem Ev:∀f s,nY f=some s→FnOK G0 Tryz.prog f s:=aD trivial
def tL:aO:=⟨[1,3],mz,0,[],.unit,[2],ao⟩
def tM:aO:=⟨[1,3,4],Y1,2,[1,3],tK,[2],ao⟩
noncomputable def nZ:List aw:=[tL.spec eI,tM.spec eH]
theorem Cl:bg bi E0 nY (bc Tryz.f246 nZ) Tryz.f246 0 tL eI:=fun x=>by kernel_rfl
theorem Cm:bg bi E0 nY (bc Tryz.f246 nZ) Tryz.f246 1 tM eH:=fun x=>by kernel_rfl
theorem Ht:FnOK G0 Tryz.prog 246 xk:=aJ aj Ev Tryz.func246 nZ (by kernel_rfl) (by exact⟨(Cl).lok,(Cm).lok,trivial⟩) fun x=>by kernel_rfl
abbrev sh:Ty:=(.pair (.int .i64) (.pair (.box an) bB))
noncomputable def gO(x:(Ty.T sh)):Option ((Ty.T sh) ⊕ ((Ty.T aE) ⊕ (Ty.T .unit))):=
match(decide (x.2.2.2.1<(x.2.1.2.2.2.1.length:Int)))with
|true=>
 ab (aq x.2.1.2.2.2.1 x.2.2.2.1) fun v1=>
 match(v1.1==x.1)with
 |true=>
  ab (aq x.2.1.2.2.2.1 x.2.2.2.1) fun v2=>
  some (.inl (x.1,(x.2.1.1,x.2.1.2.1,x.2.1.2.2.1,x.2.1.2.2.2.1,()),(IntKind.i64.wrap (x.2.2.1+v2.2.2.2.1.2.2.2.1)),(IntKind.i64.wrap (x.2.2.2.1+(1:Int))),()))
 |false=>
  some (.inl (x.1,(x.2.1.1,x.2.1.2.1,x.2.1.2.2.1,x.2.1.2.2.2.1,()),x.2.2.1,(IntKind.i64.wrap (x.2.2.2.1+(1:Int))),()))
|false=>
 some (.inr (.inl (x.2.2.1,())))
noncomputable def qK(x:Ty.T abP):Option (Ty.T aE):=
match ac gO (x.2.1,(x.1.1,x.1.2.1,x.1.2.2.1,x.1.2.2.2.1,()),(0:Int),(0:Int),())with
|none=>none
|some (.inl v3)=>
 some (v3.1,())
|some (.inr v5)=>
 none
noncomputable def FC:ae:=⟨_,aE,.unit,rfl,qK⟩
noncomputable def Dh:FuncId→Option ae:=bC []
theorem Lg:∀f s,Dh f=some s→FnOK G0 Tryz.prog f s:=aD trivial
def AI:aO:=⟨[1,2,5,6],sh,0,[5],aE,[],.unit⟩
noncomputable def Di:List aw:=[AI.spec gO]
theorem Jw:bg bi E0 Dh (bc Tryz.f247 Di) Tryz.f247 0 AI gO:=fun x=>by kernel_rfl
theorem PT:FnOK G0 Tryz.prog 247 FC:=aJ aj Lg Tryz.func247 Di (by kernel_rfl) (by exact⟨(Jw).lok,trivial⟩) fun x=>by kernel_rfl
noncomputable def dQ(x:(Ty.T Y2)):Option ((Ty.T Y2) ⊕ ((Ty.T Rt) ⊕ (Ty.T .unit))):=
match(decide (x.2.2.2.2.2.1<(x.1.2.2.2.1.length:Int)))with
|true=>
 ab (aq x.1.2.2.2.1 x.2.2.2.2.2.1) fun v3=>
 match(v3.1==x.2.2.1)with
 |true=>
  ab (aq x.1.2.2.2.1 x.2.2.2.2.2.1) fun v4=>
  match(v4.2.1==x.2.2.2.1)with
  |true=>
   ab (aq x.1.2.2.2.1 x.2.2.2.2.2.1) fun v5=>
   match w9 (x.2.2.2.2.1,v5.2.2.2.1.1,true,())with
   |none=>none
   |some v6=>
   some (.inl ((x.1.1,x.1.2.1,x.1.2.2.1,x.1.2.2.2.1,()),x.2.1,x.2.2.1,x.2.2.2.1,v6.1,(IntKind.i64.wrap (x.2.2.2.2.2.1+(1:Int))),()))
  |false=>
   some (.inl ((x.1.1,x.1.2.1,x.1.2.2.1,x.1.2.2.2.1,()),x.2.1,x.2.2.1,x.2.2.2.1,x.2.2.2.2.1,(IntKind.i64.wrap (x.2.2.2.2.2.1+(1:Int))),()))
 |false=>
  some (.inl ((x.1.1,x.1.2.1,x.1.2.2.1,x.1.2.2.2.1,()),x.2.1,x.2.2.1,x.2.2.2.1,x.2.2.2.2.1,(IntKind.i64.wrap (x.2.2.2.2.2.1+(1:Int))),()))
|false=>
 some (.inr (.inl ((x.1.1,x.1.2.1,x.1.2.2.1,x.1.2.2.2.1,()),x.2.1,x.2.2.1,x.2.2.2.1,x.2.2.2.2.1,())))
abbrev qL:Ty:=Y9
noncomputable def fB(x:(Ty.T qL)):Option ((Ty.T qL) ⊕ ((Ty.T vh) ⊕ (Ty.T ao))):=
ab (aq x.1.2.2.1 x.2.2.1) fun v2=>
match(decide (x.2.2.2.1<v2.1))with
|true=>
 match ac dQ ((x.1.1,x.1.2.1,x.1.2.2.1,x.1.2.2.2.1,()),x.2.1,x.2.2.1,x.2.2.2.1,(0:Int),(0:Int),())with
 |none=>none
 |some (.inl v3)=>
  match(v3.2.2.2.2.1 != v3.2.1)with
  |true=>
   some (.inr (.inr (false,())))
  |false=>
   some (.inl ((v3.1.1,v3.1.2.1,v3.1.2.2.1,v3.1.2.2.2.1,()),v3.2.1,v3.2.2.1,(IntKind.i64.wrap (v3.2.2.2.1+(1:Int))),()))
 |some (.inr v5)=>
  none
|false=>
 some (.inr (.inl ((x.1.1,x.1.2.1,x.1.2.2.1,x.1.2.2.2.1,()),x.2.1,x.2.2.1,())))
noncomputable def gk(x:(Ty.T vh)):Option ((Ty.T vh) ⊕ ((Ty.T .unit) ⊕ (Ty.T ao))):=
match(decide (x.2.2.1<(x.1.2.2.1.length:Int)))with
|true=>
 match ac fB ((x.1.1,x.1.2.1,x.1.2.2.1,x.1.2.2.2.1,()),x.2.1,x.2.2.1,(0:Int),())with
 |none=>none
 |some (.inl v2)=>
  some (.inl ((v2.1.1,v2.1.2.1,v2.1.2.2.1,v2.1.2.2.2.1,()),v2.2.1,(IntKind.i64.wrap (v2.2.2.1+(1:Int))),()))
 |some (.inr v3)=>
  some (.inr (.inr (v3.1,())))
|false=>
 some (.inr (.inl (())))
noncomputable def oB(x:Ty.T r7):Option (Ty.T ao):=
match cV (x.1.2.1,())with
|none=>none
|some v1=>
match ac gk ((x.1.1,x.1.2.1,x.1.2.2.1,x.1.2.2.2.1,()),v1.1,(0:Int),())with
|none=>none
|some (.inl v4)=>
 some (true,())
|some (.inr v5)=>
 some (v5.1,())
noncomputable def Dj:ae:=⟨_,ao,.unit,rfl,oB⟩
noncomputable def nj:FuncId→Option ae:=bC [(126,oX),(135,Ci)]
theorem Jy:∀f s,nj f=some s→FnOK G0 Tryz.prog f s:=aD ⟨kM,H9,trivial⟩
def yV:aO:=⟨[1,3,4],vh,0,[],.unit,[2],ao⟩
def yW:aO:=⟨[1,3,4,5],qL,2,[1,3,4],vh,[2],ao⟩
def xl:aO:=⟨[1,3,4,5,6,7],Y2,4,[1,3,4,5,6],Rt,[],.unit⟩
noncomputable def nk:List aw:=[yV.spec gk,yW.spec fB,xl.spec dQ]
theorem Hu:bg bi E0 nj (bc Tryz.f248 nk) Tryz.f248 0 yV gk:=fun x=>by kernel_rfl
theorem Hv:bg bi E0 nj (bc Tryz.f248 nk) Tryz.f248 1 yW fB:=fun x=>by kernel_rfl
theorem FD:bg bi E0 nj (bc Tryz.f248 nk) Tryz.f248 2 xl dQ:=fun x=>by kernel_rfl
theorem ND:FnOK G0 Tryz.prog 248 Dj:=aJ aj Jy Tryz.func248 nk (by kernel_rfl) (by exact⟨(Hu).lok,(Hv).lok,(FD).lok,trivial⟩) fun x=>by kernel_rfl
abbrev oa:Ty:=VW
noncomputable def et(x:(Ty.T oa)):Option ((Ty.T oa) ⊕ ((Ty.T (.pair (.box an) .unit)) ⊕ (Ty.T aE))):=
match(decide (x.2.1<(x.1.2.2.1.length:Int)))with
|true=>
 match qK ((x.1.1,x.1.2.1,x.1.2.2.1,x.1.2.2.2.1,()),x.2.1,())with
 |none=>none
 |some v8=>
 match(decide (v8.1>(32000:Int)))with
 |true=>
  some (.inr (.inr ((8:Int),())))
 |false=>
  some (.inl ((x.1.1,x.1.2.1,x.1.2.2.1,x.1.2.2.2.1,()),(IntKind.i64.wrap (x.2.1+(1:Int))),()))
|false=>
 some (.inr (.inl ((x.1.1,x.1.2.1,x.1.2.2.1,x.1.2.2.2.1,()),())))
abbrev ob:Ty:=VW
noncomputable def du(x:(Ty.T ob)):Option ((Ty.T ob) ⊕ ((Ty.T .unit) ⊕ (Ty.T aE))):=
match(decide (x.2.1<(x.1.2.2.2.1.length:Int)))with
|true=>
 ab (aq x.1.2.2.2.1 x.2.1) fun v12=>
 match(v12.2.2.2.1.2.1==(3:Int))with
 |true=>
  ab (aq x.1.2.2.2.1 x.2.1) fun v13=>
  match(v13.1 != (0:Int))with
  |true=>
   some (.inr (.inr ((10:Int),())))
  |false=>
   some (.inl ((x.1.1,x.1.2.1,x.1.2.2.1,x.1.2.2.2.1,()),(IntKind.i64.wrap (x.2.1+(1:Int))),()))
 |false=>
  some (.inl ((x.1.1,x.1.2.1,x.1.2.2.1,x.1.2.2.2.1,()),(IntKind.i64.wrap (x.2.1+(1:Int))),()))
|false=>
 some (.inr (.inl (())))
noncomputable def mA(x:Ty.T r7):Option (Ty.T aE):=
match bE (x.1.1,(1:Int),(16777215:Int),())with
|none=>none
|some v1=>
match(!v1.1)with
|true=>
 some ((1:Int),())
|false=>
 match oY (x.1.2.1,())with
 |none=>none
 |some v2=>
 match(!v2.1)with
 |true=>
  some ((2:Int),())
 |false=>
  match oZ (x.1.2.2.1,())with
  |none=>none
  |some v3=>
  match(!v3.1)with
  |true=>
   some ((3:Int),())
  |false=>
   match o5 (x.1.2.2.2.1,())with
   |none=>none
   |some v4=>
   match(!v4.1)with
   |true=>
    some ((4:Int),())
   |false=>
    match lD ((x.1.1,x.1.2.1,x.1.2.2.1,x.1.2.2.2.1,()),())with
    |none=>none
    |some v5=>
    match(!v5.1)with
    |true=>
     some ((5:Int),())
    |false=>
     match my ((x.1.1,x.1.2.1,x.1.2.2.1,x.1.2.2.2.1,()),())with
     |none=>none
     |some v6=>
     match(!v6.1)with
     |true=>
      some ((6:Int),())
     |false=>
      match kN ((x.1.1,x.1.2.1,x.1.2.2.1,x.1.2.2.2.1,()),())with
      |none=>none
      |some v7=>
      match(!v7.1)with
      |true=>
       some ((7:Int),())
      |false=>
       match ac et ((x.1.1,x.1.2.1,x.1.2.2.1,x.1.2.2.2.1,()),(0:Int),())with
       |none=>none
       |some (.inl v9)=>
        match oB ((v9.1.1,v9.1.2.1,v9.1.2.2.1,v9.1.2.2.2.1,()),())with
        |none=>none
        |some v11=>
        match(!v11.1)with
        |true=>
         some ((9:Int),())
        |false=>
         match ac du ((v9.1.1,v9.1.2.1,v9.1.2.2.1,v9.1.2.2.2.1,()),(0:Int),())with
         |none=>none
         |some (.inl v14)=>
          some ((0:Int),())
         |some (.inr v15)=>
          some (v15.1,())
       |some (.inr v10)=>
        some (v10.1,())
noncomputable def NF:ae:=⟨_,aE,.unit,rfl,mA⟩
noncomputable def qM:FuncId→Option ae:=bC [(70,lg),(241,yP),(242,yQ),(243,yR),(244,yS),(245,AH),(246,xk),(247,FC),(248,Dj)]
theorem Hw:∀f s,qM f=some s→FnOK G0 Tryz.prog f s:=aD ⟨cT,Jq,Js,Ju,Jv,Lf,Ht,PT,ND,trivial⟩
def vA:aO:=⟨[1,3],oa,1,[1],(.pair (.box an) .unit),[2],aE⟩
def vB:aO:=⟨[1,4],ob,3,[],.unit,[2],aE⟩
noncomputable def qN:List aw:=[vA.spec et,vB.spec du]
theorem Ew:bg bi E0 qM (bc Tryz.f188 qN) Tryz.f188 0 vA et:=fun x=>by kernel_rfl
theorem Ey:bg bi E0 qM (bc Tryz.f188 qN) Tryz.f188 1 vB du:=fun x=>by kernel_rfl
theorem Lh:FnOK G0 Tryz.prog 188 NF:=aJ aj Hw Tryz.func188 qN (by kernel_rfl) (by exact⟨(Ew).lok,(Ey).lok,trivial⟩) fun x=>by kernel_rfl
noncomputable def jx(x:Ty.T r7):Option (Ty.T ao):=
match mA ((x.1.1,x.1.2.1,x.1.2.2.1,x.1.2.2.2.1,()),())with
|none=>none
|some v1=>
some ((v1.1==(0:Int)),())
noncomputable def V3:ae:=⟨_,ao,.unit,rfl,jx⟩
theorem zK:FnOK G0 Tryz.prog 125 V3:=ak aj (sg Lh (aL)) Tryz.func125
noncomputable def yX(x:Ty.T gB):Option (Ty.T VY):=
match mu ((x.1.1,x.1.2.1,x.1.2.2.1,()),())with
|none=>none
|some v1=>
match mv ((v1.2.1.1,v1.2.1.2.1,v1.2.1.2.2.1,()),())with
|none=>none
|some v2=>
match jx ((v1.1.1,v1.1.2.1,v1.1.2.2.1,v1.1.2.2.2.1,()),())with
|none=>none
|some v3=>
match(!v3.1)with
|true=>
 aX (
  some ((v1.1.1,v1.1.2.1,v1.1.2.2.1,v1.1.2.2.2.1,()),(v2.1.1,v2.1.2.1,v2.1.2.2.1,v2.1.2.2.2.1,v2.1.2.2.2.2.1,()),(v2.2.1.1,v2.2.1.2.1,v2.2.1.2.2.1,()),()))
|false=>
 match aa ((v2.2.1.1,v2.2.1.2.1,v2.2.1.2.2.1,()),(16:Int),())with
 |none=>none
 |some v4=>
 match(v4.1==(0:Int))with
 |true=>
  aX (
   some ((v1.1.1,v1.1.2.1,v1.1.2.2.1,v1.1.2.2.2.1,()),(v2.1.1,v2.1.2.1,v2.1.2.2.1,v2.1.2.2.2.1,v2.1.2.2.2.2.1,()),(v4.2.1.1,v4.2.1.2.1,v4.2.1.2.2.1,()),()))
 |false=>
  match aa ((v4.2.1.1,v4.2.1.2.1,v4.2.1.2.2.1,()),(65536:Int),())with
  |none=>none
  |some v5=>
  match aa ((v5.2.1.1,v5.2.1.2.1,v5.2.1.2.2.1,()),(v1.1.2.2.1.length:Int),())with
  |none=>none
  |some v6=>
  aN (
   ab (aq v1.1.2.2.1 v6.1) fun v7=>
   aX (
    match aa ((v6.2.1.1,v6.2.1.2.1,v6.2.1.2.2.1,()),(30:Int),())with
    |none=>none
    |some v8=>
    match aa ((v8.2.1.1,v8.2.1.2.1,v8.2.1.2.2.1,()),(IntKind.i64.wrap (v7.1+(IntKind.i64.wrap (Int.tdiv v8.1 (29:Int))))),())with
    |none=>none
    |some v9=>
    aN (
     ab (aq v1.1.2.2.1 v6.1) fun v10=>
     aX (
      match aa ((v9.2.1.1,v9.2.1.2.1,v9.2.1.2.2.1,()),(30:Int),())with
      |none=>none
      |some v11=>
      match aa ((v11.2.1.1,v11.2.1.2.1,v11.2.1.2.2.1,()),(IntKind.i64.wrap (v10.2.1+(IntKind.i64.wrap (Int.tdiv v11.1 (29:Int))))),())with
      |none=>none
      |some v12=>
      match cV (v1.1.2.1,())with
      |none=>none
      |some v13=>
      match aa ((v12.2.1.1,v12.2.1.2.1,v12.2.1.2.2.1,()),(3:Int),())with
      |none=>none
      |some v14=>
      match(v14.1==(0:Int))with
      |true=>
       aX (
        match aa ((v14.2.1.1,v14.2.1.2.1,v14.2.1.2.2.1,()),(256:Int),())with
        |none=>none
        |some v15=>
        match aa ((v15.2.1.1,v15.2.1.2.1,v15.2.1.2.2.1,()),(30:Int),())with
        |none=>none
        |some v16=>
        match(v16.1==(0:Int))with
        |true=>
         aX (
          match aa ((v16.2.1.1,v16.2.1.2.1,v16.2.1.2.2.1,()),(10:Int),())with
          |none=>none
          |some v17=>
          if(IntKind.u64.wrap v17.1)<0 then none else
          aX (
           some ((v1.1.1,v1.1.2.1,v1.1.2.2.1,v1.1.2.2.2.1,()),(v5.1,v6.1,v9.1,v12.1,(bits BinOp.xor .i64 (bits BinOp.and .i64 v13.1 v15.1) (IntKind.i64.wrap ((1:Int)*2^min (IntKind.u64.wrap v17.1).toNat IntKind.i64.bits))),()),(v17.2.1.1,v17.2.1.2.1,v17.2.1.2.2.1,()),())))
        |false=>
         aX (
          some ((v1.1.1,v1.1.2.1,v1.1.2.2.1,v1.1.2.2.2.1,()),(v5.1,v6.1,v9.1,v12.1,(bits BinOp.and .i64 v13.1 v15.1),()),(v16.2.1.1,v16.2.1.2.1,v16.2.1.2.2.1,()),())))
      |false=>
       match aa ((v14.2.1.1,v14.2.1.2.1,v14.2.1.2.2.1,()),(30:Int),())with
       |none=>none
       |some v18=>
       match(v18.1==(0:Int))with
       |true=>
        aX (
         match aa ((v18.2.1.1,v18.2.1.2.1,v18.2.1.2.2.1,()),(10:Int),())with
         |none=>none
         |some v19=>
         if(IntKind.u64.wrap v19.1)<0 then none else
         aX (
          some ((v1.1.1,v1.1.2.1,v1.1.2.2.1,v1.1.2.2.2.1,()),(v5.1,v6.1,v9.1,v12.1,(bits BinOp.xor .i64 v13.1 (IntKind.i64.wrap ((1:Int)*2^min (IntKind.u64.wrap v19.1).toNat IntKind.i64.bits))),()),(v19.2.1.1,v19.2.1.2.1,v19.2.1.2.2.1,()),())))
       |false=>
        aX (
         some ((v1.1.1,v1.1.2.1,v1.1.2.2.1,v1.1.2.2.2.1,()),(v5.1,v6.1,v9.1,v12.1,v13.1,()),(v18.2.1.1,v18.2.1.2.1,v18.2.1.2.2.1,()),())))) (
     match aa ((v9.2.1.1,v9.2.1.2.1,v9.2.1.2.2.1,()),(30:Int),())with
     |none=>none
     |some v10=>
     ab (aq v1.1.2.2.1 v6.1) fun v11=>
     match aa ((v10.2.1.1,v10.2.1.2.1,v10.2.1.2.2.1,()),(IntKind.i64.wrap (v11.2.1+(IntKind.i64.wrap (Int.tdiv v10.1 (29:Int))))),())with
     |none=>none
     |some v12=>
     match cV (v1.1.2.1,())with
     |none=>none
     |some v13=>
     match aa ((v12.2.1.1,v12.2.1.2.1,v12.2.1.2.2.1,()),(3:Int),())with
     |none=>none
     |some v14=>
     match(v14.1==(0:Int))with
     |true=>
      aX (
       match aa ((v14.2.1.1,v14.2.1.2.1,v14.2.1.2.2.1,()),(256:Int),())with
       |none=>none
       |some v15=>
       match aa ((v15.2.1.1,v15.2.1.2.1,v15.2.1.2.2.1,()),(30:Int),())with
       |none=>none
       |some v16=>
       match(v16.1==(0:Int))with
       |true=>
        aX (
         match aa ((v16.2.1.1,v16.2.1.2.1,v16.2.1.2.2.1,()),(10:Int),())with
         |none=>none
         |some v17=>
         if(IntKind.u64.wrap v17.1)<0 then none else
         aX (
          some ((v1.1.1,v1.1.2.1,v1.1.2.2.1,v1.1.2.2.2.1,()),(v5.1,v6.1,v9.1,v12.1,(bits BinOp.xor .i64 (bits BinOp.and .i64 v13.1 v15.1) (IntKind.i64.wrap ((1:Int)*2^min (IntKind.u64.wrap v17.1).toNat IntKind.i64.bits))),()),(v17.2.1.1,v17.2.1.2.1,v17.2.1.2.2.1,()),())))
       |false=>
        aX (
         some ((v1.1.1,v1.1.2.1,v1.1.2.2.1,v1.1.2.2.2.1,()),(v5.1,v6.1,v9.1,v12.1,(bits BinOp.and .i64 v13.1 v15.1),()),(v16.2.1.1,v16.2.1.2.1,v16.2.1.2.2.1,()),())))
     |false=>
      match aa ((v14.2.1.1,v14.2.1.2.1,v14.2.1.2.2.1,()),(30:Int),())with
      |none=>none
      |some v18=>
      match(v18.1==(0:Int))with
      |true=>
       aX (
        match aa ((v18.2.1.1,v18.2.1.2.1,v18.2.1.2.2.1,()),(10:Int),())with
        |none=>none
        |some v19=>
        if(IntKind.u64.wrap v19.1)<0 then none else
        aX (
         some ((v1.1.1,v1.1.2.1,v1.1.2.2.1,v1.1.2.2.2.1,()),(v5.1,v6.1,v9.1,v12.1,(bits BinOp.xor .i64 v13.1 (IntKind.i64.wrap ((1:Int)*2^min (IntKind.u64.wrap v19.1).toNat IntKind.i64.bits))),()),(v19.2.1.1,v19.2.1.2.1,v19.2.1.2.2.1,()),())))
      |false=>
       aX (
        some ((v1.1.1,v1.1.2.1,v1.1.2.2.1,v1.1.2.2.2.1,()),(v5.1,v6.1,v9.1,v12.1,v13.1,()),(v18.2.1.1,v18.2.1.2.1,v18.2.1.2.2.1,()),()))))) (
   match aa ((v6.2.1.1,v6.2.1.2.1,v6.2.1.2.2.1,()),(30:Int),())with
   |none=>none
   |some v7=>
   ab (aq v1.1.2.2.1 v6.1) fun v8=>
   match aa ((v7.2.1.1,v7.2.1.2.1,v7.2.1.2.2.1,()),(IntKind.i64.wrap (v8.1+(IntKind.i64.wrap (Int.tdiv v7.1 (29:Int))))),())with
   |none=>none
   |some v9=>
   aN (
    ab (aq v1.1.2.2.1 v6.1) fun v10=>
    aX (
     match aa ((v9.2.1.1,v9.2.1.2.1,v9.2.1.2.2.1,()),(30:Int),())with
     |none=>none
     |some v11=>
     match aa ((v11.2.1.1,v11.2.1.2.1,v11.2.1.2.2.1,()),(IntKind.i64.wrap (v10.2.1+(IntKind.i64.wrap (Int.tdiv v11.1 (29:Int))))),())with
     |none=>none
     |some v12=>
     match cV (v1.1.2.1,())with
     |none=>none
     |some v13=>
     match aa ((v12.2.1.1,v12.2.1.2.1,v12.2.1.2.2.1,()),(3:Int),())with
     |none=>none
     |some v14=>
     match(v14.1==(0:Int))with
     |true=>
      aX (
       match aa ((v14.2.1.1,v14.2.1.2.1,v14.2.1.2.2.1,()),(256:Int),())with
       |none=>none
       |some v15=>
       match aa ((v15.2.1.1,v15.2.1.2.1,v15.2.1.2.2.1,()),(30:Int),())with
       |none=>none
       |some v16=>
       match(v16.1==(0:Int))with
       |true=>
        aX (
         match aa ((v16.2.1.1,v16.2.1.2.1,v16.2.1.2.2.1,()),(10:Int),())with
         |none=>none
         |some v17=>
         if(IntKind.u64.wrap v17.1)<0 then none else
         aX (
          some ((v1.1.1,v1.1.2.1,v1.1.2.2.1,v1.1.2.2.2.1,()),(v5.1,v6.1,v9.1,v12.1,(bits BinOp.xor .i64 (bits BinOp.and .i64 v13.1 v15.1) (IntKind.i64.wrap ((1:Int)*2^min (IntKind.u64.wrap v17.1).toNat IntKind.i64.bits))),()),(v17.2.1.1,v17.2.1.2.1,v17.2.1.2.2.1,()),())))
       |false=>
        aX (
         some ((v1.1.1,v1.1.2.1,v1.1.2.2.1,v1.1.2.2.2.1,()),(v5.1,v6.1,v9.1,v12.1,(bits BinOp.and .i64 v13.1 v15.1),()),(v16.2.1.1,v16.2.1.2.1,v16.2.1.2.2.1,()),())))
     |false=>
      match aa ((v14.2.1.1,v14.2.1.2.1,v14.2.1.2.2.1,()),(30:Int),())with
      |none=>none
      |some v18=>
      match(v18.1==(0:Int))with
      |true=>
       aX (
        match aa ((v18.2.1.1,v18.2.1.2.1,v18.2.1.2.2.1,()),(10:Int),())with
        |none=>none
        |some v19=>
        if(IntKind.u64.wrap v19.1)<0 then none else
        aX (
         some ((v1.1.1,v1.1.2.1,v1.1.2.2.1,v1.1.2.2.2.1,()),(v5.1,v6.1,v9.1,v12.1,(bits BinOp.xor .i64 v13.1 (IntKind.i64.wrap ((1:Int)*2^min (IntKind.u64.wrap v19.1).toNat IntKind.i64.bits))),()),(v19.2.1.1,v19.2.1.2.1,v19.2.1.2.2.1,()),())))
      |false=>
       aX (
        some ((v1.1.1,v1.1.2.1,v1.1.2.2.1,v1.1.2.2.2.1,()),(v5.1,v6.1,v9.1,v12.1,v13.1,()),(v18.2.1.1,v18.2.1.2.1,v18.2.1.2.2.1,()),())))) (
    match aa ((v9.2.1.1,v9.2.1.2.1,v9.2.1.2.2.1,()),(30:Int),())with
    |none=>none
    |some v10=>
    ab (aq v1.1.2.2.1 v6.1) fun v11=>
    match aa ((v10.2.1.1,v10.2.1.2.1,v10.2.1.2.2.1,()),(IntKind.i64.wrap (v11.2.1+(IntKind.i64.wrap (Int.tdiv v10.1 (29:Int))))),())with
    |none=>none
    |some v12=>
    match cV (v1.1.2.1,())with
    |none=>none
    |some v13=>
    match aa ((v12.2.1.1,v12.2.1.2.1,v12.2.1.2.2.1,()),(3:Int),())with
    |none=>none
    |some v14=>
    match(v14.1==(0:Int))with
    |true=>
     aX (
      match aa ((v14.2.1.1,v14.2.1.2.1,v14.2.1.2.2.1,()),(256:Int),())with
      |none=>none
      |some v15=>
      match aa ((v15.2.1.1,v15.2.1.2.1,v15.2.1.2.2.1,()),(30:Int),())with
      |none=>none
      |some v16=>
      match(v16.1==(0:Int))with
      |true=>
       aX (
        match aa ((v16.2.1.1,v16.2.1.2.1,v16.2.1.2.2.1,()),(10:Int),())with
        |none=>none
        |some v17=>
        if(IntKind.u64.wrap v17.1)<0 then none else
        aX (
         some ((v1.1.1,v1.1.2.1,v1.1.2.2.1,v1.1.2.2.2.1,()),(v5.1,v6.1,v9.1,v12.1,(bits BinOp.xor .i64 (bits BinOp.and .i64 v13.1 v15.1) (IntKind.i64.wrap ((1:Int)*2^min (IntKind.u64.wrap v17.1).toNat IntKind.i64.bits))),()),(v17.2.1.1,v17.2.1.2.1,v17.2.1.2.2.1,()),())))
      |false=>
       aX (
        some ((v1.1.1,v1.1.2.1,v1.1.2.2.1,v1.1.2.2.2.1,()),(v5.1,v6.1,v9.1,v12.1,(bits BinOp.and .i64 v13.1 v15.1),()),(v16.2.1.1,v16.2.1.2.1,v16.2.1.2.2.1,()),())))
    |false=>
     match aa ((v14.2.1.1,v14.2.1.2.1,v14.2.1.2.2.1,()),(30:Int),())with
     |none=>none
     |some v18=>
     match(v18.1==(0:Int))with
     |true=>
      aX (
       match aa ((v18.2.1.1,v18.2.1.2.1,v18.2.1.2.2.1,()),(10:Int),())with
       |none=>none
       |some v19=>
       if(IntKind.u64.wrap v19.1)<0 then none else
       aX (
        some ((v1.1.1,v1.1.2.1,v1.1.2.2.1,v1.1.2.2.2.1,()),(v5.1,v6.1,v9.1,v12.1,(bits BinOp.xor .i64 v13.1 (IntKind.i64.wrap ((1:Int)*2^min (IntKind.u64.wrap v19.1).toNat IntKind.i64.bits))),()),(v19.2.1.1,v19.2.1.2.1,v19.2.1.2.2.1,()),())))
     |false=>
      aX (
       some ((v1.1.1,v1.1.2.1,v1.1.2.2.1,v1.1.2.2.2.1,()),(v5.1,v6.1,v9.1,v12.1,v13.1,()),(v18.2.1.1,v18.2.1.2.1,v18.2.1.2.2.1,()),()))))
noncomputable def Il:ae:=⟨_,Fe,gB,rfl,yX⟩
theorem RI:FnOK G0 Tryz.prog 62 Il:=ak aj (sg bK (sg K9 (sg yN (sg zK (sg kM (aL)))))) Tryz.func62
noncomputable def iq(x:Ty.T Fe):Option (Ty.T Fd):=
match tJ (x.1.2.2.2.1,x.2.1.2.1,x.2.1.2.2.1,x.2.1.2.2.2.1,())with
|none=>none
|some v1=>
ab (aq x.1.2.2.2.1 v1.1) fun v2=>
some ((v2.2.2.2.1.1,v2.2.2.2.1.2.1,v2.2.2.2.1.2.2.1,v2.2.2.2.1.2.2.2.1,v2.2.2.2.1.2.2.2.2.1,()),())
noncomputable def Im:ae:=⟨_,Fd,.unit,rfl,iq⟩
theorem mB:FnOK G0 Tryz.prog 84 Im:=ak aj (sg Fz (aL)) Tryz.func84
noncomputable def lh(x:Ty.T zG):Option (Ty.T ao):=
match bE (x.1.1,(0:Int),(65535:Int),())with
|none=>none
|some v1=>
match v1.1 with
|true=>
 match bE (x.1.2.1,(0:Int),(15:Int),())with
 |none=>none
 |some v2=>
 match v2.1 with
 |true=>
  match bE (x.1.2.2.1,(0:Int),(15:Int),())with
  |none=>none
  |some v3=>
  match v3.1 with
  |true=>
   match bE (x.1.2.2.2.1,(0:Int),(255:Int),())with
   |none=>none
   |some v4=>
   match v4.1 with
   |true=>
    match bE (x.1.2.2.2.2.1,(0:Int),(4294967295:Int),())with
    |none=>none
    |some v5=>
    some (v5.1,())
   |false=>
    some (false,())
  |false=>
   some (false,())
 |false=>
  some (false,())
|false=>
 some (false,())
noncomputable def TF:ae:=⟨_,ao,.unit,rfl,lh⟩
theorem FE:FnOK G0 Tryz.prog 90 TF:=ak aj (sg cT (aL)) Tryz.func90
noncomputable def FF(x:Ty.T abZ):Option (Ty.T ao):=
match bE (x.2.1,(0:Int),(IntKind.i64.wrap ((x.1.length:Int)-(1:Int))),())with
|none=>none
|some v1=>
some (v1.1,())
noncomputable def TG:ae:=⟨_,ao,.unit,rfl,FF⟩
theorem RJ:FnOK G0 Tryz.prog 216 TG:=ak aj (sg cT (aL)) Tryz.func216
noncomputable def ir(x:Ty.T Fe):Option (Ty.T ao):=
match lh ((x.2.1.1,x.2.1.2.1,x.2.1.2.2.1,x.2.1.2.2.2.1,x.2.1.2.2.2.2.1,()),())with
|none=>none
|some v1=>
match(!v1.1)with
|true=>
 some (false,())
|false=>
 match FF (x.1.2.2.1,x.2.1.2.1,())with
 |none=>none
 |some v2=>
 match(!v2.1)with
 |true=>
  some (false,())
 |false=>
  ab (aq x.1.2.2.1 x.2.1.2.1) fun v3=>
  match(decide (x.2.1.2.2.1≥v3.1))with
  |true=>
   some (false,())
  |false=>
   ab (aq x.1.2.2.1 x.2.1.2.1) fun v4=>
   match(decide (x.2.1.2.2.2.1≥v4.2.1))with
   |true=>
    some (false,())
   |false=>
    match cV (x.1.2.1,())with
    |none=>none
    |some v5=>
    some (((bits BinOp.and .i64 x.2.1.2.2.2.2.1 v5.1)==x.2.1.2.2.2.2.1),())
noncomputable def NG:ae:=⟨_,ao,.unit,rfl,ir⟩
theorem yY:FnOK G0 Tryz.prog 150 NG:=ak aj (sg FE (sg kM (sg RJ (aL)))) Tryz.func150
noncomputable def tc(x:Ty.T Fe):Option (Ty.T ao):=
match jx ((x.1.1,x.1.2.1,x.1.2.2.1,x.1.2.2.2.1,()),())with
|none=>none
|some v1=>
match v1.1 with
|true=>
 match ir ((x.1.1,x.1.2.1,x.1.2.2.1,x.1.2.2.2.1,()),(x.2.1.1,x.2.1.2.1,x.2.1.2.2.1,x.2.1.2.2.2.1,x.2.1.2.2.2.2.1,()),())with
 |none=>none
 |some v2=>
 some (v2.1,())
|false=>
 some (false,())
noncomputable def Dk:ae:=⟨_,ao,.unit,rfl,tc⟩
theorem NH:FnOK G0 Tryz.prog 93 Dk:=ak aj (sg zK (sg yY (aL))) Tryz.func93
abbrev uF:Ty:=(.pair (.box ah) (.pair (.box aB) (.pair (.box aB) (.pair (.own 2 (.int .i64)) (.pair (.int .i64) .unit)))))
abbrev Dl:Ty:=(.pair (.box ah) (.pair (.box aB) (.pair (.box aB) (.pair (.own 2 (.int .i64)) .unit))))
noncomputable def iO(x:(Ty.T uF)):Option ((Ty.T uF) ⊕ ((Ty.T Dl) ⊕ (Ty.T .unit))):=
match(decide (x.2.2.2.2.1>(0:Int)))with
|true=>
 match aa ((x.1.1,x.1.2.1,x.1.2.2.1,()),(256:Int),())with
 |none=>none
 |some v7=>
 aI (x.2.2.2.1.length+ [v7.1].length) (
  some (.inl ((v7.2.1.1,v7.2.1.2.1,v7.2.1.2.2.1,()),(x.2.1.1,x.2.1.2.1,(x.2.1.2.2.1.1,x.2.1.2.2.1.2.1,x.2.1.2.2.1.2.2.1,x.2.1.2.2.1.2.2.2.1,x.2.1.2.2.1.2.2.2.2.1,()),x.2.1.2.2.2.1,()),(x.2.2.1.1,x.2.2.1.2.1,(x.2.2.1.2.2.1.1,x.2.2.1.2.2.1.2.1,x.2.2.1.2.2.1.2.2.1,x.2.2.1.2.2.1.2.2.2.1,x.2.2.1.2.2.1.2.2.2.2.1,()),x.2.2.1.2.2.2.1,()),(x.2.2.2.1++ [v7.1]),(IntKind.i64.wrap (x.2.2.2.2.1-(1:Int))),())))
|false=>
 some (.inr (.inl ((x.1.1,x.1.2.1,x.1.2.2.1,()),(x.2.1.1,x.2.1.2.1,(x.2.1.2.2.1.1,x.2.1.2.2.1.2.1,x.2.1.2.2.1.2.2.1,x.2.1.2.2.1.2.2.2.1,x.2.1.2.2.1.2.2.2.2.1,()),x.2.1.2.2.2.1,()),(x.2.2.1.1,x.2.2.1.2.1,(x.2.2.1.2.2.1.1,x.2.2.1.2.2.1.2.1,x.2.2.1.2.2.1.2.2.1,x.2.2.1.2.2.1.2.2.2.1,x.2.2.1.2.2.1.2.2.2.2.1,()),x.2.2.1.2.2.2.1,()),x.2.2.2.1,())))
noncomputable def tN(x:Ty.T gB):Option (Ty.T abU):=
match aa ((x.1.1,x.1.2.1,x.1.2.2.1,()),(4:Int),())with
|none=>none
|some v1=>
match aa ((v1.2.1.1,v1.2.1.2.1,v1.2.1.2.2.1,()),(8:Int),())with
|none=>none
|some v2=>
match dP (v1.1,())with
|none=>none
|some v3=>
match v3.1 with
|true=>
 match ip ((v2.2.1.1,v2.2.1.2.1,v2.2.1.2.2.1,()),())with
 |none=>none
 |some v4=>
 match fZ (v1.1,())with
 |none=>none
 |some v5=>
 match v5.1 with
 |true=>
  match aa ((v4.2.1.1,v4.2.1.2.1,v4.2.1.2.2.1,()),(6:Int),())with
  |none=>none
  |some v6=>
  match ac iO ((v6.2.1.1,v6.2.1.2.1,v6.2.1.2.2.1,()),((0:Int),(0:Int),((0:Int),(0:Int),(0:Int),(0:Int),(0:Int),()),[],()),(v1.1,v2.1,(v4.1.1,v4.1.2.1,v4.1.2.2.1,v4.1.2.2.2.1,v4.1.2.2.2.2.1,()),[],()),[],(IntKind.i64.wrap ((1:Int)+v6.1)),())with
  |none=>none
  |some (.inl v8)=>
   match(v8.2.2.1.1==(3:Int))with
   |true=>
    match aa ((v8.1.1,v8.1.2.1,v8.1.2.2.1,()),(10:Int),())with
    |none=>none
    |some v10=>
    if(IntKind.u64.wrap v10.1)<0 then none else
    some ((v8.2.2.1.1,(0:Int),(v8.2.2.1.2.2.1.1,(0:Int),v8.2.2.1.2.2.1.2.2.1,v8.2.2.1.2.2.1.2.2.2.1,(IntKind.i64.wrap ((1:Int)*2^min (IntKind.u64.wrap v10.1).toNat IntKind.i64.bits)),()),v8.2.2.2.1,()),(v10.2.1.1,v10.2.1.2.1,v10.2.1.2.2.1,()),())
   |false=>
    some ((v8.2.2.1.1,v8.2.2.1.2.1,(v8.2.2.1.2.2.1.1,v8.2.2.1.2.2.1.2.1,v8.2.2.1.2.2.1.2.2.1,v8.2.2.1.2.2.1.2.2.2.1,v8.2.2.1.2.2.1.2.2.2.2.1,()),v8.2.2.2.1,()),(v8.1.1,v8.1.2.1,v8.1.2.2.1,()),())
  |some (.inr v11)=>
   none
 |false=>
  match(v1.1==(3:Int))with
  |true=>
   match aa ((v4.2.1.1,v4.2.1.2.1,v4.2.1.2.2.1,()),(10:Int),())with
   |none=>none
   |some v12=>
   if(IntKind.u64.wrap v12.1)<0 then none else
   some ((v1.1,(0:Int),(v4.1.1,(0:Int),v4.1.2.2.1,v4.1.2.2.2.1,(IntKind.i64.wrap ((1:Int)*2^min (IntKind.u64.wrap v12.1).toNat IntKind.i64.bits)),()),[],()),(v12.2.1.1,v12.2.1.2.1,v12.2.1.2.2.1,()),())
  |false=>
   some ((v1.1,v2.1,(v4.1.1,v4.1.2.1,v4.1.2.2.1,v4.1.2.2.2.1,v4.1.2.2.2.2.1,()),[],()),(v4.2.1.1,v4.2.1.2.1,v4.2.1.2.2.1,()),())
|false=>
 match fZ (v1.1,())with
 |none=>none
 |some v13=>
 match v13.1 with
 |true=>
  match aa ((v2.2.1.1,v2.2.1.2.1,v2.2.1.2.2.1,()),(6:Int),())with
  |none=>none
  |some v14=>
  match ac iO ((v14.2.1.1,v14.2.1.2.1,v14.2.1.2.2.1,()),((0:Int),(0:Int),((0:Int),(0:Int),(0:Int),(0:Int),(0:Int),()),[],()),(v1.1,v2.1,((0:Int),(0:Int),(0:Int),(0:Int),(0:Int),()),[],()),[],(IntKind.i64.wrap ((1:Int)+v14.1)),())with
  |none=>none
  |some (.inl v15)=>
   match(v15.2.2.1.1==(3:Int))with
   |true=>
    match aa ((v15.1.1,v15.1.2.1,v15.1.2.2.1,()),(10:Int),())with
    |none=>none
    |some v17=>
    if(IntKind.u64.wrap v17.1)<0 then none else
    some ((v15.2.2.1.1,(0:Int),(v15.2.2.1.2.2.1.1,(0:Int),v15.2.2.1.2.2.1.2.2.1,v15.2.2.1.2.2.1.2.2.2.1,(IntKind.i64.wrap ((1:Int)*2^min (IntKind.u64.wrap v17.1).toNat IntKind.i64.bits)),()),v15.2.2.2.1,()),(v17.2.1.1,v17.2.1.2.1,v17.2.1.2.2.1,()),())
   |false=>
    some ((v15.2.2.1.1,v15.2.2.1.2.1,(v15.2.2.1.2.2.1.1,v15.2.2.1.2.2.1.2.1,v15.2.2.1.2.2.1.2.2.1,v15.2.2.1.2.2.1.2.2.2.1,v15.2.2.1.2.2.1.2.2.2.2.1,()),v15.2.2.2.1,()),(v15.1.1,v15.1.2.1,v15.1.2.2.1,()),())
  |some (.inr v18)=>
   none
 |false=>
  match(v1.1==(3:Int))with
  |true=>
   match aa ((v2.2.1.1,v2.2.1.2.1,v2.2.1.2.2.1,()),(10:Int),())with
   |none=>none
   |some v19=>
   if(IntKind.u64.wrap v19.1)<0 then none else
   some ((v1.1,(0:Int),((0:Int),(0:Int),(0:Int),(0:Int),(IntKind.i64.wrap ((1:Int)*2^min (IntKind.u64.wrap v19.1).toNat IntKind.i64.bits)),()),[],()),(v19.2.1.1,v19.2.1.2.1,v19.2.1.2.2.1,()),())
  |false=>
   some ((v1.1,v2.1,((0:Int),(0:Int),(0:Int),(0:Int),(0:Int),()),[],()),(v2.2.1.1,v2.2.1.2.1,v2.2.1.2.2.1,()),())
noncomputable def TH:ae:=⟨_,Nn,gB,rfl,tN⟩
noncomputable def FG:FuncId→Option ae:=bC [(52,gg),(96,zJ),(154,Fl),(217,Ie)]
theorem NI:∀f s,FG f=some s→FnOK G0 Tryz.prog f s:=aD ⟨bK,xd,iK,mp,trivial⟩
def Dm:aO:=⟨[0,2,3,4,5],uF,0,[0,2,3,4],Dl,[],.unit⟩
noncomputable def FH:List aw:=[Dm.spec iO]
theorem Li:bg bi E0 FG (bc Tryz.f151 FH) Tryz.f151 0 Dm iO:=fun x=>by kernel_rfl
theorem RK:FnOK G0 Tryz.prog 151 TH:=aJ aj NI Tryz.func151 FH (by kernel_rfl) (by exact⟨(Li).lok,trivial⟩) fun x=>by kernel_rfl
abbrev mC:Ty:=(.pair (.box ah) (.pair (.own 2 (.int .i64)) (.pair (.int .i64) .unit)))
abbrev tO:Ty:=(.pair (.box ah) (.pair (.own 2 (.int .i64)) .unit))
noncomputable def ga(x:(Ty.T mC)):Option ((Ty.T mC) ⊕ ((Ty.T tO) ⊕ (Ty.T .unit))):=
match(decide (x.2.2.1>(0:Int)))with
|true=>
 match aa ((x.1.1,x.1.2.1,x.1.2.2.1,()),(256:Int),())with
 |none=>none
 |some v2=>
 aI (x.2.1.length+ [v2.1].length) (
  some (.inl ((v2.2.1.1,v2.2.1.2.1,v2.2.1.2.2.1,()),(x.2.1++ [v2.1]),(IntKind.i64.wrap (x.2.2.1-(1:Int))),())))
|false=>
 some (.inr (.inl ((x.1.1,x.1.2.1,x.1.2.2.1,()),x.2.1,())))
noncomputable def kO(x:Ty.T Rv):Option (Ty.T (.pair (.own 2 (.int .i64)) (.pair (.box ah) .unit))):=
match aa ((x.1.1,x.1.2.1,x.1.2.2.1,()),(IntKind.i64.wrap (x.2.1+(1:Int))),())with
|none=>none
|some v1=>
match ac ga ((v1.2.1.1,v1.2.1.2.1,v1.2.1.2.2.1,()),[],v1.1,())with
|none=>none
|some (.inl v3)=>
 match aa ((v3.1.1,v3.1.2.1,v3.1.2.2.1,()),(40:Int),())with
 |none=>none
 |some v5=>
 match(v5.1==(0:Int))with
 |true=>
  match aa ((v5.2.1.1,v5.2.1.2.1,v5.2.1.2.2.1,()),(2:Int),())with
  |none=>none
  |some v6=>
  ab (aq [(256:Int),(-1:Int)] v6.1) fun _=>
  match [(256:Int),(-1:Int)][v6.1.toNat]? with
  |none=>none
  |some v8=>
  aI (v3.2.1.length+ [v8].length) (
   some ((v3.2.1++ [v8]),(v6.2.1.1,v6.2.1.2.1,v6.2.1.2.2.1,()),()))
 |false=>
  match(v5.1==(1:Int))with
  |true=>
   match aa ((v5.2.1.1,v5.2.1.2.1,v5.2.1.2.2.1,()),(2:Int),())with
   |none=>none
   |some v9=>
   if 0≤(IntKind.i64.wrap ((1024:Int)+v9.1))∧(IntKind.i64.wrap ((1024:Int)+v9.1))≤(IntKind.i64.wrap ((1024:Int)+v9.1))then
    aI ((IntKind.i64.wrap ((1024:Int)+v9.1)).toNat) (
     some ((List.replicate (IntKind.i64.wrap ((1024:Int)+v9.1)).toNat (0:Int)),(v9.2.1.1,v9.2.1.2.1,v9.2.1.2.2.1,()),()))
   else none
  |false=>
   some (v3.2.1,(v5.2.1.1,v5.2.1.2.1,v5.2.1.2.2.1,()),())
|some (.inr v10)=>
 none
noncomputable def Jz:ae:=⟨_,a8,gB,rfl,kO⟩
noncomputable def vC:FuncId→Option ae:=bC [(52,gg)]
theorem Ez:∀f s,vC f=some s→FnOK G0 Tryz.prog f s:=aD ⟨bK,trivial⟩
def tP:aO:=⟨[0,5,6],mC,0,[0,5],tO,[],.unit⟩
noncomputable def vD:List aw:=[tP.spec ga]
theorem Cn:bg bi E0 vC (bc Tryz.f152 vD) Tryz.f152 0 tP ga:=fun x=>by kernel_rfl
theorem Hx:FnOK G0 Tryz.prog 152 Jz:=aJ aj Ez Tryz.func152 vD (by kernel_rfl) (by exact⟨(Cn).lok,trivial⟩) fun x=>by kernel_rfl
noncomputable def jy(x:Ty.T gB):Option (Ty.T abU):=
match tN ((x.1.1,x.1.2.1,x.1.2.2.1,()),())with
|none=>none
|some v1=>
match aa ((v1.2.1.1,v1.2.1.2.1,v1.2.1.2.2.1,()),(30:Int),())with
|none=>none
|some v2=>
match(v2.1==(0:Int))with
|true=>
 match aa ((v2.2.1.1,v2.2.1.2.1,v2.2.1.2.2.1,()),(6:Int),())with
 |none=>none
 |some v3=>
 some (((IntKind.i64.wrap (v3.1-(1:Int))),v1.1.2.1,(v1.1.2.2.1.1,v1.1.2.2.1.2.1,v1.1.2.2.1.2.2.1,v1.1.2.2.1.2.2.2.1,v1.1.2.2.1.2.2.2.2.1,()),v1.1.2.2.2.1,()),(v3.2.1.1,v3.2.1.2.1,v3.2.1.2.2.1,()),())
|false=>
 match(v2.1==(1:Int))with
 |true=>
  match aa ((v2.2.1.1,v2.2.1.2.1,v2.2.1.2.2.1,()),(3:Int),())with
  |none=>none
  |some v4=>
  ab (aq [(-1:Int),(1:Int),(8:Int)] v4.1) fun _=>
  match [(-1:Int),(1:Int),(8:Int)][v4.1.toNat]? with
  |none=>none
  |some v6=>
  some ((v1.1.1,v6,(v1.1.2.2.1.1,v1.1.2.2.1.2.1,v1.1.2.2.1.2.2.1,v1.1.2.2.1.2.2.2.1,v1.1.2.2.1.2.2.2.2.1,()),v1.1.2.2.2.1,()),(v4.2.1.1,v4.2.1.2.1,v4.2.1.2.2.1,()),())
 |false=>
  match(v2.1==(2:Int))with
  |true=>
   match mv ((v2.2.1.1,v2.2.1.2.1,v2.2.1.2.2.1,()),())with
   |none=>none
   |some v7=>
   some ((v1.1.1,v1.1.2.1,(v7.1.1,v7.1.2.1,v7.1.2.2.1,v7.1.2.2.2.1,v7.1.2.2.2.2.1,()),v1.1.2.2.2.1,()),(v7.2.1.1,v7.2.1.2.1,v7.2.1.2.2.1,()),())
  |false=>
   match(v2.1==(3:Int))with
   |true=>
    match kO ((v2.2.1.1,v2.2.1.2.1,v2.2.1.2.2.1,()),(3:Int),())with
    |none=>none
    |some v8=>
    some ((v1.1.1,v1.1.2.1,(v1.1.2.2.1.1,v1.1.2.2.1.2.1,v1.1.2.2.1.2.2.1,v1.1.2.2.1.2.2.2.1,v1.1.2.2.1.2.2.2.2.1,()),v8.1,()),(v8.2.1.1,v8.2.1.2.1,v8.2.1.2.2.1,()),())
   |false=>
    match(v2.1==(4:Int))with
    |true=>
     match aa ((v2.2.1.1,v2.2.1.2.1,v2.2.1.2.2.1,()),(2:Int),())with
     |none=>none
     |some v9=>
     if 0≤(IntKind.i64.wrap ((32:Int)+v9.1))∧(IntKind.i64.wrap ((32:Int)+v9.1))≤(IntKind.i64.wrap ((32:Int)+v9.1))then
      aI ((IntKind.i64.wrap ((32:Int)+v9.1)).toNat) (
       some ((v1.1.1,v1.1.2.1,(v1.1.2.2.1.1,v1.1.2.2.1.2.1,v1.1.2.2.1.2.2.1,v1.1.2.2.1.2.2.2.1,v1.1.2.2.1.2.2.2.2.1,()),(List.replicate (IntKind.i64.wrap ((32:Int)+v9.1)).toNat (0:Int)),()),(v9.2.1.1,v9.2.1.2.1,v9.2.1.2.2.1,()),()))
     else none
    |false=>
     some ((v1.1.1,v1.1.2.1,(v1.1.2.2.1.1,v1.1.2.2.1.2.1,v1.1.2.2.1.2.2.1,v1.1.2.2.1.2.2.2.1,v1.1.2.2.1.2.2.2.2.1,()),v1.1.2.2.2.1,()),(v2.2.1.1,v2.2.1.2.1,v2.2.1.2.2.1,()),())
noncomputable def AJ:ae:=⟨_,Nn,gB,rfl,jy⟩
theorem Lj:FnOK G0 Tryz.prog 94 AJ:=ak aj (sg bK (sg yN (sg RK (sg Hx (aL))))) Tryz.func94
abbrev si:Ty:=ab8
noncomputable def jm(x:(Ty.T si)):Option ((Ty.T si) ⊕ ((Ty.T a8) ⊕ (Ty.T .unit))):=
match(decide (x.1>(0:Int)))with
|true=>
 aI (x.2.2.1.length+ [x.2.1].length) (
  some (.inl ((IntKind.i64.wrap (x.1-(1:Int))),x.2.1,(x.2.2.1++ [x.2.1]),())))
|false=>
 some (.inr (.inl (x.2.2.1,())))
noncomputable def fL(x:Ty.T bB):Option (Ty.T a8):=
match ac jm (x.1,x.2.1,[],())with
|none=>none
|some (.inl v1)=>
 some (v1.1,())
|some (.inr v3)=>
 none
noncomputable def FI:ae:=⟨_,a8,.unit,rfl,fL⟩
noncomputable def Dn:FuncId→Option ae:=bC []
theorem Lk:∀f s,Dn f=some s→FnOK G0 Tryz.prog f s:=aD trivial
def AK:aO:=⟨[0,1,5],si,0,[5],a8,[],.unit⟩
noncomputable def Dp:List aw:=[AK.spec jm]
theorem JA:bg bi E0 Dn (bc Tryz.f153 Dp) Tryz.f153 0 AK jm:=fun x=>by kernel_rfl
theorem o7:FnOK G0 Tryz.prog 153 FI:=aJ aj Lk Tryz.func153 Dp (by kernel_rfl) (by exact⟨(JA).lok,trivial⟩) fun x=>by kernel_rfl
noncomputable def b7(x:Ty.T (.pair an adh)):Option (Ty.T aci):=
match iq (x.1,x.2.1,())with
|none=>none
|some v1=>
aX (
 match fL (v1.1.2.2.1,x.2.2.1,())with
 |none=>none
 |some v2=>
 match dP (v1.1.2.1,())with
 |none=>none
 |some v3=>
 match v3.1 with
 |true=>
  some ((v1.1.2.1,x.2.2.2.1,x.2.1,v2.1,()),())
 |false=>
  some ((v1.1.2.1,x.2.2.2.1,((0:Int),(0:Int),(0:Int),(0:Int),(0:Int),()),v2.1,()),()))
noncomputable def FJ:ae:=⟨_,aci,.unit,rfl,b7⟩
theorem PU:FnOK G0 Tryz.prog 95 FJ:=ak aj (sg mB (sg o7 (sg iK (aL)))) Tryz.func95
end Go.Proofs.YtkgcbbkodalfmaaGreatDoor
