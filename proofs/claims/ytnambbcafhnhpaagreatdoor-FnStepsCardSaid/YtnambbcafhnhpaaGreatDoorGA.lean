import Derived.Test.YtnambbcafhnhpaaGreatDoorSho
import Derived.Test.YtnambbcafhnhpaaGreatDoorDelW
import Derived.Test.YtnambbcafhnhpaaGreatDoorInsW
import Derived.Test.YtnambbcafhnhpaaGreatDoorLibS
import Derived.Test.YtnambbcafhnhpaaGreatDoorRepW
import Derived.Test.YtnambbcafhnhpaaGreatDoorSh
import Derived.Test.YtnambbcafhnhpaaGreatDoorTdW
import Derived.Test.YtnambbcafhnhpaaGreatDoorTrW
import Derived.Test.YtnambbcafhnhpaaGreatDoorProg
import Derived.KernelRfl
namespace Go.Proofs.YtnambbcafhnhpaaGreatDoor
open Go.RowKit
set_option linter.unusedVariables false
abbrev aA:Ty:=(.pair (.int .i64) (.pair (.list (.pair (.int .i64) (.pair .str (.pair (.int .i64) (.pair .bool .unit))))) (.pair (.list (.pair (.int .i64) (.pair (.int .i64) (.pair (.list (.int .i64)) .unit)))) (.pair (.list (.pair (.int .i64) (.pair (.int .i64) (.pair (.int .i64) (.pair (.pair (.int .i64) (.pair (.int .i64) (.pair (.int .i64) (.pair (.int .i64) (.pair .bool .unit))))) .unit))))) .unit))))
abbrev ao:Ty:=(.pair (.int .i64) (.pair (.int .i64) (.pair (.int .i64) (.pair (.int .i64) (.pair (.int .i64) .unit)))))
abbrev bI:Ty:=(.pair (.int .i64) (.pair (.int .i64) (.pair (.list (.pair (.int .i64) (.pair (.int .i64) (.pair (.int .i64) (.pair (.int .i64) .unit))))) (.pair (.list (.pair (.int .i64) (.pair (.int .i64) (.pair (.int .i64) (.pair (.int .i64) .unit))))) .unit))))
abbrev bp:Ty:=(.pair (.int .i64) (.pair (.int .i64) (.pair ao (.pair (.list (.int .i64)) .unit))))
abbrev cP:Ty:=(.pair (.int .i64) (.pair bp .unit))
abbrev cq:Ty:=(.pair (.int .i64) (.pair (.int .i64) (.pair (.int .i64) (.pair (.int .i64) (.pair .bool .unit)))))
abbrev bk:Ty:=(.pair (.int .i64) (.pair (.int .i64) (.pair (.int .i64) (.pair (.int .i64) .unit))))
abbrev Fy:Ty:=(.pair (.list (.int .u8)) (.pair (.int .i64) (.pair (.int .u64) .unit)))
abbrev aF:Ty:=(.pair (.list (.int .u8)) (.pair (.int .i64) (.pair (.int .i64) .unit)))
abbrev aR:Ty:=(.pair (.int .i64) (.pair (.int .i64) (.pair (.list (.int .i64)) .unit)))
abbrev az:Ty:=(.pair (.int .i64) (.pair (.int .i64) (.pair (.int .i64) (.pair cq .unit))))
abbrev aL:Ty:=(.pair (.int .i64) (.pair .str (.pair (.int .i64) (.pair .bool .unit))))
abbrev bM:Ty:=(.pair (.int .i64) (.pair (.int .i64) .unit))
abbrev tv:Ty:=(.pair (.int .i64) (.pair (.list (.int .i64)) (.pair (.int .i64) .unit)))
abbrev sL:Ty:=(.pair (.list (.int .i64)) (.pair (.int .i64) (.pair (.list (.int .i64)) .unit)))
abbrev tw:Ty:=(.pair .str .unit)
abbrev ZU:Ty:=(.pair bM .unit)
abbrev aE:Ty:=(.pair .bool .unit)
abbrev uJ:Ty:=(.pair aA .unit)
abbrev ZV:Ty:=(.pair bI .unit)
abbrev xt:Ty:=(.pair ao .unit)
abbrev Vn:Ty:=(.pair bk .unit)
abbrev ZW:Ty:=(.pair bp .unit)
abbrev ac3:Ty:=(.pair az .unit)
abbrev aV:Ty:=(.pair (.int .i64) .unit)
abbrev xu:Ty:=(.pair (.box aA) bM)
abbrev IH:Ty:=(.pair cq .unit)
abbrev ac4:Ty:=(.pair (.ptr aA) bM)
abbrev Ra:Ty:=(.pair (.box Fy) .unit)
abbrev ac5:Ty:=(.pair (.list bI) bM)
abbrev Vo:Ty:=(.pair (.box aA) bk)
abbrev ac6:Ty:=(.pair (.box aA) ao)
abbrev ZX:Ty:=(.pair (.list bk) .unit)
abbrev ZY:Ty:=(.pair (.ptr sL) bM)
abbrev Rb:Ty:=(.pair (.list aL) bM)
abbrev kJ:Ty:=(.pair (.box aF) .unit)
abbrev Rc:Ty:=(.pair (.list aL) .unit)
abbrev Vp:Ty:=(.pair (.list az) .unit)
abbrev ZZ:Ty:=(.pair (.list aR) .unit)
abbrev afP:Ty:=(.pair .str (.pair .str .unit))
abbrev vP:Ty:=(.pair (.list (.int .i64)) bM)
abbrev Z0:Ty:=(.pair (.list (.int .u8)) .unit)
abbrev ac7:Ty:=(.pair (.list az) bk)
abbrev fg:Ty:=(.pair (.list (.int .i64)) .unit)
abbrev MK:Ty:=(.pair (.own 2 (.int .i64)) bM)
abbrev afQ:Ty:=(.pair .bool (.pair .bool .unit))
abbrev afR:Ty:=(.pair aA (.pair ao bM))
abbrev bu:Ty:=(.pair (.own 2 (.int .i64)) .unit)
abbrev wM:Ty:=(.pair aA (.pair ao .unit))
abbrev Z1:Ty:=(.pair (.own 107 az) .unit)
abbrev ac8:Ty:=(.pair (.list (.int .i64)) bk)
abbrev afS:Ty:=(.pair (.own 123 aL) .unit)
abbrev ac9:Ty:=(.pair bp (.pair bp .unit))
abbrev ada:Ty:=(.pair .str (.pair (.int .i64) .unit))
abbrev afT:Ty:=(.pair aA (.pair (.int .i64) .unit))
abbrev aei:Ty:=(.pair cP (.pair cP .unit))
abbrev aej:Ty:=(.pair ao (.pair (.int .i64) bM))
abbrev adb:Ty:=(.pair cq (.pair bp .unit))
abbrev afU:Ty:=(.pair bp (.pair (.int .i64) .unit))
abbrev aek:Ty:=(.pair ao (.pair (.int .i64) .unit))
abbrev afV:Ty:=(.pair az (.pair az .unit))
abbrev ael:Ty:=(.pair tv (.pair (.int .i64) .unit))
abbrev adc:Ty:=(.pair (.box aA) (.pair (.int .i64) bM))
abbrev aem:Ty:=(.pair cq (.pair (.int .i64) .unit))
abbrev Z2:Ty:=(.pair (.box aA) (.pair (.int .i64) .unit))
abbrev afW:Ty:=(.pair ao (.pair (.box aF) .unit))
abbrev afX:Ty:=(.pair (.ptr aA) (.pair (.int .i64) .unit))
abbrev afY:Ty:=(.pair bk (.pair (.box aF) .unit))
abbrev aen:Ty:=(.pair (.int .i64) (.pair (.box Fy) .unit))
abbrev II:Ty:=(.pair aA (.pair ao (.pair bI .unit)))
abbrev afZ:Ty:=(.pair (.box aA) (.pair (.box ao) .unit))
abbrev aeo:Ty:=(.pair (.list (.int .i64)) (.pair bk .unit))
abbrev Rd:Ty:=(.pair aA (.pair ao (.pair bp .unit)))
abbrev af0:Ty:=(.pair (.list az) (.pair (.int .i64) bM))
abbrev Z3:Ty:=(.pair (.box aF) (.pair (.int .i64) .unit))
abbrev ade:Ty:=(.pair (.nptr sL) (.pair (.int .i64) .unit))
abbrev af3:Ty:=(.pair cq (.pair (.box aF) .unit))
abbrev af4:Ty:=(.pair (.list aL) (.pair (.int .i64) .unit))
abbrev af5:Ty:=(.pair (.list aR) (.pair (.int .i64) .unit))
abbrev af6:Ty:=(.pair (.box aA) (.pair (.list aR) bM))
abbrev adf:Ty:=(.pair (.list (.int .i64)) (.pair (.int .i64) bM))
abbrev y7:Ty:=(.pair (.list (.int .i64)) (.pair (.int .i64) .unit))
abbrev oY:Ty:=(.pair (.own 2 (.int .i64)) (.pair (.int .i64) .unit))
abbrev adg:Ty:=(.pair (.list (.int .i64)) (.pair (.box bk) bM))
abbrev af7:Ty:=(.pair bp (.pair (.int .i64) (.pair ao .unit)))
abbrev adh:Ty:=(.pair (.box aF) (.pair (.own 56 bk) .unit))
abbrev af8:Ty:=(.pair aA (.pair ao (.pair (.list bI) .unit)))
abbrev aep:Ty:=(.pair (.list (.int .i64)) (.pair (.list bk) .unit))
abbrev af9:Ty:=(.pair (.int .i64) (.pair (.int .i64) (.pair .bool .unit)))
abbrev aga:Ty:=(.pair (.own 123 aL) (.pair (.box aF) .unit))
abbrev Vq:Ty:=(.pair (.list (.int .i64)) (.pair (.list (.int .i64)) .unit))
abbrev adi:Ty:=(.pair (.own 2 (.int .i64)) (.pair (.list (.int .i64)) bM))
abbrev agb:Ty:=(.pair (.list (.int .i64)) (.pair (.own 2 (.int .i64)) bM))
abbrev Vr:Ty:=(.pair aA (.pair ao (.pair (.list (.int .i64)) .unit)))
abbrev agc:Ty:=(.pair bM (.pair (.int .i64) (.pair (.list (.int .i64)) .unit)))
abbrev aeq:Ty:=(.pair (.list (.int .i64)) (.pair (.int .i64) (.pair ao .unit)))
abbrev agd:Ty:=(.pair (.box aA) (.pair (.int .i64) (.pair (.list aR) bM)))
abbrev adj:Ty:=(.pair (.int .i64) (.pair (.own 2 (.int .i64)) (.pair (.int .i64) .unit)))
abbrev adk:Ty:=(.pair (.list (.int .i64)) (.pair (.box bk) (.pair (.int .i64) bM)))
abbrev age:Ty:=(.pair (.int .i64) (.pair (.int .i64) (.pair (.own 2 (.int .i64)) .unit)))
abbrev agf:Ty:=(.pair (.list bI) (.pair (.fn (.pair bI .unit) (.pair .bool .unit)) .unit))
abbrev aer:Ty:=(.pair (.list (.int .i64)) (.pair (.list (.int .i64)) (.pair (.int .i64) .unit)))
abbrev Vs:Ty:=(.pair (.list (.int .i64)) (.pair (.own 2 (.int .i64)) (.pair (.int .i64) .unit)))
abbrev agh:Ty:=(.pair (.list bk) (.pair (.fn (.pair bk .unit) (.pair .bool .unit)) .unit))
abbrev aes:Ty:=(.pair (.own 2 (.int .i64)) (.pair (.int .i64) (.pair (.own 2 (.int .i64)) .unit)))
abbrev agi:Ty:=(.pair (.int .i64) (.pair (.list (.int .i64)) (.pair (.int .i64) (.pair ao .unit))))
abbrev agj:Ty:=(.pair (.list aL) (.pair (.fn (.pair aL .unit) (.pair .bool .unit)) .unit))
abbrev agk:Ty:=(.pair (.list az) (.pair (.fn (.pair az .unit) (.pair .bool .unit)) .unit))
abbrev aet:Ty:=(.pair (.list (.int .i64)) (.pair (.list (.int .i64)) (.pair (.own 2 (.int .i64)) bM)))
abbrev Vt:Ty:=(.pair (.box bk) (.pair (.int .i64) (.pair (.own 2 (.int .i64)) (.pair (.int .i64) .unit))))
abbrev agl:Ty:=(.pair (.own 90 (.pair (.int .i64) (.pair (.int .i64) (.pair (.own 2 (.int .i64)) .unit)))) .unit)
abbrev Z4:Ty:=(.pair (.pair (.int .i64) (.pair (.int .i64) (.pair ao (.pair (.own 2 (.int .i64)) .unit)))) .unit)
abbrev adl:Ty:=(.pair (.box (.pair (.list (.int .i64)) (.pair (.int .i64) (.pair (.own 2 (.int .i64)) .unit)))) .unit)
abbrev adm:Ty:=(.pair (.list (.int .i64)) (.pair (.list (.int .i64)) (.pair (.own 2 (.int .i64)) (.pair (.int .i64) .unit))))
abbrev Z5:Ty:=(.pair (.pair (.int .i64) (.pair (.int .i64) (.pair ao (.pair (.own 2 (.int .i64)) .unit)))) (.pair .bool .unit))
abbrev Z6:Ty:=(.pair (.pair (.int .i64) (.pair (.int .i64) (.pair ao (.pair (.own 2 (.int .i64)) .unit)))) (.pair (.int .i64) .unit))
abbrev agm:Ty:=(.pair (.box (.pair (.list (.int .i64)) (.pair (.int .i64) (.pair (.own 2 (.int .i64)) .unit)))) (.pair (.int .i64) .unit))
abbrev aeu:Ty:=(.pair (.int .i64) (.pair (.box (.pair (.list (.int .i64)) (.pair (.int .i64) (.pair (.own 2 (.int .i64)) .unit)))) .unit))
abbrev agn:Ty:=(.pair (.own 90 (.pair (.int .i64) (.pair (.int .i64) (.pair (.own 2 (.int .i64)) .unit)))) (.pair (.box aF) .unit))
abbrev adn:Ty:=(.pair (.pair (.int .i64) (.pair (.own 123 aL) (.pair (.own 90 aR) (.pair (.own 107 az) .unit)))) .unit)
abbrev Z7:Ty:=(.pair (.pair (.int .i64) (.pair (.pair (.int .i64) (.pair (.int .i64) (.pair ao (.pair (.own 2 (.int .i64)) .unit)))) .unit)) .unit)
abbrev Z8:Ty:=(.pair (.pair (.int .i64) (.pair (.pair (.int .i64) (.pair (.int .i64) (.pair ao (.pair (.own 2 (.int .i64)) .unit)))) .unit)) (.pair ao .unit))
abbrev wN:Ty:=(.pair (.pair (.int .i64) (.pair (.pair (.int .i64) (.pair (.int .i64) (.pair ao (.pair (.own 2 (.int .i64)) .unit)))) .unit)) (.pair (.int .i64) .unit))
abbrev ago:Ty:=(.pair (.box aF) (.pair (.box aA) (.pair (.own 123 aL) (.pair (.own 2 (.int .i64)) (.pair (.own 90 aR) (.pair (.own 107 az) bM))))))
abbrev Vu:Ty:=(.pair (.pair (.int .i64) (.pair (.pair (.int .i64) (.pair (.int .i64) (.pair ao (.pair (.own 2 (.int .i64)) .unit)))) .unit)) (.pair ao (.pair (.int .i64) .unit)))
abbrev Vv:Ty:=(.pair (.list (.int .u8)) (.pair (.box aA) (.pair (.box ao) (.pair (.box bI) (.pair (.box cq) (.pair (.box bp) (.pair (.own 2 (.int .i64)) (.pair (.int .i64) .unit))))))))
abbrev aev:Ty:=(.pair (.pair (.int .i64) (.pair (.pair (.int .i64) (.pair (.int .i64) (.pair ao (.pair (.own 2 (.int .i64)) .unit)))) .unit)) (.pair (.pair (.int .i64) (.pair (.pair (.int .i64) (.pair (.int .i64) (.pair ao (.pair (.own 2 (.int .i64)) .unit)))) .unit)) .unit))
abbrev ado:Ty:=(.pair (.box aF) (.pair (.box aA) (.pair (.own 123 aL) (.pair (.own 2 (.int .i64)) (.pair (.own 90 aR) (.pair (.own 107 az) (.pair (.int .i64) (.pair (.int .i64) (.pair (.box aR) (.pair (.own 2 (.int .i64)) (.pair (.int .i64) .unit)))))))))))
abbrev adp:Ty:=(.pair (.box cq) (.pair (.box bp) (.pair (.own 2 (.int .i64)) (.pair (.int .i64) (.pair (.box (.pair (.int .i64) (.pair (.pair (.int .i64) (.pair (.int .i64) (.pair ao (.pair (.own 2 (.int .i64)) .unit)))) .unit))) (.pair (.box ao) (.pair (.int .i64) .unit)))))))
def bL:cD:=[(2,(.int .i64)),(3,(.int .i64)),(4,.bool),(5,(.int .u8)),(9,.str),(22,(.list (.int .u8))),(24,(.list aL)),(25,(.list aR)),(26,(.list az)),(28,aA),(30,ao),(31,(.list bk)),(33,bI),(36,(.list (.int .i64))),(38,bp),(40,cP),(46,cq),(56,bk),(59,(.int .u64)),(68,(.list bI)),(81,Fy),(82,(.int .u64)),(85,aF),(90,aR),(107,az),(123,aL),(148,(.list (.list (.int .i64)))),(155,(.list .str)),(174,bM),(181,tv),(214,sL)]
def E0:bR:=[(22,5),(24,123),(25,90),(26,107),(31,56),(36,2),(68,33),(148,36),(155,9)]
theorem av:cH Tryz.prog bL E0=true:=by kernel_rfl
def Γ1:cD:=[(2,(.int .i64)),(2,(.int .i64)),(4,.bool),(24,(.list aL)),(25,(.list aR)),(26,(.list az)),(28,aA),(36,(.list (.int .i64))),(46,cq),(90,aR),(107,az),(123,aL)]
def E1:bR:=[(24,123),(25,90),(26,107),(36,2)]
theorem ahC:cH Tryz.prog Γ1 E1=true:=by kernel_rfl
def Γ2:cD:=[(2,(.int .i64)),(25,(.list age)),(36,(.list (.int .i64))),(90,aR)]
def E2:bR:=[(25,90),(36,2)]
theorem agq:cH Tryz.prog Γ2 E2=true:=by kernel_rfl
def OE:cD:=[(2,(.int .i64)),(4,.bool),(4,.bool),(28,aA),(30,ao),(31,(.list bk)),(33,bI),(36,(.list (.int .i64))),(38,bp),(40,cP),(46,cq),(56,bk)]
def E3:bR:=[(31,56)]
theorem ahD:cH Tryz.prog OE E3=true:=by kernel_rfl
abbrev G0:Gl:=Gl.none
noncomputable def KI(x:Ty.T Z0):Option (Ty.T aE):=
some ((decide ((x.1.length:Int)>(4096:Int))),())
noncomputable def YM:ai:=⟨_,aE,.unit,rfl,KI⟩
theorem adq:FnOK G0 Tryz.prog 4 YM:=au av ba Tryz.func4
abbrev wO:Ty:=(.pair (.list (.int .u8)) (.pair (.box aF) (.pair (.int .i64) .unit)))
noncomputable def kd(x:(Ty.T wO)):Option ((Ty.T wO) ⊕ ((Ty.T kJ) ⊕ (Ty.T .unit))):=
match(decide (x.2.2.1<(x.1.length:Int)))with
|true=>
 match(decide (x.2.2.1<(64:Int)))with
 |true=>
  ac (aI x.1 x.2.2.1) fun v1=>
  some (.inl (x.1,(x.2.1.1,x.2.1.2.1,(Int.tmod (IntKind.i64.wrap ((IntKind.i64.wrap (x.2.1.2.2.1*(53:Int)))+(IntKind.i64.wrap v1))) (2147483647:Int)),()),(IntKind.i64.wrap (x.2.2.1+(1:Int))),()))
 |false=>
  some (.inr (.inl ((x.2.1.1,x.2.1.2.1,x.2.1.2.2.1,()),())))
|false=>
 some (.inr (.inl ((x.2.1.1,x.2.1.2.1,x.2.1.2.2.1,()),())))
noncomputable def AS(x:Ty.T Z0):Option (Ty.T kJ):=
match ak kd (x.1,(x.1,(0:Int),(40009:Int),()),(0:Int),())with
|none=>none
|some (.inl v2)=>
 some ((v2.1.1,v2.1.2.1,v2.1.2.2.1,()),())
|some (.inr v4)=>
 none
noncomputable def Xs:ai:=⟨_,kJ,.unit,rfl,AS⟩
noncomputable def IJ:FuncId→Option ai:=ca []
theorem Re:∀f s,IJ f=some s→FnOK G0 Tryz.prog f s:=aX trivial
def Gp:bg:=⟨[0,3,4],wO,0,[3],kJ,[],.unit⟩
noncomputable def IK:List aM:=[Gp.spec kd]
theorem OG:bJ bL E0 IJ (bF Tryz.f19 IK) Tryz.f19 0 Gp kd:=fun x=>by kernel_rfl
theorem Vw:FnOK G0 Tryz.prog 19 Xs:=bb av Re Tryz.func19 IK (by kernel_rfl) (by exact⟨(OG).lok,trivial⟩) fun x=>by kernel_rfl
noncomputable def al(x:Ty.T Z3):Option (Ty.T (.pair (.int .i64) (.pair (.box aF) .unit))):=
match(decide (x.2.1≤(1:Int)))with
|true=>
 some ((0:Int),(x.1.1,x.1.2.1,x.1.2.2.1,()),())
|false=>
 match(decide (x.1.2.1<(x.1.1.length:Int)))with
 |true=>
  ac (aI x.1.1 x.1.2.1) fun v1=>
  match(decide (x.2.1≤(256:Int)))with
  |true=>
   match((Int.tmod (IntKind.i64.wrap (x.1.2.1+(1:Int))) (2:Int))==(0:Int))with
   |true=>
    ac (aI x.1.1 (IntKind.i64.wrap ((IntKind.i64.wrap (x.1.2.1+(1:Int)))-(1:Int)))) fun v2=>
    if x.2.1=0 then none else
    some ((Int.tmod (IntKind.i64.wrap v2) x.2.1),(x.1.1,(IntKind.i64.wrap (x.1.2.1+(1:Int))),(Int.tmod (IntKind.i64.wrap ((IntKind.i64.wrap (x.1.2.2.1*(48271:Int)))+(17:Int))) (2147483647:Int)),()),())
   |false=>
    if x.2.1=0 then none else
    some ((Int.tmod (IntKind.i64.wrap ((IntKind.i64.wrap (Int.tdiv (Int.tmod (IntKind.i64.wrap ((IntKind.i64.wrap (x.1.2.2.1*(48271:Int)))+(17:Int))) (2147483647:Int)) (23:Int)))+(IntKind.i64.wrap v1))) x.2.1),(x.1.1,(IntKind.i64.wrap (x.1.2.1+(1:Int))),(Int.tmod (IntKind.i64.wrap ((IntKind.i64.wrap (x.1.2.2.1*(48271:Int)))+(17:Int))) (2147483647:Int)),()),())
  |false=>
   if x.2.1=0 then none else
   some ((Int.tmod (IntKind.i64.wrap ((IntKind.i64.wrap (Int.tdiv (Int.tmod (IntKind.i64.wrap ((IntKind.i64.wrap (x.1.2.2.1*(48271:Int)))+(17:Int))) (2147483647:Int)) (23:Int)))+(IntKind.i64.wrap v1))) x.2.1),(x.1.1,(IntKind.i64.wrap (x.1.2.1+(1:Int))),(Int.tmod (IntKind.i64.wrap ((IntKind.i64.wrap (x.1.2.2.1*(48271:Int)))+(17:Int))) (2147483647:Int)),()),())
 |false=>
  if x.2.1=0 then none else
  some ((Int.tmod (IntKind.i64.wrap (Int.tdiv (Int.tmod (IntKind.i64.wrap ((IntKind.i64.wrap (x.1.2.2.1*(48271:Int)))+(17:Int))) (2147483647:Int)) (23:Int))) x.2.1),(x.1.1,x.1.2.1,(Int.tmod (IntKind.i64.wrap ((IntKind.i64.wrap (x.1.2.2.1*(48271:Int)))+(17:Int))) (2147483647:Int)),()),())
noncomputable def oI:ai:=⟨_,aV,kJ,rfl,al⟩
theorem dq:FnOK G0 Tryz.prog 45 oI:=au av ba Tryz.func45
noncomputable def ph(x:Ty.T bM):Option (Ty.T aE):=
if(IntKind.u64.wrap x.2.1)<0 then none else
some (((bits BinOp.and .i64 (Int.fdiv x.1 (2^min (IntKind.u64.wrap x.2.1).toNat IntKind.i64.bits)) (1:Int))==(1:Int)),())
noncomputable def Fz:ai:=⟨_,aE,.unit,rfl,ph⟩
theorem BN:FnOK G0 Tryz.prog 106 Fz:=au av ba Tryz.func106
noncomputable def kY(x:Ty.T af9):Option (Ty.T aV):=
match ph (x.1,x.2.1,())with
|none=>none
|some v1=>
match(v1.1==x.2.2.1)with
|true=>
 some (x.1,())
|false=>
 if(IntKind.u64.wrap x.2.1)<0 then none else
 some ((bits BinOp.xor .i64 x.1 (IntKind.i64.wrap ((1:Int)*2^min (IntKind.u64.wrap x.2.1).toNat IntKind.i64.bits))),())
noncomputable def FA:ai:=⟨_,aV,.unit,rfl,kY⟩
theorem BO:FnOK G0 Tryz.prog 60 FA:=au av (sg BN (ba)) Tryz.func60
noncomputable def dv(x:(Ty.T Rb)):Option ((Ty.T Rb) ⊕ ((Ty.T aV) ⊕ (Ty.T .unit))):=
match(decide (x.2.2.1<(x.1.length:Int)))with
|true=>
 ac (aI x.1 x.2.2.1) fun v1=>
 match(!v1.2.2.2.1)with
 |true=>
  ac (aI x.1 x.2.2.1) fun v2=>
  match kY (x.2.1,v2.1,true,())with
  |none=>none
  |some v3=>
  some (.inl (x.1,v3.1,(IntKind.i64.wrap (x.2.2.1+(1:Int))),()))
 |false=>
  some (.inl (x.1,x.2.1,(IntKind.i64.wrap (x.2.2.1+(1:Int))),()))
|false=>
 some (.inr (.inl (x.2.1,())))
noncomputable def du(x:Ty.T Rc):Option (Ty.T aV):=
match ak dv (x.1,(0:Int),(0:Int),())with
|none=>none
|some (.inl v4)=>
 some (v4.1,())
|some (.inr v6)=>
 none
noncomputable def rH:ai:=⟨_,aV,.unit,rfl,du⟩
noncomputable def Dh:FuncId→Option ai:=ca [(60,FA)]
theorem ML:∀f s,Dh f=some s→FnOK G0 Tryz.prog f s:=aX ⟨BO,trivial⟩
def AU:bg:=⟨[0,3,4],Rb,0,[3],aV,[],.unit⟩
noncomputable def Di:List aM:=[AU.spec dv]
theorem K2:bJ bL E0 Dh (bF Tryz.f46 Di) Tryz.f46 0 AU dv:=fun x=>by kernel_rfl
theorem m4:FnOK G0 Tryz.prog 46 rH:=bb av ML Tryz.func46 Di (by kernel_rfl) (by exact⟨(K2).lok,trivial⟩) fun x=>by kernel_rfl
noncomputable def BP(x:Ty.T .unit):Option (Ty.T adn):=
some (((77:Int),[((0:Int),([97]:List UInt8),(100:Int),false,()),((1:Int),([98]:List UInt8),(50:Int),false,())],[((2:Int),(2:Int),[(1:Int)],()),((1:Int),(2:Int),[(0:Int)],())],[((0:Int),(0:Int),(0:Int),((0:Int),(3:Int),(0:Int),(200:Int),false,()),()),((0:Int),(0:Int),(1:Int),((1:Int),(1:Int),(0:Int),(200:Int),false,()),()),((0:Int),(1:Int),(0:Int),((0:Int),(0:Int),(4:Int),(200:Int),true,()),()),((0:Int),(1:Int),(1:Int),((1:Int),(0:Int),(2:Int),(200:Int),false,()),()),((1:Int),(0:Int),(0:Int),((1:Int),(2:Int),(3:Int),(300:Int),true,()),()),((1:Int),(0:Int),(1:Int),((0:Int),(0:Int),(0:Int),(150:Int),false,()),())],()),())
noncomputable def Gq:ai:=⟨_,adn,.unit,rfl,BP⟩
theorem Rf:FnOK G0 Tryz.prog 135 Gq:=au av ba Tryz.func135
noncomputable def lT(rec:Ty.T aV→Option (Ty.T tw))(x:Ty.T aV):Option (Ty.T tw):=
match(decide (x.1<(10:Int)))with
|true=>
 some ((List.map (fun n=>UInt8.ofNat (Int.toNat n)) ([(IntKind.u8.wrap (IntKind.i64.wrap ((48:Int)+x.1)))]:List Int)),())
|false=>
 aD (
  match rec ((IntKind.i64.wrap (Int.tdiv x.1 (10:Int))),())with
  |none=>none
  |some v1=>
  bd (v1.1.length+(List.map (fun n=>UInt8.ofNat (Int.toNat n)) ([(IntKind.u8.wrap (IntKind.i64.wrap ((48:Int)+(Int.tmod x.1 (10:Int)))))]:List Int)).length) (
   some ((v1.1++(List.map (fun n=>UInt8.ofNat (Int.toNat n)) ([(IntKind.u8.wrap (IntKind.i64.wrap ((48:Int)+(Int.tmod x.1 (10:Int)))))]:List Int))),()))) (
  be (
   match rec ((IntKind.i64.wrap (Int.tdiv x.1 (10:Int))),())with
   |none=>none
   |some v1=>
   bd (v1.1.length+(List.map (fun n=>UInt8.ofNat (Int.toNat n)) ([(IntKind.u8.wrap (IntKind.i64.wrap ((48:Int)+(Int.tmod x.1 (10:Int)))))]:List Int)).length) (
    some ((v1.1++(List.map (fun n=>UInt8.ofNat (Int.toNat n)) ([(IntKind.u8.wrap (IntKind.i64.wrap ((48:Int)+(Int.tmod x.1 (10:Int)))))]:List Int))),()))))
noncomputable def mf(i:Nat):Ty.T aV→Option (Ty.T tw):=Nat.rec (fun _=>none) (fun _ f=>lT f) i
noncomputable def nQ(rec:Ty.T aV→Option (Ty.T tw)):ai:=⟨aV,tw,.unit,rfl,rec⟩
noncomputable def OH:ai:=nQ (mf 100)
noncomputable def LN(rec:Ty.T aV→Option (Ty.T tw)):FuncId→Option ai:=ca [(191,nQ rec)]
theorem Tz(rec:Ty.T aV→Option (Ty.T tw))(hr:FnOK G0 Tryz.prog 191 (nQ rec)):∀f s,(LN rec) f=some s→FnOK G0 Tryz.prog f s:=aX ⟨hr,trivial⟩
noncomputable def LO(rec:Ty.T aV→Option (Ty.T tw)):Nat→Option aM:=De (cF (fe Tryz.f191)) []
theorem TA(rec:Ty.T aV→Option (Ty.T tw))(hr:FnOK G0 Tryz.prog 191 (nQ rec)):FnOK G0 Tryz.prog 191 (nQ (lT rec)):=aef (Λ:=(LO rec)) av (Tz rec hr) Tryz.func191 (by kernel_rfl) (show Tryz.f191.body=some (fe Tryz.f191) by kernel_rfl) [] rfl (by kernel_rfl) (by exact trivial) (by kernel_rfl)
 fun x y h=>(show th bL E0 (LN rec) (LO rec) Tryz.f191 (nQ (lT rec)) x=lT rec x by kernel_rfl).trans h
theorem Gr:∀i,FnOK G0 Tryz.prog 191 (nQ (mf i))
 |0=>aeK Tryz.func191 (by kernel_rfl) (show Tryz.f191.body=some (fe Tryz.f191) by kernel_rfl)
 |i+1=>TA _ (Gr i)
theorem Xt:FnOK G0 Tryz.prog 191 OH:=Gr 100
abbrev wP:Ty:=(.pair (.box aF) (.pair (.own 123 aL) bM))
abbrev Gs:Ty:=(.pair (.box aF) (.pair (.own 123 aL) .unit))
noncomputable def ke(x:(Ty.T wP)):Option ((Ty.T wP) ⊕ ((Ty.T Gs) ⊕ (Ty.T .unit))):=
match(decide (x.2.2.2.1>(0:Int)))with
|true=>
 match mf 100 (x.2.2.1,())with
 |none=>none
 |some v3=>
 bd (([110]:List UInt8).length+v3.1.length) (
  match al ((x.1.1,x.1.2.1,x.1.2.2.1,()),(200:Int),())with
  |none=>none
  |some v4=>
  match al ((v4.2.1.1,v4.2.1.2.1,v4.2.1.2.2.1,()),(5:Int),())with
  |none=>none
  |some v5=>
  bd (x.2.1.length+ [(x.2.2.1,(([110]:List UInt8)++v3.1),v4.1,(v5.1==(0:Int)),())].length) (
   match al ((v5.2.1.1,v5.2.1.2.1,v5.2.1.2.2.1,()),(3:Int),())with
   |none=>none
   |some v6=>
   some (.inl ((v6.2.1.1,v6.2.1.2.1,v6.2.1.2.2.1,()),(x.2.1++ [(x.2.2.1,(([110]:List UInt8)++v3.1),v4.1,(v5.1==(0:Int)),())]),(IntKind.i64.wrap ((IntKind.i64.wrap (x.2.2.1+(1:Int)))+v6.1)),(IntKind.i64.wrap (x.2.2.2.1-(1:Int))),()))))
|false=>
 some (.inr (.inl ((x.1.1,x.1.2.1,x.1.2.2.1,()),x.2.1,())))
noncomputable def vQ(x:Ty.T kJ):Option (Ty.T aga):=
match al ((x.1.1,x.1.2.1,x.1.2.2.1,()),(2:Int),())with
|none=>none
|some v1=>
match al ((v1.2.1.1,v1.2.1.2.1,v1.2.1.2.2.1,()),(4:Int),())with
|none=>none
|some v2=>
match ak ke ((v2.2.1.1,v2.2.1.2.1,v2.2.1.2.2.1,()),[],v1.1,(IntKind.i64.wrap ((1:Int)+v2.1)),())with
|none=>none
|some (.inl v7)=>
 some (v7.2.1,(v7.1.1,v7.1.2.1,v7.1.2.2.1,()),())
|some (.inr v9)=>
 none
noncomputable def LP:ai:=⟨_,afS,kJ,rfl,vQ⟩
noncomputable def IL:FuncId→Option ai:=ca [(45,oI),(191,OH)]
theorem Rg:∀f s,IL f=some s→FnOK G0 Tryz.prog f s:=aX ⟨dq,Xt,trivial⟩
def Gt:bg:=⟨[0,3,4,5],wP,0,[0,3],Gs,[],.unit⟩
noncomputable def IM:List aM:=[Gt.spec ke]
theorem OI:bJ bL E0 IL (bF Tryz.f136 IM) Tryz.f136 0 Gt ke:=fun x=>by kernel_rfl
theorem IO:FnOK G0 Tryz.prog 136 LP:=bb av Rg Tryz.func136 IM (by kernel_rfl) (by exact⟨(OI).lok,trivial⟩) fun x=>by kernel_rfl
noncomputable def cg(x:Ty.T (.pair (.int .i64) bM)):Option (Ty.T aE):=
match(decide (x.1≥x.2.1))with
|true=>
 some ((decide (x.1≤x.2.2.1)),())
|false=>
 some (false,())
noncomputable def pi:ai:=⟨_,aE,.unit,rfl,cg⟩
theorem dr:FnOK G0 Tryz.prog 28 pi:=au av ba Tryz.func28
abbrev tx:Ty:=y7
noncomputable def ig(x:(Ty.T tx)):Option ((Ty.T tx) ⊕ ((Ty.T .unit) ⊕ (Ty.T aE))):=
match(decide (x.2.1<(x.1.length:Int)))with
|true=>
 ac (aI x.1 x.2.1) fun v1=>
 match cg (v1,(0:Int),(4294967295:Int),())with
 |none=>none
 |some v2=>
 match(!v2.1)with
 |true=>
  some (.inr (.inr (false,())))
 |false=>
  some (.inl (x.1,(IntKind.i64.wrap (x.2.1+(1:Int))),()))
|false=>
 some (.inr (.inl (())))
noncomputable def rj(x:Ty.T fg):Option (Ty.T aE):=
match ak ig (x.1,(0:Int),())with
|none=>none
|some (.inl v3)=>
 some (true,())
|some (.inr v4)=>
 some (v4.1,())
noncomputable def Gu:ai:=⟨_,aE,.unit,rfl,rj⟩
noncomputable def Dj:FuncId→Option ai:=ca [(28,pi)]
theorem MM:∀f s,Dj f=some s→FnOK G0 Tryz.prog f s:=aX ⟨dr,trivial⟩
def AW:bg:=⟨[0,3],tx,0,[],.unit,[2],aE⟩
noncomputable def Dk:List aM:=[AW.spec ig]
theorem K3:bJ bL E0 Dj (bF Tryz.f192 Dk) Tryz.f192 0 AW ig:=fun x=>by kernel_rfl
theorem Rh:FnOK G0 Tryz.prog 192 Gu:=bb av MM Tryz.func192 Dk (by kernel_rfl) (by exact⟨(K3).lok,trivial⟩) fun x=>by kernel_rfl
abbrev tz:Ty:=adj
noncomputable def ii(x:(Ty.T tz)):Option ((Ty.T tz) ⊕ ((Ty.T bu) ⊕ (Ty.T .unit))):=
match(decide (x.2.2.1<(32:Int)))with
|true=>
 match ph (x.1,x.2.2.1,())with
 |none=>none
 |some v2=>
 match v2.1 with
 |true=>
  bd (x.2.1.length+ [x.2.2.1].length) (
   some (.inl (x.1,(x.2.1++ [x.2.2.1]),(IntKind.i64.wrap (x.2.2.1+(1:Int))),())))
 |false=>
  some (.inl (x.1,x.2.1,(IntKind.i64.wrap (x.2.2.1+(1:Int))),()))
|false=>
 some (.inr (.inl (x.2.1,())))
noncomputable def kK(x:Ty.T aV):Option (Ty.T oY):=
match rj ([x.1],())with
|none=>none
|some v1=>
match(!v1.1)with
|true=>
 some ([],(2:Int),())
|false=>
 match ak ii (x.1,[],(0:Int),())with
 |none=>none
 |some (.inl v3)=>
  some (v3.1,(0:Int),())
 |some (.inr v5)=>
  none
noncomputable def Gv:ai:=⟨_,oY,.unit,rfl,kK⟩
noncomputable def Dl:FuncId→Option ai:=ca [(106,Fz),(192,Gu)]
theorem MN:∀f s,Dl f=some s→FnOK G0 Tryz.prog f s:=aX ⟨BN,Rh,trivial⟩
def AX:bg:=⟨[0,4,5],tz,0,[4],bu,[],.unit⟩
noncomputable def Dm:List aM:=[AX.spec ii]
theorem K4:bJ bL E0 Dl (bF Tryz.f137 Dm) Tryz.f137 0 AX ii:=fun x=>by kernel_rfl
theorem Dn:FnOK G0 Tryz.prog 137 Gv:=bb av MN Tryz.func137 Dm (by kernel_rfl) (by exact⟨(K4).lok,trivial⟩) fun x=>by kernel_rfl
noncomputable def fD(x:Ty.T aV):Option (Ty.T aE):=
some ((x.1 != (0:Int)),())
noncomputable def Vx:ai:=⟨_,aE,.unit,rfl,fD⟩
theorem lJ:FnOK G0 Tryz.prog 161 Vx:=au av ba Tryz.func161
noncomputable def jG(x:Ty.T aV):Option (Ty.T aE):=
match(x.1==(0:Int))with
|true=>
 some (true,())
|false=>
 some ((x.1==(2:Int)),())
noncomputable def Xu:ai:=⟨_,aE,.unit,rfl,jG⟩
theorem tA:FnOK G0 Tryz.prog 193 Xu:=au av ba Tryz.func193
noncomputable def lK(x:Ty.T bM):Option (Ty.T aV):=
match fD (x.1,())with
|none=>none
|some v1=>
match v1.1 with
|true=>
 match jG (x.1,())with
 |none=>none
 |some v2=>
 match v2.1 with
 |true=>
  some ((IntKind.i64.wrap ((IntKind.i64.wrap ((IntKind.i64.wrap ((1:Int)+(8:Int)))+(1:Int)))+x.2.1)),())
 |false=>
  some ((IntKind.i64.wrap ((1:Int)+(8:Int))),())
|false=>
 match jG (x.1,())with
 |none=>none
 |some v3=>
 match v3.1 with
 |true=>
  some ((IntKind.i64.wrap ((IntKind.i64.wrap ((1:Int)+(1:Int)))+x.2.1)),())
 |false=>
  some ((1:Int),())
noncomputable def OJ:ai:=⟨_,aV,.unit,rfl,lK⟩
theorem MO:FnOK G0 Tryz.prog 194 OJ:=au av (sg lJ (sg tA (ba))) Tryz.func194
noncomputable def eY(x:Ty.T bM):Option (Ty.T aV):=
match lK (x.1,x.2.1,())with
|none=>none
|some v1=>
some ((IntKind.i64.wrap ((11:Int)+(IntKind.i64.wrap ((10:Int)*(IntKind.i64.wrap (v1.1+(3:Int))))))),())
noncomputable def Vy:ai:=⟨_,aV,.unit,rfl,eY⟩
theorem wQ:FnOK G0 Tryz.prog 140 Vy:=au av (sg MO (ba)) Tryz.func140
noncomputable def sM(x:Ty.T kJ):Option (Ty.T af3):=
match al ((x.1.1,x.1.2.1,x.1.2.2.1,()),(4:Int),())with
|none=>none
|some v1=>
match al ((v1.2.1.1,v1.2.1.2.1,v1.2.1.2.2.1,()),(4:Int),())with
|none=>none
|some v2=>
match al ((v2.2.1.1,v2.2.1.2.1,v2.2.1.2.2.1,()),(2:Int),())with
|none=>none
|some v3=>
match jG (v2.1,())with
|none=>none
|some v4=>
match v4.1 with
|true=>
 match al ((v3.2.1.1,v3.2.1.2.1,v3.2.1.2.2.1,()),(5:Int),())with
 |none=>none
 |some v5=>
 match(v2.1==(3:Int))with
 |true=>
  match eY (v2.1,(IntKind.i64.wrap ((1:Int)+v5.1)),())with
  |none=>none
  |some v6=>
  match al ((v5.2.1.1,v5.2.1.2.1,v5.2.1.2.2.1,()),(200:Int),())with
  |none=>none
  |some v7=>
  some ((v1.1,v2.1,(IntKind.i64.wrap ((1:Int)+v5.1)),(IntKind.i64.wrap ((IntKind.i64.wrap (v6.1+(20:Int)))+v7.1)),false,()),(v7.2.1.1,v7.2.1.2.1,v7.2.1.2.2.1,()),())
 |false=>
  match eY (v2.1,(IntKind.i64.wrap ((1:Int)+v5.1)),())with
  |none=>none
  |some v8=>
  match al ((v5.2.1.1,v5.2.1.2.1,v5.2.1.2.2.1,()),(200:Int),())with
  |none=>none
  |some v9=>
  some ((v1.1,v2.1,(IntKind.i64.wrap ((1:Int)+v5.1)),(IntKind.i64.wrap ((IntKind.i64.wrap (v8.1+(20:Int)))+v9.1)),(v3.1==(0:Int)),()),(v9.2.1.1,v9.2.1.2.1,v9.2.1.2.2.1,()),())
|false=>
 match(v2.1==(3:Int))with
 |true=>
  match eY (v2.1,(0:Int),())with
  |none=>none
  |some v10=>
  match al ((v3.2.1.1,v3.2.1.2.1,v3.2.1.2.2.1,()),(200:Int),())with
  |none=>none
  |some v11=>
  some ((v1.1,v2.1,(0:Int),(IntKind.i64.wrap ((IntKind.i64.wrap (v10.1+(20:Int)))+v11.1)),false,()),(v11.2.1.1,v11.2.1.2.1,v11.2.1.2.2.1,()),())
 |false=>
  match eY (v2.1,(0:Int),())with
  |none=>none
  |some v12=>
  match al ((v3.2.1.1,v3.2.1.2.1,v3.2.1.2.2.1,()),(200:Int),())with
  |none=>none
  |some v13=>
  some ((v1.1,v2.1,(0:Int),(IntKind.i64.wrap ((IntKind.i64.wrap (v12.1+(20:Int)))+v13.1)),(v3.1==(0:Int)),()),(v13.2.1.1,v13.2.1.2.1,v13.2.1.2.2.1,()),())
noncomputable def LQ:ai:=⟨_,IH,kJ,rfl,sM⟩
theorem IP:FnOK G0 Tryz.prog 138 LQ:=au av (sg dq (sg wQ (sg tA (ba)))) Tryz.func138
abbrev uK:Ty:=ado
abbrev Dp:Ty:=(.pair (.box aF) (.pair (.box aA) (.pair (.own 123 aL) (.pair (.own 2 (.int .i64)) (.pair (.own 90 aR) (.pair (.own 107 az) (.pair (.int .i64) (.pair (.int .i64) (.pair (.box aR) (.pair (.own 2 (.int .i64)) .unit))))))))))
noncomputable def gR(x:(Ty.T uK)):Option ((Ty.T uK) ⊕ ((Ty.T Dp) ⊕ (Ty.T .unit))):=
match(decide (x.2.2.2.2.2.2.2.2.2.2.1<x.2.2.2.2.2.2.2.2.1.2.1))with
|true=>
 match al ((x.1.1,x.1.2.1,x.1.2.2.1,()),(100:Int),())with
 |none=>none
 |some v12=>
 bd (x.2.2.2.2.2.2.2.2.2.1.length+ [(IntKind.i64.wrap ((260:Int)+v12.1))].length) (
  some (.inl ((v12.2.1.1,v12.2.1.2.1,v12.2.1.2.2.1,()),(x.2.1.1,x.2.1.2.1,x.2.1.2.2.1,x.2.1.2.2.2.1,()),x.2.2.1,x.2.2.2.1,x.2.2.2.2.1,x.2.2.2.2.2.1,x.2.2.2.2.2.2.1,x.2.2.2.2.2.2.2.1,(x.2.2.2.2.2.2.2.2.1.1,x.2.2.2.2.2.2.2.2.1.2.1,x.2.2.2.2.2.2.2.2.1.2.2.1,()),(x.2.2.2.2.2.2.2.2.2.1++ [(IntKind.i64.wrap ((260:Int)+v12.1))]),(IntKind.i64.wrap (x.2.2.2.2.2.2.2.2.2.2.1+(1:Int))),())))
|false=>
 some (.inr (.inl ((x.1.1,x.1.2.1,x.1.2.2.1,()),(x.2.1.1,x.2.1.2.1,x.2.1.2.2.1,x.2.1.2.2.2.1,()),x.2.2.1,x.2.2.2.1,x.2.2.2.2.1,x.2.2.2.2.2.1,x.2.2.2.2.2.2.1,x.2.2.2.2.2.2.2.1,(x.2.2.2.2.2.2.2.2.1.1,x.2.2.2.2.2.2.2.2.1.2.1,x.2.2.2.2.2.2.2.2.1.2.2.1,()),x.2.2.2.2.2.2.2.2.2.1,())))
abbrev uL:Ty:=(.pair (.box aF) (.pair (.box aA) (.pair (.own 123 aL) (.pair (.own 2 (.int .i64)) (.pair (.own 90 aR) (.pair (.own 107 az) (.pair (.int .i64) (.pair (.int .i64) (.pair (.box aR) (.pair (.own 2 (.int .i64)) bM))))))))))
abbrev Dq:Ty:=ado
noncomputable def fE(x:(Ty.T uL)):Option ((Ty.T uL) ⊕ ((Ty.T Dq) ⊕ (Ty.T .unit))):=
match(decide (x.2.2.2.2.2.2.2.2.2.2.2.1<x.2.2.2.2.2.2.2.2.1.2.1))with
|true=>
 match sM ((x.1.1,x.1.2.1,x.1.2.2.1,()),())with
 |none=>none
 |some v15=>
 if(x.2.2.2.1.length:Int)=0 then none else
 ac (aI x.2.2.2.1 (Int.tmod x.2.2.2.2.2.2.2.2.2.2.2.1 (x.2.2.2.1.length:Int))) fun _=>
 match x.2.2.2.1[(Int.tmod x.2.2.2.2.2.2.2.2.2.2.2.1 (x.2.2.2.1.length:Int)).toNat]? with
 |none=>none
 |some v17=>
 match(v15.1.2.1==(3:Int))with
 |true=>
  match(decide (x.2.2.2.2.2.2.2.1>(0:Int)))with
  |true=>
   ac (aI x.2.2.2.2.2.2.2.2.2.1 x.2.2.2.2.2.2.2.2.2.2.2.1) fun _=>
   match x.2.2.2.2.2.2.2.2.2.1[x.2.2.2.2.2.2.2.2.2.2.2.1.toNat]? with
   |none=>none
   |some v19=>
   bd (x.2.2.2.2.2.1.length+ [(x.2.2.2.2.2.2.2.1,x.2.2.2.2.2.2.2.2.2.2.1,x.2.2.2.2.2.2.2.2.2.2.2.1,(v17,(1:Int),v15.1.2.2.1,v19,v15.1.2.2.2.2.1,()),())].length) (
    some (.inl ((v15.2.1.1,v15.2.1.2.1,v15.2.1.2.2.1,()),(x.2.1.1,x.2.1.2.1,x.2.1.2.2.1,x.2.1.2.2.2.1,()),x.2.2.1,x.2.2.2.1,x.2.2.2.2.1,(x.2.2.2.2.2.1++ [(x.2.2.2.2.2.2.2.1,x.2.2.2.2.2.2.2.2.2.2.1,x.2.2.2.2.2.2.2.2.2.2.2.1,(v17,(1:Int),v15.1.2.2.1,v19,v15.1.2.2.2.2.1,()),())]),x.2.2.2.2.2.2.1,x.2.2.2.2.2.2.2.1,(x.2.2.2.2.2.2.2.2.1.1,x.2.2.2.2.2.2.2.2.1.2.1,x.2.2.2.2.2.2.2.2.1.2.2.1,()),x.2.2.2.2.2.2.2.2.2.1,x.2.2.2.2.2.2.2.2.2.2.1,(IntKind.i64.wrap (x.2.2.2.2.2.2.2.2.2.2.2.1+(1:Int))),())))
  |false=>
   ac (aI x.2.2.2.2.2.2.2.2.2.1 x.2.2.2.2.2.2.2.2.2.2.2.1) fun _=>
   match x.2.2.2.2.2.2.2.2.2.1[x.2.2.2.2.2.2.2.2.2.2.2.1.toNat]? with
   |none=>none
   |some v21=>
   bd (x.2.2.2.2.2.1.length+ [(x.2.2.2.2.2.2.2.1,x.2.2.2.2.2.2.2.2.2.2.1,x.2.2.2.2.2.2.2.2.2.2.2.1,(v17,v15.1.2.1,v15.1.2.2.1,v21,v15.1.2.2.2.2.1,()),())].length) (
    some (.inl ((v15.2.1.1,v15.2.1.2.1,v15.2.1.2.2.1,()),(x.2.1.1,x.2.1.2.1,x.2.1.2.2.1,x.2.1.2.2.2.1,()),x.2.2.1,x.2.2.2.1,x.2.2.2.2.1,(x.2.2.2.2.2.1++ [(x.2.2.2.2.2.2.2.1,x.2.2.2.2.2.2.2.2.2.2.1,x.2.2.2.2.2.2.2.2.2.2.2.1,(v17,v15.1.2.1,v15.1.2.2.1,v21,v15.1.2.2.2.2.1,()),())]),x.2.2.2.2.2.2.1,x.2.2.2.2.2.2.2.1,(x.2.2.2.2.2.2.2.2.1.1,x.2.2.2.2.2.2.2.2.1.2.1,x.2.2.2.2.2.2.2.2.1.2.2.1,()),x.2.2.2.2.2.2.2.2.2.1,x.2.2.2.2.2.2.2.2.2.2.1,(IntKind.i64.wrap (x.2.2.2.2.2.2.2.2.2.2.2.1+(1:Int))),())))
 |false=>
  ac (aI x.2.2.2.2.2.2.2.2.2.1 x.2.2.2.2.2.2.2.2.2.2.2.1) fun _=>
  match x.2.2.2.2.2.2.2.2.2.1[x.2.2.2.2.2.2.2.2.2.2.2.1.toNat]? with
  |none=>none
  |some v23=>
  bd (x.2.2.2.2.2.1.length+ [(x.2.2.2.2.2.2.2.1,x.2.2.2.2.2.2.2.2.2.2.1,x.2.2.2.2.2.2.2.2.2.2.2.1,(v17,v15.1.2.1,v15.1.2.2.1,v23,v15.1.2.2.2.2.1,()),())].length) (
   some (.inl ((v15.2.1.1,v15.2.1.2.1,v15.2.1.2.2.1,()),(x.2.1.1,x.2.1.2.1,x.2.1.2.2.1,x.2.1.2.2.2.1,()),x.2.2.1,x.2.2.2.1,x.2.2.2.2.1,(x.2.2.2.2.2.1++ [(x.2.2.2.2.2.2.2.1,x.2.2.2.2.2.2.2.2.2.2.1,x.2.2.2.2.2.2.2.2.2.2.2.1,(v17,v15.1.2.1,v15.1.2.2.1,v23,v15.1.2.2.2.2.1,()),())]),x.2.2.2.2.2.2.1,x.2.2.2.2.2.2.2.1,(x.2.2.2.2.2.2.2.2.1.1,x.2.2.2.2.2.2.2.2.1.2.1,x.2.2.2.2.2.2.2.2.1.2.2.1,()),x.2.2.2.2.2.2.2.2.2.1,x.2.2.2.2.2.2.2.2.2.2.1,(IntKind.i64.wrap (x.2.2.2.2.2.2.2.2.2.2.2.1+(1:Int))),())))
|false=>
 some (.inr (.inl ((x.1.1,x.1.2.1,x.1.2.2.1,()),(x.2.1.1,x.2.1.2.1,x.2.1.2.2.1,x.2.1.2.2.2.1,()),x.2.2.1,x.2.2.2.1,x.2.2.2.2.1,x.2.2.2.2.2.1,x.2.2.2.2.2.2.1,x.2.2.2.2.2.2.2.1,(x.2.2.2.2.2.2.2.2.1.1,x.2.2.2.2.2.2.2.2.1.2.1,x.2.2.2.2.2.2.2.2.1.2.2.1,()),x.2.2.2.2.2.2.2.2.2.1,x.2.2.2.2.2.2.2.2.2.2.1,())))
abbrev uM:Ty:=ado
abbrev Dr:Ty:=ago
noncomputable def gS(x:(Ty.T uM)):Option ((Ty.T uM) ⊕ ((Ty.T Dr) ⊕ (Ty.T .unit))):=
match(decide (x.2.2.2.2.2.2.2.2.2.2.1<x.2.2.2.2.2.2.2.2.1.1))with
|true=>
 match ak fE ((x.1.1,x.1.2.1,x.1.2.2.1,()),(x.2.1.1,x.2.1.2.1,x.2.1.2.2.1,x.2.1.2.2.2.1,()),x.2.2.1,x.2.2.2.1,x.2.2.2.2.1,x.2.2.2.2.2.1,x.2.2.2.2.2.2.1,x.2.2.2.2.2.2.2.1,(x.2.2.2.2.2.2.2.2.1.1,x.2.2.2.2.2.2.2.2.1.2.1,x.2.2.2.2.2.2.2.2.1.2.2.1,()),x.2.2.2.2.2.2.2.2.2.1,x.2.2.2.2.2.2.2.2.2.2.1,(0:Int),())with
 |none=>none
 |some (.inl v15)=>
  some (.inl ((v15.1.1,v15.1.2.1,v15.1.2.2.1,()),(v15.2.1.1,v15.2.1.2.1,v15.2.1.2.2.1,v15.2.1.2.2.2.1,()),v15.2.2.1,v15.2.2.2.1,v15.2.2.2.2.1,v15.2.2.2.2.2.1,v15.2.2.2.2.2.2.1,v15.2.2.2.2.2.2.2.1,(v15.2.2.2.2.2.2.2.2.1.1,v15.2.2.2.2.2.2.2.2.1.2.1,v15.2.2.2.2.2.2.2.2.1.2.2.1,()),v15.2.2.2.2.2.2.2.2.2.1,(IntKind.i64.wrap (v15.2.2.2.2.2.2.2.2.2.2.1+(1:Int))),()))
 |some (.inr v17)=>
  some (.inr (.inr (())))
|false=>
 some (.inr (.inl ((x.1.1,x.1.2.1,x.1.2.2.1,()),(x.2.1.1,x.2.1.2.1,x.2.1.2.2.1,x.2.1.2.2.2.1,()),x.2.2.1,x.2.2.2.1,x.2.2.2.2.1,x.2.2.2.2.2.1,x.2.2.2.2.2.2.1,x.2.2.2.2.2.2.2.1,())))
abbrev uN:Ty:=ago
abbrev Ds:Ty:=(.pair (.box aF) (.pair (.box aA) (.pair (.own 123 aL) (.pair (.own 90 aR) (.pair (.own 107 az) .unit)))))
noncomputable def eF(x:(Ty.T uN)):Option ((Ty.T uN) ⊕ ((Ty.T Ds) ⊕ (Ty.T .unit))):=
match(decide (x.2.2.2.2.2.2.2.1<x.2.2.2.2.2.2.1))with
|true=>
 match al ((x.1.1,x.1.2.1,x.1.2.2.1,()),(2:Int),())with
 |none=>none
 |some v10=>
 match al ((v10.2.1.1,v10.2.1.2.1,v10.2.1.2.2.1,()),(2:Int),())with
 |none=>none
 |some v11=>
 match(decide (x.2.2.2.2.2.2.1>(1:Int)))with
 |true=>
  bd (x.2.2.2.2.1.length+ [((IntKind.i64.wrap ((1:Int)+v10.1)),(IntKind.i64.wrap ((x.2.2.2.1.length:Int)+v11.1)),[(IntKind.i64.wrap ((1:Int)-x.2.2.2.2.2.2.2.1))],())].length) (
   match ak gR ((v11.2.1.1,v11.2.1.2.1,v11.2.1.2.2.1,()),(x.2.1.1,x.2.1.2.1,x.2.1.2.2.1,x.2.1.2.2.2.1,()),x.2.2.1,x.2.2.2.1,(x.2.2.2.2.1++ [((IntKind.i64.wrap ((1:Int)+v10.1)),(IntKind.i64.wrap ((x.2.2.2.1.length:Int)+v11.1)),[(IntKind.i64.wrap ((1:Int)-x.2.2.2.2.2.2.2.1))],())]),x.2.2.2.2.2.1,x.2.2.2.2.2.2.1,x.2.2.2.2.2.2.2.1,((IntKind.i64.wrap ((1:Int)+v10.1)),(IntKind.i64.wrap ((x.2.2.2.1.length:Int)+v11.1)),[(IntKind.i64.wrap ((1:Int)-x.2.2.2.2.2.2.2.1))],()),[],(0:Int),())with
   |none=>none
   |some (.inl v12)=>
    match ak gS ((v12.1.1,v12.1.2.1,v12.1.2.2.1,()),(v12.2.1.1,v12.2.1.2.1,v12.2.1.2.2.1,v12.2.1.2.2.2.1,()),v12.2.2.1,v12.2.2.2.1,v12.2.2.2.2.1,v12.2.2.2.2.2.1,v12.2.2.2.2.2.2.1,v12.2.2.2.2.2.2.2.1,(v12.2.2.2.2.2.2.2.2.1.1,v12.2.2.2.2.2.2.2.2.1.2.1,v12.2.2.2.2.2.2.2.2.1.2.2.1,()),v12.2.2.2.2.2.2.2.2.2.1,(0:Int),())with
    |none=>none
    |some (.inl v14)=>
     some (.inl ((v14.1.1,v14.1.2.1,v14.1.2.2.1,()),(v14.2.1.1,v14.2.1.2.1,v14.2.1.2.2.1,v14.2.1.2.2.2.1,()),v14.2.2.1,v14.2.2.2.1,v14.2.2.2.2.1,v14.2.2.2.2.2.1,v14.2.2.2.2.2.2.1,(IntKind.i64.wrap (v14.2.2.2.2.2.2.2.1+(1:Int))),()))
    |some (.inr v16)=>
     some (.inr (.inr (())))
   |some (.inr v17)=>
    some (.inr (.inr (()))))
 |false=>
  bd (x.2.2.2.2.1.length+([((IntKind.i64.wrap ((1:Int)+v10.1)),(IntKind.i64.wrap ((x.2.2.2.1.length:Int)+v11.1)),[],())]:List (Ty.T aR)).length) (
   match ak gR ((v11.2.1.1,v11.2.1.2.1,v11.2.1.2.2.1,()),(x.2.1.1,x.2.1.2.1,x.2.1.2.2.1,x.2.1.2.2.2.1,()),x.2.2.1,x.2.2.2.1,(x.2.2.2.2.1++([((IntKind.i64.wrap ((1:Int)+v10.1)),(IntKind.i64.wrap ((x.2.2.2.1.length:Int)+v11.1)),[],())]:List (Ty.T aR))),x.2.2.2.2.2.1,x.2.2.2.2.2.2.1,x.2.2.2.2.2.2.2.1,((IntKind.i64.wrap ((1:Int)+v10.1)),(IntKind.i64.wrap ((x.2.2.2.1.length:Int)+v11.1)),[],()),[],(0:Int),())with
   |none=>none
   |some (.inl v18)=>
    match ak gS ((v18.1.1,v18.1.2.1,v18.1.2.2.1,()),(v18.2.1.1,v18.2.1.2.1,v18.2.1.2.2.1,v18.2.1.2.2.2.1,()),v18.2.2.1,v18.2.2.2.1,v18.2.2.2.2.1,v18.2.2.2.2.2.1,v18.2.2.2.2.2.2.1,v18.2.2.2.2.2.2.2.1,(v18.2.2.2.2.2.2.2.2.1.1,v18.2.2.2.2.2.2.2.2.1.2.1,v18.2.2.2.2.2.2.2.2.1.2.2.1,()),v18.2.2.2.2.2.2.2.2.2.1,(0:Int),())with
    |none=>none
    |some (.inl v20)=>
     some (.inl ((v20.1.1,v20.1.2.1,v20.1.2.2.1,()),(v20.2.1.1,v20.2.1.2.1,v20.2.1.2.2.1,v20.2.1.2.2.2.1,()),v20.2.2.1,v20.2.2.2.1,v20.2.2.2.2.1,v20.2.2.2.2.2.1,v20.2.2.2.2.2.2.1,(IntKind.i64.wrap (v20.2.2.2.2.2.2.2.1+(1:Int))),()))
    |some (.inr v22)=>
     some (.inr (.inr (())))
   |some (.inr v23)=>
    some (.inr (.inr (()))))
|false=>
 some (.inr (.inl ((x.1.1,x.1.2.1,x.1.2.2.1,()),(x.2.1.1,x.2.1.2.1,x.2.1.2.2.1,x.2.1.2.2.2.1,()),x.2.2.1,x.2.2.2.2.1,x.2.2.2.2.2.1,())))
noncomputable def AY(x:Ty.T kJ):Option (Ty.T (.pair (.pair (.int .i64) (.pair (.own 123 aL) (.pair (.own 90 aR) (.pair (.own 107 az) .unit)))) (.pair (.box aF) .unit))):=
match al ((x.1.1,x.1.2.1,x.1.2.2.1,()),(4:Int),())with
|none=>none
|some v1=>
match(v1.1==(0:Int))with
|true=>
 match BP (())with
 |none=>none
 |some v2=>
 some ((v2.1.1,v2.1.2.1,v2.1.2.2.1,v2.1.2.2.2.1,()),(v1.2.1.1,v1.2.1.2.1,v1.2.1.2.2.1,()),())
|false=>
 match vQ ((v1.2.1.1,v1.2.1.2.1,v1.2.1.2.2.1,()),())with
 |none=>none
 |some v3=>
 ac (aI v3.1 (0:Int)) fun _=>
 match v3.1[(0:Int).toNat]? with
 |none=>none
 |some v5=>
 match(decide (((v3.1.set ((0:Int).toNat) (v5.1,v5.2.1,v5.2.2.1,false,())).length:Int)>(3:Int)))with
 |true=>
  ac (aZ (v3.1.set ((0:Int).toNat) (v5.1,v5.2.1,v5.2.2.1,false,())).length none (some (.dat (.int .i64) (3:Int)))) fun v6=>
  match du ((List.take v6.2 (v3.1.set ((0:Int).toNat) (v5.1,v5.2.1,v5.2.2.1,false,()))),())with
  |none=>none
  |some v7=>
  match kK (v7.1,())with
  |none=>none
  |some v8=>
  match al ((v3.2.1.1,v3.2.1.2.1,v3.2.1.2.2.1,()),(2:Int),())with
  |none=>none
  |some v9=>
  match ak eF ((v9.2.1.1,v9.2.1.2.1,v9.2.1.2.2.1,()),((0:Int),[],[],[],()),(List.take v6.2 (v3.1.set ((0:Int).toNat) (v5.1,v5.2.1,v5.2.2.1,false,()))),v8.1,[],[],(IntKind.i64.wrap ((1:Int)+v9.1)),(0:Int),())with
  |none=>none
  |some (.inl v24)=>
   match al ((v24.1.1,v24.1.2.1,v24.1.2.2.1,()),(5000:Int),())with
   |none=>none
   |some v26=>
   some (((IntKind.i64.wrap ((1:Int)+v26.1)),v24.2.2.1,v24.2.2.2.1,v24.2.2.2.2.1,()),(v26.2.1.1,v26.2.1.2.1,v26.2.1.2.2.1,()),())
  |some (.inr v27)=>
   none
 |false=>
  match du ((v3.1.set ((0:Int).toNat) (v5.1,v5.2.1,v5.2.2.1,false,())),())with
  |none=>none
  |some v28=>
  match kK (v28.1,())with
  |none=>none
  |some v29=>
  match al ((v3.2.1.1,v3.2.1.2.1,v3.2.1.2.2.1,()),(2:Int),())with
  |none=>none
  |some v30=>
  match ak eF ((v30.2.1.1,v30.2.1.2.1,v30.2.1.2.2.1,()),((0:Int),[],[],[],()),(v3.1.set ((0:Int).toNat) (v5.1,v5.2.1,v5.2.2.1,false,())),v29.1,[],[],(IntKind.i64.wrap ((1:Int)+v30.1)),(0:Int),())with
  |none=>none
  |some (.inl v31)=>
   match al ((v31.1.1,v31.1.2.1,v31.1.2.2.1,()),(5000:Int),())with
   |none=>none
   |some v33=>
   some (((IntKind.i64.wrap ((1:Int)+v33.1)),v31.2.2.1,v31.2.2.2.1,v31.2.2.2.2.1,()),(v33.2.1.1,v33.2.1.2.1,v33.2.1.2.2.1,()),())
  |some (.inr v34)=>
   none
noncomputable def LR:ai:=⟨_,adn,kJ,rfl,AY⟩
noncomputable def pj:FuncId→Option ai:=ca [(45,oI),(46,rH),(135,Gq),(136,LP),(137,Gv),(138,LQ)]
theorem Ri:∀f s,pj f=some s→FnOK G0 Tryz.prog f s:=aX ⟨dq,m4,Rf,IO,Dn,IP,trivial⟩
def Dt:bg:=⟨[0,2,3,4,6,7,8,9],uN,0,[0,2,3,6,7],Ds,[],.unit⟩
def Du:bg:=⟨[0,2,3,4,6,7,8,9,10,11,12],uK,2,[0,2,3,4,6,7,8,9,10,11],Dp,[],.unit⟩
def Dv:bg:=⟨[0,2,3,4,6,7,8,9,10,11,13],uM,4,[0,2,3,4,6,7,8,9],Dr,[],.unit⟩
def Dw:bg:=⟨[0,2,3,4,6,7,8,9,10,11,13,14],uL,6,[0,2,3,4,6,7,8,9,10,11,13],Dq,[],.unit⟩
noncomputable def pk:List aM:=[Dt.spec eF,Du.spec gR,Dv.spec gS,Dw.spec fE]
theorem MP:bJ Γ1 E1 pj (bF Tryz.f80 pk) Tryz.f80 0 Dt eF:=fun x=>by kernel_rfl
theorem MQ:bJ Γ1 E1 pj (bF Tryz.f80 pk) Tryz.f80 1 Du gR:=fun x=>by kernel_rfl
theorem MS:bJ Γ1 E1 pj (bF Tryz.f80 pk) Tryz.f80 2 Dv gS:=fun x=>by kernel_rfl
theorem MU:bJ Γ1 E1 pj (bF Tryz.f80 pk) Tryz.f80 3 Dw fE:=fun x=>by kernel_rfl
theorem Vz:FnOK G0 Tryz.prog 80 LR:=bb ahC Ri Tryz.func80 pk (by kernel_rfl) (by exact⟨(MP).lok,(MQ).lok,(MS).lok,(MU).lok,trivial⟩) fun x=>by kernel_rfl
noncomputable def tB(x:Ty.T kJ):Option (Ty.T aga):=
match vQ ((x.1.1,x.1.2.1,x.1.2.2.1,()),())with
|none=>none
|some v1=>
match al ((v1.2.1.1,v1.2.1.2.1,v1.2.1.2.2.1,()),(v1.1.length:Int),())with
|none=>none
|some v2=>
match al ((v2.2.1.1,v2.2.1.2.1,v2.2.1.2.2.1,()),(24:Int),())with
|none=>none
|some v3=>
match(v3.1==(0:Int))with
|true=>
 match al ((v3.2.1.1,v3.2.1.2.1,v3.2.1.2.2.1,()),(3:Int),())with
 |none=>none
 |some v4=>
 ac (aI [(-1:Int),(31:Int),(32:Int)] v4.1) fun _=>
 match [(-1:Int),(31:Int),(32:Int)][v4.1.toNat]? with
 |none=>none
 |some v6=>
 ac (aI v1.1 v2.1) fun _=>
 match v1.1[v2.1.toNat]? with
 |none=>none
 |some v8=>
 some ((v1.1.set v2.1.toNat (v6,v8.2.1,v8.2.2.1,v8.2.2.2.1,())),(v4.2.1.1,v4.2.1.2.1,v4.2.1.2.2.1,()),())
|false=>
 match(v3.1==(1:Int))with
 |true=>
  match al ((v3.2.1.1,v3.2.1.2.1,v3.2.1.2.2.1,()),(5:Int),())with
  |none=>none
  |some v9=>
  ac (aI [[],([115,101,118,101,110,110,55]:List UInt8),([115,105,120,120,120,54]:List UInt8),([78,49]:List UInt8),([110,48]:List UInt8)] v9.1) fun _=>
  match [[],([115,101,118,101,110,110,55]:List UInt8),([115,105,120,120,120,54]:List UInt8),([78,49]:List UInt8),([110,48]:List UInt8)][v9.1.toNat]? with
  |none=>none
  |some v11=>
  ac (aI v1.1 v2.1) fun _=>
  match v1.1[v2.1.toNat]? with
  |none=>none
  |some v13=>
  some ((v1.1.set v2.1.toNat (v13.1,v11,v13.2.2.1,v13.2.2.2.1,())),(v9.2.1.1,v9.2.1.2.1,v9.2.1.2.2.1,()),())
 |false=>
  match(v3.1==(2:Int))with
  |true=>
   match al ((v3.2.1.1,v3.2.1.2.1,v3.2.1.2.2.1,()),(3:Int),())with
   |none=>none
   |some v14=>
   ac (aI [(-1:Int),(1000:Int),(1001:Int)] v14.1) fun _=>
   match [(-1:Int),(1000:Int),(1001:Int)][v14.1.toNat]? with
   |none=>none
   |some v16=>
   ac (aI v1.1 v2.1) fun _=>
   match v1.1[v2.1.toNat]? with
   |none=>none
   |some v18=>
   some ((v1.1.set v2.1.toNat (v18.1,v18.2.1,v16,v18.2.2.2.1,())),(v14.2.1.1,v14.2.1.2.1,v14.2.1.2.2.1,()),())
  |false=>
   match(v3.1==(3:Int))with
   |true=>
    ac (aI v1.1 v2.1) fun _=>
    match v1.1[v2.1.toNat]? with
    |none=>none
    |some v20=>
    bd (v1.1.length+ [v20].length) (
     some ((v1.1++ [v20]),(v3.2.1.1,v3.2.1.2.1,v3.2.1.2.2.1,()),()))
   |false=>
    match(v3.1==(4:Int))with
    |true=>
     some ([],(v3.2.1.1,v3.2.1.2.1,v3.2.1.2.2.1,()),())
    |false=>
     some (v1.1,(v3.2.1.1,v3.2.1.2.1,v3.2.1.2.2.1,()),())
noncomputable def Dx:ai:=⟨_,afS,kJ,rfl,tB⟩
theorem OK:FnOK G0 Tryz.prog 81 Dx:=au av (sg dq (sg IO (ba))) Tryz.func81
abbrev wR:Ty:=(.pair (.box aF) (.pair (.own 90 (.pair (.int .i64) (.pair (.int .i64) (.pair (.own 2 (.int .i64)) .unit)))) (.pair (.int .i64) (.pair (.int .i64) (.pair (.own 2 (.int .i64)) (.pair (.int .i64) .unit))))))
abbrev Gw:Ty:=(.pair (.box aF) (.pair (.own 90 (.pair (.int .i64) (.pair (.int .i64) (.pair (.own 2 (.int .i64)) .unit)))) (.pair (.int .i64) (.pair (.int .i64) (.pair (.own 2 (.int .i64)) .unit)))))
noncomputable def iE(x:(Ty.T wR)):Option ((Ty.T wR) ⊕ ((Ty.T Gw) ⊕ (Ty.T .unit))):=
match(decide (x.2.2.2.2.2.1<x.2.2.1))with
|true=>
 match(x.2.2.2.2.2.1 != x.2.2.2.1)with
 |true=>
  match al ((x.1.1,x.1.2.1,x.1.2.2.1,()),(2:Int),())with
  |none=>none
  |some v2=>
  match(v2.1==(0:Int))with
  |true=>
   bd (x.2.2.2.2.1.length+ [x.2.2.2.2.2.1].length) (
    some (.inl ((v2.2.1.1,v2.2.1.2.1,v2.2.1.2.2.1,()),x.2.1,x.2.2.1,x.2.2.2.1,(x.2.2.2.2.1++ [x.2.2.2.2.2.1]),(IntKind.i64.wrap (x.2.2.2.2.2.1+(1:Int))),())))
  |false=>
   some (.inl ((v2.2.1.1,v2.2.1.2.1,v2.2.1.2.2.1,()),x.2.1,x.2.2.1,x.2.2.2.1,x.2.2.2.2.1,(IntKind.i64.wrap (x.2.2.2.2.2.1+(1:Int))),()))
 |false=>
  some (.inl ((x.1.1,x.1.2.1,x.1.2.2.1,()),x.2.1,x.2.2.1,x.2.2.2.1,x.2.2.2.2.1,(IntKind.i64.wrap (x.2.2.2.2.2.1+(1:Int))),()))
|false=>
 some (.inr (.inl ((x.1.1,x.1.2.1,x.1.2.2.1,()),x.2.1,x.2.2.1,x.2.2.2.1,x.2.2.2.2.1,())))
abbrev wS:Ty:=(.pair (.box aF) (.pair (.own 90 (.pair (.int .i64) (.pair (.int .i64) (.pair (.own 2 (.int .i64)) .unit)))) bM))
abbrev Gx:Ty:=(.pair (.box aF) (.pair (.own 90 (.pair (.int .i64) (.pair (.int .i64) (.pair (.own 2 (.int .i64)) .unit)))) .unit))
noncomputable def lL(x:(Ty.T wS)):Option ((Ty.T wS) ⊕ ((Ty.T Gx) ⊕ (Ty.T .unit))):=
match(decide (x.2.2.2.1<x.2.2.1))with
|true=>
 match ak iE ((x.1.1,x.1.2.1,x.1.2.2.1,()),x.2.1,x.2.2.1,x.2.2.2.1,[],(0:Int),())with
 |none=>none
 |some (.inl v2)=>
  match al ((v2.1.1,v2.1.2.1,v2.1.2.2.1,()),(3:Int),())with
  |none=>none
  |some v4=>
  match al ((v4.2.1.1,v4.2.1.2.1,v4.2.1.2.2.1,()),(4:Int),())with
  |none=>none
  |some v5=>
  bd (v2.2.1.length+ [((IntKind.i64.wrap ((1:Int)+v4.1)),(IntKind.i64.wrap ((1:Int)+v5.1)),v2.2.2.2.2.1,())].length) (
   some (.inl ((v5.2.1.1,v5.2.1.2.1,v5.2.1.2.2.1,()),(v2.2.1++ [((IntKind.i64.wrap ((1:Int)+v4.1)),(IntKind.i64.wrap ((1:Int)+v5.1)),v2.2.2.2.2.1,())]),v2.2.2.1,(IntKind.i64.wrap (v2.2.2.2.1+(1:Int))),())))
 |some (.inr v6)=>
  some (.inr (.inr (())))
|false=>
 some (.inr (.inl ((x.1.1,x.1.2.1,x.1.2.2.1,()),x.2.1,())))
noncomputable def AZ(x:Ty.T kJ):Option (Ty.T agn):=
match al ((x.1.1,x.1.2.1,x.1.2.2.1,()),(4:Int),())with
|none=>none
|some v1=>
match ak lL ((v1.2.1.1,v1.2.1.2.1,v1.2.1.2.2.1,()),[],(IntKind.i64.wrap ((1:Int)+v1.1)),(0:Int),())with
|none=>none
|some (.inl v7)=>
 some (v7.2.1,(v7.1.1,v7.1.2.1,v7.1.2.2.1,()),())
|some (.inr v9)=>
 none
noncomputable def Xv:ai:=⟨_,agl,kJ,rfl,AZ⟩
noncomputable def y8:FuncId→Option ai:=ca [(45,oI)]
theorem Rj:∀f s,y8 f=some s→FnOK G0 Tryz.prog f s:=aX ⟨dq,trivial⟩
def Gy:bg:=⟨[0,3,4,5],wS,0,[0,3],Gx,[],.unit⟩
def Gz:bg:=⟨[0,3,4,5,6,7],wR,2,[0,3,4,5,6],Gw,[],.unit⟩
noncomputable def y9:List aM:=[Gy.spec lL,Gz.spec iE]
theorem OL:bJ Γ2 E2 y8 (bF Tryz.f139 y9) Tryz.f139 0 Gy lL:=fun x=>by kernel_rfl
theorem OM:bJ Γ2 E2 y8 (bF Tryz.f139 y9) Tryz.f139 1 Gz iE:=fun x=>by kernel_rfl
theorem VB:FnOK G0 Tryz.prog 139 Xv:=bb agq Rj Tryz.func139 y9 (by kernel_rfl) (by exact⟨(OL).lok,(OM).lok,trivial⟩) fun x=>by kernel_rfl
noncomputable def tC(x:Ty.T kJ):Option (Ty.T agn):=
match AZ ((x.1.1,x.1.2.1,x.1.2.2.1,()),())with
|none=>none
|some v1=>
match al ((v1.2.1.1,v1.2.1.2.1,v1.2.1.2.2.1,()),(v1.1.length:Int),())with
|none=>none
|some v2=>
match al ((v2.2.1.1,v2.2.1.2.1,v2.2.1.2.2.1,()),(24:Int),())with
|none=>none
|some v3=>
match(v3.1==(0:Int))with
|true=>
 match al ((v3.2.1.1,v3.2.1.2.1,v3.2.1.2.2.1,()),(3:Int),())with
 |none=>none
 |some v4=>
 ac (aI [(0:Int),(8:Int),(9:Int)] v4.1) fun _=>
 match [(0:Int),(8:Int),(9:Int)][v4.1.toNat]? with
 |none=>none
 |some v6=>
 ac (aI v1.1 v2.1) fun _=>
 match v1.1[v2.1.toNat]? with
 |none=>none
 |some v8=>
 some ((v1.1.set v2.1.toNat (v6,v8.2)),(v4.2.1.1,v4.2.1.2.1,v4.2.1.2.2.1,()),())
|false=>
 match(v3.1==(1:Int))with
 |true=>
  match al ((v3.2.1.1,v3.2.1.2.1,v3.2.1.2.2.1,()),(3:Int),())with
  |none=>none
  |some v9=>
  ac (aI [(0:Int),(16:Int),(17:Int)] v9.1) fun _=>
  match [(0:Int),(16:Int),(17:Int)][v9.1.toNat]? with
  |none=>none
  |some v11=>
  ac (aI v1.1 v2.1) fun _=>
  match v1.1[v2.1.toNat]? with
  |none=>none
  |some v13=>
  some ((v1.1.set v2.1.toNat (v13.1,(v11,v13.2.2))),(v9.2.1.1,v9.2.1.2.1,v9.2.1.2.2.1,()),())
 |false=>
  match(v3.1==(2:Int))with
  |true=>
   ac (aI v1.1 v2.1) fun _=>
   aD (
    match v1.1[v2.1.toNat]? with
    |none=>none
    |some v15=>
    aD (
     be (
      match al ((v3.2.1.1,v3.2.1.2.1,v3.2.1.2.2.1,()),(3:Int),())with
      |none=>none
      |some v16=>
      ac (aI [v2.1,(v1.1.length:Int),(0:Int)] v16.1) fun _=>
      match [v2.1,(v1.1.length:Int),(0:Int)][v16.1.toNat]? with
      |none=>none
      |some v18=>
      bd (v15.2.2.1.length+ [v18].length) (
       ac (aI v1.1 v2.1) fun _=>
       if v2.1.toNat=v2.1.toNat then
        some ((v1.1.set v2.1.toNat (v15.1,(v15.2.1,((v15.2.2.1++ [v18]),v15.2.2.2)))),(v16.2.1.1,v16.2.1.2.1,v16.2.1.2.2.1,()),())
       else none))) (
     match al ((v3.2.1.1,v3.2.1.2.1,v3.2.1.2.2.1,()),(3:Int),())with
     |none=>none
     |some v16=>
     ac (aI [v2.1,(v1.1.length:Int),(0:Int)] v16.1) fun _=>
     match [v2.1,(v1.1.length:Int),(0:Int)][v16.1.toNat]? with
     |none=>none
     |some v18=>
     bd (v15.2.2.1.length+ [v18].length) (
      ac (aI v1.1 v2.1) fun _=>
      if v2.1.toNat=v2.1.toNat then
       some ((v1.1.set v2.1.toNat (v15.1,(v15.2.1,((v15.2.2.1++ [v18]),v15.2.2.2)))),(v16.2.1.1,v16.2.1.2.1,v16.2.1.2.2.1,()),())
      else none))) (
    aD (
     aD (
      match v1.1[v2.1.toNat]? with
      |none=>none
      |some v15=>
      be (
       match al ((v3.2.1.1,v3.2.1.2.1,v3.2.1.2.2.1,()),(3:Int),())with
       |none=>none
       |some v16=>
       ac (aI [v2.1,(v1.1.length:Int),(0:Int)] v16.1) fun _=>
       match [v2.1,(v1.1.length:Int),(0:Int)][v16.1.toNat]? with
       |none=>none
       |some v18=>
       bd (v15.2.2.1.length+ [v18].length) (
        ac (aI v1.1 v2.1) fun _=>
        if v2.1.toNat=v2.1.toNat then
         some ((v1.1.set v2.1.toNat (v15.1,(v15.2.1,((v15.2.2.1++ [v18]),v15.2.2.2)))),(v16.2.1.1,v16.2.1.2.1,v16.2.1.2.2.1,()),())
        else none))) (
      aD (
       aD (
        match v1.1[v2.1.toNat]? with
        |none=>none
        |some v15=>
        match al ((v3.2.1.1,v3.2.1.2.1,v3.2.1.2.2.1,()),(3:Int),())with
        |none=>none
        |some v16=>
        ac (aI [v2.1,(v1.1.length:Int),(0:Int)] v16.1) fun _=>
        match [v2.1,(v1.1.length:Int),(0:Int)][v16.1.toNat]? with
        |none=>none
        |some v18=>
        bd (v15.2.2.1.length+ [v18].length) (
         ac (aI v1.1 v2.1) fun _=>
         if v2.1.toNat=v2.1.toNat then
          some ((v1.1.set v2.1.toNat (v15.1,(v15.2.1,((v15.2.2.1++ [v18]),v15.2.2.2)))),(v16.2.1.1,v16.2.1.2.1,v16.2.1.2.2.1,()),())
         else none)) (
        match al ((v3.2.1.1,v3.2.1.2.1,v3.2.1.2.2.1,()),(3:Int),())with
        |none=>none
        |some v15=>
        ac (aI [v2.1,(v1.1.length:Int),(0:Int)] v15.1) fun _=>
        aD (
         match v1.1[v2.1.toNat]? with
         |none=>none
         |some v17=>
         match [v2.1,(v1.1.length:Int),(0:Int)][v15.1.toNat]? with
         |none=>none
         |some v18=>
         bd (v17.2.2.1.length+ [v18].length) (
          ac (aI v1.1 v2.1) fun _=>
          if v2.1.toNat=v2.1.toNat then
           some ((v1.1.set v2.1.toNat (v17.1,(v17.2.1,((v17.2.2.1++ [v18]),v17.2.2.2)))),(v15.2.1.1,v15.2.1.2.1,v15.2.1.2.2.1,()),())
          else none)) (
         match [v2.1,(v1.1.length:Int),(0:Int)][v15.1.toNat]? with
         |none=>none
         |some v17=>
         be (
          match v1.1[v2.1.toNat]? with
          |none=>none
          |some v18=>
          bd (v18.2.2.1.length+ [v17].length) (
           ac (aI v1.1 v2.1) fun _=>
           if v2.1.toNat=v2.1.toNat then
            some ((v1.1.set v2.1.toNat (v18.1,(v18.2.1,((v18.2.2.1++ [v17]),v18.2.2.2)))),(v15.2.1.1,v15.2.1.2.1,v15.2.1.2.2.1,()),())
           else none))))) (
       match al ((v3.2.1.1,v3.2.1.2.1,v3.2.1.2.2.1,()),(3:Int),())with
       |none=>none
       |some v15=>
       aD (
        match v1.1[v2.1.toNat]? with
        |none=>none
        |some v16=>
        ac (aI [v2.1,(v1.1.length:Int),(0:Int)] v15.1) fun _=>
        match [v2.1,(v1.1.length:Int),(0:Int)][v15.1.toNat]? with
        |none=>none
        |some v18=>
        bd (v16.2.2.1.length+ [v18].length) (
         ac (aI v1.1 v2.1) fun _=>
         if v2.1.toNat=v2.1.toNat then
          some ((v1.1.set v2.1.toNat (v16.1,(v16.2.1,((v16.2.2.1++ [v18]),v16.2.2.2)))),(v15.2.1.1,v15.2.1.2.1,v15.2.1.2.2.1,()),())
         else none)) (
        ac (aI [v2.1,(v1.1.length:Int),(0:Int)] v15.1) fun _=>
        aD (
         match v1.1[v2.1.toNat]? with
         |none=>none
         |some v17=>
         match [v2.1,(v1.1.length:Int),(0:Int)][v15.1.toNat]? with
         |none=>none
         |some v18=>
         bd (v17.2.2.1.length+ [v18].length) (
          ac (aI v1.1 v2.1) fun _=>
          if v2.1.toNat=v2.1.toNat then
           some ((v1.1.set v2.1.toNat (v17.1,(v17.2.1,((v17.2.2.1++ [v18]),v17.2.2.2)))),(v15.2.1.1,v15.2.1.2.1,v15.2.1.2.2.1,()),())
          else none)) (
         match [v2.1,(v1.1.length:Int),(0:Int)][v15.1.toNat]? with
         |none=>none
         |some v17=>
         be (
          match v1.1[v2.1.toNat]? with
          |none=>none
          |some v18=>
          bd (v18.2.2.1.length+ [v17].length) (
           ac (aI v1.1 v2.1) fun _=>
           if v2.1.toNat=v2.1.toNat then
            some ((v1.1.set v2.1.toNat (v18.1,(v18.2.1,((v18.2.2.1++ [v17]),v18.2.2.2)))),(v15.2.1.1,v15.2.1.2.1,v15.2.1.2.2.1,()),())
           else none))))))) (
     match al ((v3.2.1.1,v3.2.1.2.1,v3.2.1.2.2.1,()),(3:Int),())with
     |none=>none
     |some v15=>
     aD (
      match v1.1[v2.1.toNat]? with
      |none=>none
      |some v16=>
      ac (aI [v2.1,(v1.1.length:Int),(0:Int)] v15.1) fun _=>
      match [v2.1,(v1.1.length:Int),(0:Int)][v15.1.toNat]? with
      |none=>none
      |some v18=>
      bd (v16.2.2.1.length+ [v18].length) (
       ac (aI v1.1 v2.1) fun _=>
       if v2.1.toNat=v2.1.toNat then
        some ((v1.1.set v2.1.toNat (v16.1,(v16.2.1,((v16.2.2.1++ [v18]),v16.2.2.2)))),(v15.2.1.1,v15.2.1.2.1,v15.2.1.2.2.1,()),())
       else none)) (
      aD (
       match v1.1[v2.1.toNat]? with
       |none=>none
       |some v16=>
       ac (aI [v2.1,(v1.1.length:Int),(0:Int)] v15.1) fun _=>
       match [v2.1,(v1.1.length:Int),(0:Int)][v15.1.toNat]? with
       |none=>none
       |some v18=>
       bd (v16.2.2.1.length+ [v18].length) (
        ac (aI v1.1 v2.1) fun _=>
        if v2.1.toNat=v2.1.toNat then
         some ((v1.1.set v2.1.toNat (v16.1,(v16.2.1,((v16.2.2.1++ [v18]),v16.2.2.2)))),(v15.2.1.1,v15.2.1.2.1,v15.2.1.2.2.1,()),())
        else none)) (
       ac (aI [v2.1,(v1.1.length:Int),(0:Int)] v15.1) fun _=>
       aD (
        match v1.1[v2.1.toNat]? with
        |none=>none
        |some v17=>
        match [v2.1,(v1.1.length:Int),(0:Int)][v15.1.toNat]? with
        |none=>none
        |some v18=>
        bd (v17.2.2.1.length+ [v18].length) (
         ac (aI v1.1 v2.1) fun _=>
         if v2.1.toNat=v2.1.toNat then
          some ((v1.1.set v2.1.toNat (v17.1,(v17.2.1,((v17.2.2.1++ [v18]),v17.2.2.2)))),(v15.2.1.1,v15.2.1.2.1,v15.2.1.2.2.1,()),())
         else none)) (
        match [v2.1,(v1.1.length:Int),(0:Int)][v15.1.toNat]? with
        |none=>none
        |some v17=>
        be (
         match v1.1[v2.1.toNat]? with
         |none=>none
         |some v18=>
         bd (v18.2.2.1.length+ [v17].length) (
          ac (aI v1.1 v2.1) fun _=>
          if v2.1.toNat=v2.1.toNat then
           some ((v1.1.set v2.1.toNat (v18.1,(v18.2.1,((v18.2.2.1++ [v17]),v18.2.2.2)))),(v15.2.1.1,v15.2.1.2.1,v15.2.1.2.2.1,()),())
          else none)))))))
  |false=>
   match(v3.1==(3:Int))with
   |true=>
    some ([],(v3.2.1.1,v3.2.1.2.1,v3.2.1.2.2.1,()),())
   |false=>
    match(v3.1==(4:Int))with
    |true=>
     if 0≤(17:Int)∧(17:Int)≤(17:Int)then
      bd ((17:Int).toNat) (
       some ((List.replicate (17:Int).toNat ((0:Int),(0:Int),[],())),(v3.2.1.1,v3.2.1.2.1,v3.2.1.2.2.1,()),()))
     else none
    |false=>
     some (v1.1,(v3.2.1.1,v3.2.1.2.1,v3.2.1.2.2.1,()),())
noncomputable def Dy:ai:=⟨_,agl,kJ,rfl,tC⟩
theorem ON:FnOK G0 Tryz.prog 82 Dy:=au agq (sg dq (sg VB (ba))) Tryz.func82
noncomputable def tD(x:Ty.T kJ):Option (Ty.T af3):=
match sM ((x.1.1,x.1.2.1,x.1.2.2.1,()),())with
|none=>none
|some v1=>
match al ((v1.2.1.1,v1.2.1.2.1,v1.2.1.2.2.1,()),(30:Int),())with
|none=>none
|some v2=>
match(v2.1==(0:Int))with
|true=>
 match al ((v2.2.1.1,v2.2.1.2.1,v2.2.1.2.2.1,()),(3:Int),())with
 |none=>none
 |some v3=>
 ac (aI [(-1:Int),(31:Int),(32:Int)] v3.1) fun _=>
 match [(-1:Int),(31:Int),(32:Int)][v3.1.toNat]? with
 |none=>none
 |some v5=>
 some ((v5,v1.1.2.1,v1.1.2.2.1,v1.1.2.2.2.1,v1.1.2.2.2.2.1,()),(v3.2.1.1,v3.2.1.2.1,v3.2.1.2.2.1,()),())
|false=>
 match(v2.1==(1:Int))with
 |true=>
  match al ((v2.2.1.1,v2.2.1.2.1,v2.2.1.2.2.1,()),(6:Int),())with
  |none=>none
  |some v6=>
  some ((v1.1.1,(IntKind.i64.wrap (v6.1-(1:Int))),v1.1.2.2.1,v1.1.2.2.2.1,v1.1.2.2.2.2.1,()),(v6.2.1.1,v6.2.1.2.1,v6.2.1.2.2.1,()),())
 |false=>
  match(v2.1==(2:Int))with
  |true=>
   match al ((v2.2.1.1,v2.2.1.2.1,v2.2.1.2.2.1,()),(4:Int),())with
   |none=>none
   |some v7=>
   ac (aI [(-1:Int),(0:Int),(32:Int),(33:Int)] v7.1) fun _=>
   match [(-1:Int),(0:Int),(32:Int),(33:Int)][v7.1.toNat]? with
   |none=>none
   |some v9=>
   some ((v1.1.1,v1.1.2.1,v9,v1.1.2.2.2.1,v1.1.2.2.2.2.1,()),(v7.2.1.1,v7.2.1.2.1,v7.2.1.2.2.1,()),())
  |false=>
   match(v2.1==(3:Int))with
   |true=>
    match eY (v1.1.2.1,v1.1.2.2.1,())with
    |none=>none
    |some v10=>
    match al ((v2.2.1.1,v2.2.1.2.1,v2.2.1.2.2.1,()),(4:Int),())with
    |none=>none
    |some v11=>
    ac (aI [(0:Int),(IntKind.i64.wrap ((IntKind.i64.wrap (v10.1+(20:Int)))-(1:Int))),(1000:Int),(1001:Int)] v11.1) fun _=>
    match [(0:Int),(IntKind.i64.wrap ((IntKind.i64.wrap (v10.1+(20:Int)))-(1:Int))),(1000:Int),(1001:Int)][v11.1.toNat]? with
    |none=>none
    |some v13=>
    some ((v1.1.1,v1.1.2.1,v1.1.2.2.1,v13,v1.1.2.2.2.2.1,()),(v11.2.1.1,v11.2.1.2.1,v11.2.1.2.2.1,()),())
   |false=>
    match(v2.1==(4:Int))with
    |true=>
     some ((v1.1.1,v1.1.2.1,v1.1.2.2.1,v1.1.2.2.2.1,(!v1.1.2.2.2.2.1),()),(v2.2.1.1,v2.2.1.2.1,v2.2.1.2.2.1,()),())
    |false=>
     some ((v1.1.1,v1.1.2.1,v1.1.2.2.1,v1.1.2.2.2.1,v1.1.2.2.2.2.1,()),(v2.2.1.1,v2.2.1.2.1,v2.2.1.2.2.1,()),())
noncomputable def Dz:ai:=⟨_,IH,kJ,rfl,tD⟩
theorem OO:FnOK G0 Tryz.prog 83 Dz:=au av (sg dq (sg IP (sg wQ (ba)))) Tryz.func83
abbrev qI:Ty:=(.pair (.box aF) (.pair (.box aA) (.pair (.box (.pair (.int .i64) (.pair (.own 123 aL) (.pair (.own 90 aR) (.pair (.own 107 az) .unit))))) (.pair (.int .i64) .unit))))
abbrev xv:Ty:=(.pair (.box aF) (.pair (.box aA) (.pair (.box (.pair (.int .i64) (.pair (.own 123 aL) (.pair (.own 90 aR) (.pair (.own 107 az) .unit))))) .unit)))
noncomputable def eU(x:(Ty.T qI)):Option ((Ty.T qI) ⊕ ((Ty.T xv) ⊕ (Ty.T .unit))):=
match(decide (x.2.2.2.1<(x.2.2.1.2.2.2.1.length:Int)))with
|true=>
 ac (aI x.2.2.1.2.2.2.1 x.2.2.2.1) fun _=>
 match x.2.2.1.2.2.2.1[x.2.2.2.1.toNat]? with
 |none=>none
 |some v27=>
 some (.inl ((x.1.1,x.1.2.1,x.1.2.2.1,()),(x.2.1.1,x.2.1.2.1,x.2.1.2.2.1,x.2.1.2.2.2.1,()),(x.2.2.1.1,x.2.2.1.2.1,x.2.2.1.2.2.1,(x.2.2.1.2.2.2.1.set x.2.2.2.1.toNat (v27.1,v27.2.1,v27.2.2.1,(v27.2.2.2.1.1,v27.2.2.2.1.2.1,v27.2.2.2.1.2.2.1,(1000:Int),v27.2.2.2.1.2.2.2.2.1,()),())),()),(IntKind.i64.wrap (x.2.2.2.1+(1:Int))),()))
|false=>
 some (.inr (.inl ((x.1.1,x.1.2.1,x.1.2.2.1,()),(x.2.1.1,x.2.1.2.1,x.2.1.2.2.1,x.2.1.2.2.2.1,()),(x.2.2.1.1,x.2.2.1.2.1,x.2.2.1.2.2.1,x.2.2.1.2.2.2.1,()),())))
abbrev qJ:Ty:=(.pair (.box aF) (.pair (.box aA) (.pair (.box (.pair (.int .i64) (.pair (.own 123 aL) (.pair (.own 90 aR) (.pair (.list az) .unit))))) (.pair (.own 107 az) (.pair (.int .i64) .unit)))))
abbrev xw:Ty:=(.pair (.box aF) (.pair (.box aA) (.pair (.box (.pair (.int .i64) (.pair (.own 123 aL) (.pair (.own 90 aR) (.pair (.list az) .unit))))) (.pair (.own 107 az) .unit))))
noncomputable def c8(x:(Ty.T qJ)):Option ((Ty.T qJ) ⊕ ((Ty.T xw) ⊕ (Ty.T .unit))):=
ac (aI x.2.2.1.2.2.1 (0:Int)) fun _=>
match x.2.2.1.2.2.1[(0:Int).toNat]? with
|none=>none
|some v33=>
ac (aI x.2.2.1.2.2.1 (0:Int)) fun _=>
match x.2.2.1.2.2.1[(0:Int).toNat]? with
|none=>none
|some v35=>
match(decide (x.2.2.2.2.1<(IntKind.i64.wrap (v33.1*v35.2.1))))with
|true=>
 aD (
  ac (aI x.2.2.1.2.2.1 (0:Int)) fun _=>
  aD (
   match x.2.2.1.2.2.1[(0:Int).toNat]? with
   |none=>none
   |some v37=>
   if v37.2.1=0 then none else
   ac (aI x.2.2.1.2.2.1 (0:Int)) fun _=>
   match x.2.2.1.2.2.1[(0:Int).toNat]? with
   |none=>none
   |some v39=>
   if v39.2.1=0 then none else
   bd (x.2.2.2.1.length+ [((0:Int),(IntKind.i64.wrap (Int.tdiv x.2.2.2.2.1 v37.2.1)),(Int.tmod x.2.2.2.2.1 v39.2.1),((0:Int),(1:Int),(0:Int),(1000:Int),false,()),())].length) (
    some (.inl ((x.1.1,x.1.2.1,x.1.2.2.1,()),(x.2.1.1,x.2.1.2.1,x.2.1.2.2.1,x.2.1.2.2.2.1,()),(x.2.2.1.1,x.2.2.1.2.1,x.2.2.1.2.2.1,x.2.2.1.2.2.2.1,()),(x.2.2.2.1++ [((0:Int),(IntKind.i64.wrap (Int.tdiv x.2.2.2.2.1 v37.2.1)),(Int.tmod x.2.2.2.2.1 v39.2.1),((0:Int),(1:Int),(0:Int),(1000:Int),false,()),())]),(IntKind.i64.wrap (x.2.2.2.2.1+(1:Int))),())))) (
   ac (aI x.2.2.1.2.2.1 (0:Int)) fun _=>
   aD (
    match x.2.2.1.2.2.1[(0:Int).toNat]? with
    |none=>none
    |some v38=>
    if v38.2.1=0 then none else
    match x.2.2.1.2.2.1[(0:Int).toNat]? with
    |none=>none
    |some v39=>
    if v39.2.1=0 then none else
    bd (x.2.2.2.1.length+ [((0:Int),(IntKind.i64.wrap (Int.tdiv x.2.2.2.2.1 v38.2.1)),(Int.tmod x.2.2.2.2.1 v39.2.1),((0:Int),(1:Int),(0:Int),(1000:Int),false,()),())].length) (
     some (.inl ((x.1.1,x.1.2.1,x.1.2.2.1,()),(x.2.1.1,x.2.1.2.1,x.2.1.2.2.1,x.2.1.2.2.2.1,()),(x.2.2.1.1,x.2.2.1.2.1,x.2.2.1.2.2.1,x.2.2.1.2.2.2.1,()),(x.2.2.2.1++ [((0:Int),(IntKind.i64.wrap (Int.tdiv x.2.2.2.2.1 v38.2.1)),(Int.tmod x.2.2.2.2.1 v39.2.1),((0:Int),(1:Int),(0:Int),(1000:Int),false,()),())]),(IntKind.i64.wrap (x.2.2.2.2.1+(1:Int))),())))) (
    match x.2.2.1.2.2.1[(0:Int).toNat]? with
    |none=>none
    |some v38=>
    if v38.2.1=0 then none else
    match x.2.2.1.2.2.1[(0:Int).toNat]? with
    |none=>none
    |some v39=>
    if v39.2.1=0 then none else
    bd (x.2.2.2.1.length+ [((0:Int),(IntKind.i64.wrap (Int.tdiv x.2.2.2.2.1 v39.2.1)),(Int.tmod x.2.2.2.2.1 v38.2.1),((0:Int),(1:Int),(0:Int),(1000:Int),false,()),())].length) (
     some (.inl ((x.1.1,x.1.2.1,x.1.2.2.1,()),(x.2.1.1,x.2.1.2.1,x.2.1.2.2.1,x.2.1.2.2.2.1,()),(x.2.2.1.1,x.2.2.1.2.1,x.2.2.1.2.2.1,x.2.2.1.2.2.2.1,()),(x.2.2.2.1++ [((0:Int),(IntKind.i64.wrap (Int.tdiv x.2.2.2.2.1 v39.2.1)),(Int.tmod x.2.2.2.2.1 v38.2.1),((0:Int),(1:Int),(0:Int),(1000:Int),false,()),())]),(IntKind.i64.wrap (x.2.2.2.2.1+(1:Int))),())))))) (
  ac (aI x.2.2.1.2.2.1 (0:Int)) fun _=>
  aD (
   ac (aI x.2.2.1.2.2.1 (0:Int)) fun _=>
   aD (
    match x.2.2.1.2.2.1[(0:Int).toNat]? with
    |none=>none
    |some v38=>
    if v38.2.1=0 then none else
    match x.2.2.1.2.2.1[(0:Int).toNat]? with
    |none=>none
    |some v39=>
    if v39.2.1=0 then none else
    bd (x.2.2.2.1.length+ [((0:Int),(IntKind.i64.wrap (Int.tdiv x.2.2.2.2.1 v38.2.1)),(Int.tmod x.2.2.2.2.1 v39.2.1),((0:Int),(1:Int),(0:Int),(1000:Int),false,()),())].length) (
     some (.inl ((x.1.1,x.1.2.1,x.1.2.2.1,()),(x.2.1.1,x.2.1.2.1,x.2.1.2.2.1,x.2.1.2.2.2.1,()),(x.2.2.1.1,x.2.2.1.2.1,x.2.2.1.2.2.1,x.2.2.1.2.2.2.1,()),(x.2.2.2.1++ [((0:Int),(IntKind.i64.wrap (Int.tdiv x.2.2.2.2.1 v38.2.1)),(Int.tmod x.2.2.2.2.1 v39.2.1),((0:Int),(1:Int),(0:Int),(1000:Int),false,()),())]),(IntKind.i64.wrap (x.2.2.2.2.1+(1:Int))),())))) (
    match x.2.2.1.2.2.1[(0:Int).toNat]? with
    |none=>none
    |some v38=>
    if v38.2.1=0 then none else
    match x.2.2.1.2.2.1[(0:Int).toNat]? with
    |none=>none
    |some v39=>
    if v39.2.1=0 then none else
    bd (x.2.2.2.1.length+ [((0:Int),(IntKind.i64.wrap (Int.tdiv x.2.2.2.2.1 v39.2.1)),(Int.tmod x.2.2.2.2.1 v38.2.1),((0:Int),(1:Int),(0:Int),(1000:Int),false,()),())].length) (
     some (.inl ((x.1.1,x.1.2.1,x.1.2.2.1,()),(x.2.1.1,x.2.1.2.1,x.2.1.2.2.1,x.2.1.2.2.2.1,()),(x.2.2.1.1,x.2.2.1.2.1,x.2.2.1.2.2.1,x.2.2.1.2.2.2.1,()),(x.2.2.2.1++ [((0:Int),(IntKind.i64.wrap (Int.tdiv x.2.2.2.2.1 v39.2.1)),(Int.tmod x.2.2.2.2.1 v38.2.1),((0:Int),(1:Int),(0:Int),(1000:Int),false,()),())]),(IntKind.i64.wrap (x.2.2.2.2.1+(1:Int))),()))))) (
   match x.2.2.1.2.2.1[(0:Int).toNat]? with
   |none=>none
   |some v37=>
   if v37.2.1=0 then none else
   ac (aI x.2.2.1.2.2.1 (0:Int)) fun _=>
   match x.2.2.1.2.2.1[(0:Int).toNat]? with
   |none=>none
   |some v39=>
   if v39.2.1=0 then none else
   bd (x.2.2.2.1.length+ [((0:Int),(IntKind.i64.wrap (Int.tdiv x.2.2.2.2.1 v39.2.1)),(Int.tmod x.2.2.2.2.1 v37.2.1),((0:Int),(1:Int),(0:Int),(1000:Int),false,()),())].length) (
    some (.inl ((x.1.1,x.1.2.1,x.1.2.2.1,()),(x.2.1.1,x.2.1.2.1,x.2.1.2.2.1,x.2.1.2.2.2.1,()),(x.2.2.1.1,x.2.2.1.2.1,x.2.2.1.2.2.1,x.2.2.1.2.2.2.1,()),(x.2.2.2.1++ [((0:Int),(IntKind.i64.wrap (Int.tdiv x.2.2.2.2.1 v39.2.1)),(Int.tmod x.2.2.2.2.1 v37.2.1),((0:Int),(1:Int),(0:Int),(1000:Int),false,()),())]),(IntKind.i64.wrap (x.2.2.2.2.1+(1:Int))),())))))
|false=>
 some (.inr (.inl ((x.1.1,x.1.2.1,x.1.2.2.1,()),(x.2.1.1,x.2.1.2.1,x.2.1.2.2.1,x.2.1.2.2.2.1,()),(x.2.2.1.1,x.2.2.1.2.1,x.2.2.1.2.2.1,x.2.2.1.2.2.2.1,()),x.2.2.2.1,())))
noncomputable def pm(x:Ty.T kJ):Option (Ty.T (.pair aA (.pair (.box aF) .unit))):=
match AY ((x.1.1,x.1.2.1,x.1.2.2.1,()),())with
|none=>none
|some v1=>
match al ((v1.2.1.1,v1.2.1.2.1,v1.2.1.2.2.1,()),(v1.1.2.2.2.1.length:Int),())with
|none=>none
|some v2=>
match al ((v2.2.1.1,v2.2.1.2.1,v2.2.1.2.2.1,()),(30:Int),())with
|none=>none
|some v3=>
match(v3.1==(0:Int))with
|true=>
 match al ((v3.2.1.1,v3.2.1.2.1,v3.2.1.2.2.1,()),(3:Int),())with
 |none=>none
 |some v4=>
 ac (aI [(0:Int),(16777215:Int),(16777216:Int)] v4.1) fun _=>
 match [(0:Int),(16777215:Int),(16777216:Int)][v4.1.toNat]? with
 |none=>none
 |some v6=>
 some ((v6,v1.1.2.1,v1.1.2.2.1,v1.1.2.2.2.1,()),(v4.2.1.1,v4.2.1.2.1,v4.2.1.2.2.1,()),())
|false=>
 match(v3.1==(1:Int))with
 |true=>
  match tB ((v3.2.1.1,v3.2.1.2.1,v3.2.1.2.2.1,()),())with
  |none=>none
  |some v7=>
  some ((v1.1.1,v7.1,v1.1.2.2.1,v1.1.2.2.2.1,()),(v7.2.1.1,v7.2.1.2.1,v7.2.1.2.2.1,()),())
 |false=>
  match(v3.1==(2:Int))with
  |true=>
   match tC ((v3.2.1.1,v3.2.1.2.1,v3.2.1.2.2.1,()),())with
   |none=>none
   |some v8=>
   some ((v1.1.1,v1.1.2.1,v8.1,v1.1.2.2.2.1,()),(v8.2.1.1,v8.2.1.2.1,v8.2.1.2.2.1,()),())
  |false=>
   match(v3.1==(3:Int))with
   |true=>
    ac (aZ v1.1.2.2.2.1.length (some (.dat (.int .i64) (1:Int))) none) fun v9=>
    some ((v1.1.1,v1.1.2.1,v1.1.2.2.1,(List.drop v9.1 (List.take v9.2 v1.1.2.2.2.1)),()),(v3.2.1.1,v3.2.1.2.1,v3.2.1.2.2.1,()),())
   |false=>
    match(v3.1==(4:Int))with
    |true=>
     be (
      match tD ((v3.2.1.1,v3.2.1.2.1,v3.2.1.2.2.1,()),())with
      |none=>none
      |some v10=>
      ac (aI v1.1.2.2.2.1 v2.1) fun _=>
      match v1.1.2.2.2.1[v2.1.toNat]? with
      |none=>none
      |some v12=>
      some ((v1.1.1,v1.1.2.1,v1.1.2.2.1,(v1.1.2.2.2.1.set v2.1.toNat (v12.1,v12.2.1,v12.2.2.1,(v10.1.1,v10.1.2.1,v10.1.2.2.1,v10.1.2.2.2.1,v10.1.2.2.2.2.1,()),())),()),(v10.2.1.1,v10.2.1.2.1,v10.2.1.2.2.1,()),()))
    |false=>
     match(v3.1==(5:Int))with
     |true=>
      aD (
       ac (aI v1.1.2.2.2.1 v2.1) fun _=>
       match v1.1.2.2.2.1[v2.1.toNat]? with
       |none=>none
       |some v14=>
       ac (aI v1.1.2.2.2.1 v2.1) fun _=>
       match v1.1.2.2.2.1[v2.1.toNat]? with
       |none=>none
       |some v16=>
       some ((v1.1.1,v1.1.2.1,v1.1.2.2.1,(v1.1.2.2.2.1.set v2.1.toNat (v16.1,v16.2.1,v16.2.2.1,(v16.2.2.2.1.1,v16.2.2.2.1.2.1,v16.2.2.2.1.2.2.1,(IntKind.i64.wrap (v14.2.2.2.1.2.2.2.1+(1:Int))),v16.2.2.2.1.2.2.2.2.1,()),())),()),(v3.2.1.1,v3.2.1.2.1,v3.2.1.2.2.1,()),())) (
       ac (aI v1.1.2.2.2.1 v2.1) fun _=>
       be (
        match v1.1.2.2.2.1[v2.1.toNat]? with
        |none=>none
        |some v14=>
        ac (aI v1.1.2.2.2.1 v2.1) fun _=>
        match v1.1.2.2.2.1[v2.1.toNat]? with
        |none=>none
        |some v16=>
        some ((v1.1.1,v1.1.2.1,v1.1.2.2.1,(v1.1.2.2.2.1.set v2.1.toNat (v16.1,v16.2.1,v16.2.2.1,(v16.2.2.2.1.1,v16.2.2.2.1.2.1,v16.2.2.2.1.2.2.1,(IntKind.i64.wrap (v14.2.2.2.1.2.2.2.1+(1:Int))),v16.2.2.2.1.2.2.2.2.1,()),())),()),(v3.2.1.1,v3.2.1.2.1,v3.2.1.2.2.1,()),())))
     |false=>
      match(v3.1==(6:Int))with
      |true=>
       be (
        match al ((v3.2.1.1,v3.2.1.2.1,v3.2.1.2.2.1,()),(9:Int),())with
        |none=>none
        |some v17=>
        ac (aI v1.1.2.2.2.1 v2.1) fun _=>
        match v1.1.2.2.2.1[v2.1.toNat]? with
        |none=>none
        |some v19=>
        some ((v1.1.1,v1.1.2.1,v1.1.2.2.1,(v1.1.2.2.2.1.set v2.1.toNat (v19.1,v19.2.1,v19.2.2.1,(v17.1,v19.2.2.2.1.2.1,v19.2.2.2.1.2.2.1,v19.2.2.2.1.2.2.2.1,v19.2.2.2.1.2.2.2.2.1,()),())),()),(v17.2.1.1,v17.2.1.2.1,v17.2.1.2.2.1,()),()))
      |false=>
       match(v3.1==(7:Int))with
       |true=>
        ac (aI v1.1.2.2.2.1 v2.1) fun _=>
        match v1.1.2.2.2.1[v2.1.toNat]? with
        |none=>none
        |some v21=>
        ac (aI (v1.1.2.2.2.1.set v2.1.toNat (v21.1,v21.2.1,v21.2.2.1,(v21.2.2.2.1.1,(3:Int),v21.2.2.2.1.2.2.1,v21.2.2.2.1.2.2.2.1,v21.2.2.2.1.2.2.2.2.1,()),())) v2.1) fun _=>
        match(v1.1.2.2.2.1.set v2.1.toNat (v21.1,v21.2.1,v21.2.2.1,(v21.2.2.2.1.1,(3:Int),v21.2.2.2.1.2.2.1,v21.2.2.2.1.2.2.2.1,v21.2.2.2.1.2.2.2.2.1,()),()))[v2.1.toNat]? with
        |none=>none
        |some v23=>
        ac (aI ((v1.1.2.2.2.1.set v2.1.toNat (v21.1,v21.2.1,v21.2.2.1,(v21.2.2.2.1.1,(3:Int),v21.2.2.2.1.2.2.1,v21.2.2.2.1.2.2.2.1,v21.2.2.2.1.2.2.2.2.1,()),())).set v2.1.toNat (v23.1,v23.2.1,v23.2.2.1,(v23.2.2.2.1.1,v23.2.2.2.1.2.1,(0:Int),v23.2.2.2.1.2.2.2.1,v23.2.2.2.1.2.2.2.2.1,()),())) v2.1) fun _=>
        match((v1.1.2.2.2.1.set v2.1.toNat (v21.1,v21.2.1,v21.2.2.1,(v21.2.2.2.1.1,(3:Int),v21.2.2.2.1.2.2.1,v21.2.2.2.1.2.2.2.1,v21.2.2.2.1.2.2.2.2.1,()),())).set v2.1.toNat (v23.1,v23.2.1,v23.2.2.1,(v23.2.2.2.1.1,v23.2.2.2.1.2.1,(0:Int),v23.2.2.2.1.2.2.2.1,v23.2.2.2.1.2.2.2.2.1,()),()))[v2.1.toNat]? with
        |none=>none
        |some v25=>
        some ((v1.1.1,v1.1.2.1,v1.1.2.2.1,(((v1.1.2.2.2.1.set v2.1.toNat (v21.1,v21.2.1,v21.2.2.1,(v21.2.2.2.1.1,(3:Int),v21.2.2.2.1.2.2.1,v21.2.2.2.1.2.2.2.1,v21.2.2.2.1.2.2.2.2.1,()),())).set v2.1.toNat (v23.1,v23.2.1,v23.2.2.1,(v23.2.2.2.1.1,v23.2.2.2.1.2.1,(0:Int),v23.2.2.2.1.2.2.2.1,v23.2.2.2.1.2.2.2.2.1,()),())).set v2.1.toNat (v25.1,v25.2.1,v25.2.2.1,(v25.2.2.2.1.1,v25.2.2.2.1.2.1,v25.2.2.2.1.2.2.1,v25.2.2.2.1.2.2.2.1,false,()),())),()),(v3.2.1.1,v3.2.1.2.1,v3.2.1.2.2.1,()),())
       |false=>
        match(v3.1==(8:Int))with
        |true=>
         match ak eU ((v3.2.1.1,v3.2.1.2.1,v3.2.1.2.2.1,()),((0:Int),[],[],[],()),(v1.1.1,v1.1.2.1,v1.1.2.2.1,v1.1.2.2.2.1,()),(0:Int),())with
         |none=>none
         |some (.inl v28)=>
          match al ((v28.1.1,v28.1.2.1,v28.1.2.2.1,()),(2:Int),())with
          |none=>none
          |some v30=>
          match(v30.1==(0:Int))with
          |true=>
           match al ((v30.2.1.1,v30.2.1.2.1,v30.2.1.2.2.1,()),(2:Int),())with
           |none=>none
           |some v31=>
           match(v31.1==(0:Int))with
           |true=>
            match ak c8 ((v31.2.1.1,v31.2.1.2.1,v31.2.1.2.2.1,()),(v28.2.1.1,v28.2.1.2.1,v28.2.1.2.2.1,v28.2.1.2.2.2.1,()),((3:Int),[((0:Int),([97]:List UInt8),(0:Int),false,())],[((3:Int),(11:Int),[],())],[],()),[],(0:Int),())with
            |none=>none
            |some (.inl v40)=>
             some ((v40.2.2.1.1,v40.2.2.1.2.1,v40.2.2.1.2.2.1,v40.2.2.2.1,()),(v40.1.1,v40.1.2.1,v40.1.2.2.1,()),())
            |some (.inr v42)=>
             none
           |false=>
            match ak c8 ((v31.2.1.1,v31.2.1.2.1,v31.2.1.2.2.1,()),(v28.2.1.1,v28.2.1.2.1,v28.2.1.2.2.1,v28.2.1.2.2.2.1,()),((3:Int),[((0:Int),([97]:List UInt8),(0:Int),false,())],[((2:Int),(16:Int),[],())],[],()),[],(0:Int),())with
            |none=>none
            |some (.inl v43)=>
             some ((v43.2.2.1.1,v43.2.2.1.2.1,v43.2.2.1.2.2.1,v43.2.2.2.1,()),(v43.1.1,v43.1.2.1,v43.1.2.2.1,()),())
            |some (.inr v45)=>
             none
          |false=>
           some ((v28.2.2.1.1,v28.2.2.1.2.1,v28.2.2.1.2.2.1,v28.2.2.1.2.2.2.1,()),(v30.2.1.1,v30.2.1.2.1,v30.2.1.2.2.1,()),())
         |some (.inr v46)=>
          none
        |false=>
         some ((v1.1.1,v1.1.2.1,v1.1.2.2.1,v1.1.2.2.2.1,()),(v3.2.1.1,v3.2.1.2.1,v3.2.1.2.2.1,()),())
noncomputable def Rk:ai:=⟨_,uJ,kJ,rfl,pm⟩
noncomputable def tE:FuncId→Option ai:=ca [(45,oI),(80,LR),(81,Dx),(82,Dy),(83,Dz)]
theorem K5:∀f s,tE f=some s→FnOK G0 Tryz.prog f s:=aX ⟨dq,Vz,OK,ON,OO,trivial⟩
def xx:bg:=⟨[0,2,3,5],qI,1,[0,2,3],xv,[],.unit⟩
def xy:bg:=⟨[0,2,3,6,7],qJ,3,[0,2,3,6],xw,[],.unit⟩
noncomputable def tF:List aM:=[xx.spec eU,xy.spec c8]
theorem HE:bJ bL E0 tE (bF Tryz.f42 tF) Tryz.f42 0 xx eU:=fun x=>by kernel_rfl
theorem HF:bJ bL E0 tE (bF Tryz.f42 tF) Tryz.f42 1 xy c8:=fun x=>by kernel_rfl
theorem OP:FnOK G0 Tryz.prog 42 Rk:=bb av K5 Tryz.func42 tF (by kernel_rfl) (by exact⟨(HE).lok,(HF).lok,trivial⟩) fun x=>by kernel_rfl
noncomputable def sN(x:Ty.T kJ):Option (Ty.T afW):=
match al ((x.1.1,x.1.2.1,x.1.2.2.1,()),(200:Int),())with
|none=>none
|some v1=>
match al ((v1.2.1.1,v1.2.1.2.1,v1.2.1.2.2.1,()),(3:Int),())with
|none=>none
|some v2=>
match al ((v2.2.1.1,v2.2.1.2.1,v2.2.1.2.2.1,()),(3:Int),())with
|none=>none
|some v3=>
match al ((v3.2.1.1,v3.2.1.2.1,v3.2.1.2.2.1,()),(6:Int),())with
|none=>none
|some v4=>
match al ((v4.2.1.1,v4.2.1.2.1,v4.2.1.2.2.1,()),(256:Int),())with
|none=>none
|some v5=>
match al ((v5.2.1.1,v5.2.1.2.1,v5.2.1.2.2.1,()),(8:Int),())with
|none=>none
|some v6=>
match(v6.1==(0:Int))with
|true=>
 match al ((v6.2.1.1,v6.2.1.2.1,v6.2.1.2.2.1,()),(9:Int),())with
 |none=>none
 |some v7=>
 match al ((v7.2.1.1,v7.2.1.2.1,v7.2.1.2.2.1,()),(16:Int),())with
 |none=>none
 |some v8=>
 match al ((v8.2.1.1,v8.2.1.2.1,v8.2.1.2.2.1,()),(16:Int),())with
 |none=>none
 |some v9=>
 match al ((v9.2.1.1,v9.2.1.2.1,v9.2.1.2.2.1,()),(256:Int),())with
 |none=>none
 |some v10=>
 match al ((v10.2.1.1,v10.2.1.2.1,v10.2.1.2.2.1,()),(99:Int),())with
 |none=>none
 |some v11=>
 some (((IntKind.i64.wrap ((65535:Int)-v7.1)),v8.1,v9.1,v10.1,(IntKind.i64.wrap ((4294967295:Int)-v11.1)),()),(v11.2.1.1,v11.2.1.2.1,v11.2.1.2.2.1,()),())
|false=>
 some ((v1.1,v2.1,v3.1,v4.1,v5.1,()),(v6.2.1.1,v6.2.1.2.1,v6.2.1.2.2.1,()),())
noncomputable def Xw:ai:=⟨_,xt,kJ,rfl,sN⟩
theorem VC:FnOK G0 Tryz.prog 84 Xw:=au av (sg dq (ba)) Tryz.func84
noncomputable def tG(x:Ty.T kJ):Option (Ty.T afW):=
match sN ((x.1.1,x.1.2.1,x.1.2.2.1,()),())with
|none=>none
|some v1=>
match al ((v1.2.1.1,v1.2.1.2.1,v1.2.1.2.2.1,()),(30:Int),())with
|none=>none
|some v2=>
match(v2.1==(0:Int))with
|true=>
 match al ((v2.2.1.1,v2.2.1.2.1,v2.2.1.2.2.1,()),(3:Int),())with
 |none=>none
 |some v3=>
 ac (aI [(-1:Int),(65535:Int),(65536:Int)] v3.1) fun _=>
 match [(-1:Int),(65535:Int),(65536:Int)][v3.1.toNat]? with
 |none=>none
 |some v5=>
 some ((v5,v1.1.2.1,v1.1.2.2.1,v1.1.2.2.2.1,v1.1.2.2.2.2.1,()),(v3.2.1.1,v3.2.1.2.1,v3.2.1.2.2.1,()),())
|false=>
 match(v2.1==(1:Int))with
 |true=>
  match al ((v2.2.1.1,v2.2.1.2.1,v2.2.1.2.2.1,()),(2:Int),())with
  |none=>none
  |some v6=>
  ac (aI [(-1:Int),(16:Int)] v6.1) fun _=>
  match [(-1:Int),(16:Int)][v6.1.toNat]? with
  |none=>none
  |some v8=>
  some ((v1.1.1,v8,v1.1.2.2.1,v1.1.2.2.2.1,v1.1.2.2.2.2.1,()),(v6.2.1.1,v6.2.1.2.1,v6.2.1.2.2.1,()),())
 |false=>
  match(v2.1==(2:Int))with
  |true=>
   match al ((v2.2.1.1,v2.2.1.2.1,v2.2.1.2.2.1,()),(2:Int),())with
   |none=>none
   |some v9=>
   ac (aI [(-1:Int),(16:Int)] v9.1) fun _=>
   match [(-1:Int),(16:Int)][v9.1.toNat]? with
   |none=>none
   |some v11=>
   some ((v1.1.1,v1.1.2.1,v11,v1.1.2.2.2.1,v1.1.2.2.2.2.1,()),(v9.2.1.1,v9.2.1.2.1,v9.2.1.2.2.1,()),())
  |false=>
   match(v2.1==(3:Int))with
   |true=>
    match al ((v2.2.1.1,v2.2.1.2.1,v2.2.1.2.2.1,()),(2:Int),())with
    |none=>none
    |some v12=>
    ac (aI [(-1:Int),(256:Int)] v12.1) fun _=>
    match [(-1:Int),(256:Int)][v12.1.toNat]? with
    |none=>none
    |some v14=>
    some ((v1.1.1,v1.1.2.1,v1.1.2.2.1,v14,v1.1.2.2.2.2.1,()),(v12.2.1.1,v12.2.1.2.1,v12.2.1.2.2.1,()),())
   |false=>
    match(v2.1==(4:Int))with
    |true=>
     match al ((v2.2.1.1,v2.2.1.2.1,v2.2.1.2.2.1,()),(2:Int),())with
     |none=>none
     |some v15=>
     ac (aI [(-1:Int),(4294967296:Int)] v15.1) fun _=>
     match [(-1:Int),(4294967296:Int)][v15.1.toNat]? with
     |none=>none
     |some v17=>
     some ((v1.1.1,v1.1.2.1,v1.1.2.2.1,v1.1.2.2.2.1,v17,()),(v15.2.1.1,v15.2.1.2.1,v15.2.1.2.2.1,()),())
    |false=>
     some ((v1.1.1,v1.1.2.1,v1.1.2.2.1,v1.1.2.2.2.1,v1.1.2.2.2.2.1,()),(v2.2.1.1,v2.2.1.2.1,v2.2.1.2.2.1,()),())
noncomputable def Rl:ai:=⟨_,xt,kJ,rfl,tG⟩
theorem OQ:FnOK G0 Tryz.prog 43 Rl:=au av (sg dq (sg VC (ba))) Tryz.func43
noncomputable def vR(x:Ty.T aV):Option (Ty.T aE):=
match cg (x.1,(0:Int),(31:Int),())with
|none=>none
|some v1=>
some (v1.1,())
noncomputable def Xx:ai:=⟨_,aE,.unit,rfl,vR⟩
theorem IQ:FnOK G0 Tryz.prog 224 Xx:=au av (sg dr (ba)) Tryz.func224
noncomputable def kf(x:(Ty.T ada)):Option ((Ty.T ada) ⊕ ((Ty.T tw) ⊕ (Ty.T aE))):=
match(decide (x.2.1<(x.1.length:Int)))with
|true=>
 ac (aI x.1 x.2.1) fun v1=>
 match(decide ((v1.toNat:Int)<(97:Int)))with
 |true=>
  ac (aI x.1 x.2.1) fun v2=>
  match(decide ((v2.toNat:Int)<(48:Int)))with
  |true=>
   some (.inr (.inr (false,())))
  |false=>
   ac (aI x.1 x.2.1) fun v3=>
   match(decide ((v3.toNat:Int)>(57:Int)))with
   |true=>
    some (.inr (.inr (false,())))
   |false=>
    some (.inl (x.1,(IntKind.i64.wrap (x.2.1+(1:Int))),()))
 |false=>
  ac (aI x.1 x.2.1) fun v4=>
  match(decide ((v4.toNat:Int)>(122:Int)))with
  |true=>
   ac (aI x.1 x.2.1) fun v5=>
   match(decide ((v5.toNat:Int)<(48:Int)))with
   |true=>
    some (.inr (.inr (false,())))
   |false=>
    ac (aI x.1 x.2.1) fun v6=>
    match(decide ((v6.toNat:Int)>(57:Int)))with
    |true=>
     some (.inr (.inr (false,())))
    |false=>
     some (.inl (x.1,(IntKind.i64.wrap (x.2.1+(1:Int))),()))
  |false=>
   some (.inl (x.1,(IntKind.i64.wrap (x.2.1+(1:Int))),()))
|false=>
 some (.inr (.inl (x.1,())))
noncomputable def A0(x:Ty.T tw):Option (Ty.T aE):=
match ak kf (x.1,(0:Int),())with
|none=>none
|some (.inl v7)=>
 match(decide ((v7.1.length:Int)≥(1:Int)))with
 |true=>
  some ((decide ((v7.1.length:Int)≤(6:Int))),())
 |false=>
  some (false,())
|some (.inr v8)=>
 some (v8.1,())
noncomputable def Xy:ai:=⟨_,aE,.unit,rfl,A0⟩
noncomputable def IR:FuncId→Option ai:=ca []
theorem Rm:∀f s,IR f=some s→FnOK G0 Tryz.prog f s:=aX trivial
def GA:bg:=⟨[0,3],ada,0,[0],tw,[2],aE⟩
noncomputable def IU:List aM:=[GA.spec kf]
theorem OS:bJ bL E0 IR (bF Tryz.f225 IU) Tryz.f225 0 GA kf:=fun x=>by kernel_rfl
theorem VD:FnOK G0 Tryz.prog 225 Xy:=bb av Rm Tryz.func225 IU (by kernel_rfl) (by exact⟨(OS).lok,trivial⟩) fun x=>by kernel_rfl
noncomputable def tH(x:Ty.T (.pair aL .unit)):Option (Ty.T aE):=
match vR (x.1.1,())with
|none=>none
|some v1=>
match v1.1 with
|true=>
 match A0 (x.1.2.1,())with
 |none=>none
 |some v2=>
 match v2.1 with
 |true=>
  match cg (x.1.2.2.1,(0:Int),(1000:Int),())with
  |none=>none
  |some v3=>
  some (v3.1,())
 |false=>
  some (false,())
|false=>
 some (false,())
noncomputable def DA:ai:=⟨_,aE,.unit,rfl,tH⟩
theorem OT:FnOK G0 Tryz.prog 195 DA:=au av (sg dr (sg IQ (sg VD (ba)))) Tryz.func195
abbrev xz:Ty:=af4
noncomputable def dK(x:(Ty.T Rb)):Option ((Ty.T Rb) ⊕ ((Ty.T xz) ⊕ (Ty.T aE))):=
match(decide (x.2.2.1<x.2.1))with
|true=>
 ac (aI x.1 x.2.2.1) fun v6=>
 ac (aI x.1 x.2.1) fun v7=>
 match(v6.2.1==v7.2.1)with
 |true=>
  some (.inr (.inr (false,())))
 |false=>
  some (.inl (x.1,x.2.1,(IntKind.i64.wrap (x.2.2.1+(1:Int))),()))
|false=>
 some (.inr (.inl (x.1,x.2.1,())))
abbrev qK:Ty:=af4
noncomputable def fO(x:(Ty.T qK)):Option ((Ty.T qK) ⊕ ((Ty.T .unit) ⊕ (Ty.T aE))):=
match(decide (x.2.1<(x.1.length:Int)))with
|true=>
 ac (aI x.1 x.2.1) fun v2=>
 match tH (v2,())with
 |none=>none
 |some v3=>
 match(!v3.1)with
 |true=>
  some (.inr (.inr (false,())))
 |false=>
  match(decide (x.2.1>(0:Int)))with
  |true=>
   ac (aI x.1 x.2.1) fun v4=>
   ac (aI x.1 (IntKind.i64.wrap (x.2.1-(1:Int)))) fun v5=>
   match(decide (v4.1≤v5.1))with
   |true=>
    some (.inr (.inr (false,())))
   |false=>
    match ak dK (x.1,x.2.1,(0:Int),())with
    |none=>none
    |some (.inl v6)=>
     some (.inl (v6.1,(IntKind.i64.wrap (v6.2.1+(1:Int))),()))
    |some (.inr v7)=>
     some (.inr (.inr (v7.1,())))
  |false=>
   match ak dK (x.1,x.2.1,(0:Int),())with
   |none=>none
   |some (.inl v8)=>
    some (.inl (v8.1,(IntKind.i64.wrap (v8.2.1+(1:Int))),()))
   |some (.inr v9)=>
    some (.inr (.inr (v9.1,())))
|false=>
 some (.inr (.inl (())))
noncomputable def rI(x:Ty.T Rc):Option (Ty.T aE):=
match cg ((x.1.length:Int),(1:Int),(32:Int),())with
|none=>none
|some v1=>
match(!v1.1)with
|true=>
 some (false,())
|false=>
 match ak fO (x.1,(0:Int),())with
 |none=>none
 |some (.inl v10)=>
  some (true,())
 |some (.inr v11)=>
  some (v11.1,())
noncomputable def A1:ai:=⟨_,aE,.unit,rfl,rI⟩
noncomputable def rX:FuncId→Option ai:=ca [(28,pi),(195,DA)]
theorem IV:∀f s,rX f=some s→FnOK G0 Tryz.prog f s:=aX ⟨dr,OT,trivial⟩
def xA:bg:=⟨[0,3],qK,0,[],.unit,[2],aE⟩
def xB:bg:=⟨[0,3,4],Rb,2,[0,3],xz,[2],aE⟩
noncomputable def rY:List aM:=[xA.spec fO,xB.spec dK]
theorem HG:bJ bL E0 rX (bF Tryz.f141 rY) Tryz.f141 0 xA fO:=fun x=>by kernel_rfl
theorem HH:bJ bL E0 rX (bF Tryz.f141 rY) Tryz.f141 1 xB dK:=fun x=>by kernel_rfl
theorem MV:FnOK G0 Tryz.prog 141 A1:=bb av IV Tryz.func141 rY (by kernel_rfl) (by exact⟨(HG).lok,(HH).lok,trivial⟩) fun x=>by kernel_rfl
noncomputable def iV(x:(Ty.T vP)):Option ((Ty.T vP) ⊕ ((Ty.T .unit) ⊕ (Ty.T aE))):=
match(decide (x.2.2.1<(x.1.length:Int)))with
|true=>
 ac (aI x.1 x.2.2.1) fun v1=>
 match cg (v1,(0:Int),(IntKind.i64.wrap (x.2.1-(1:Int))),())with
 |none=>none
 |some v2=>
 match(!v2.1)with
 |true=>
  some (.inr (.inr (false,())))
 |false=>
  match(decide (x.2.2.1>(0:Int)))with
  |true=>
   ac (aI x.1 x.2.2.1) fun v3=>
   ac (aI x.1 (IntKind.i64.wrap (x.2.2.1-(1:Int)))) fun v4=>
   match(decide (v3≤v4))with
   |true=>
    some (.inr (.inr (false,())))
   |false=>
    some (.inl (x.1,x.2.1,(IntKind.i64.wrap (x.2.2.1+(1:Int))),()))
  |false=>
   some (.inl (x.1,x.2.1,(IntKind.i64.wrap (x.2.2.1+(1:Int))),()))
|false=>
 some (.inr (.inl (())))
noncomputable def yl(x:Ty.T y7):Option (Ty.T aE):=
match ak iV (x.1,x.2.1,(0:Int),())with
|none=>none
|some (.inl v5)=>
 some (true,())
|some (.inr v6)=>
 some (v6.1,())
noncomputable def IW:ai:=⟨_,aE,.unit,rfl,yl⟩
noncomputable def GB:FuncId→Option ai:=ca [(28,pi)]
theorem OU:∀f s,GB f=some s→FnOK G0 Tryz.prog f s:=aX ⟨dr,trivial⟩
def DB:bg:=⟨[0,1,5],vP,0,[],.unit,[4],aE⟩
noncomputable def GC:List aM:=[DB.spec iV]
theorem MW:bJ bL E0 GB (bF Tryz.f196 GC) Tryz.f196 0 DB iV:=fun x=>by kernel_rfl
theorem TB:FnOK G0 Tryz.prog 196 IW:=bb av OU Tryz.func196 GC (by kernel_rfl) (by exact⟨(MW).lok,trivial⟩) fun x=>by kernel_rfl
noncomputable def kZ(x:(Ty.T vP)):Option ((Ty.T vP) ⊕ ((Ty.T .unit) ⊕ (Ty.T aE))):=
match(decide (x.2.2.1<(x.1.length:Int)))with
|true=>
 ac (aI x.1 x.2.2.1) fun v1=>
 match(v1==x.2.1)with
 |true=>
  some (.inr (.inr (true,())))
 |false=>
  some (.inl (x.1,x.2.1,(IntKind.i64.wrap (x.2.2.1+(1:Int))),()))
|false=>
 some (.inr (.inl (())))
noncomputable def FB(x:Ty.T y7):Option (Ty.T aE):=
match ak kZ (x.1,x.2.1,(0:Int),())with
|none=>none
|some (.inl v2)=>
 some (false,())
|some (.inr v3)=>
 some (v3.1,())
noncomputable def OV:ai:=⟨_,aE,.unit,rfl,FB⟩
noncomputable def LS:FuncId→Option ai:=ca []
theorem TC:∀f s,LS f=some s→FnOK G0 Tryz.prog f s:=aX trivial
def IX:bg:=⟨[0,1,5],vP,0,[],.unit,[4],aE⟩
noncomputable def LT:List aM:=[IX.spec kZ]
theorem Rn:bJ bL E0 LS (bF Tryz.f197 LT) Tryz.f197 0 IX kZ:=fun x=>by kernel_rfl
theorem Xz:FnOK G0 Tryz.prog 197 OV:=bb av TC Tryz.func197 LT (by kernel_rfl) (by exact⟨(Rn).lok,trivial⟩) fun x=>by kernel_rfl
abbrev qL:Ty:=af5
noncomputable def fP(x:(Ty.T qL)):Option ((Ty.T qL) ⊕ ((Ty.T .unit) ⊕ (Ty.T aE))):=
match(decide (x.2.1<(x.1.length:Int)))with
|true=>
 ac (aI x.1 x.2.1) fun v2=>
 match cg (v2.1,(1:Int),(8:Int),())with
 |none=>none
 |some v3=>
 match(!v3.1)with
 |true=>
  some (.inr (.inr (false,())))
 |false=>
  match cg (v2.2.1,(1:Int),(16:Int),())with
  |none=>none
  |some v4=>
  match(!v4.1)with
  |true=>
   some (.inr (.inr (false,())))
  |false=>
   match yl (v2.2.2.1,(x.1.length:Int),())with
   |none=>none
   |some v5=>
   match(!v5.1)with
   |true=>
    some (.inr (.inr (false,())))
   |false=>
    match FB (v2.2.2.1,x.2.1,())with
    |none=>none
    |some v6=>
    match v6.1 with
    |true=>
     some (.inr (.inr (false,())))
    |false=>
     some (.inl (x.1,(IntKind.i64.wrap (x.2.1+(1:Int))),()))
|false=>
 some (.inr (.inl (())))
noncomputable def rJ(x:Ty.T ZZ):Option (Ty.T aE):=
match cg ((x.1.length:Int),(1:Int),(16:Int),())with
|none=>none
|some v1=>
match(!v1.1)with
|true=>
 some (false,())
|false=>
 match ak fP (x.1,(0:Int),())with
 |none=>none
 |some (.inl v7)=>
  some (true,())
 |some (.inr v8)=>
  some (v8.1,())
noncomputable def A2:ai:=⟨_,aE,.unit,rfl,rJ⟩
noncomputable def za:FuncId→Option ai:=ca [(28,pi),(196,IW),(197,OV)]
theorem IY:∀f s,za f=some s→FnOK G0 Tryz.prog f s:=aX ⟨dr,TB,Xz,trivial⟩
def xC:bg:=⟨[0,3],qL,0,[],.unit,[2],aE⟩
noncomputable def zb:List aM:=[xC.spec fP]
theorem HI:bJ bL E0 za (bF Tryz.f142 zb) Tryz.f142 0 xC fP:=fun x=>by kernel_rfl
theorem MX:FnOK G0 Tryz.prog 142 A2:=bb av IY Tryz.func142 zb (by kernel_rfl) (by exact⟨(HI).lok,trivial⟩) fun x=>by kernel_rfl
noncomputable def vS(x:Ty.T aV):Option (Ty.T aE):=
match cg (x.1,(0:Int),(3:Int),())with
|none=>none
|some v1=>
some (v1.1,())
noncomputable def XA:ai:=⟨_,aE,.unit,rfl,vS⟩
theorem IZ:FnOK G0 Tryz.prog 231 XA:=au av (sg dr (ba)) Tryz.func231
noncomputable def vT(x:Ty.T bM):Option (Ty.T aE):=
match(x.1==(0:Int))with
|true=>
 match cg (x.2.1,(0:Int),(32:Int),())with
 |none=>none
 |some v1=>
 some (v1.1,())
|false=>
 match(x.1==(2:Int))with
 |true=>
  match cg (x.2.1,(1:Int),(32:Int),())with
  |none=>none
  |some v2=>
  some (v2.1,())
 |false=>
  some ((x.2.1==(0:Int)),())
noncomputable def XB:ai:=⟨_,aE,.unit,rfl,vT⟩
theorem I0:FnOK G0 Tryz.prog 232 XB:=au av (sg dr (ba)) Tryz.func232
noncomputable def fF(x:Ty.T IH):Option (Ty.T aE):=
match vR (x.1.1,())with
|none=>none
|some v1=>
match(!v1.1)with
|true=>
 some (false,())
|false=>
 match vS (x.1.2.1,())with
 |none=>none
 |some v2=>
 match(!v2.1)with
 |true=>
  some (false,())
 |false=>
  match vT (x.1.2.1,x.1.2.2.1,())with
  |none=>none
  |some v3=>
  match(!v3.1)with
  |true=>
   some (false,())
  |false=>
   match(x.1.2.1==(3:Int))with
   |true=>
    match x.1.2.2.2.2.1 with
    |true=>
     some (false,())
    |false=>
     match eY (x.1.2.1,x.1.2.2.1,())with
     |none=>none
     |some v4=>
     match cg (x.1.2.2.2.1,(IntKind.i64.wrap (v4.1+(20:Int))),(1000:Int),())with
     |none=>none
     |some v5=>
     some (v5.1,())
   |false=>
    match eY (x.1.2.1,x.1.2.2.1,())with
    |none=>none
    |some v6=>
    match cg (x.1.2.2.2.1,(IntKind.i64.wrap (v6.1+(20:Int))),(1000:Int),())with
    |none=>none
    |some v7=>
    some (v7.1,())
noncomputable def MY:ai:=⟨_,aE,.unit,rfl,fF⟩
theorem xD:FnOK G0 Tryz.prog 205 MY:=au av (sg dr (sg wQ (sg IQ (sg IZ (sg I0 (ba)))))) Tryz.func205
noncomputable def KJ(x:Ty.T ac3):Option (Ty.T aE):=
match cg (x.1.1,(0:Int),(15:Int),())with
|none=>none
|some v1=>
match v1.1 with
|true=>
 match cg (x.1.2.1,(0:Int),(7:Int),())with
 |none=>none
 |some v2=>
 match v2.1 with
 |true=>
  match cg (x.1.2.2.1,(0:Int),(15:Int),())with
  |none=>none
  |some v3=>
  match v3.1 with
  |true=>
   match fF ((x.1.2.2.2.1.1,x.1.2.2.2.1.2.1,x.1.2.2.2.1.2.2.1,x.1.2.2.2.1.2.2.2.1,x.1.2.2.2.1.2.2.2.2.1,()),())with
   |none=>none
   |some v4=>
   some (v4.1,())
  |false=>
   some (false,())
 |false=>
  some (false,())
|false=>
 some (false,())
noncomputable def SV:ai:=⟨_,aE,.unit,rfl,KJ⟩
theorem Z9:FnOK G0 Tryz.prog 198 SV:=au av (sg dr (sg xD (ba))) Tryz.func198
abbrev pn:Ty:=(.pair (.own 2 (.int .i64)) (.pair (.own 2 (.int .i64)) (.pair (.int .i64) .unit)))
noncomputable def cQ(x:(Ty.T pn)):Option ((Ty.T pn) ⊕ ((Ty.T .unit) ⊕ (Ty.T aV))):=
match(decide (x.2.2.1<(3:Int)))with
|true=>
 ac (aI x.1 x.2.2.1) fun _=>
 match x.1[x.2.2.1.toNat]? with
 |none=>none
 |some v2=>
 ac (aI x.2.1 x.2.2.1) fun _=>
 match x.2.1[x.2.2.1.toNat]? with
 |none=>none
 |some v4=>
 match(decide (v2<v4))with
 |true=>
  some (.inr (.inr ((-1:Int),())))
 |false=>
  ac (aI x.1 x.2.2.1) fun _=>
  match x.1[x.2.2.1.toNat]? with
  |none=>none
  |some v6=>
  ac (aI x.2.1 x.2.2.1) fun _=>
  match x.2.1[x.2.2.1.toNat]? with
  |none=>none
  |some v8=>
  match(decide (v6>v8))with
  |true=>
   some (.inr (.inr ((1:Int),())))
  |false=>
   some (.inl (x.1,x.2.1,(IntKind.i64.wrap (x.2.2.1+(1:Int))),()))
|false=>
 some (.inr (.inl (())))
noncomputable def qe(x:Ty.T afV):Option (Ty.T aV):=
aD (
 match ak cQ ([x.1.1,x.1.2.1,x.1.2.2.1],[x.2.1.1,x.2.1.2.1,x.2.1.2.2.1],(0:Int),())with
 |none=>none
 |some (.inl v9)=>
  some ((0:Int),())
 |some (.inr v10)=>
  some (v10.1,())) (
 match ak cQ ([x.1.1,x.1.2.1,x.1.2.2.1],[x.2.1.1,x.2.1.2.1,x.2.1.2.2.1],(0:Int),())with
 |none=>none
 |some (.inl v1)=>
  some ((0:Int),())
 |some (.inr v2)=>
  some (v2.1,()))
noncomputable def zd:ai:=⟨_,aV,.unit,rfl,qe⟩
noncomputable def xE:FuncId→Option ai:=ca []
theorem HJ:∀f s,xE f=some s→FnOK G0 Tryz.prog f s:=aX trivial
def vU:bg:=⟨[5,6,7],pn,0,[],.unit,[4],aV⟩
noncomputable def xF:List aM:=[vU.spec cQ]
theorem FC:bJ bL E0 xE (bF Tryz.f199 xF) Tryz.f199 0 vU cQ:=fun x=>by kernel_rfl
theorem K6:FnOK G0 Tryz.prog 199 zd:=bb av HJ Tryz.func199 xF (by kernel_rfl) (by exact⟨(FC).lok,trivial⟩) fun x=>by kernel_rfl
abbrev qM:Ty:=(.pair (.list az) (.pair (.int .i64) .unit))
noncomputable def fQ(x:(Ty.T qM)):Option ((Ty.T qM) ⊕ ((Ty.T .unit) ⊕ (Ty.T aE))):=
match(decide (x.2.1<(x.1.length:Int)))with
|true=>
 ac (aI x.1 x.2.1) fun v1=>
 match KJ (v1,())with
 |none=>none
 |some v2=>
 match(!v2.1)with
 |true=>
  some (.inr (.inr (false,())))
 |false=>
  match(decide (x.2.1>(0:Int)))with
  |true=>
   ac (aI x.1 (IntKind.i64.wrap (x.2.1-(1:Int)))) fun v3=>
   ac (aI x.1 x.2.1) fun v4=>
   match qe (v3,v4,())with
   |none=>none
   |some v5=>
   match(decide (v5.1≥(0:Int)))with
   |true=>
    some (.inr (.inr (false,())))
   |false=>
    some (.inl (x.1,(IntKind.i64.wrap (x.2.1+(1:Int))),()))
  |false=>
   some (.inl (x.1,(IntKind.i64.wrap (x.2.1+(1:Int))),()))
|false=>
 some (.inr (.inl (())))
noncomputable def rK(x:Ty.T Vp):Option (Ty.T aE):=
match(decide ((x.1.length:Int)>(120:Int)))with
|true=>
 some (false,())
|false=>
 match ak fQ (x.1,(0:Int),())with
 |none=>none
 |some (.inl v6)=>
  some (true,())
 |some (.inr v7)=>
  some (v7.1,())
noncomputable def A3:ai:=⟨_,aE,.unit,rfl,rK⟩
noncomputable def ze:FuncId→Option ai:=ca [(198,SV),(199,zd)]
theorem I1:∀f s,ze f=some s→FnOK G0 Tryz.prog f s:=aX ⟨Z9,K6,trivial⟩
def xG:bg:=⟨[0,3],qM,0,[],.unit,[2],aE⟩
noncomputable def zf:List aM:=[xG.spec fQ]
theorem HK:bJ bL E0 ze (bF Tryz.f143 zf) Tryz.f143 0 xG fQ:=fun x=>by kernel_rfl
theorem MZ:FnOK G0 Tryz.prog 143 A3:=bb av I1 Tryz.func143 zf (by kernel_rfl) (by exact⟨(HK).lok,trivial⟩) fun x=>by kernel_rfl
noncomputable def kg(x:(Ty.T ac7)):Option ((Ty.T ac7) ⊕ ((Ty.T .unit) ⊕ (Ty.T aV))):=
match(decide (x.2.2.2.2.1<(x.1.length:Int)))with
|true=>
 ac (aI x.1 x.2.2.2.2.1) fun v1=>
 match(v1.1==x.2.1)with
 |true=>
  ac (aI x.1 x.2.2.2.2.1) fun v2=>
  match(v2.2.1==x.2.2.1)with
  |true=>
   ac (aI x.1 x.2.2.2.2.1) fun v3=>
   match(v3.2.2.1==x.2.2.2.1)with
   |true=>
    some (.inr (.inr (x.2.2.2.2.1,())))
   |false=>
    some (.inl (x.1,x.2.1,x.2.2.1,x.2.2.2.1,(IntKind.i64.wrap (x.2.2.2.2.1+(1:Int))),()))
  |false=>
   some (.inl (x.1,x.2.1,x.2.2.1,x.2.2.2.1,(IntKind.i64.wrap (x.2.2.2.2.1+(1:Int))),()))
 |false=>
  some (.inl (x.1,x.2.1,x.2.2.1,x.2.2.2.1,(IntKind.i64.wrap (x.2.2.2.2.1+(1:Int))),()))
|false=>
 some (.inr (.inl (())))
noncomputable def vV(x:Ty.T af0):Option (Ty.T aV):=
match ak kg (x.1,x.2.1,x.2.2.1,x.2.2.2.1,(0:Int),())with
|none=>none
|some (.inl v4)=>
 some ((-1:Int),())
|some (.inr v5)=>
 some (v5.1,())
noncomputable def LU:ai:=⟨_,aV,.unit,rfl,vV⟩
noncomputable def I2:FuncId→Option ai:=ca []
theorem Ro:∀f s,I2 f=some s→FnOK G0 Tryz.prog f s:=aX trivial
def GD:bg:=⟨[0,1,2,3,9],ac7,0,[],.unit,[8],aV⟩
noncomputable def I3:List aM:=[GD.spec kg]
theorem OW:bJ bL E0 I2 (bF Tryz.f107 I3) Tryz.f107 0 GD kg:=fun x=>by kernel_rfl
theorem I4:FnOK G0 Tryz.prog 107 LU:=bb av Ro Tryz.func107 I3 (by kernel_rfl) (by exact⟨(OW).lok,trivial⟩) fun x=>by kernel_rfl
abbrev xH:Ty:=adc
noncomputable def fR(x:(Ty.T Vo)):Option ((Ty.T Vo) ⊕ ((Ty.T xH) ⊕ (Ty.T aE))):=
ac (aI x.1.2.2.1 x.2.2.1) fun v2=>
match(decide (x.2.2.2.2.1<v2.2.1))with
|true=>
 match vV (x.1.2.2.2.1,x.2.2.1,x.2.2.2.1,x.2.2.2.2.1,())with
 |none=>none
 |some v3=>
 match(decide (v3.1<(0:Int)))with
 |true=>
  some (.inr (.inr (false,())))
 |false=>
  some (.inl ((x.1.1,x.1.2.1,x.1.2.2.1,x.1.2.2.2.1,()),(IntKind.i64.wrap (x.2.1+(1:Int))),x.2.2.1,x.2.2.2.1,(IntKind.i64.wrap (x.2.2.2.2.1+(1:Int))),()))
|false=>
 some (.inr (.inl ((x.1.1,x.1.2.1,x.1.2.2.1,x.1.2.2.2.1,()),x.2.1,x.2.2.1,x.2.2.2.1,())))
abbrev qN:Ty:=adc
noncomputable def fS(x:(Ty.T qN)):Option ((Ty.T qN) ⊕ ((Ty.T xu) ⊕ (Ty.T aE))):=
ac (aI x.1.2.2.1 x.2.2.1) fun v1=>
match(decide (x.2.2.2.1<v1.1))with
|true=>
 match ak fR ((x.1.1,x.1.2.1,x.1.2.2.1,x.1.2.2.2.1,()),x.2.1,x.2.2.1,x.2.2.2.1,(0:Int),())with
 |none=>none
 |some (.inl v2)=>
  some (.inl ((v2.1.1,v2.1.2.1,v2.1.2.2.1,v2.1.2.2.2.1,()),v2.2.1,v2.2.2.1,(IntKind.i64.wrap (v2.2.2.2.1+(1:Int))),()))
 |some (.inr v3)=>
  some (.inr (.inr (v3.1,())))
|false=>
 some (.inr (.inl ((x.1.1,x.1.2.1,x.1.2.2.1,x.1.2.2.2.1,()),x.2.1,x.2.2.1,())))
abbrev xI:Ty:=Z2
noncomputable def dL(x:(Ty.T xu)):Option ((Ty.T xu) ⊕ ((Ty.T xI) ⊕ (Ty.T aE))):=
match(decide (x.2.2.1<(x.1.2.2.1.length:Int)))with
|true=>
 match ak fS ((x.1.1,x.1.2.1,x.1.2.2.1,x.1.2.2.2.1,()),x.2.1,x.2.2.1,(0:Int),())with
 |none=>none
 |some (.inl v1)=>
  some (.inl ((v1.1.1,v1.1.2.1,v1.1.2.2.1,v1.1.2.2.2.1,()),v1.2.1,(IntKind.i64.wrap (v1.2.2.1+(1:Int))),()))
 |some (.inr v2)=>
  some (.inr (.inr (v2.1,())))
|false=>
 some (.inr (.inl ((x.1.1,x.1.2.1,x.1.2.2.1,x.1.2.2.2.1,()),x.2.1,())))
noncomputable def om(x:Ty.T uJ):Option (Ty.T aE):=
match ak dL ((x.1.1,x.1.2.1,x.1.2.2.1,x.1.2.2.2.1,()),(0:Int),(0:Int),())with
|none=>none
|some (.inl v3)=>
 some ((v3.2.1==(v3.1.2.2.2.1.length:Int)),())
|some (.inr v4)=>
 some (v4.1,())
noncomputable def A4:ai:=⟨_,aE,.unit,rfl,om⟩
noncomputable def nR:FuncId→Option ai:=ca [(107,LU)]
theorem I5:∀f s,nR f=some s→FnOK G0 Tryz.prog f s:=aX ⟨I4,trivial⟩
def xJ:bg:=⟨[1,3,4],xu,0,[1,3],xI,[2],aE⟩
def xK:bg:=⟨[1,3,4,5],qN,2,[1,3,4],xu,[2],aE⟩
def xL:bg:=⟨[1,3,4,5,6],Vo,4,[1,3,4,5],xH,[2],aE⟩
noncomputable def nS:List aM:=[xJ.spec dL,xK.spec fS,xL.spec fR]
theorem HL:bJ bL E0 nR (bF Tryz.f144 nS) Tryz.f144 0 xJ dL:=fun x=>by kernel_rfl
theorem HM:bJ bL E0 nR (bF Tryz.f144 nS) Tryz.f144 1 xK fS:=fun x=>by kernel_rfl
theorem HN:bJ bL E0 nR (bF Tryz.f144 nS) Tryz.f144 2 xL fR:=fun x=>by kernel_rfl
theorem M0:FnOK G0 Tryz.prog 144 A4:=bb av I5 Tryz.func144 nS (by kernel_rfl) (by exact⟨(HL).lok,(HM).lok,(HN).lok,trivial⟩) fun x=>by kernel_rfl
noncomputable def gL(x:(Ty.T xu)):Option ((Ty.T xu) ⊕ ((Ty.T .unit) ⊕ (Ty.T aE))):=
match(decide (x.2.2.1<(x.1.2.2.2.1.length:Int)))with
|true=>
 ac (aI x.1.2.2.2.1 x.2.2.1) fun v2=>
 match ph (x.2.1,v2.2.2.2.1.1,())with
 |none=>none
 |some v3=>
 match(!v3.1)with
 |true=>
  some (.inr (.inr (false,())))
 |false=>
  some (.inl ((x.1.1,x.1.2.1,x.1.2.2.1,x.1.2.2.2.1,()),x.2.1,(IntKind.i64.wrap (x.2.2.1+(1:Int))),()))
|false=>
 some (.inr (.inl (())))
noncomputable def po(x:Ty.T uJ):Option (Ty.T aE):=
match du (x.1.2.1,())with
|none=>none
|some v1=>
match ak gL ((x.1.1,x.1.2.1,x.1.2.2.1,x.1.2.2.2.1,()),v1.1,(0:Int),())with
|none=>none
|some (.inl v4)=>
 some (true,())
|some (.inr v5)=>
 some (v5.1,())
noncomputable def DC:ai:=⟨_,aE,.unit,rfl,po⟩
noncomputable def A5:FuncId→Option ai:=ca [(46,rH),(106,Fz)]
theorem K7:∀f s,A5 f=some s→FnOK G0 Tryz.prog f s:=aX ⟨m4,BN,trivial⟩
def zg:bg:=⟨[1,3,4],xu,0,[],.unit,[2],aE⟩
noncomputable def A6:List aM:=[zg.spec gL]
theorem I6:bJ bL E0 A5 (bF Tryz.f145 A6) Tryz.f145 0 zg gL:=fun x=>by kernel_rfl
theorem OX:FnOK G0 Tryz.prog 145 DC:=bb av K7 Tryz.func145 A6 (by kernel_rfl) (by exact⟨(I6).lok,trivial⟩) fun x=>by kernel_rfl
abbrev vW:Ty:=afX
noncomputable def fi(x:(Ty.T ac4)):Option ((Ty.T ac4) ⊕ ((Ty.T vW) ⊕ (Ty.T aE))):=
match(decide (x.2.2.1<x.2.1))with
|true=>
 ac (aI x.1.2.2.2.1 x.2.1) fun v1=>
 ac (aI x.1.2.2.2.1 x.2.2.1) fun v2=>
 be (
  match(v1.1==v2.1)with
  |true=>
   match(v1.2.2.1==v2.2.2.1)with
   |true=>
    match(v1.2.2.2.1.2.2.2.1 != v2.2.2.2.1.2.2.2.1)with
    |true=>
     some (.inr (.inr (false,())))
    |false=>
     some (.inl (x.1,x.2.1,(IntKind.i64.wrap (x.2.2.1+(1:Int))),()))
   |false=>
    some (.inl (x.1,x.2.1,(IntKind.i64.wrap (x.2.2.1+(1:Int))),()))
  |false=>
   some (.inl (x.1,x.2.1,(IntKind.i64.wrap (x.2.2.1+(1:Int))),())))
|false=>
 some (.inr (.inl (x.1,x.2.1,())))
abbrev pp:Ty:=afX
noncomputable def fj(x:(Ty.T pp)):Option ((Ty.T pp) ⊕ ((Ty.T .unit) ⊕ (Ty.T aE))):=
match(decide (x.2.1<(x.1.2.2.2.1.length:Int)))with
|true=>
 match ak fi (x.1,x.2.1,(0:Int),())with
 |none=>none
 |some (.inl v1)=>
  some (.inl (v1.1,(IntKind.i64.wrap (v1.2.1+(1:Int))),()))
 |some (.inr v2)=>
  some (.inr (.inr (v2.1,())))
|false=>
 some (.inr (.inl (())))
noncomputable def m5(x:Ty.T uJ):Option (Ty.T aE):=
match ak fj ((x.1.1,x.1.2.1,x.1.2.2.1,x.1.2.2.2.1,()),(0:Int),())with
|none=>none
|some (.inl v3)=>
 some (true,())
|some (.inr v4)=>
 some (v4.1,())
noncomputable def zh:ai:=⟨_,aE,.unit,rfl,m5⟩
noncomputable def qO:FuncId→Option ai:=ca []
theorem HO:∀f s,qO f=some s→FnOK G0 Tryz.prog f s:=aX trivial
def vX:bg:=⟨[1,3],pp,0,[],.unit,[2],aE⟩
def vY:bg:=⟨[1,3,4],ac4,2,[1,3],vW,[2],aE⟩
noncomputable def qP:List aM:=[vX.spec fj,vY.spec fi]
theorem FD:bJ bL E0 qO (bF Tryz.f146 qP) Tryz.f146 0 vX fj:=fun x=>by kernel_rfl
theorem FE:bJ bL E0 qO (bF Tryz.f146 qP) Tryz.f146 1 vY fi:=fun x=>by kernel_rfl
theorem K8:FnOK G0 Tryz.prog 146 zh:=bb av HO Tryz.func146 qP (by kernel_rfl) (by exact⟨(FD).lok,(FE).lok,trivial⟩) fun x=>by kernel_rfl
abbrev uO:Ty:=(.pair (.int .i64) (.pair (.box aA) bM))
noncomputable def iW(x:(Ty.T uO)):Option ((Ty.T uO) ⊕ ((Ty.T aV) ⊕ (Ty.T .unit))):=
match(decide (x.2.2.2.1<(x.2.1.2.2.2.1.length:Int)))with
|true=>
 ac (aI x.2.1.2.2.2.1 x.2.2.2.1) fun v1=>
 match(v1.1==x.1)with
 |true=>
  ac (aI x.2.1.2.2.2.1 x.2.2.2.1) fun v2=>
  some (.inl (x.1,(x.2.1.1,x.2.1.2.1,x.2.1.2.2.1,x.2.1.2.2.2.1,()),(IntKind.i64.wrap (x.2.2.1+v2.2.2.2.1.2.2.2.1)),(IntKind.i64.wrap (x.2.2.2.1+(1:Int))),()))
 |false=>
  some (.inl (x.1,(x.2.1.1,x.2.1.2.1,x.2.1.2.2.1,x.2.1.2.2.2.1,()),x.2.2.1,(IntKind.i64.wrap (x.2.2.2.1+(1:Int))),()))
|false=>
 some (.inr (.inl (x.2.2.1,())))
noncomputable def tI(x:Ty.T afT):Option (Ty.T aV):=
match ak iW (x.2.1,(x.1.1,x.1.2.1,x.1.2.2.1,x.1.2.2.2.1,()),(0:Int),(0:Int),())with
|none=>none
|some (.inl v3)=>
 some (v3.1,())
|some (.inr v5)=>
 none
noncomputable def I7:ai:=⟨_,aV,.unit,rfl,tI⟩
noncomputable def GE:FuncId→Option ai:=ca []
theorem OY:∀f s,GE f=some s→FnOK G0 Tryz.prog f s:=aX trivial
def DD:bg:=⟨[1,2,5,6],uO,0,[5],aV,[],.unit⟩
noncomputable def GF:List aM:=[DD.spec iW]
theorem M1:bJ bL E0 GE (bF Tryz.f147 GF) Tryz.f147 0 DD iW:=fun x=>by kernel_rfl
theorem TD:FnOK G0 Tryz.prog 147 I7:=bb av OY Tryz.func147 GF (by kernel_rfl) (by exact⟨(M1).lok,trivial⟩) fun x=>by kernel_rfl
noncomputable def d9(x:(Ty.T ac6)):Option ((Ty.T ac6) ⊕ ((Ty.T Vo) ⊕ (Ty.T .unit))):=
match(decide (x.2.2.2.2.2.1<(x.1.2.2.2.1.length:Int)))with
|true=>
 ac (aI x.1.2.2.2.1 x.2.2.2.2.2.1) fun v3=>
 match(v3.1==x.2.2.1)with
 |true=>
  ac (aI x.1.2.2.2.1 x.2.2.2.2.2.1) fun v4=>
  match(v4.2.1==x.2.2.2.1)with
  |true=>
   ac (aI x.1.2.2.2.1 x.2.2.2.2.2.1) fun v5=>
   match kY (x.2.2.2.2.1,v5.2.2.2.1.1,true,())with
   |none=>none
   |some v6=>
   some (.inl ((x.1.1,x.1.2.1,x.1.2.2.1,x.1.2.2.2.1,()),x.2.1,x.2.2.1,x.2.2.2.1,v6.1,(IntKind.i64.wrap (x.2.2.2.2.2.1+(1:Int))),()))
  |false=>
   some (.inl ((x.1.1,x.1.2.1,x.1.2.2.1,x.1.2.2.2.1,()),x.2.1,x.2.2.1,x.2.2.2.1,x.2.2.2.2.1,(IntKind.i64.wrap (x.2.2.2.2.2.1+(1:Int))),()))
 |false=>
  some (.inl ((x.1.1,x.1.2.1,x.1.2.2.1,x.1.2.2.2.1,()),x.2.1,x.2.2.1,x.2.2.2.1,x.2.2.2.2.1,(IntKind.i64.wrap (x.2.2.2.2.2.1+(1:Int))),()))
|false=>
 some (.inr (.inl ((x.1.1,x.1.2.1,x.1.2.2.1,x.1.2.2.2.1,()),x.2.1,x.2.2.1,x.2.2.2.1,x.2.2.2.2.1,())))
abbrev tJ:Ty:=adc
noncomputable def f4(x:(Ty.T tJ)):Option ((Ty.T tJ) ⊕ ((Ty.T xu) ⊕ (Ty.T aE))):=
ac (aI x.1.2.2.1 x.2.2.1) fun v2=>
match(decide (x.2.2.2.1<v2.1))with
|true=>
 match ak d9 ((x.1.1,x.1.2.1,x.1.2.2.1,x.1.2.2.2.1,()),x.2.1,x.2.2.1,x.2.2.2.1,(0:Int),(0:Int),())with
 |none=>none
 |some (.inl v3)=>
  match(v3.2.2.2.2.1 != v3.2.1)with
  |true=>
   some (.inr (.inr (false,())))
  |false=>
   some (.inl ((v3.1.1,v3.1.2.1,v3.1.2.2.1,v3.1.2.2.2.1,()),v3.2.1,v3.2.2.1,(IntKind.i64.wrap (v3.2.2.2.1+(1:Int))),()))
 |some (.inr v5)=>
  none
|false=>
 some (.inr (.inl ((x.1.1,x.1.2.1,x.1.2.2.1,x.1.2.2.2.1,()),x.2.1,x.2.2.1,())))
noncomputable def ij(x:(Ty.T xu)):Option ((Ty.T xu) ⊕ ((Ty.T .unit) ⊕ (Ty.T aE))):=
match(decide (x.2.2.1<(x.1.2.2.1.length:Int)))with
|true=>
 match ak f4 ((x.1.1,x.1.2.1,x.1.2.2.1,x.1.2.2.2.1,()),x.2.1,x.2.2.1,(0:Int),())with
 |none=>none
 |some (.inl v2)=>
  some (.inl ((v2.1.1,v2.1.2.1,v2.1.2.2.1,v2.1.2.2.2.1,()),v2.2.1,(IntKind.i64.wrap (v2.2.2.1+(1:Int))),()))
 |some (.inr v3)=>
  some (.inr (.inr (v3.1,())))
|false=>
 some (.inr (.inl (())))
noncomputable def rk(x:Ty.T uJ):Option (Ty.T aE):=
match du (x.1.2.1,())with
|none=>none
|some v1=>
match ak ij ((x.1.1,x.1.2.1,x.1.2.2.1,x.1.2.2.2.1,()),v1.1,(0:Int),())with
|none=>none
|some (.inl v4)=>
 some (true,())
|some (.inr v5)=>
 some (v5.1,())
noncomputable def GG:ai:=⟨_,aE,.unit,rfl,rk⟩
noncomputable def qf:FuncId→Option ai:=ca [(46,rH),(60,FA)]
theorem M2:∀f s,qf f=some s→FnOK G0 Tryz.prog f s:=aX ⟨m4,BO,trivial⟩
def A7:bg:=⟨[1,3,4],xu,0,[],.unit,[2],aE⟩
def A8:bg:=⟨[1,3,4,5],tJ,2,[1,3,4],xu,[2],aE⟩
def zi:bg:=⟨[1,3,4,5,6,7],ac6,4,[1,3,4,5,6],Vo,[],.unit⟩
noncomputable def qg:List aM:=[A7.spec ij,A8.spec f4,zi.spec d9]
theorem K9:bJ bL E0 qf (bF Tryz.f148 qg) Tryz.f148 0 A7 ij:=fun x=>by kernel_rfl
theorem La:bJ bL E0 qf (bF Tryz.f148 qg) Tryz.f148 1 A8 f4:=fun x=>by kernel_rfl
theorem I8:bJ bL E0 qf (bF Tryz.f148 qg) Tryz.f148 2 zi d9:=fun x=>by kernel_rfl
theorem Rp:FnOK G0 Tryz.prog 148 GG:=bb av M2 Tryz.func148 qg (by kernel_rfl) (by exact⟨(K9).lok,(La).lok,(I8).lok,trivial⟩) fun x=>by kernel_rfl
abbrev qQ:Ty:=Z2
noncomputable def eV(x:(Ty.T qQ)):Option ((Ty.T qQ) ⊕ ((Ty.T (.pair (.box aA) .unit)) ⊕ (Ty.T aV))):=
match(decide (x.2.1<(x.1.2.2.1.length:Int)))with
|true=>
 match tI ((x.1.1,x.1.2.1,x.1.2.2.1,x.1.2.2.2.1,()),x.2.1,())with
 |none=>none
 |some v8=>
 match(decide (v8.1>(32000:Int)))with
 |true=>
  some (.inr (.inr ((8:Int),())))
 |false=>
  some (.inl ((x.1.1,x.1.2.1,x.1.2.2.1,x.1.2.2.2.1,()),(IntKind.i64.wrap (x.2.1+(1:Int))),()))
|false=>
 some (.inr (.inl ((x.1.1,x.1.2.1,x.1.2.2.1,x.1.2.2.2.1,()),())))
abbrev qR:Ty:=Z2
noncomputable def dM(x:(Ty.T qR)):Option ((Ty.T qR) ⊕ ((Ty.T .unit) ⊕ (Ty.T aV))):=
match(decide (x.2.1<(x.1.2.2.2.1.length:Int)))with
|true=>
 ac (aI x.1.2.2.2.1 x.2.1) fun v12=>
 match(v12.2.2.2.1.2.1==(3:Int))with
 |true=>
  ac (aI x.1.2.2.2.1 x.2.1) fun v13=>
  match(v13.1 != (0:Int))with
  |true=>
   some (.inr (.inr ((10:Int),())))
  |false=>
   some (.inl ((x.1.1,x.1.2.1,x.1.2.2.1,x.1.2.2.2.1,()),(IntKind.i64.wrap (x.2.1+(1:Int))),()))
 |false=>
  some (.inl ((x.1.1,x.1.2.1,x.1.2.2.1,x.1.2.2.2.1,()),(IntKind.i64.wrap (x.2.1+(1:Int))),()))
|false=>
 some (.inr (.inl (())))
noncomputable def pq(x:Ty.T uJ):Option (Ty.T aV):=
match cg (x.1.1,(1:Int),(16777215:Int),())with
|none=>none
|some v1=>
match(!v1.1)with
|true=>
 some ((1:Int),())
|false=>
 match rI (x.1.2.1,())with
 |none=>none
 |some v2=>
 match(!v2.1)with
 |true=>
  some ((2:Int),())
 |false=>
  match rJ (x.1.2.2.1,())with
  |none=>none
  |some v3=>
  match(!v3.1)with
  |true=>
   some ((3:Int),())
  |false=>
   match rK (x.1.2.2.2.1,())with
   |none=>none
   |some v4=>
   match(!v4.1)with
   |true=>
    some ((4:Int),())
   |false=>
    match om ((x.1.1,x.1.2.1,x.1.2.2.1,x.1.2.2.2.1,()),())with
    |none=>none
    |some v5=>
    match(!v5.1)with
    |true=>
     some ((5:Int),())
    |false=>
     match po ((x.1.1,x.1.2.1,x.1.2.2.1,x.1.2.2.2.1,()),())with
     |none=>none
     |some v6=>
     match(!v6.1)with
     |true=>
      some ((6:Int),())
     |false=>
      match m5 ((x.1.1,x.1.2.1,x.1.2.2.1,x.1.2.2.2.1,()),())with
      |none=>none
      |some v7=>
      match(!v7.1)with
      |true=>
       some ((7:Int),())
      |false=>
       match ak eV ((x.1.1,x.1.2.1,x.1.2.2.1,x.1.2.2.2.1,()),(0:Int),())with
       |none=>none
       |some (.inl v9)=>
        match rk ((v9.1.1,v9.1.2.1,v9.1.2.2.1,v9.1.2.2.2.1,()),())with
        |none=>none
        |some v11=>
        match(!v11.1)with
        |true=>
         some ((9:Int),())
        |false=>
         match ak dM ((v9.1.1,v9.1.2.1,v9.1.2.2.1,v9.1.2.2.2.1,()),(0:Int),())with
         |none=>none
         |some (.inl v14)=>
          some ((0:Int),())
         |some (.inr v15)=>
          some (v15.1,())
       |some (.inr v10)=>
        some (v10.1,())
noncomputable def Rq:ai:=⟨_,aV,.unit,rfl,pq⟩
noncomputable def tK:FuncId→Option ai:=ca [(28,pi),(141,A1),(142,A2),(143,A3),(144,A4),(145,DC),(146,zh),(147,I7),(148,GG)]
theorem Lb:∀f s,tK f=some s→FnOK G0 Tryz.prog f s:=aX ⟨dr,MV,MX,MZ,M0,OX,K8,TD,Rp,trivial⟩
def xM:bg:=⟨[1,3],qQ,1,[1],(.pair (.box aA) .unit),[2],aV⟩
def xN:bg:=⟨[1,4],qR,3,[],.unit,[2],aV⟩
noncomputable def tL:List aM:=[xM.spec eV,xN.spec dM]
theorem HP:bJ bL E0 tK (bF Tryz.f85 tL) Tryz.f85 0 xM eV:=fun x=>by kernel_rfl
theorem HQ:bJ bL E0 tK (bF Tryz.f85 tL) Tryz.f85 1 xN dM:=fun x=>by kernel_rfl
theorem OZ:FnOK G0 Tryz.prog 85 Rq:=bb av Lb Tryz.func85 tL (by kernel_rfl) (by exact⟨(HP).lok,(HQ).lok,trivial⟩) fun x=>by kernel_rfl
noncomputable def pr(x:Ty.T uJ):Option (Ty.T aE):=
match pq ((x.1.1,x.1.2.1,x.1.2.2.1,x.1.2.2.2.1,()),())with
|none=>none
|some v1=>
some ((v1.1==(0:Int)),())
noncomputable def aaa:ai:=⟨_,aE,.unit,rfl,pr⟩
theorem LV:FnOK G0 Tryz.prog 44 aaa:=au av (sg OZ (ba)) Tryz.func44
noncomputable def vZ(x:Ty.T kJ):Option (Ty.T (.pair aA (.pair ao (.pair (.box aF) .unit)))):=
match pm ((x.1.1,x.1.2.1,x.1.2.2.1,()),())with
|none=>none
|some v1=>
match tG ((v1.2.1.1,v1.2.1.2.1,v1.2.1.2.2.1,()),())with
|none=>none
|some v2=>
match pr ((v1.1.1,v1.1.2.1,v1.1.2.2.1,v1.1.2.2.2.1,()),())with
|none=>none
|some v3=>
match(!v3.1)with
|true=>
 be (
  some ((v1.1.1,v1.1.2.1,v1.1.2.2.1,v1.1.2.2.2.1,()),(v2.1.1,v2.1.2.1,v2.1.2.2.1,v2.1.2.2.2.1,v2.1.2.2.2.2.1,()),(v2.2.1.1,v2.2.1.2.1,v2.2.1.2.2.1,()),()))
|false=>
 match al ((v2.2.1.1,v2.2.1.2.1,v2.2.1.2.2.1,()),(16:Int),())with
 |none=>none
 |some v4=>
 match(v4.1==(0:Int))with
 |true=>
  be (
   some ((v1.1.1,v1.1.2.1,v1.1.2.2.1,v1.1.2.2.2.1,()),(v2.1.1,v2.1.2.1,v2.1.2.2.1,v2.1.2.2.2.1,v2.1.2.2.2.2.1,()),(v4.2.1.1,v4.2.1.2.1,v4.2.1.2.2.1,()),()))
 |false=>
  match al ((v4.2.1.1,v4.2.1.2.1,v4.2.1.2.2.1,()),(65536:Int),())with
  |none=>none
  |some v5=>
  match al ((v5.2.1.1,v5.2.1.2.1,v5.2.1.2.2.1,()),(v1.1.2.2.1.length:Int),())with
  |none=>none
  |some v6=>
  aD (
   ac (aI v1.1.2.2.1 v6.1) fun v7=>
   be (
    match al ((v6.2.1.1,v6.2.1.2.1,v6.2.1.2.2.1,()),(30:Int),())with
    |none=>none
    |some v8=>
    match al ((v8.2.1.1,v8.2.1.2.1,v8.2.1.2.2.1,()),(IntKind.i64.wrap (v7.1+(IntKind.i64.wrap (Int.tdiv v8.1 (29:Int))))),())with
    |none=>none
    |some v9=>
    aD (
     ac (aI v1.1.2.2.1 v6.1) fun v10=>
     be (
      match al ((v9.2.1.1,v9.2.1.2.1,v9.2.1.2.2.1,()),(30:Int),())with
      |none=>none
      |some v11=>
      match al ((v11.2.1.1,v11.2.1.2.1,v11.2.1.2.2.1,()),(IntKind.i64.wrap (v10.2.1+(IntKind.i64.wrap (Int.tdiv v11.1 (29:Int))))),())with
      |none=>none
      |some v12=>
      match du (v1.1.2.1,())with
      |none=>none
      |some v13=>
      match al ((v12.2.1.1,v12.2.1.2.1,v12.2.1.2.2.1,()),(3:Int),())with
      |none=>none
      |some v14=>
      match(v14.1==(0:Int))with
      |true=>
       be (
        match al ((v14.2.1.1,v14.2.1.2.1,v14.2.1.2.2.1,()),(256:Int),())with
        |none=>none
        |some v15=>
        match al ((v15.2.1.1,v15.2.1.2.1,v15.2.1.2.2.1,()),(30:Int),())with
        |none=>none
        |some v16=>
        match(v16.1==(0:Int))with
        |true=>
         be (
          match al ((v16.2.1.1,v16.2.1.2.1,v16.2.1.2.2.1,()),(10:Int),())with
          |none=>none
          |some v17=>
          if(IntKind.u64.wrap v17.1)<0 then none else
          be (
           some ((v1.1.1,v1.1.2.1,v1.1.2.2.1,v1.1.2.2.2.1,()),(v5.1,v6.1,v9.1,v12.1,(bits BinOp.xor .i64 (bits BinOp.and .i64 v13.1 v15.1) (IntKind.i64.wrap ((1:Int)*2^min (IntKind.u64.wrap v17.1).toNat IntKind.i64.bits))),()),(v17.2.1.1,v17.2.1.2.1,v17.2.1.2.2.1,()),())))
        |false=>
         be (
          some ((v1.1.1,v1.1.2.1,v1.1.2.2.1,v1.1.2.2.2.1,()),(v5.1,v6.1,v9.1,v12.1,(bits BinOp.and .i64 v13.1 v15.1),()),(v16.2.1.1,v16.2.1.2.1,v16.2.1.2.2.1,()),())))
      |false=>
       match al ((v14.2.1.1,v14.2.1.2.1,v14.2.1.2.2.1,()),(30:Int),())with
       |none=>none
       |some v18=>
       match(v18.1==(0:Int))with
       |true=>
        be (
         match al ((v18.2.1.1,v18.2.1.2.1,v18.2.1.2.2.1,()),(10:Int),())with
         |none=>none
         |some v19=>
         if(IntKind.u64.wrap v19.1)<0 then none else
         be (
          some ((v1.1.1,v1.1.2.1,v1.1.2.2.1,v1.1.2.2.2.1,()),(v5.1,v6.1,v9.1,v12.1,(bits BinOp.xor .i64 v13.1 (IntKind.i64.wrap ((1:Int)*2^min (IntKind.u64.wrap v19.1).toNat IntKind.i64.bits))),()),(v19.2.1.1,v19.2.1.2.1,v19.2.1.2.2.1,()),())))
       |false=>
        be (
         some ((v1.1.1,v1.1.2.1,v1.1.2.2.1,v1.1.2.2.2.1,()),(v5.1,v6.1,v9.1,v12.1,v13.1,()),(v18.2.1.1,v18.2.1.2.1,v18.2.1.2.2.1,()),())))) (
     match al ((v9.2.1.1,v9.2.1.2.1,v9.2.1.2.2.1,()),(30:Int),())with
     |none=>none
     |some v10=>
     ac (aI v1.1.2.2.1 v6.1) fun v11=>
     match al ((v10.2.1.1,v10.2.1.2.1,v10.2.1.2.2.1,()),(IntKind.i64.wrap (v11.2.1+(IntKind.i64.wrap (Int.tdiv v10.1 (29:Int))))),())with
     |none=>none
     |some v12=>
     match du (v1.1.2.1,())with
     |none=>none
     |some v13=>
     match al ((v12.2.1.1,v12.2.1.2.1,v12.2.1.2.2.1,()),(3:Int),())with
     |none=>none
     |some v14=>
     match(v14.1==(0:Int))with
     |true=>
      be (
       match al ((v14.2.1.1,v14.2.1.2.1,v14.2.1.2.2.1,()),(256:Int),())with
       |none=>none
       |some v15=>
       match al ((v15.2.1.1,v15.2.1.2.1,v15.2.1.2.2.1,()),(30:Int),())with
       |none=>none
       |some v16=>
       match(v16.1==(0:Int))with
       |true=>
        be (
         match al ((v16.2.1.1,v16.2.1.2.1,v16.2.1.2.2.1,()),(10:Int),())with
         |none=>none
         |some v17=>
         if(IntKind.u64.wrap v17.1)<0 then none else
         be (
          some ((v1.1.1,v1.1.2.1,v1.1.2.2.1,v1.1.2.2.2.1,()),(v5.1,v6.1,v9.1,v12.1,(bits BinOp.xor .i64 (bits BinOp.and .i64 v13.1 v15.1) (IntKind.i64.wrap ((1:Int)*2^min (IntKind.u64.wrap v17.1).toNat IntKind.i64.bits))),()),(v17.2.1.1,v17.2.1.2.1,v17.2.1.2.2.1,()),())))
       |false=>
        be (
         some ((v1.1.1,v1.1.2.1,v1.1.2.2.1,v1.1.2.2.2.1,()),(v5.1,v6.1,v9.1,v12.1,(bits BinOp.and .i64 v13.1 v15.1),()),(v16.2.1.1,v16.2.1.2.1,v16.2.1.2.2.1,()),())))
     |false=>
      match al ((v14.2.1.1,v14.2.1.2.1,v14.2.1.2.2.1,()),(30:Int),())with
      |none=>none
      |some v18=>
      match(v18.1==(0:Int))with
      |true=>
       be (
        match al ((v18.2.1.1,v18.2.1.2.1,v18.2.1.2.2.1,()),(10:Int),())with
        |none=>none
        |some v19=>
        if(IntKind.u64.wrap v19.1)<0 then none else
        be (
         some ((v1.1.1,v1.1.2.1,v1.1.2.2.1,v1.1.2.2.2.1,()),(v5.1,v6.1,v9.1,v12.1,(bits BinOp.xor .i64 v13.1 (IntKind.i64.wrap ((1:Int)*2^min (IntKind.u64.wrap v19.1).toNat IntKind.i64.bits))),()),(v19.2.1.1,v19.2.1.2.1,v19.2.1.2.2.1,()),())))
      |false=>
       be (
        some ((v1.1.1,v1.1.2.1,v1.1.2.2.1,v1.1.2.2.2.1,()),(v5.1,v6.1,v9.1,v12.1,v13.1,()),(v18.2.1.1,v18.2.1.2.1,v18.2.1.2.2.1,()),()))))) (
   match al ((v6.2.1.1,v6.2.1.2.1,v6.2.1.2.2.1,()),(30:Int),())with
   |none=>none
   |some v7=>
   ac (aI v1.1.2.2.1 v6.1) fun v8=>
   match al ((v7.2.1.1,v7.2.1.2.1,v7.2.1.2.2.1,()),(IntKind.i64.wrap (v8.1+(IntKind.i64.wrap (Int.tdiv v7.1 (29:Int))))),())with
   |none=>none
   |some v9=>
   aD (
    ac (aI v1.1.2.2.1 v6.1) fun v10=>
    be (
     match al ((v9.2.1.1,v9.2.1.2.1,v9.2.1.2.2.1,()),(30:Int),())with
     |none=>none
     |some v11=>
     match al ((v11.2.1.1,v11.2.1.2.1,v11.2.1.2.2.1,()),(IntKind.i64.wrap (v10.2.1+(IntKind.i64.wrap (Int.tdiv v11.1 (29:Int))))),())with
     |none=>none
     |some v12=>
     match du (v1.1.2.1,())with
     |none=>none
     |some v13=>
     match al ((v12.2.1.1,v12.2.1.2.1,v12.2.1.2.2.1,()),(3:Int),())with
     |none=>none
     |some v14=>
     match(v14.1==(0:Int))with
     |true=>
      be (
       match al ((v14.2.1.1,v14.2.1.2.1,v14.2.1.2.2.1,()),(256:Int),())with
       |none=>none
       |some v15=>
       match al ((v15.2.1.1,v15.2.1.2.1,v15.2.1.2.2.1,()),(30:Int),())with
       |none=>none
       |some v16=>
       match(v16.1==(0:Int))with
       |true=>
        be (
         match al ((v16.2.1.1,v16.2.1.2.1,v16.2.1.2.2.1,()),(10:Int),())with
         |none=>none
         |some v17=>
         if(IntKind.u64.wrap v17.1)<0 then none else
         be (
          some ((v1.1.1,v1.1.2.1,v1.1.2.2.1,v1.1.2.2.2.1,()),(v5.1,v6.1,v9.1,v12.1,(bits BinOp.xor .i64 (bits BinOp.and .i64 v13.1 v15.1) (IntKind.i64.wrap ((1:Int)*2^min (IntKind.u64.wrap v17.1).toNat IntKind.i64.bits))),()),(v17.2.1.1,v17.2.1.2.1,v17.2.1.2.2.1,()),())))
       |false=>
        be (
         some ((v1.1.1,v1.1.2.1,v1.1.2.2.1,v1.1.2.2.2.1,()),(v5.1,v6.1,v9.1,v12.1,(bits BinOp.and .i64 v13.1 v15.1),()),(v16.2.1.1,v16.2.1.2.1,v16.2.1.2.2.1,()),())))
     |false=>
      match al ((v14.2.1.1,v14.2.1.2.1,v14.2.1.2.2.1,()),(30:Int),())with
      |none=>none
      |some v18=>
      match(v18.1==(0:Int))with
      |true=>
       be (
        match al ((v18.2.1.1,v18.2.1.2.1,v18.2.1.2.2.1,()),(10:Int),())with
        |none=>none
        |some v19=>
        if(IntKind.u64.wrap v19.1)<0 then none else
        be (
         some ((v1.1.1,v1.1.2.1,v1.1.2.2.1,v1.1.2.2.2.1,()),(v5.1,v6.1,v9.1,v12.1,(bits BinOp.xor .i64 v13.1 (IntKind.i64.wrap ((1:Int)*2^min (IntKind.u64.wrap v19.1).toNat IntKind.i64.bits))),()),(v19.2.1.1,v19.2.1.2.1,v19.2.1.2.2.1,()),())))
      |false=>
       be (
        some ((v1.1.1,v1.1.2.1,v1.1.2.2.1,v1.1.2.2.2.1,()),(v5.1,v6.1,v9.1,v12.1,v13.1,()),(v18.2.1.1,v18.2.1.2.1,v18.2.1.2.2.1,()),())))) (
    match al ((v9.2.1.1,v9.2.1.2.1,v9.2.1.2.2.1,()),(30:Int),())with
    |none=>none
    |some v10=>
    ac (aI v1.1.2.2.1 v6.1) fun v11=>
    match al ((v10.2.1.1,v10.2.1.2.1,v10.2.1.2.2.1,()),(IntKind.i64.wrap (v11.2.1+(IntKind.i64.wrap (Int.tdiv v10.1 (29:Int))))),())with
    |none=>none
    |some v12=>
    match du (v1.1.2.1,())with
    |none=>none
    |some v13=>
    match al ((v12.2.1.1,v12.2.1.2.1,v12.2.1.2.2.1,()),(3:Int),())with
    |none=>none
    |some v14=>
    match(v14.1==(0:Int))with
    |true=>
     be (
      match al ((v14.2.1.1,v14.2.1.2.1,v14.2.1.2.2.1,()),(256:Int),())with
      |none=>none
      |some v15=>
      match al ((v15.2.1.1,v15.2.1.2.1,v15.2.1.2.2.1,()),(30:Int),())with
      |none=>none
      |some v16=>
      match(v16.1==(0:Int))with
      |true=>
       be (
        match al ((v16.2.1.1,v16.2.1.2.1,v16.2.1.2.2.1,()),(10:Int),())with
        |none=>none
        |some v17=>
        if(IntKind.u64.wrap v17.1)<0 then none else
        be (
         some ((v1.1.1,v1.1.2.1,v1.1.2.2.1,v1.1.2.2.2.1,()),(v5.1,v6.1,v9.1,v12.1,(bits BinOp.xor .i64 (bits BinOp.and .i64 v13.1 v15.1) (IntKind.i64.wrap ((1:Int)*2^min (IntKind.u64.wrap v17.1).toNat IntKind.i64.bits))),()),(v17.2.1.1,v17.2.1.2.1,v17.2.1.2.2.1,()),())))
      |false=>
       be (
        some ((v1.1.1,v1.1.2.1,v1.1.2.2.1,v1.1.2.2.2.1,()),(v5.1,v6.1,v9.1,v12.1,(bits BinOp.and .i64 v13.1 v15.1),()),(v16.2.1.1,v16.2.1.2.1,v16.2.1.2.2.1,()),())))
    |false=>
     match al ((v14.2.1.1,v14.2.1.2.1,v14.2.1.2.2.1,()),(30:Int),())with
     |none=>none
     |some v18=>
     match(v18.1==(0:Int))with
     |true=>
      be (
       match al ((v18.2.1.1,v18.2.1.2.1,v18.2.1.2.2.1,()),(10:Int),())with
       |none=>none
       |some v19=>
       if(IntKind.u64.wrap v19.1)<0 then none else
       be (
        some ((v1.1.1,v1.1.2.1,v1.1.2.2.1,v1.1.2.2.2.1,()),(v5.1,v6.1,v9.1,v12.1,(bits BinOp.xor .i64 v13.1 (IntKind.i64.wrap ((1:Int)*2^min (IntKind.u64.wrap v19.1).toNat IntKind.i64.bits))),()),(v19.2.1.1,v19.2.1.2.1,v19.2.1.2.2.1,()),())))
     |false=>
      be (
       some ((v1.1.1,v1.1.2.1,v1.1.2.2.1,v1.1.2.2.2.1,()),(v5.1,v6.1,v9.1,v12.1,v13.1,()),(v18.2.1.1,v18.2.1.2.1,v18.2.1.2.2.1,()),()))))
noncomputable def XC:ai:=⟨_,wM,kJ,rfl,vZ⟩
theorem VE:FnOK G0 Tryz.prog 20 XC:=au av (sg OP (sg OQ (sg LV (sg dq (sg m4 (ba)))))) Tryz.func20
noncomputable def oJ(x:Ty.T aV):Option (Ty.T afQ):=
match(x.1==(2:Int))with
|true=>
 some (true,false,())
|false=>
 match(x.1==(3:Int))with
 |true=>
  some (true,false,())
 |false=>
  match(x.1==(4:Int))with
  |true=>
   some (true,true,())
  |false=>
   match(x.1==(6:Int))with
   |true=>
    some (true,true,())
   |false=>
    some (false,false,())
noncomputable def TE:ai:=⟨_,afQ,.unit,rfl,oJ⟩
theorem DE:FnOK G0 Tryz.prog 112 TE:=au av ba Tryz.func112
noncomputable def pt(x:Ty.T Vn):Option (Ty.T aE):=
match cg (x.1.1,(1:Int),(6:Int),())with
|none=>none
|some v1=>
match(!v1.1)with
|true=>
 some (false,())
|false=>
 match cg (x.1.2.1,(0:Int),(8192:Int),())with
 |none=>none
 |some v2=>
 match(!v2.1)with
 |true=>
  some (false,())
 |false=>
  match oJ (x.1.1,())with
  |none=>none
  |some v3=>
  match v3.1 with
  |true=>
   match cg (x.1.2.2.1,(1:Int),(8192:Int),())with
   |none=>none
   |some v4=>
   match(!v4.1)with
   |true=>
    some (false,())
   |false=>
    match(!v3.1)with
    |true=>
     match(x.1.2.2.1 != (0:Int))with
     |true=>
      some (false,())
     |false=>
      match cg (x.1.2.2.2.1,(0:Int),(1:Int),())with
      |none=>none
      |some v5=>
      match v5.1 with
      |true=>
       match v3.2.1 with
       |true=>
        some (true,())
       |false=>
        some ((x.1.2.2.2.1==(0:Int)),())
      |false=>
       some (false,())
    |false=>
     match cg (x.1.2.2.2.1,(0:Int),(1:Int),())with
     |none=>none
     |some v6=>
     match v6.1 with
     |true=>
      match v3.2.1 with
      |true=>
       some (true,())
      |false=>
       some ((x.1.2.2.2.1==(0:Int)),())
     |false=>
      some (false,())
  |false=>
   match(!v3.1)with
   |true=>
    match(x.1.2.2.1 != (0:Int))with
    |true=>
     some (false,())
    |false=>
     match cg (x.1.2.2.2.1,(0:Int),(1:Int),())with
     |none=>none
     |some v7=>
     match v7.1 with
     |true=>
      match v3.2.1 with
      |true=>
       some (true,())
      |false=>
       some ((x.1.2.2.2.1==(0:Int)),())
     |false=>
      some (false,())
   |false=>
    match cg (x.1.2.2.2.1,(0:Int),(1:Int),())with
    |none=>none
    |some v8=>
    match v8.1 with
    |true=>
     match v3.2.1 with
     |true=>
      some (true,())
     |false=>
      some ((x.1.2.2.2.1==(0:Int)),())
    |false=>
     some (false,())
noncomputable def BQ:ai:=⟨_,aE,.unit,rfl,pt⟩
theorem I9:FnOK G0 Tryz.prog 66 BQ:=au av (sg dr (sg DE (ba))) Tryz.func66
noncomputable def vx(x:Ty.T Z3):Option (Ty.T afY):=
match al ((x.1.1,x.1.2.1,x.1.2.2.1,()),(6:Int),())with
|none=>none
|some v1=>
match al ((v1.2.1.1,v1.2.1.2.1,v1.2.1.2.2.1,()),(IntKind.i64.wrap (x.2.1+(4:Int))),())with
|none=>none
|some v2=>
match oJ ((IntKind.i64.wrap ((1:Int)+v1.1)),())with
|none=>none
|some v3=>
match v3.1 with
|true=>
 match al ((v2.2.1.1,v2.2.1.2.1,v2.2.1.2.2.1,()),(12:Int),())with
 |none=>none
 |some v4=>
 match v3.2.1 with
 |true=>
  match al ((v4.2.1.1,v4.2.1.2.1,v4.2.1.2.2.1,()),(2:Int),())with
  |none=>none
  |some v5=>
  some (((IntKind.i64.wrap ((1:Int)+v1.1)),(if v2.1<(8192:Int)then v2.1 else(8192:Int)),(IntKind.i64.wrap ((1:Int)+v4.1)),v5.1,()),(v5.2.1.1,v5.2.1.2.1,v5.2.1.2.2.1,()),())
 |false=>
  some (((IntKind.i64.wrap ((1:Int)+v1.1)),(if v2.1<(8192:Int)then v2.1 else(8192:Int)),(IntKind.i64.wrap ((1:Int)+v4.1)),(0:Int),()),(v4.2.1.1,v4.2.1.2.1,v4.2.1.2.2.1,()),())
|false=>
 match v3.2.1 with
 |true=>
  match al ((v2.2.1.1,v2.2.1.2.1,v2.2.1.2.2.1,()),(2:Int),())with
  |none=>none
  |some v6=>
  some (((IntKind.i64.wrap ((1:Int)+v1.1)),(if v2.1<(8192:Int)then v2.1 else(8192:Int)),(0:Int),v6.1,()),(v6.2.1.1,v6.2.1.2.1,v6.2.1.2.2.1,()),())
 |false=>
  some (((IntKind.i64.wrap ((1:Int)+v1.1)),(if v2.1<(8192:Int)then v2.1 else(8192:Int)),(0:Int),(0:Int),()),(v2.2.1.1,v2.2.1.2.1,v2.2.1.2.2.1,()),())
noncomputable def TF:ai:=⟨_,Vn,kJ,rfl,vx⟩
theorem Rr:FnOK G0 Tryz.prog 149 TF:=au av (sg dq (sg DE (ba))) Tryz.func149
noncomputable def wc(x:Ty.T Z3):Option (Ty.T afY):=
match vx ((x.1.1,x.1.2.1,x.1.2.2.1,()),x.2.1,())with
|none=>none
|some v1=>
match al ((v1.2.1.1,v1.2.1.2.1,v1.2.1.2.2.1,()),(30:Int),())with
|none=>none
|some v2=>
match(v2.1==(0:Int))with
|true=>
 match al ((v2.2.1.1,v2.2.1.2.1,v2.2.1.2.2.1,()),(2:Int),())with
 |none=>none
 |some v3=>
 ac (aI [(0:Int),(7:Int)] v3.1) fun _=>
 match [(0:Int),(7:Int)][v3.1.toNat]? with
 |none=>none
 |some v5=>
 some ((v5,v1.1.2.1,v1.1.2.2.1,v1.1.2.2.2.1,()),(v3.2.1.1,v3.2.1.2.1,v3.2.1.2.2.1,()),())
|false=>
 match(v2.1==(1:Int))with
 |true=>
  match al ((v2.2.1.1,v2.2.1.2.1,v2.2.1.2.2.1,()),(3:Int),())with
  |none=>none
  |some v6=>
  ac (aI [(-1:Int),(8192:Int),(8193:Int)] v6.1) fun _=>
  match [(-1:Int),(8192:Int),(8193:Int)][v6.1.toNat]? with
  |none=>none
  |some v8=>
  some ((v1.1.1,v8,v1.1.2.2.1,v1.1.2.2.2.1,()),(v6.2.1.1,v6.2.1.2.1,v6.2.1.2.2.1,()),())
 |false=>
  match(v2.1==(2:Int))with
  |true=>
   match al ((v2.2.1.1,v2.2.1.2.1,v2.2.1.2.2.1,()),(4:Int),())with
   |none=>none
   |some v9=>
   ac (aI [(-1:Int),(0:Int),(8192:Int),(8193:Int)] v9.1) fun _=>
   match [(-1:Int),(0:Int),(8192:Int),(8193:Int)][v9.1.toNat]? with
   |none=>none
   |some v11=>
   some ((v1.1.1,v1.1.2.1,v11,v1.1.2.2.2.1,()),(v9.2.1.1,v9.2.1.2.1,v9.2.1.2.2.1,()),())
  |false=>
   match(v2.1==(3:Int))with
   |true=>
    match al ((v2.2.1.1,v2.2.1.2.1,v2.2.1.2.2.1,()),(3:Int),())with
    |none=>none
    |some v12=>
    ac (aI [(-1:Int),(1:Int),(2:Int)] v12.1) fun _=>
    match [(-1:Int),(1:Int),(2:Int)][v12.1.toNat]? with
    |none=>none
    |some v14=>
    some ((v1.1.1,v1.1.2.1,v1.1.2.2.1,v14,()),(v12.2.1.1,v12.2.1.2.1,v12.2.1.2.2.1,()),())
   |false=>
    some ((v1.1.1,v1.1.2.1,v1.1.2.2.1,v1.1.2.2.2.1,()),(v2.2.1.1,v2.2.1.2.1,v2.2.1.2.2.1,()),())
noncomputable def LW:ai:=⟨_,Vn,kJ,rfl,wc⟩
theorem VF:FnOK G0 Tryz.prog 86 LW:=au av (sg dq (sg Rr (ba))) Tryz.func86
abbrev wT:Ty:=(.pair (.box aF) (.pair (.int .i64) (.pair (.own 56 bk) (.pair (.int .i64) .unit))))
abbrev GH:Ty:=adh
noncomputable def kh(x:(Ty.T wT)):Option ((Ty.T wT) ⊕ ((Ty.T GH) ⊕ (Ty.T .unit))):=
match(decide (x.2.2.2.1>(0:Int)))with
|true=>
 match wc ((x.1.1,x.1.2.1,x.1.2.2.1,()),x.2.1,())with
 |none=>none
 |some v2=>
 match pt ((v2.1.1,v2.1.2.1,v2.1.2.2.1,v2.1.2.2.2.1,()),())with
 |none=>none
 |some v3=>
 match v3.1 with
 |true=>
  bd (x.2.2.1.length+ [(v2.1.1,v2.1.2.1,v2.1.2.2.1,v2.1.2.2.2.1,())].length) (
   some (.inl ((v2.2.1.1,v2.2.1.2.1,v2.2.1.2.2.1,()),x.2.1,(x.2.2.1++ [(v2.1.1,v2.1.2.1,v2.1.2.2.1,v2.1.2.2.2.1,())]),(IntKind.i64.wrap (x.2.2.2.1-(1:Int))),())))
 |false=>
  match al ((v2.2.1.1,v2.2.1.2.1,v2.2.1.2.2.1,()),(4:Int),())with
  |none=>none
  |some v4=>
  match(v4.1==(0:Int))with
  |true=>
   bd (x.2.2.1.length+ [(v2.1.1,v2.1.2.1,v2.1.2.2.1,v2.1.2.2.2.1,())].length) (
    some (.inl ((v4.2.1.1,v4.2.1.2.1,v4.2.1.2.2.1,()),x.2.1,(x.2.2.1++ [(v2.1.1,v2.1.2.1,v2.1.2.2.1,v2.1.2.2.2.1,())]),(IntKind.i64.wrap (x.2.2.2.1-(1:Int))),())))
  |false=>
   some (.inl ((v4.2.1.1,v4.2.1.2.1,v4.2.1.2.2.1,()),x.2.1,x.2.2.1,(IntKind.i64.wrap (x.2.2.2.1-(1:Int))),()))
|false=>
 some (.inr (.inl ((x.1.1,x.1.2.1,x.1.2.2.1,()),x.2.2.1,())))
abbrev wU:Ty:=adh
abbrev GI:Ty:=adh
noncomputable def ki(x:(Ty.T wU)):Option ((Ty.T wU) ⊕ ((Ty.T wU) ⊕ (Ty.T .unit))):=
match al ((x.1.1,x.1.2.1,x.1.2.2.1,()),(2:Int),())with
|none=>none
|some v8=>
match(decide ((x.2.1.length:Int)<(IntKind.i64.wrap ((30:Int)+v8.1))))with
|true=>
 bd (x.2.1.length+ [((1:Int),(3:Int),(0:Int),(0:Int),())].length) (
  some (.inl ((v8.2.1.1,v8.2.1.2.1,v8.2.1.2.2.1,()),(x.2.1++ [((1:Int),(3:Int),(0:Int),(0:Int),())]),())))
|false=>
 some (.inr (.inl ((v8.2.1.1,v8.2.1.2.1,v8.2.1.2.2.1,()),x.2.1,())))
noncomputable def A9(x:Ty.T Z3):Option (Ty.T (.pair (.own 56 bk) (.pair (.box aF) .unit))):=
match al ((x.1.1,x.1.2.1,x.1.2.2.1,()),(5:Int),())with
|none=>none
|some v1=>
match ak kh ((v1.2.1.1,v1.2.1.2.1,v1.2.1.2.2.1,()),x.2.1,[],v1.1,())with
|none=>none
|some (.inl v5)=>
 match al ((v5.1.1,v5.1.2.1,v5.1.2.2.1,()),(40:Int),())with
 |none=>none
 |some v7=>
 match(v7.1==(0:Int))with
 |true=>
  match ak ki ((v7.2.1.1,v7.2.1.2.1,v7.2.1.2.2.1,()),v5.2.1,())with
  |none=>none
  |some (.inl v9)=>
   some (v9.2.1,(v9.1.1,v9.1.2.1,v9.1.2.2.1,()),())
  |some (.inr v11)=>
   none
 |false=>
  some (v5.2.1,(v7.2.1.1,v7.2.1.2.1,v7.2.1.2.2.1,()),())
|some (.inr v12)=>
 none
noncomputable def XD:ai:=⟨_,(.pair (.own 56 bk) .unit),kJ,rfl,A9⟩
noncomputable def zj:FuncId→Option ai:=ca [(45,oI),(66,BQ),(86,LW)]
theorem Rs:∀f s,zj f=some s→FnOK G0 Tryz.prog f s:=aX ⟨dq,I9,VF,trivial⟩
def GJ:bg:=⟨[0,1,5,6],wT,0,[0,5],GH,[],.unit⟩
def GK:bg:=⟨[0,5],GI,2,[0,5],GI,[],.unit⟩
noncomputable def zk:List aM:=[GJ.spec kh,GK.spec ki]
theorem O0:bJ bL E0 zj (bF Tryz.f47 zk) Tryz.f47 0 GJ kh:=fun x=>by kernel_rfl
theorem O1:bJ bL E0 zj (bF Tryz.f47 zk) Tryz.f47 1 GK ki:=fun x=>by kernel_rfl
theorem VG:FnOK G0 Tryz.prog 47 XD:=bb av Rs Tryz.func47 zk (by kernel_rfl) (by exact⟨(O0).lok,(O1).lok,trivial⟩) fun x=>by kernel_rfl
noncomputable def oo(x:Ty.T kJ):Option (Ty.T (.pair bI (.pair (.box aF) .unit))):=
match al ((x.1.1,x.1.2.1,x.1.2.2.1,()),(256:Int),())with
|none=>none
|some v1=>
match al ((v1.2.1.1,v1.2.1.2.1,v1.2.1.2.2.1,()),(3:Int),())with
|none=>none
|some v2=>
match al ((v2.2.1.1,v2.2.1.2.1,v2.2.1.2.2.1,()),(3:Int),())with
|none=>none
|some v3=>
match al ((v3.2.1.1,v3.2.1.2.1,v3.2.1.2.2.1,()),(6:Int),())with
|none=>none
|some v4=>
match(v4.1==(0:Int))with
|true=>
 match A9 ((v4.2.1.1,v4.2.1.2.1,v4.2.1.2.2.1,()),(2400:Int),())with
 |none=>none
 |some v5=>
 match al ((v5.2.1.1,v5.2.1.2.1,v5.2.1.2.2.1,()),(40:Int),())with
 |none=>none
 |some v6=>
 match(v6.1==(0:Int))with
 |true=>
  match al ((v6.2.1.1,v6.2.1.2.1,v6.2.1.2.2.1,()),(2:Int),())with
  |none=>none
  |some v7=>
  ac (aI [(-1:Int),(256:Int)] v7.1) fun _=>
  match [(-1:Int),(256:Int)][v7.1.toNat]? with
  |none=>none
  |some v9=>
  some ((v9,(IntKind.i64.wrap (v2.1*(IntKind.i64.wrap (Int.tdiv v3.1 (2:Int))))),v5.1,[],()),(v7.2.1.1,v7.2.1.2.1,v7.2.1.2.2.1,()),())
 |false=>
  match(v6.1==(1:Int))with
  |true=>
   match al ((v6.2.1.1,v6.2.1.2.1,v6.2.1.2.2.1,()),(3:Int),())with
   |none=>none
   |some v10=>
   ac (aI [(-1:Int),(7:Int),(8:Int)] v10.1) fun _=>
   match [(-1:Int),(7:Int),(8:Int)][v10.1.toNat]? with
   |none=>none
   |some v12=>
   some ((v1.1,v12,v5.1,[],()),(v10.2.1.1,v10.2.1.2.1,v10.2.1.2.2.1,()),())
  |false=>
   some ((v1.1,(IntKind.i64.wrap (v2.1*(IntKind.i64.wrap (Int.tdiv v3.1 (2:Int))))),v5.1,[],()),(v6.2.1.1,v6.2.1.2.1,v6.2.1.2.2.1,()),())
|false=>
 match(v4.1==(1:Int))with
 |true=>
  match al ((v4.2.1.1,v4.2.1.2.1,v4.2.1.2.2.1,()),(40:Int),())with
  |none=>none
  |some v13=>
  match(v13.1==(0:Int))with
  |true=>
   match al ((v13.2.1.1,v13.2.1.2.1,v13.2.1.2.2.1,()),(2:Int),())with
   |none=>none
   |some v14=>
   ac (aI [(-1:Int),(256:Int)] v14.1) fun _=>
   match [(-1:Int),(256:Int)][v14.1.toNat]? with
   |none=>none
   |some v16=>
   some ((v16,(IntKind.i64.wrap (v2.1*(IntKind.i64.wrap (Int.tdiv v3.1 (2:Int))))),[],[((5:Int),(0:Int),(0:Int),(0:Int),())],()),(v14.2.1.1,v14.2.1.2.1,v14.2.1.2.2.1,()),())
  |false=>
   match(v13.1==(1:Int))with
   |true=>
    match al ((v13.2.1.1,v13.2.1.2.1,v13.2.1.2.2.1,()),(3:Int),())with
    |none=>none
    |some v17=>
    ac (aI [(-1:Int),(7:Int),(8:Int)] v17.1) fun _=>
    match [(-1:Int),(7:Int),(8:Int)][v17.1.toNat]? with
    |none=>none
    |some v19=>
    some ((v1.1,v19,[],[((5:Int),(0:Int),(0:Int),(0:Int),())],()),(v17.2.1.1,v17.2.1.2.1,v17.2.1.2.2.1,()),())
   |false=>
    some ((v1.1,(IntKind.i64.wrap (v2.1*(IntKind.i64.wrap (Int.tdiv v3.1 (2:Int))))),[],[((5:Int),(0:Int),(0:Int),(0:Int),())],()),(v13.2.1.1,v13.2.1.2.1,v13.2.1.2.2.1,()),())
 |false=>
  match(v4.1==(2:Int))with
  |true=>
   match al ((v4.2.1.1,v4.2.1.2.1,v4.2.1.2.2.1,()),(900:Int),())with
   |none=>none
   |some v20=>
   match al ((v20.2.1.1,v20.2.1.2.1,v20.2.1.2.2.1,()),(90:Int),())with
   |none=>none
   |some v21=>
   match al ((v21.2.1.1,v21.2.1.2.1,v21.2.1.2.2.1,()),(40:Int),())with
   |none=>none
   |some v22=>
   match(v22.1==(0:Int))with
   |true=>
    match al ((v22.2.1.1,v22.2.1.2.1,v22.2.1.2.2.1,()),(2:Int),())with
    |none=>none
    |some v23=>
    ac (aI [(-1:Int),(256:Int)] v23.1) fun _=>
    match [(-1:Int),(256:Int)][v23.1.toNat]? with
    |none=>none
    |some v25=>
    some ((v25,(IntKind.i64.wrap (v2.1*(IntKind.i64.wrap (Int.tdiv v3.1 (2:Int))))),[((1:Int),(IntKind.i64.wrap ((200:Int)+v20.1)),(0:Int),(0:Int),())],[((2:Int),(IntKind.i64.wrap ((8:Int)*(IntKind.i64.wrap ((20:Int)+v21.1)))),(8:Int),(0:Int),())],()),(v23.2.1.1,v23.2.1.2.1,v23.2.1.2.2.1,()),())
   |false=>
    match(v22.1==(1:Int))with
    |true=>
     match al ((v22.2.1.1,v22.2.1.2.1,v22.2.1.2.2.1,()),(3:Int),())with
     |none=>none
     |some v26=>
     ac (aI [(-1:Int),(7:Int),(8:Int)] v26.1) fun _=>
     match [(-1:Int),(7:Int),(8:Int)][v26.1.toNat]? with
     |none=>none
     |some v28=>
     some ((v1.1,v28,[((1:Int),(IntKind.i64.wrap ((200:Int)+v20.1)),(0:Int),(0:Int),())],[((2:Int),(IntKind.i64.wrap ((8:Int)*(IntKind.i64.wrap ((20:Int)+v21.1)))),(8:Int),(0:Int),())],()),(v26.2.1.1,v26.2.1.2.1,v26.2.1.2.2.1,()),())
    |false=>
     some ((v1.1,(IntKind.i64.wrap (v2.1*(IntKind.i64.wrap (Int.tdiv v3.1 (2:Int))))),[((1:Int),(IntKind.i64.wrap ((200:Int)+v20.1)),(0:Int),(0:Int),())],[((2:Int),(IntKind.i64.wrap ((8:Int)*(IntKind.i64.wrap ((20:Int)+v21.1)))),(8:Int),(0:Int),())],()),(v22.2.1.1,v22.2.1.2.1,v22.2.1.2.2.1,()),())
  |false=>
   match(v4.1==(3:Int))with
   |true=>
    match al ((v4.2.1.1,v4.2.1.2.1,v4.2.1.2.2.1,()),(1500:Int),())with
    |none=>none
    |some v29=>
    match al ((v29.2.1.1,v29.2.1.2.1,v29.2.1.2.2.1,()),(40:Int),())with
    |none=>none
    |some v30=>
    match(v30.1==(0:Int))with
    |true=>
     match al ((v30.2.1.1,v30.2.1.2.1,v30.2.1.2.2.1,()),(2:Int),())with
     |none=>none
     |some v31=>
     ac (aI [(-1:Int),(256:Int)] v31.1) fun _=>
     match [(-1:Int),(256:Int)][v31.1.toNat]? with
     |none=>none
     |some v33=>
     some ((v33,(IntKind.i64.wrap (v2.1*(IntKind.i64.wrap (Int.tdiv v3.1 (2:Int))))),[((5:Int),(0:Int),(0:Int),(0:Int),())],[((5:Int),v29.1,(0:Int),(0:Int),())],()),(v31.2.1.1,v31.2.1.2.1,v31.2.1.2.2.1,()),())
    |false=>
     match(v30.1==(1:Int))with
     |true=>
      match al ((v30.2.1.1,v30.2.1.2.1,v30.2.1.2.2.1,()),(3:Int),())with
      |none=>none
      |some v34=>
      ac (aI [(-1:Int),(7:Int),(8:Int)] v34.1) fun _=>
      match [(-1:Int),(7:Int),(8:Int)][v34.1.toNat]? with
      |none=>none
      |some v36=>
      some ((v1.1,v36,[((5:Int),(0:Int),(0:Int),(0:Int),())],[((5:Int),v29.1,(0:Int),(0:Int),())],()),(v34.2.1.1,v34.2.1.2.1,v34.2.1.2.2.1,()),())
     |false=>
      some ((v1.1,(IntKind.i64.wrap (v2.1*(IntKind.i64.wrap (Int.tdiv v3.1 (2:Int))))),[((5:Int),(0:Int),(0:Int),(0:Int),())],[((5:Int),v29.1,(0:Int),(0:Int),())],()),(v30.2.1.1,v30.2.1.2.1,v30.2.1.2.2.1,()),())
   |false=>
    match al ((v4.2.1.1,v4.2.1.2.1,v4.2.1.2.2.1,()),(40:Int),())with
    |none=>none
    |some v37=>
    match(v37.1==(0:Int))with
    |true=>
     match al ((v37.2.1.1,v37.2.1.2.1,v37.2.1.2.2.1,()),(2:Int),())with
     |none=>none
     |some v38=>
     ac (aI [(-1:Int),(256:Int)] v38.1) fun _=>
     match [(-1:Int),(256:Int)][v38.1.toNat]? with
     |none=>none
     |some v40=>
     some ((v40,(IntKind.i64.wrap (v2.1*(IntKind.i64.wrap (Int.tdiv v3.1 (2:Int))))),[],[],()),(v38.2.1.1,v38.2.1.2.1,v38.2.1.2.2.1,()),())
    |false=>
     match(v37.1==(1:Int))with
     |true=>
      match al ((v37.2.1.1,v37.2.1.2.1,v37.2.1.2.2.1,()),(3:Int),())with
      |none=>none
      |some v41=>
      ac (aI [(-1:Int),(7:Int),(8:Int)] v41.1) fun _=>
      match [(-1:Int),(7:Int),(8:Int)][v41.1.toNat]? with
      |none=>none
      |some v43=>
      some ((v1.1,v43,[],[],()),(v41.2.1.1,v41.2.1.2.1,v41.2.1.2.2.1,()),())
     |false=>
      some ((v1.1,(IntKind.i64.wrap (v2.1*(IntKind.i64.wrap (Int.tdiv v3.1 (2:Int))))),[],[],()),(v37.2.1.1,v37.2.1.2.1,v37.2.1.2.2.1,()),())
noncomputable def O2:ai:=⟨_,ZV,kJ,rfl,oo⟩
theorem M3:FnOK G0 Tryz.prog 21 O2:=au av (sg dq (sg VG (ba))) Tryz.func21
noncomputable def m6(x:Ty.T Z0):Option (Ty.T II):=
match AS (x.1,())with
|none=>none
|some v1=>
match vZ ((v1.1.1,v1.1.2.1,v1.1.2.2.1,()),())with
|none=>none
|some v2=>
aD (
 match oo ((v2.2.2.1.1,v2.2.2.1.2.1,v2.2.2.1.2.2.1,()),())with
 |none=>none
 |some v3=>
 some ((v2.1.1,v2.1.2.1,v2.1.2.2.1,v2.1.2.2.2.1,()),(v2.2.1.1,v2.2.1.2.1,v2.2.1.2.2.1,v2.2.1.2.2.2.1,v2.2.1.2.2.2.2.1,()),(v3.1.1,v3.1.2.1,v3.1.2.2.1,v3.1.2.2.2.1,()),())) (
 match oo ((v2.2.2.1.1,v2.2.2.1.2.1,v2.2.2.1.2.2.1,()),())with
 |none=>none
 |some v3=>
 be (
  some ((v2.1.1,v2.1.2.1,v2.1.2.2.1,v2.1.2.2.2.1,()),(v2.2.1.1,v2.2.1.2.1,v2.2.1.2.2.1,v2.2.1.2.2.2.1,v2.2.1.2.2.2.2.1,()),(v3.1.1,v3.1.2.1,v3.1.2.2.1,v3.1.2.2.2.1,()),())))
noncomputable def zl:ai:=⟨_,II,.unit,rfl,m6⟩
theorem Lc:FnOK G0 Tryz.prog 5 zl:=au av (sg Vw (sg VE (sg M3 (ba)))) Tryz.func5
noncomputable def bU(x:Ty.T (.pair (.int .i64) bM)):Option (Ty.T aE):=
match(decide (x.1≥x.2.1))with
|true=>
 some ((decide (x.1≤x.2.2.1)),())
|false=>
 some (false,())
noncomputable def FF:ai:=⟨_,aE,.unit,rfl,bU⟩
theorem dl:FnOK G0 Tryz.prog 26 FF:=au av ba Tryz.func26
noncomputable def O3(x:Ty.T bM):Option (Ty.T aE):=
if x.2.1<0 then none else
some (((bits BinOp.and .i64 (Int.fdiv x.1 (2^min x.2.1.toNat IntKind.i64.bits)) (1:Int))==(1:Int)),())
noncomputable def aeM:ai:=⟨_,aE,.unit,rfl,O3⟩
theorem VH:FnOK G0 Tryz.prog 36 aeM:=au av ba Tryz.func36
abbrev pu:Ty:=(.pair (.int .i64) (.pair (.list aL) bM))
noncomputable def fk(x:(Ty.T pu)):Option ((Ty.T pu) ⊕ ((Ty.T aV) ⊕ (Ty.T .unit))):=
match(decide (x.2.2.2.1<x.2.2.1))with
|true=>
 ac (aI x.2.1 x.2.2.2.1) fun v1=>
 match(!v1.2.2.2.1)with
 |true=>
  if v1.1<0 then none else
  some (.inl ((bits BinOp.or .i64 x.1 (IntKind.i64.wrap ((1:Int)*2^min v1.1.toNat IntKind.i64.bits))),x.2.1,x.2.2.1,(IntKind.i64.wrap (x.2.2.2.1+(1:Int))),()))
 |false=>
  some (.inl (x.1,x.2.1,x.2.2.1,(IntKind.i64.wrap (x.2.2.2.1+(1:Int))),()))
|false=>
 some (.inr (.inl (x.1,())))
noncomputable def kN(x:Ty.T Rc):Option (Ty.T aV):=
match ak fk ((0:Int),x.1,(x.1.length:Int),(0:Int),())with
|none=>none
|some (.inl v2)=>
 some (v2.1,())
|some (.inr v4)=>
 none
noncomputable def zm:ai:=⟨_,aV,.unit,rfl,kN⟩
noncomputable def xO:FuncId→Option ai:=ca []
theorem HR:∀f s,xO f=some s→FnOK G0 Tryz.prog f s:=aX trivial
def wd:bg:=⟨[3,6,7,8],pu,0,[3],aV,[],.unit⟩
noncomputable def xP:List aM:=[wd.spec fk]
theorem FG:bJ bL E0 xO (bF Tryz.f70 xP) Tryz.f70 0 wd fk:=fun x=>by kernel_rfl
theorem qS:FnOK G0 Tryz.prog 70 zm:=bb av HR Tryz.func70 xP (by kernel_rfl) (by exact⟨(FG).lok,trivial⟩) fun x=>by kernel_rfl
noncomputable def qh(x:Ty.T (.pair az (.pair (.ptr aA) .unit))):Option (Ty.T aE):=
match kN (x.2.1.2.1,())with
|none=>none
|some v1=>
match O3 (v1.1,x.1.2.2.2.1.1,())with
|none=>none
|some v2=>
some ((!v2.1),())
noncomputable def M4:ai:=⟨_,aE,.unit,rfl,qh⟩
theorem Ld:FnOK G0 Tryz.prog 115 M4:=au av (sg VH (sg qS (ba))) Tryz.func115
noncomputable def qi(x:Ty.T ac3):Option (Ty.T aE):=
match(x.1.2.2.2.1.2.1==(3:Int))with
|true=>
 some ((x.1.1 != (0:Int)),())
|false=>
 some (false,())
noncomputable def M5:ai:=⟨_,aE,.unit,rfl,qi⟩
theorem Le:FnOK G0 Tryz.prog 116 M5:=au av ba Tryz.func116
noncomputable def nT(x:Ty.T aV):Option (Ty.T aE):=
match bU (x.1,(0:Int),(31:Int),())with
|none=>none
|some v1=>
some (v1.1,())
noncomputable def aab:ai:=⟨_,aE,.unit,rfl,nT⟩
theorem vy:FnOK G0 Tryz.prog 35 aab:=au av (sg dl (ba)) Tryz.func35
noncomputable def zn(x:Ty.T afP):Option (Ty.T tw):=ac (Oz x.1 x.2.1) fun s=>some (s,())
noncomputable def Rt:ai:=⟨afP,tw,.unit,rfl,zn⟩
theorem O4:FnOK G0 Tryz.prog 215 Rt:=FnOK.str2_str (nP Tryz.func215 (by kernel_rfl) (show Tryz.f215.body=some (fe Tryz.f215) by kernel_rfl)) (fun w s t y _ hy=>ZP w s t y hy)
noncomputable def pv(x:Ty.T (.pair aL .unit)):Option (Ty.T aE):=
match(decide ((x.1.2.1.length:Int)≥(1:Int)))with
|true=>
 match(decide ((x.1.2.1.length:Int)≤(6:Int)))with
 |true=>
  match zn (x.1.2.1,([97,98,99,100,101,102,103,104,105,106,107,108,109,110,111,112,113,114,115,116,117,118,119,120,121,122,48,49,50,51,52,53,54,55,56,57]:List UInt8),())with
  |none=>none
  |some v1=>
  match(v1.1== [])with
  |true=>
   match nT (x.1.1,())with
   |none=>none
   |some v2=>
   match v2.1 with
   |true=>
    match bU (x.1.2.2.1,(0:Int),(1000:Int),())with
    |none=>none
    |some v3=>
    some (v3.1,())
   |false=>
    some (false,())
  |false=>
   some (false,())
 |false=>
  some (false,())
|false=>
 some (false,())
noncomputable def DF:ai:=⟨_,aE,.unit,rfl,pv⟩
theorem O5:FnOK G0 Tryz.prog 171 DF:=au av (sg dl (sg vy (sg O4 (ba)))) Tryz.func171
abbrev iK:Ty:=(.pair (.list aL) (.pair (.fn (.pair aL .unit) (.pair .bool .unit)) bM))
noncomputable def cK(x:(Ty.T iK)):Option ((Ty.T iK) ⊕ ((Ty.T .unit) ⊕ (Ty.T aV))):=
match(decide (x.2.2.2.1<x.2.2.1))with
|true=>
 ac (aI x.1 x.2.2.2.1) fun v1=>
 match x.2.1 (v1,())with
 |none=>none
 |some v2=>
 match v2.1 with
 |true=>
  some (.inr (.inr (x.2.2.2.1,())))
 |false=>
  some (.inl (x.1,x.2.1,x.2.2.1,(IntKind.i64.wrap (x.2.2.2.1+(1:Int))),()))
|false=>
 some (.inr (.inl (())))
noncomputable def eZ(x:Ty.T agj):Option (Ty.T aV):=
match ak cK (x.1,x.2.1,(x.1.length:Int),(0:Int),())with
|none=>none
|some (.inl v3)=>
 some ((-1:Int),())
|some (.inr v4)=>
 some (v4.1,())
noncomputable def we:ai:=⟨_,aV,.unit,rfl,eZ⟩
noncomputable def m7:FuncId→Option ai:=ca []
theorem tM:∀f s,m7 f=some s→FnOK G0 Tryz.prog f s:=aX trivial
def mN:bg:=⟨[0,1,7,8],iK,0,[],.unit,[4],aV⟩
noncomputable def m8:List aM:=[mN.spec cK]
theorem s8:bJ bL E0 m7 (bF Tryz.f216 m8) Tryz.f216 0 mN cK:=fun x=>by kernel_rfl
theorem uP:FnOK G0 Tryz.prog 216 we:=bb av tM Tryz.func216 m8 (by kernel_rfl) (by exact⟨(s8).lok,trivial⟩) fun x=>by kernel_rfl
noncomputable def dn(x:Ty.T agj):Option (Ty.T aE):=
match eZ (x.1,x.2.1,())with
|none=>none
|some v1=>
some ((decide (v1.1≥(0:Int))),())
noncomputable def lU:ai:=⟨_,aE,.unit,rfl,dn⟩
theorem s9:FnOK G0 Tryz.prog 172 lU:=au av (sg uP (ba)) Tryz.func172
noncomputable def lV(x:Ty.T (.pair aL (.pair (.ptr aL) .unit))):Option (Ty.T aE):=
some ((x.1.2.1==x.2.1.2.1),())
noncomputable def xQ:ai:=⟨_,aE,.unit,rfl,lV⟩
theorem Ja:FnOK G0 Tryz.prog 173 xQ:=au av ba Tryz.func173
abbrev qT:Ty:=(.pair (.list aL) (.pair (.list aL) bM))
noncomputable def fT(x:(Ty.T qT)):Option ((Ty.T qT) ⊕ ((Ty.T Rc) ⊕ (Ty.T aE))):=
match(decide (x.2.2.2.1<x.2.2.1))with
|true=>
 ac (aI x.2.1 x.2.2.2.1) fun v1=>
 match pv ((v1.1,v1.2.1,v1.2.2.1,v1.2.2.2.1,()),())with
 |none=>none
 |some v2=>
 match(!v2.1)with
 |true=>
  some (.inr (.inr (false,())))
 |false=>
  match(decide (x.2.2.2.1>(0:Int)))with
  |true=>
   ac (aI x.1 (IntKind.i64.wrap (x.2.2.2.1-(1:Int)))) fun v3=>
   match(decide (v3.1≥v1.1))with
   |true=>
    some (.inr (.inr (false,())))
   |false=>
    ac (aZ x.1.length none (some (.dat (.int .i64) x.2.2.2.1))) fun v4=>
    match dn ((List.drop v4.1 (List.take v4.2 x.1)),(fun z=>lV (z.1,(v1.1,v1.2.1,v1.2.2.1,v1.2.2.2.1,()),())),())with
    |none=>none
    |some v5=>
    match v5.1 with
    |true=>
     some (.inr (.inr (false,())))
    |false=>
     some (.inl (x.1,x.2.1,x.2.2.1,(IntKind.i64.wrap (x.2.2.2.1+(1:Int))),()))
  |false=>
   ac (aZ x.1.length none (some (.dat (.int .i64) x.2.2.2.1))) fun v6=>
   match dn ((List.drop v6.1 (List.take v6.2 x.1)),(fun z=>lV (z.1,(v1.1,v1.2.1,v1.2.2.1,v1.2.2.2.1,()),())),())with
   |none=>none
   |some v7=>
   match v7.1 with
   |true=>
    some (.inr (.inr (false,())))
   |false=>
    some (.inl (x.1,x.2.1,x.2.2.1,(IntKind.i64.wrap (x.2.2.2.1+(1:Int))),()))
|false=>
 some (.inr (.inl (x.1,())))
noncomputable def rL(x:Ty.T Rc):Option (Ty.T aE):=
match ak fT (x.1,x.1,(x.1.length:Int),(0:Int),())with
|none=>none
|some (.inl v8)=>
 match(decide ((v8.1.length:Int)≥(1:Int)))with
 |true=>
  some ((decide ((v8.1.length:Int)≤(32:Int))),())
 |false=>
  some (false,())
|some (.inr v9)=>
 some (v9.1,())
noncomputable def O6:ai:=⟨_,aE,.unit,rfl,rL⟩
noncomputable def zo:FuncId→Option ai:=ca [(171,DF),(172,lU),(173,xQ)]
theorem Jb:∀f s,zo f=some s→FnOK G0 Tryz.prog f s:=aX ⟨O5,s9,Ja,trivial⟩
def xR:bg:=⟨[0,5,6,7],qT,0,[0],Rc,[2],aE⟩
noncomputable def zp:List aM:=[xR.spec fT]
theorem HS:bJ bL E0 zo (bF Tryz.f117 zp) Tryz.f117 0 xR fT:=fun x=>by kernel_rfl
theorem M6:FnOK G0 Tryz.prog 117 O6:=bb av Jb Tryz.func117 zp (by kernel_rfl) (by exact⟨(HS).lok,trivial⟩) fun x=>by kernel_rfl
abbrev uQ:Ty:=(.pair (.list (.int .i64)) (.pair (.int .i64) (.pair (.list (.int .i64)) bM)))
noncomputable def iX(x:(Ty.T uQ)):Option ((Ty.T uQ) ⊕ ((Ty.T .unit) ⊕ (Ty.T aE))):=
match(decide (x.2.2.2.2.1<x.2.2.2.1))with
|true=>
 ac (aI x.2.2.1 x.2.2.2.2.1) fun v1=>
 match(decide (v1<(0:Int)))with
 |true=>
  some (.inr (.inr (false,())))
 |false=>
  match(decide (v1≥x.2.1))with
  |true=>
   some (.inr (.inr (false,())))
  |false=>
   match(decide (x.2.2.2.2.1>(0:Int)))with
   |true=>
    ac (aI x.1 (IntKind.i64.wrap (x.2.2.2.2.1-(1:Int)))) fun v2=>
    match(decide (v2≥v1))with
    |true=>
     some (.inr (.inr (false,())))
    |false=>
     some (.inl (x.1,x.2.1,x.2.2.1,x.2.2.2.1,(IntKind.i64.wrap (x.2.2.2.2.1+(1:Int))),()))
   |false=>
    some (.inl (x.1,x.2.1,x.2.2.1,x.2.2.2.1,(IntKind.i64.wrap (x.2.2.2.2.1+(1:Int))),()))
|false=>
 some (.inr (.inl (())))
noncomputable def yn(x:Ty.T y7):Option (Ty.T aE):=
match ak iX (x.1,x.2.1,x.1,(x.1.length:Int),(0:Int),())with
|none=>none
|some (.inl v3)=>
 some (true,())
|some (.inr v4)=>
 some (v4.1,())
noncomputable def Jc:ai:=⟨_,aE,.unit,rfl,yn⟩
noncomputable def GL:FuncId→Option ai:=ca []
theorem O7:∀f s,GL f=some s→FnOK G0 Tryz.prog f s:=aX trivial
def DG:bg:=⟨[0,1,7,8,9],uQ,0,[],.unit,[4],aE⟩
noncomputable def GM:List aM:=[DG.spec iX]
theorem M7:bJ bL E0 GL (bF Tryz.f174 GM) Tryz.f174 0 DG iX:=fun x=>by kernel_rfl
theorem TG:FnOK G0 Tryz.prog 174 Jc:=bb av O7 Tryz.func174 GM (by kernel_rfl) (by exact⟨(M7).lok,trivial⟩) fun x=>by kernel_rfl
abbrev mg:Ty:=adf
noncomputable def dA(x:(Ty.T mg)):Option ((Ty.T mg) ⊕ ((Ty.T .unit) ⊕ (Ty.T aV))):=
match(decide (x.2.2.2.1<x.2.2.1))with
|true=>
 ac (aI x.1 x.2.2.2.1) fun v1=>
 match(x.2.1==v1)with
 |true=>
  some (.inr (.inr (x.2.2.2.1,())))
 |false=>
  some (.inl (x.1,x.2.1,x.2.2.1,(IntKind.i64.wrap (x.2.2.2.1+(1:Int))),()))
|false=>
 some (.inr (.inl (())))
noncomputable def pw(x:Ty.T y7):Option (Ty.T aV):=
match ak dA (x.1,x.2.1,(x.1.length:Int),(0:Int),())with
|none=>none
|some (.inl v2)=>
 some ((-1:Int),())
|some (.inr v3)=>
 some (v3.1,())
noncomputable def FH:ai:=⟨_,aV,.unit,rfl,pw⟩
noncomputable def sO:FuncId→Option ai:=ca []
theorem Az:∀f s,sO f=some s→FnOK G0 Tryz.prog f s:=aX trivial
def rl:bg:=⟨[0,1,7,8],mg,0,[],.unit,[4],aV⟩
noncomputable def sP:List aM:=[rl.spec dA]
theorem zq:bJ bL E0 sO (bF Tryz.f217 sP) Tryz.f217 0 rl dA:=fun x=>by kernel_rfl
theorem DH:FnOK G0 Tryz.prog 217 FH:=bb av Az Tryz.func217 sP (by kernel_rfl) (by exact⟨(zq).lok,trivial⟩) fun x=>by kernel_rfl
noncomputable def jQ(x:Ty.T y7):Option (Ty.T aE):=
match pw (x.1,x.2.1,())with
|none=>none
|some v1=>
some ((decide (v1.1≥(0:Int))),())
noncomputable def qz:ai:=⟨_,aE,.unit,rfl,jQ⟩
theorem zr:FnOK G0 Tryz.prog 175 qz:=au av (sg DH (ba)) Tryz.func175
abbrev qU:Ty:=(.pair (.list aR) (.pair (.list aR) bM))
noncomputable def fU(x:(Ty.T qU)):Option ((Ty.T qU) ⊕ ((Ty.T ZZ) ⊕ (Ty.T aE))):=
match(decide (x.2.2.2.1<x.2.2.1))with
|true=>
 ac (aI x.2.1 x.2.2.2.1) fun v1=>
 match bU (v1.1,(1:Int),(8:Int),())with
 |none=>none
 |some v2=>
 match(!v2.1)with
 |true=>
  some (.inr (.inr (false,())))
 |false=>
  match bU (v1.2.1,(1:Int),(16:Int),())with
  |none=>none
  |some v3=>
  match(!v3.1)with
  |true=>
   some (.inr (.inr (false,())))
  |false=>
   match yn (v1.2.2.1,(x.1.length:Int),())with
   |none=>none
   |some v4=>
   match(!v4.1)with
   |true=>
    some (.inr (.inr (false,())))
   |false=>
    match jQ (v1.2.2.1,x.2.2.2.1,())with
    |none=>none
    |some v5=>
    match v5.1 with
    |true=>
     some (.inr (.inr (false,())))
    |false=>
     some (.inl (x.1,x.2.1,x.2.2.1,(IntKind.i64.wrap (x.2.2.2.1+(1:Int))),()))
|false=>
 some (.inr (.inl (x.1,())))
noncomputable def rM(x:Ty.T ZZ):Option (Ty.T aE):=
match ak fU (x.1,x.1,(x.1.length:Int),(0:Int),())with
|none=>none
|some (.inl v6)=>
 match(decide ((v6.1.length:Int)≥(1:Int)))with
 |true=>
  some ((decide ((v6.1.length:Int)≤(16:Int))),())
 |false=>
  some (false,())
|some (.inr v7)=>
 some (v7.1,())
noncomputable def O8:ai:=⟨_,aE,.unit,rfl,rM⟩
noncomputable def zt:FuncId→Option ai:=ca [(26,FF),(174,Jc),(175,qz)]
theorem Jd:∀f s,zt f=some s→FnOK G0 Tryz.prog f s:=aX ⟨dl,TG,zr,trivial⟩
def xS:bg:=⟨[0,5,6,7],qU,0,[0],ZZ,[2],aE⟩
noncomputable def zu:List aM:=[xS.spec fU]
theorem HT:bJ bL E0 zt (bF Tryz.f118 zu) Tryz.f118 0 xS fU:=fun x=>by kernel_rfl
theorem M8:FnOK G0 Tryz.prog 118 O8:=bb av Jd Tryz.func118 zu (by kernel_rfl) (by exact⟨(HT).lok,trivial⟩) fun x=>by kernel_rfl
noncomputable def zw(x:Ty.T aV):Option (Ty.T aE):=
match bU (x.1,(0:Int),(3:Int),())with
|none=>none
|some v1=>
some (v1.1,())
noncomputable def aac:ai:=⟨_,aE,.unit,rfl,zw⟩
theorem LX:FnOK G0 Tryz.prog 180 aac:=au av (sg dl (ba)) Tryz.func180
noncomputable def pz(x:Ty.T bM):Option (Ty.T aE):=
match(x.1==(0:Int))with
|true=>
 match bU (x.2.1,(0:Int),(32:Int),())with
 |none=>none
 |some v1=>
 some (v1.1,())
|false=>
 match(x.1==(2:Int))with
 |true=>
  match bU (x.2.1,(1:Int),(32:Int),())with
  |none=>none
  |some v2=>
  some (v2.1,())
 |false=>
  some ((x.2.1==(0:Int)),())
noncomputable def Ru:ai:=⟨_,aE,.unit,rfl,pz⟩
theorem Ba:FnOK G0 Tryz.prog 181 Ru:=au av (sg dl (ba)) Tryz.func181
noncomputable def gC(x:Ty.T aV):Option (Ty.T aE):=
some ((x.1 != (0:Int)),())
noncomputable def VI:ai:=⟨_,aE,.unit,rfl,gC⟩
theorem lM:FnOK G0 Tryz.prog 71 VI:=au av ba Tryz.func71
noncomputable def lW(x:Ty.T aV):Option (Ty.T aE):=
match(x.1==(0:Int))with
|true=>
 some (true,())
|false=>
 some ((x.1==(2:Int)),())
noncomputable def XE:ai:=⟨_,aE,.unit,rfl,lW⟩
theorem zx:FnOK G0 Tryz.prog 187 XE:=au av ba Tryz.func187
noncomputable def yo(x:Ty.T bM):Option (Ty.T aV):=
match gC (x.1,())with
|none=>none
|some v1=>
match v1.1 with
|true=>
 match lW (x.1,())with
 |none=>none
 |some v2=>
 match v2.1 with
 |true=>
  some ((IntKind.i64.wrap ((IntKind.i64.wrap ((1:Int)+(8:Int)))+(IntKind.i64.wrap ((1:Int)+x.2.1)))),())
 |false=>
  some ((IntKind.i64.wrap ((1:Int)+(8:Int))),())
|false=>
 match lW (x.1,())with
 |none=>none
 |some v3=>
 match v3.1 with
 |true=>
  some ((IntKind.i64.wrap ((1:Int)+(IntKind.i64.wrap ((1:Int)+x.2.1)))),())
 |false=>
  some ((1:Int),())
noncomputable def VJ:ai:=⟨_,aV,.unit,rfl,yo⟩
theorem TH:FnOK G0 Tryz.prog 219 VJ:=au av (sg lM (sg zx (ba))) Tryz.func219
noncomputable def oq(x:Ty.T bM):Option (Ty.T aV):=
match yo (x.1,x.2.1,())with
|none=>none
|some v1=>
some ((IntKind.i64.wrap ((11:Int)+(IntKind.i64.wrap ((10:Int)*(IntKind.i64.wrap (v1.1+(3:Int))))))),())
noncomputable def O9:ai:=⟨_,aV,.unit,rfl,oq⟩
theorem M9:FnOK G0 Tryz.prog 182 O9:=au av (sg TH (ba)) Tryz.func182
noncomputable def gT(x:Ty.T IH):Option (Ty.T aE):=
match nT (x.1.1,())with
|none=>none
|some v1=>
match(!v1.1)with
|true=>
 some (false,())
|false=>
 match zw (x.1.2.1,())with
 |none=>none
 |some v2=>
 match(!v2.1)with
 |true=>
  some (false,())
 |false=>
  match pz (x.1.2.1,x.1.2.2.1,())with
  |none=>none
  |some v3=>
  match(!v3.1)with
  |true=>
   some (false,())
  |false=>
   match x.1.2.2.2.2.1 with
   |true=>
    match(x.1.2.1==(3:Int))with
    |true=>
     some (false,())
    |false=>
     match oq (x.1.2.1,x.1.2.2.1,())with
     |none=>none
     |some v4=>
     match bU (x.1.2.2.2.1,(IntKind.i64.wrap (v4.1+(20:Int))),(1000:Int),())with
     |none=>none
     |some v5=>
     some (v5.1,())
   |false=>
    match oq (x.1.2.1,x.1.2.2.1,())with
    |none=>none
    |some v6=>
    match bU (x.1.2.2.2.1,(IntKind.i64.wrap (v6.1+(20:Int))),(1000:Int),())with
    |none=>none
    |some v7=>
    some (v7.1,())
noncomputable def Na:ai:=⟨_,aE,.unit,rfl,gT⟩
theorem xT:FnOK G0 Tryz.prog 125 Na:=au av (sg dl (sg vy (sg LX (sg Ba (sg M9 (ba)))))) Tryz.func125
noncomputable def pA(x:Ty.T ac3):Option (Ty.T aE):=
match bU (x.1.1,(0:Int),(15:Int),())with
|none=>none
|some v1=>
match v1.1 with
|true=>
 match bU (x.1.2.1,(0:Int),(7:Int),())with
 |none=>none
 |some v2=>
 match v2.1 with
 |true=>
  match bU (x.1.2.2.1,(0:Int),(15:Int),())with
  |none=>none
  |some v3=>
  match v3.1 with
  |true=>
   match gT ((x.1.2.2.2.1.1,x.1.2.2.2.1.2.1,x.1.2.2.2.1.2.2.1,x.1.2.2.2.1.2.2.2.1,x.1.2.2.2.1.2.2.2.2.1,()),())with
   |none=>none
   |some v4=>
   some (v4.1,())
  |false=>
   some (false,())
 |false=>
  some (false,())
|false=>
 some (false,())
noncomputable def DI:ai:=⟨_,aE,.unit,rfl,pA⟩
theorem Pa:FnOK G0 Tryz.prog 176 DI:=au av (sg dl (sg xT (ba))) Tryz.func176
noncomputable def sQ(x:Ty.T bM):Option (Ty.T aV):=
match(decide (x.1<x.2.1))with
|true=>
 some ((-1:Int),())
|false=>
 match(decide (x.1>x.2.1))with
 |true=>
  some ((1:Int),())
 |false=>
  some ((0:Int),())
noncomputable def XF:ai:=⟨_,aV,.unit,rfl,sQ⟩
theorem VK:FnOK G0 Tryz.prog 218 XF:=au av ba Tryz.func218
noncomputable def kO(x:Ty.T afV):Option (Ty.T aV):=
match(x.1.1 != x.2.1.1)with
|true=>
 match sQ (x.1.1,x.2.1.1,())with
 |none=>none
 |some v1=>
 some (v1.1,())
|false=>
 match(x.1.2.1 != x.2.1.2.1)with
 |true=>
  match sQ (x.1.2.1,x.2.1.2.1,())with
  |none=>none
  |some v2=>
  some (v2.1,())
 |false=>
  match sQ (x.1.2.2.1,x.2.1.2.2.1,())with
  |none=>none
  |some v3=>
  some (v3.1,())
noncomputable def rZ:ai:=⟨_,aV,.unit,rfl,kO⟩
theorem xU:FnOK G0 Tryz.prog 177 rZ:=au av (sg VK (ba)) Tryz.func177
abbrev qV:Ty:=(.pair (.list az) (.pair (.list az) bM))
noncomputable def fV(x:(Ty.T qV)):Option ((Ty.T qV) ⊕ ((Ty.T Vp) ⊕ (Ty.T aE))):=
match(decide (x.2.2.2.1<x.2.2.1))with
|true=>
 ac (aI x.2.1 x.2.2.2.1) fun v1=>
 match pA ((v1.1,v1.2.1,v1.2.2.1,(v1.2.2.2.1.1,v1.2.2.2.1.2.1,v1.2.2.2.1.2.2.1,v1.2.2.2.1.2.2.2.1,v1.2.2.2.1.2.2.2.2.1,()),()),())with
 |none=>none
 |some v2=>
 match(!v2.1)with
 |true=>
  some (.inr (.inr (false,())))
 |false=>
  match(decide (x.2.2.2.1>(0:Int)))with
  |true=>
   ac (aI x.1 (IntKind.i64.wrap (x.2.2.2.1-(1:Int)))) fun v3=>
   match kO (v3,(v1.1,v1.2.1,v1.2.2.1,(v1.2.2.2.1.1,v1.2.2.2.1.2.1,v1.2.2.2.1.2.2.1,v1.2.2.2.1.2.2.2.1,v1.2.2.2.1.2.2.2.2.1,()),()),())with
   |none=>none
   |some v4=>
   match(decide (v4.1≥(0:Int)))with
   |true=>
    some (.inr (.inr (false,())))
   |false=>
    some (.inl (x.1,x.2.1,x.2.2.1,(IntKind.i64.wrap (x.2.2.2.1+(1:Int))),()))
  |false=>
   some (.inl (x.1,x.2.1,x.2.2.1,(IntKind.i64.wrap (x.2.2.2.1+(1:Int))),()))
|false=>
 some (.inr (.inl (x.1,())))
noncomputable def rN(x:Ty.T Vp):Option (Ty.T aE):=
match ak fV (x.1,x.1,(x.1.length:Int),(0:Int),())with
|none=>none
|some (.inl v5)=>
 some ((decide ((v5.1.length:Int)≤(120:Int))),())
|some (.inr v6)=>
 some (v6.1,())
noncomputable def Pb:ai:=⟨_,aE,.unit,rfl,rN⟩
noncomputable def zy:FuncId→Option ai:=ca [(176,DI),(177,rZ)]
theorem Je:∀f s,zy f=some s→FnOK G0 Tryz.prog f s:=aX ⟨Pa,xU,trivial⟩
def xV:bg:=⟨[0,5,6,7],qV,0,[0],Vp,[2],aE⟩
noncomputable def zz:List aM:=[xV.spec fV]
theorem HU:bJ bL E0 zy (bF Tryz.f119 zz) Tryz.f119 0 xV fV:=fun x=>by kernel_rfl
theorem Nb:FnOK G0 Tryz.prog 119 Pb:=bb av Je Tryz.func119 zz (by kernel_rfl) (by exact⟨(HU).lok,trivial⟩) fun x=>by kernel_rfl
abbrev r5:Ty:=(.pair (.box aA) (.pair (.int .i64) (.pair (.int .i64) (.pair (.box aR) (.pair (.list aR) bk)))))
abbrev zA:Ty:=agd
noncomputable def fm(x:(Ty.T r5)):Option ((Ty.T r5) ⊕ ((Ty.T zA) ⊕ (Ty.T aE))):=
match(decide (x.2.2.2.2.2.2.2.2.1<x.2.2.2.2.2.2.2.1))with
|true=>
 match(x.2.1==(x.1.2.2.2.1.length:Int))with
 |true=>
  some (.inr (.inr (false,())))
 |false=>
  ac (aI x.1.2.2.2.1 x.2.1) fun v2=>
  if x.2.2.2.1.2.1=0 then none else
  if x.2.2.2.1.2.1=0 then none else
  match kO (v2,(x.2.2.1,(IntKind.i64.wrap (Int.tdiv x.2.2.2.2.2.2.2.2.1 x.2.2.2.1.2.1)),(Int.tmod x.2.2.2.2.2.2.2.2.1 x.2.2.2.1.2.1),((0:Int),(0:Int),(0:Int),(0:Int),false,()),()),())with
  |none=>none
  |some v3=>
  match(v3.1 != (0:Int))with
  |true=>
   some (.inr (.inr (false,())))
  |false=>
   some (.inl ((x.1.1,x.1.2.1,x.1.2.2.1,x.1.2.2.2.1,()),(IntKind.i64.wrap (x.2.1+(1:Int))),x.2.2.1,(x.2.2.2.1.1,x.2.2.2.1.2.1,x.2.2.2.1.2.2.1,()),x.2.2.2.2.1,x.2.2.2.2.2.1,x.2.2.2.2.2.2.1,x.2.2.2.2.2.2.2.1,(IntKind.i64.wrap (x.2.2.2.2.2.2.2.2.1+(1:Int))),()))
|false=>
 some (.inr (.inl ((x.1.1,x.1.2.1,x.1.2.2.1,x.1.2.2.2.1,()),x.2.1,x.2.2.2.2.1,x.2.2.2.2.2.1,x.2.2.2.2.2.2.1,())))
abbrev r6:Ty:=agd
abbrev zB:Ty:=Z2
noncomputable def ef(x:(Ty.T r6)):Option ((Ty.T r6) ⊕ ((Ty.T zB) ⊕ (Ty.T aE))):=
match(decide (x.2.2.2.2.1<x.2.2.2.1))with
|true=>
 ac (aI x.2.2.1 x.2.2.2.2.1) fun v1=>
 match ak fm ((x.1.1,x.1.2.1,x.1.2.2.1,x.1.2.2.2.1,()),x.2.1,x.2.2.2.2.1,(v1.1,v1.2.1,v1.2.2.1,()),x.2.2.1,x.2.2.2.1,x.2.2.2.2.1,(IntKind.i64.wrap (v1.1*v1.2.1)),(0:Int),())with
 |none=>none
 |some (.inl v2)=>
  some (.inl ((v2.1.1,v2.1.2.1,v2.1.2.2.1,v2.1.2.2.2.1,()),v2.2.1,v2.2.2.1,v2.2.2.2.1,(IntKind.i64.wrap (v2.2.2.2.2.1+(1:Int))),()))
 |some (.inr v3)=>
  some (.inr (.inr (v3.1,())))
|false=>
 some (.inr (.inl ((x.1.1,x.1.2.1,x.1.2.2.1,x.1.2.2.2.1,()),x.2.1,())))
noncomputable def pB(x:Ty.T uJ):Option (Ty.T aE):=
match ak ef ((x.1.1,x.1.2.1,x.1.2.2.1,x.1.2.2.2.1,()),(0:Int),x.1.2.2.1,(x.1.2.2.1.length:Int),(0:Int),())with
|none=>none
|some (.inl v4)=>
 some ((v4.2.1==(v4.1.2.2.2.1.length:Int)),())
|some (.inr v5)=>
 some (v5.1,())
noncomputable def Rv:ai:=⟨_,aE,.unit,rfl,pB⟩
noncomputable def tN:FuncId→Option ai:=ca [(177,rZ)]
theorem Lf:∀f s,tN f=some s→FnOK G0 Tryz.prog f s:=aX ⟨xU,trivial⟩
def zC:bg:=⟨[1,3,8,9,10],r6,0,[1,3],zB,[2],aE⟩
def zD:bg:=⟨[1,3,4,5,8,9,10,19,20],r5,2,[1,3,8,9,10],zA,[2],aE⟩
noncomputable def tO:List aM:=[zC.spec ef,zD.spec fm]
theorem Jf:bJ bL E0 tN (bF Tryz.f120 tO) Tryz.f120 0 zC ef:=fun x=>by kernel_rfl
theorem Jg:bJ bL E0 tN (bF Tryz.f120 tO) Tryz.f120 1 zD fm:=fun x=>by kernel_rfl
theorem Pc:FnOK G0 Tryz.prog 120 Rv:=bb av Lf Tryz.func120 tO (by kernel_rfl) (by exact⟨(Jf).lok,(Jg).lok,trivial⟩) fun x=>by kernel_rfl
abbrev iL:Ty:=(.pair (.list az) (.pair (.fn (.pair az .unit) (.pair .bool .unit)) bM))
noncomputable def cL(x:(Ty.T iL)):Option ((Ty.T iL) ⊕ ((Ty.T .unit) ⊕ (Ty.T aV))):=
match(decide (x.2.2.2.1<x.2.2.1))with
|true=>
 ac (aI x.1 x.2.2.2.1) fun v1=>
 match x.2.1 (v1,())with
 |none=>none
 |some v2=>
 match v2.1 with
 |true=>
  some (.inr (.inr (x.2.2.2.1,())))
 |false=>
  some (.inl (x.1,x.2.1,x.2.2.1,(IntKind.i64.wrap (x.2.2.2.1+(1:Int))),()))
|false=>
 some (.inr (.inl (())))
noncomputable def dG(x:Ty.T agk):Option (Ty.T aV):=
match ak cL (x.1,x.2.1,(x.1.length:Int),(0:Int),())with
|none=>none
|some (.inl v3)=>
 some ((-1:Int),())
|some (.inr v4)=>
 some (v4.1,())
noncomputable def wg:ai:=⟨_,aV,.unit,rfl,dG⟩
noncomputable def m9:FuncId→Option ai:=ca []
theorem tP:∀f s,m9 f=some s→FnOK G0 Tryz.prog f s:=aX trivial
def mO:bg:=⟨[0,1,7,8],iL,0,[],.unit,[4],aV⟩
noncomputable def na:List aM:=[mO.spec cL]
theorem tc:bJ bL E0 m9 (bF Tryz.f113 na) Tryz.f113 0 mO cL:=fun x=>by kernel_rfl
theorem nc:FnOK G0 Tryz.prog 113 wg:=bb av tP Tryz.func113 na (by kernel_rfl) (by exact⟨(tc).lok,trivial⟩) fun x=>by kernel_rfl
noncomputable def cM(x:Ty.T agk):Option (Ty.T aE):=
match dG (x.1,x.2.1,())with
|none=>none
|some v1=>
some ((decide (v1.1≥(0:Int))),())
noncomputable def tQ:ai:=⟨_,aE,.unit,rfl,cM⟩
theorem td:FnOK G0 Tryz.prog 121 tQ:=au av (sg nc (ba)) Tryz.func121
noncomputable def tR(x:Ty.T (.pair az (.pair (.ptr (.int .i64)) (.pair (.ptr (.int .i64)) (.pair (.ptr (.int .i64)) .unit))))):Option (Ty.T aE):=
match(x.1.1==x.2.1)with
|true=>
 match(x.1.2.1==x.2.2.1)with
 |true=>
  some ((x.1.2.2.1==x.2.2.2.1),())
 |false=>
  some (false,())
|false=>
 some (false,())
noncomputable def Rx:ai:=⟨_,aE,.unit,rfl,tR⟩
theorem Pd:FnOK G0 Tryz.prog 114 Rx:=au av ba Tryz.func114
noncomputable def qj(x:Ty.T af0):Option (Ty.T aV):=
match dG (x.1,(fun z=>tR (z.1,x.2.1,x.2.2.1,x.2.2.2.1,())),())with
|none=>none
|some v1=>
some (v1.1,())
noncomputable def Jh:ai:=⟨_,aV,.unit,rfl,qj⟩
theorem GN:FnOK G0 Tryz.prog 67 Jh:=au av (sg nc (sg Pd (ba))) Tryz.func67
abbrev uR:Ty:=(.pair (.box aA) (.pair (.list az) bM))
noncomputable def iY(x:(Ty.T uR)):Option ((Ty.T uR) ⊕ ((Ty.T .unit) ⊕ (Ty.T aE))):=
match(decide (x.2.2.2.1<x.2.2.1))with
|true=>
 ac (aI x.2.1 x.2.2.2.1) fun v1=>
 be (
  match qj (x.1.2.2.2.1,v1.1,(0:Int),v1.2.2.1,())with
  |none=>none
  |some v2=>
  ac (aI x.1.2.2.2.1 v2.1) fun v3=>
  match(v1.2.2.2.1.2.2.2.1 != v3.2.2.2.1.2.2.2.1)with
  |true=>
   some (.inr (.inr (false,())))
  |false=>
   some (.inl ((x.1.1,x.1.2.1,x.1.2.2.1,x.1.2.2.2.1,()),x.2.1,x.2.2.1,(IntKind.i64.wrap (x.2.2.2.1+(1:Int))),())))
|false=>
 some (.inr (.inl (())))
noncomputable def tS(x:Ty.T uJ):Option (Ty.T aE):=
match ak iY ((x.1.1,x.1.2.1,x.1.2.2.1,x.1.2.2.2.1,()),x.1.2.2.2.1,(x.1.2.2.2.1.length:Int),(0:Int),())with
|none=>none
|some (.inl v4)=>
 some (true,())
|some (.inr v5)=>
 some (v5.1,())
noncomputable def VL:ai:=⟨_,aE,.unit,rfl,tS⟩
noncomputable def GO:FuncId→Option ai:=ca [(67,Jh)]
theorem Pe:∀f s,GO f=some s→FnOK G0 Tryz.prog f s:=aX ⟨GN,trivial⟩
def DJ:bg:=⟨[1,7,8,9],uR,0,[],.unit,[2],aE⟩
noncomputable def GP:List aM:=[DJ.spec iY]
theorem Nc:bJ bL E0 GO (bF Tryz.f122 GP) Tryz.f122 0 DJ iY:=fun x=>by kernel_rfl
theorem TI:FnOK G0 Tryz.prog 122 VL:=bb av Pe Tryz.func122 GP (by kernel_rfl) (by exact⟨(Nc).lok,trivial⟩) fun x=>by kernel_rfl
abbrev pC:Ty:=(.pair (.int .i64) (.pair (.list az) bM))
noncomputable def fo(x:(Ty.T pC)):Option ((Ty.T pC) ⊕ ((Ty.T aV) ⊕ (Ty.T .unit))):=
match(decide (x.2.2.2.1<x.2.2.1))with
|true=>
 ac (aI x.2.1 x.2.2.2.1) fun v1=>
 some (.inl ((IntKind.i64.wrap (x.1+v1.2.2.2.1.2.2.2.1)),x.2.1,x.2.2.1,(IntKind.i64.wrap (x.2.2.2.1+(1:Int))),()))
|false=>
 some (.inr (.inl (x.1,())))
noncomputable def qk(x:Ty.T Vp):Option (Ty.T aV):=
match ak fo ((0:Int),x.1,(x.1.length:Int),(0:Int),())with
|none=>none
|some (.inl v2)=>
 some (v2.1,())
|some (.inr v4)=>
 none
noncomputable def zE:ai:=⟨_,aV,.unit,rfl,qk⟩
noncomputable def xW:FuncId→Option ai:=ca []
theorem HV:∀f s,xW f=some s→FnOK G0 Tryz.prog f s:=aX trivial
def wh:bg:=⟨[3,6,7,8],pC,0,[3],aV,[],.unit⟩
noncomputable def xX:List aM:=[wh.spec fo]
theorem FI:bJ bL E0 xW (bF Tryz.f178 xX) Tryz.f178 0 wh fo:=fun x=>by kernel_rfl
theorem Lg:FnOK G0 Tryz.prog 178 zE:=bb av HV Tryz.func178 xX (by kernel_rfl) (by exact⟨(FI).lok,trivial⟩) fun x=>by kernel_rfl
abbrev tT:Ty:=(.pair (.int .i64) (.pair (.own 107 az) (.pair (.list az) bM)))
noncomputable def ik(x:(Ty.T tT)):Option ((Ty.T tT) ⊕ ((Ty.T Z1) ⊕ (Ty.T .unit))):=
match(decide (x.2.2.2.2.1<x.2.2.2.1))with
|true=>
 ac (aI x.2.2.1 x.2.2.2.2.1) fun v1=>
 match(v1.1==x.1)with
 |true=>
  bd (x.2.1.length+ [(v1.1,v1.2.1,v1.2.2.1,(v1.2.2.2.1.1,v1.2.2.2.1.2.1,v1.2.2.2.1.2.2.1,v1.2.2.2.1.2.2.2.1,v1.2.2.2.1.2.2.2.2.1,()),())].length) (
   some (.inl (x.1,(x.2.1++ [(v1.1,v1.2.1,v1.2.2.1,(v1.2.2.2.1.1,v1.2.2.2.1.2.1,v1.2.2.2.1.2.2.1,v1.2.2.2.1.2.2.2.1,v1.2.2.2.1.2.2.2.2.1,()),())]),x.2.2.1,x.2.2.2.1,(IntKind.i64.wrap (x.2.2.2.2.1+(1:Int))),())))
 |false=>
  some (.inl (x.1,x.2.1,x.2.2.1,x.2.2.2.1,(IntKind.i64.wrap (x.2.2.2.2.1+(1:Int))),()))
|false=>
 some (.inr (.inl (x.2.1,())))
noncomputable def rm(x:Ty.T afT):Option (Ty.T Z1):=
match ak ik (x.2.1,[],x.1.2.2.2.1,(x.1.2.2.2.1.length:Int),(0:Int),())with
|none=>none
|some (.inl v2)=>
 some (v2.1,())
|some (.inr v4)=>
 none
noncomputable def GQ:ai:=⟨_,Z1,.unit,rfl,rm⟩
noncomputable def DK:FuncId→Option ai:=ca []
theorem Nd:∀f s,DK f=some s→FnOK G0 Tryz.prog f s:=aX trivial
def Bb:bg:=⟨[1,5,10,11,12],tT,0,[5],Z1,[],.unit⟩
noncomputable def DL:List aM:=[Bb.spec ik]
theorem Lh:bJ bL E0 DK (bF Tryz.f179 DL) Tryz.f179 0 Bb ik:=fun x=>by kernel_rfl
theorem Ry:FnOK G0 Tryz.prog 179 GQ:=bb av Nd Tryz.func179 DL (by kernel_rfl) (by exact⟨(Lh).lok,trivial⟩) fun x=>by kernel_rfl
noncomputable def kj(x:(Ty.T xu)):Option ((Ty.T xu) ⊕ ((Ty.T .unit) ⊕ (Ty.T aE))):=
match(decide (x.2.2.1<x.2.1))with
|true=>
 match rm ((x.1.1,x.1.2.1,x.1.2.2.1,x.1.2.2.2.1,()),x.2.2.1,())with
 |none=>none
 |some v1=>
 match qk (v1.1,())with
 |none=>none
 |some v2=>
 match(decide (v2.1>(32000:Int)))with
 |true=>
  some (.inr (.inr (false,())))
 |false=>
  some (.inl ((x.1.1,x.1.2.1,x.1.2.2.1,x.1.2.2.2.1,()),x.2.1,(IntKind.i64.wrap (x.2.2.1+(1:Int))),()))
|false=>
 some (.inr (.inl (())))
noncomputable def wi(x:Ty.T uJ):Option (Ty.T aE):=
match ak kj ((x.1.1,x.1.2.1,x.1.2.2.1,x.1.2.2.2.1,()),(x.1.2.2.1.length:Int),(0:Int),())with
|none=>none
|some (.inl v3)=>
 some (true,())
|some (.inr v4)=>
 some (v4.1,())
noncomputable def XG:ai:=⟨_,aE,.unit,rfl,wi⟩
noncomputable def Ji:FuncId→Option ai:=ca [(178,zE),(179,GQ)]
theorem Rz:∀f s,Ji f=some s→FnOK G0 Tryz.prog f s:=aX ⟨Lg,Ry,trivial⟩
def GR:bg:=⟨[1,6,7],xu,0,[],.unit,[2],aE⟩
noncomputable def Jj:List aM:=[GR.spec kj]
theorem Pf:bJ bL E0 Ji (bF Tryz.f123 Jj) Tryz.f123 0 GR kj:=fun x=>by kernel_rfl
theorem VM:FnOK G0 Tryz.prog 123 XG:=bb av Rz Tryz.func123 Jj (by kernel_rfl) (by exact⟨(Pf).lok,trivial⟩) fun x=>by kernel_rfl
abbrev wV:Ty:=(.pair (.box aA) (.pair (.int .i64) (.pair (.int .i64) (.pair (.int .i64) (.pair (.list aR) (.pair (.int .i64) (.pair (.int .i64) (.pair (.int .i64) (.pair (.int .i64) (.pair (.list az) bM))))))))))
abbrev GS:Ty:=(.pair (.box aA) (.pair (.int .i64) (.pair (.int .i64) (.pair (.list aR) bk))))
noncomputable def gD(x:(Ty.T wV)):Option ((Ty.T wV) ⊕ ((Ty.T GS) ⊕ (Ty.T .unit))):=
match(decide (x.2.2.2.2.2.2.2.2.2.2.2.1<x.2.2.2.2.2.2.2.2.2.2.1))with
|true=>
 ac (aI x.2.2.2.2.2.2.2.2.2.1 x.2.2.2.2.2.2.2.2.2.2.2.1) fun v2=>
 match(v2.1==x.2.1)with
 |true=>
  match(v2.2.1==x.2.2.1)with
  |true=>
   if v2.2.2.2.1.1<0 then none else
   some (.inl ((x.1.1,x.1.2.1,x.1.2.2.1,x.1.2.2.2.1,()),x.2.1,x.2.2.1,(bits BinOp.or .i64 x.2.2.2.1 (IntKind.i64.wrap ((1:Int)*2^min v2.2.2.2.1.1.toNat IntKind.i64.bits))),x.2.2.2.2.1,x.2.2.2.2.2.1,x.2.2.2.2.2.2.1,x.2.2.2.2.2.2.2.1,x.2.2.2.2.2.2.2.2.1,x.2.2.2.2.2.2.2.2.2.1,x.2.2.2.2.2.2.2.2.2.2.1,(IntKind.i64.wrap (x.2.2.2.2.2.2.2.2.2.2.2.1+(1:Int))),()))
  |false=>
   some (.inl ((x.1.1,x.1.2.1,x.1.2.2.1,x.1.2.2.2.1,()),x.2.1,x.2.2.1,x.2.2.2.1,x.2.2.2.2.1,x.2.2.2.2.2.1,x.2.2.2.2.2.2.1,x.2.2.2.2.2.2.2.1,x.2.2.2.2.2.2.2.2.1,x.2.2.2.2.2.2.2.2.2.1,x.2.2.2.2.2.2.2.2.2.2.1,(IntKind.i64.wrap (x.2.2.2.2.2.2.2.2.2.2.2.1+(1:Int))),()))
 |false=>
  some (.inl ((x.1.1,x.1.2.1,x.1.2.2.1,x.1.2.2.2.1,()),x.2.1,x.2.2.1,x.2.2.2.1,x.2.2.2.2.1,x.2.2.2.2.2.1,x.2.2.2.2.2.2.1,x.2.2.2.2.2.2.2.1,x.2.2.2.2.2.2.2.2.1,x.2.2.2.2.2.2.2.2.2.1,x.2.2.2.2.2.2.2.2.2.2.1,(IntKind.i64.wrap (x.2.2.2.2.2.2.2.2.2.2.2.1+(1:Int))),()))
|false=>
 some (.inr (.inl ((x.1.1,x.1.2.1,x.1.2.2.1,x.1.2.2.2.1,()),x.2.1,x.2.2.2.1,x.2.2.2.2.1,x.2.2.2.2.2.1,x.2.2.2.2.2.2.1,x.2.2.2.2.2.2.2.1,x.2.2.2.2.2.2.2.2.1,())))
abbrev wW:Ty:=(.pair (.box aA) (.pair (.int .i64) (.pair (.list aR) bk)))
abbrev GT:Ty:=af6
noncomputable def iG(x:(Ty.T wW)):Option ((Ty.T wW) ⊕ ((Ty.T GT) ⊕ (Ty.T aE))):=
match(decide (x.2.2.2.2.2.2.1<x.2.2.2.2.2.1))with
|true=>
 match ak gD ((x.1.1,x.1.2.1,x.1.2.2.1,x.1.2.2.2.1,()),x.2.1,x.2.2.2.2.2.2.1,(0:Int),x.2.2.1,x.2.2.2.1,x.2.2.2.2.1,x.2.2.2.2.2.1,x.2.2.2.2.2.2.1,x.1.2.2.2.1,(x.1.2.2.2.1.length:Int),(0:Int),())with
 |none=>none
 |some (.inl v2)=>
  match kN (v2.1.2.1,())with
  |none=>none
  |some v4=>
  match((bits BinOp.andNot .i64 v4.1 v2.2.2.1) != (0:Int))with
  |true=>
   some (.inr (.inr (false,())))
  |false=>
   some (.inl ((v2.1.1,v2.1.2.1,v2.1.2.2.1,v2.1.2.2.2.1,()),v2.2.1,v2.2.2.2.1,v2.2.2.2.2.1,v2.2.2.2.2.2.1,v2.2.2.2.2.2.2.1,(IntKind.i64.wrap (v2.2.2.2.2.2.2.2.1+(1:Int))),()))
 |some (.inr v5)=>
  none
|false=>
 some (.inr (.inl ((x.1.1,x.1.2.1,x.1.2.2.1,x.1.2.2.2.1,()),x.2.2.1,x.2.2.2.1,x.2.2.2.2.1,())))
abbrev wX:Ty:=af6
noncomputable def kk(x:(Ty.T wX)):Option ((Ty.T wX) ⊕ ((Ty.T .unit) ⊕ (Ty.T aE))):=
match(decide (x.2.2.2.1<x.2.2.1))with
|true=>
 ac (aI x.2.1 x.2.2.2.1) fun v1=>
 match ak iG ((x.1.1,x.1.2.1,x.1.2.2.1,x.1.2.2.2.1,()),x.2.2.2.1,x.2.1,x.2.2.1,x.2.2.2.1,v1.1,(0:Int),())with
 |none=>none
 |some (.inl v2)=>
  some (.inl ((v2.1.1,v2.1.2.1,v2.1.2.2.1,v2.1.2.2.2.1,()),v2.2.1,v2.2.2.1,(IntKind.i64.wrap (v2.2.2.2.1+(1:Int))),()))
 |some (.inr v3)=>
  some (.inr (.inr (v3.1,())))
|false=>
 some (.inr (.inl (())))
noncomputable def wj(x:Ty.T uJ):Option (Ty.T aE):=
match ak kk ((x.1.1,x.1.2.1,x.1.2.2.1,x.1.2.2.2.1,()),x.1.2.2.1,(x.1.2.2.1.length:Int),(0:Int),())with
|none=>none
|some (.inl v4)=>
 some (true,())
|some (.inr v5)=>
 some (v5.1,())
noncomputable def XH:ai:=⟨_,aE,.unit,rfl,wj⟩
noncomputable def tU:FuncId→Option ai:=ca [(70,zm)]
theorem RA:∀f s,tU f=some s→FnOK G0 Tryz.prog f s:=aX ⟨qS,trivial⟩
def GU:bg:=⟨[1,10,11,12],wX,0,[],.unit,[2],aE⟩
def GV:bg:=⟨[1,3,10,11,12,18,19],wW,2,[1,10,11,12],GT,[2],aE⟩
def GX:bg:=⟨[1,3,5,6,10,11,12,18,19,23,24,25],wV,4,[1,3,6,10,11,12,18,19],GS,[],.unit⟩
noncomputable def tV:List aM:=[GU.spec kk,GV.spec iG,GX.spec gD]
theorem Pg:bJ bL E0 tU (bF Tryz.f124 tV) Tryz.f124 0 GU kk:=fun x=>by kernel_rfl
theorem Ph:bJ bL E0 tU (bF Tryz.f124 tV) Tryz.f124 1 GV iG:=fun x=>by kernel_rfl
theorem Pi:bJ bL E0 tU (bF Tryz.f124 tV) Tryz.f124 2 GX gD:=fun x=>by kernel_rfl
theorem VN:FnOK G0 Tryz.prog 124 XH:=bb av RA Tryz.func124 tV (by kernel_rfl) (by exact⟨(Pg).lok,(Ph).lok,(Pi).lok,trivial⟩) fun x=>by kernel_rfl
noncomputable def pD(x:Ty.T uJ):Option (Ty.T aV):=
match bU (x.1.1,(1:Int),(16777215:Int),())with
|none=>none
|some v1=>
match(!v1.1)with
|true=>
 some ((1:Int),())
|false=>
 match rL (x.1.2.1,())with
 |none=>none
 |some v2=>
 match(!v2.1)with
 |true=>
  some ((2:Int),())
 |false=>
  match rM (x.1.2.2.1,())with
  |none=>none
  |some v3=>
  match(!v3.1)with
  |true=>
   some ((3:Int),())
  |false=>
   match rN (x.1.2.2.2.1,())with
   |none=>none
   |some v4=>
   match(!v4.1)with
   |true=>
    some ((4:Int),())
   |false=>
    match pB ((x.1.1,x.1.2.1,x.1.2.2.1,x.1.2.2.2.1,()),())with
    |none=>none
    |some v5=>
    match(!v5.1)with
    |true=>
     some ((5:Int),())
    |false=>
     match cM (x.1.2.2.2.1,(fun z=>qh (z.1,(x.1.1,x.1.2.1,x.1.2.2.1,x.1.2.2.2.1,()),())),())with
     |none=>none
     |some v6=>
     match v6.1 with
     |true=>
      some ((6:Int),())
     |false=>
      match tS ((x.1.1,x.1.2.1,x.1.2.2.1,x.1.2.2.2.1,()),())with
      |none=>none
      |some v7=>
      match(!v7.1)with
      |true=>
       some ((7:Int),())
      |false=>
       match wi ((x.1.1,x.1.2.1,x.1.2.2.1,x.1.2.2.2.1,()),())with
       |none=>none
       |some v8=>
       match(!v8.1)with
       |true=>
        some ((8:Int),())
       |false=>
        match wj ((x.1.1,x.1.2.1,x.1.2.2.1,x.1.2.2.2.1,()),())with
        |none=>none
        |some v9=>
        match(!v9.1)with
        |true=>
         some ((9:Int),())
        |false=>
         match cM (x.1.2.2.2.1,qi,())with
         |none=>none
         |some v10=>
         match v10.1 with
         |true=>
          some ((10:Int),())
         |false=>
          some ((0:Int),())
noncomputable def RB:ai:=⟨_,aV,.unit,rfl,pD⟩
theorem Pj:FnOK G0 Tryz.prog 68 RB:=au av (sg dl (sg Ld (sg Le (sg M6 (sg M8 (sg Nb (sg Pc (sg td (sg TI (sg VM (sg VN (ba)))))))))))) Tryz.func68
noncomputable def la(x:Ty.T uJ):Option (Ty.T aE):=
match pD ((x.1.1,x.1.2.1,x.1.2.2.1,x.1.2.2.2.1,()),())with
|none=>none
|some v1=>
some ((v1.1==(0:Int)),())
noncomputable def aad:ai:=⟨_,aE,.unit,rfl,la⟩
theorem LY:FnOK G0 Tryz.prog 32 aad:=au av (sg Pj (ba)) Tryz.func32
noncomputable def nU(x:Ty.T aV):Option (Ty.T aE):=
match bU (x.1,(0:Int),(4294967295:Int),())with
|none=>none
|some v1=>
some (v1.1,())
noncomputable def VO:ai:=⟨_,aE,.unit,rfl,nU⟩
theorem wY:FnOK G0 Tryz.prog 34 VO:=au av (sg dl (ba)) Tryz.func34
noncomputable def gU(x:Ty.T xt):Option (Ty.T aE):=
match bU (x.1.1,(0:Int),(65535:Int),())with
|none=>none
|some v1=>
match v1.1 with
|true=>
 match bU (x.1.2.1,(0:Int),(15:Int),())with
 |none=>none
 |some v2=>
 match v2.1 with
 |true=>
  match bU (x.1.2.2.1,(0:Int),(15:Int),())with
  |none=>none
  |some v3=>
  match v3.1 with
  |true=>
   match bU (x.1.2.2.2.1,(0:Int),(255:Int),())with
   |none=>none
   |some v4=>
   match v4.1 with
   |true=>
    match nU (x.1.2.2.2.2.1,())with
    |none=>none
    |some v5=>
    some (v5.1,())
   |false=>
    some (false,())
  |false=>
   some (false,())
 |false=>
  some (false,())
|false=>
 some (false,())
noncomputable def XI:ai:=⟨_,aE,.unit,rfl,gU⟩
theorem tW:FnOK G0 Tryz.prog 69 XI:=au av (sg dl (sg wY (ba))) Tryz.func69
noncomputable def lX(x:Ty.T wM):Option (Ty.T aE):=
match gU ((x.2.1.1,x.2.1.2.1,x.2.1.2.2.1,x.2.1.2.2.2.1,x.2.1.2.2.2.2.1,()),())with
|none=>none
|some v1=>
match(!v1.1)with
|true=>
 some (false,())
|false=>
 match(decide (x.2.1.2.1≥(x.1.2.2.1.length:Int)))with
 |true=>
  some (false,())
 |false=>
  ac (aI x.1.2.2.1 x.2.1.2.1) fun v2=>
  match(decide (x.2.1.2.2.1<v2.1))with
  |true=>
   match(decide (x.2.1.2.2.2.1<v2.2.1))with
   |true=>
    match kN (x.1.2.1,())with
    |none=>none
    |some v3=>
    some (((bits BinOp.andNot .i64 x.2.1.2.2.2.2.1 v3.1)==(0:Int)),())
   |false=>
    some (false,())
  |false=>
   some (false,())
noncomputable def XJ:ai:=⟨_,aE,.unit,rfl,lX⟩
theorem Jk:FnOK G0 Tryz.prog 33 XJ:=au av (sg tW (sg qS (ba))) Tryz.func33
noncomputable def ej(x:Ty.T wM):Option (Ty.T aV):=
match la ((x.1.1,x.1.2.1,x.1.2.2.1,x.1.2.2.2.1,()),())with
|none=>none
|some v1=>
match(!v1.1)with
|true=>
 some ((1:Int),())
|false=>
 match lX ((x.1.1,x.1.2.1,x.1.2.2.1,x.1.2.2.2.1,()),(x.2.1.1,x.2.1.2.1,x.2.1.2.2.1,x.2.1.2.2.2.1,x.2.1.2.2.2.2.1,()),())with
 |none=>none
 |some v2=>
 match(!v2.1)with
 |true=>
  some ((2:Int),())
 |false=>
  some ((0:Int),())
noncomputable def Jl:ai:=⟨_,aV,.unit,rfl,ej⟩
theorem lN:FnOK G0 Tryz.prog 30 Jl:=au av (sg LY (sg Jk (ba))) Tryz.func30
abbrev kB:Ty:=(.pair (.list bI) (.pair (.fn (.pair bI .unit) (.pair .bool .unit)) bM))
noncomputable def di(x:(Ty.T kB)):Option ((Ty.T kB) ⊕ ((Ty.T .unit) ⊕ (Ty.T aV))):=
match(decide (x.2.2.2.1<x.2.2.1))with
|true=>
 ac (aI x.1 x.2.2.2.1) fun v1=>
 match x.2.1 (v1,())with
 |none=>none
 |some v2=>
 match v2.1 with
 |true=>
  some (.inr (.inr (x.2.2.2.1,())))
 |false=>
  some (.inl (x.1,x.2.1,x.2.2.1,(IntKind.i64.wrap (x.2.2.2.1+(1:Int))),()))
|false=>
 some (.inr (.inl (())))
noncomputable def gV(x:Ty.T agf):Option (Ty.T aV):=
match ak di (x.1,x.2.1,(x.1.length:Int),(0:Int),())with
|none=>none
|some (.inl v3)=>
 some ((-1:Int),())
|some (.inr v4)=>
 some (v4.1,())
noncomputable def AA:ai:=⟨_,aV,.unit,rfl,gV⟩
noncomputable def pE:FuncId→Option ai:=ca []
theorem wZ:∀f s,pE f=some s→FnOK G0 Tryz.prog f s:=aX trivial
def oZ:bg:=⟨[0,1,7,8],kB,0,[],.unit,[4],aV⟩
noncomputable def pF:List aM:=[oZ.spec di]
theorem wk:bJ bL E0 pE (bF Tryz.f87 pF) Tryz.f87 0 oZ di:=fun x=>by kernel_rfl
theorem zF:FnOK G0 Tryz.prog 87 AA:=bb av wZ Tryz.func87 pF (by kernel_rfl) (by exact⟨(wk).lok,trivial⟩) fun x=>by kernel_rfl
noncomputable def il(x:Ty.T agf):Option (Ty.T aE):=
match gV (x.1,x.2.1,())with
|none=>none
|some v1=>
some ((decide (v1.1≥(0:Int))),())
noncomputable def w6:ai:=⟨_,aE,.unit,rfl,il⟩
theorem wl:FnOK G0 Tryz.prog 48 w6:=au av (sg zF (ba)) Tryz.func48
abbrev kl:Ty:=(.pair (.list bk) (.pair (.fn (.pair bk .unit) (.pair .bool .unit)) bM))
noncomputable def cW(x:(Ty.T kl)):Option ((Ty.T kl) ⊕ ((Ty.T .unit) ⊕ (Ty.T aV))):=
match(decide (x.2.2.2.1<x.2.2.1))with
|true=>
 ac (aI x.1 x.2.2.2.1) fun v1=>
 match x.2.1 (v1,())with
 |none=>none
 |some v2=>
 match v2.1 with
 |true=>
  some (.inr (.inr (x.2.2.2.1,())))
 |false=>
  some (.inl (x.1,x.2.1,x.2.2.1,(IntKind.i64.wrap (x.2.2.2.1+(1:Int))),()))
|false=>
 some (.inr (.inl (())))
noncomputable def ge(x:Ty.T agh):Option (Ty.T aV):=
match ak cW (x.1,x.2.1,(x.1.length:Int),(0:Int),())with
|none=>none
|some (.inl v3)=>
 some ((-1:Int),())
|some (.inr v4)=>
 some (v4.1,())
noncomputable def zG:ai:=⟨_,aV,.unit,rfl,ge⟩
noncomputable def o5:FuncId→Option ai:=ca []
theorem wm:∀f s,o5 f=some s→FnOK G0 Tryz.prog f s:=aX trivial
def ot:bg:=⟨[0,1,7,8],kl,0,[],.unit,[4],aV⟩
noncomputable def o6:List aM:=[ot.spec cW]
theorem uS:bJ bL E0 o5 (bF Tryz.f109 o6) Tryz.f109 0 ot cW:=fun x=>by kernel_rfl
theorem yp:FnOK G0 Tryz.prog 109 zG:=bb av wm Tryz.func109 o6 (by kernel_rfl) (by exact⟨(uS).lok,trivial⟩) fun x=>by kernel_rfl
noncomputable def e7(x:Ty.T agh):Option (Ty.T aE):=
match ge (x.1,x.2.1,())with
|none=>none
|some v1=>
some ((decide (v1.1≥(0:Int))),())
noncomputable def wn:ai:=⟨_,aE,.unit,rfl,e7⟩
theorem uT:FnOK G0 Tryz.prog 63 wn:=au av (sg yp (ba)) Tryz.func63
noncomputable def vz(x:Ty.T aV):Option (Ty.T aE):=
match(x.1 != (1:Int))with
|true=>
 some ((x.1 != (5:Int)),())
|false=>
 some (false,())
noncomputable def TJ:ai:=⟨_,aE,.unit,rfl,vz⟩
theorem RC:FnOK G0 Tryz.prog 110 TJ:=au av ba Tryz.func110
noncomputable def tX(x:Ty.T aV):Option (Ty.T aE):=
match(x.1==(4:Int))with
|true=>
 some (true,())
|false=>
 some ((x.1==(6:Int)),())
noncomputable def VP:ai:=⟨_,aE,.unit,rfl,tX⟩
theorem TK:FnOK G0 Tryz.prog 111 VP:=au av ba Tryz.func111
noncomputable def sR(x:Ty.T Vn):Option (Ty.T aE):=
match bU (x.1.1,(1:Int),(6:Int),())with
|none=>none
|some v1=>
match(!v1.1)with
|true=>
 some (false,())
|false=>
 match bU (x.1.2.1,(0:Int),(8192:Int),())with
 |none=>none
 |some v2=>
 match(!v2.1)with
 |true=>
  some (false,())
 |false=>
  match vz (x.1.1,())with
  |none=>none
  |some v3=>
  match v3.1 with
  |true=>
   match bU (x.1.2.2.1,(1:Int),(8192:Int),())with
   |none=>none
   |some v4=>
   match tX (x.1.1,())with
   |none=>none
   |some v5=>
   match v5.1 with
   |true=>
    match bU (x.1.2.2.2.1,(0:Int),(1:Int),())with
    |none=>none
    |some v6=>
    match v4.1 with
    |true=>
     some (v6.1,())
    |false=>
     some (false,())
   |false=>
    match v4.1 with
    |true=>
     some ((x.1.2.2.2.1==(0:Int)),())
    |false=>
     some (false,())
  |false=>
   match tX (x.1.1,())with
   |none=>none
   |some v7=>
   match v7.1 with
   |true=>
    match bU (x.1.2.2.2.1,(0:Int),(1:Int),())with
    |none=>none
    |some v8=>
    match(x.1.2.2.1==(0:Int))with
    |true=>
     some (v8.1,())
    |false=>
     some (false,())
   |false=>
    match(x.1.2.2.1==(0:Int))with
    |true=>
     some ((x.1.2.2.2.1==(0:Int)),())
    |false=>
     some (false,())
noncomputable def XK:ai:=⟨_,aE,.unit,rfl,sR⟩
theorem VQ:FnOK G0 Tryz.prog 65 XK:=au av (sg dl (sg RC (sg TK (ba)))) Tryz.func65
noncomputable def pG(x:Ty.T Vn):Option (Ty.T aE):=
match sR ((x.1.1,x.1.2.1,x.1.2.2.1,x.1.2.2.2.1,()),())with
|none=>none
|some v1=>
some ((!v1.1),())
noncomputable def RD:ai:=⟨_,aE,.unit,rfl,pG⟩
theorem Pk:FnOK G0 Tryz.prog 64 RD:=au av (sg VQ (ba)) Tryz.func64
noncomputable def tY(x:Ty.T ZX):Option (Ty.T aE):=
match(decide ((x.1.length:Int)≤(30:Int)))with
|true=>
 match e7 (x.1,pG,())with
 |none=>none
 |some v1=>
 some ((!v1.1),())
|false=>
 some (false,())
noncomputable def VS:ai:=⟨_,aE,.unit,rfl,tY⟩
theorem TL:FnOK G0 Tryz.prog 27 VS:=au av (sg uT (sg Pk (ba))) Tryz.func27
noncomputable def r7(x:Ty.T ZV):Option (Ty.T aE):=
match bU (x.1.1,(0:Int),(255:Int),())with
|none=>none
|some v1=>
match v1.1 with
|true=>
 match bU (x.1.2.1,(0:Int),(7:Int),())with
 |none=>none
 |some v2=>
 match v2.1 with
 |true=>
  match tY (x.1.2.2.1,())with
  |none=>none
  |some v3=>
  match v3.1 with
  |true=>
   match tY (x.1.2.2.2.1,())with
   |none=>none
   |some v4=>
   some (v4.1,())
  |false=>
   some (false,())
 |false=>
  some (false,())
|false=>
 some (false,())
noncomputable def Pl:ai:=⟨_,aE,.unit,rfl,r7⟩
theorem LZ:FnOK G0 Tryz.prog 9 Pl:=au av (sg dl (sg TL (ba))) Tryz.func9
noncomputable def rO(x:Ty.T ZV):Option (Ty.T aE):=
match r7 ((x.1.1,x.1.2.1,x.1.2.2.1,x.1.2.2.2.1,()),())with
|none=>none
|some v1=>
some ((!v1.1),())
noncomputable def Pm:ai:=⟨_,aE,.unit,rfl,rO⟩
theorem Nf:FnOK G0 Tryz.prog 49 Pm:=au av (sg LZ (ba)) Tryz.func49
noncomputable def vA(x:Ty.T af8):Option (Ty.T aV):=
match ej (x.1,x.2.1,())with
|none=>none
|some v1=>
match(v1.1 != (0:Int))with
|true=>
 some (v1.1,())
|false=>
 match(decide ((x.2.2.1.length:Int)>(40:Int)))with
 |true=>
  some ((3:Int),())
 |false=>
  match il (x.2.2.1,rO,())with
  |none=>none
  |some v2=>
  match v2.1 with
  |true=>
   some ((5:Int),())
  |false=>
   some ((0:Int),())
noncomputable def TM:ai:=⟨_,aV,.unit,rfl,vA⟩
theorem RE:FnOK G0 Tryz.prog 22 TM:=au av (sg lN (sg wl (sg Nf (ba)))) Tryz.func22
noncomputable def aN(x:Ty.T wM):Option (Ty.T IH):=
match qj (x.1.2.2.2.1,x.2.1.2.1,x.2.1.2.2.1,x.2.1.2.2.2.1,())with
|none=>none
|some v1=>
ac (aI x.1.2.2.2.1 v1.1) fun v2=>
some ((v2.2.2.2.1.1,v2.2.2.2.1.2.1,v2.2.2.2.1.2.2.1,v2.2.2.2.1.2.2.2.1,v2.2.2.2.1.2.2.2.2.1,()),())
noncomputable def xY:ai:=⟨_,IH,.unit,rfl,aN⟩
theorem dZ:FnOK G0 Tryz.prog 31 xY:=au av (sg GN (ba)) Tryz.func31
end Go.Proofs.YtnambbcafhnhpaaGreatDoor
