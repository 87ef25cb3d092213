import Derived.Test.YtkgcbbkodalfmaaGreatDoorSho
import Derived.Test.YtkgcbbkodalfmaaGreatDoorDelW
import Derived.Test.YtkgcbbkodalfmaaGreatDoorInsW
import Derived.Test.YtkgcbbkodalfmaaGreatDoorLibS
import Derived.Test.YtkgcbbkodalfmaaGreatDoorRepW
import Derived.Test.YtkgcbbkodalfmaaGreatDoorSh
import Derived.Test.YtkgcbbkodalfmaaGreatDoorTdW
import Derived.Test.YtkgcbbkodalfmaaGreatDoorTrW
import Derived.Test.YtkgcbbkodalfmaaGreatDoorProg
import Derived.KernelRfl
namespace Go.Proofs.YtkgcbbkodalfmaaGreatDoor
open Go.RowKit
set_option linter.unusedVariables false
abbrev ac:Ty:=(.pair (.int .i64) (.pair (.list (.pair (.int .i64) (.pair .str (.pair (.int .i64) (.pair .bool .unit))))) (.pair (.list (.pair (.int .i64) (.pair (.int .i64) (.pair (.list (.int .i64)) .unit)))) (.pair (.list (.pair (.int .i64) (.pair (.int .i64) (.pair (.int .i64) (.pair (.pair (.int .i64) (.pair (.int .i64) (.pair (.int .i64) (.pair (.int .i64) (.pair .bool .unit))))) .unit))))) .unit))))
abbrev ab:Ty:=(.pair (.int .i64) (.pair (.int .i64) (.pair (.int .i64) (.pair (.int .i64) (.pair (.int .i64) .unit)))))
abbrev aU:Ty:=(.pair (.int .i64) (.pair (.int .i64) (.pair ab (.pair (.list (.int .i64)) .unit))))
abbrev aB:Ty:=(.pair (.int .i64) (.pair aU .unit))
abbrev ax:Ty:=(.pair (.int .i64) (.pair (.int .i64) (.pair (.int .i64) (.pair (.int .i64) .unit))))
abbrev au:Ty:=(.pair (.int .i64) (.pair (.int .i64) (.pair (.list ax) (.pair (.list ax) .unit))))
abbrev bf:Ty:=(.pair (.int .i64) (.pair (.int .i64) (.pair (.int .i64) (.pair (.int .i64) (.pair .bool .unit)))))
abbrev aY:Ty:=(.pair ab (.pair (.int .i64) (.pair (.int .i64) .unit)))
abbrev aam:Ty:=(.pair (.list (.int .u8)) (.pair (.int .i64) (.pair (.int .u64) .unit)))
abbrev ah:Ty:=(.pair (.list (.int .u8)) (.pair (.int .i64) (.pair (.int .i64) .unit)))
abbrev ak:Ty:=(.pair (.int .i64) (.pair .str (.pair (.int .i64) (.pair .bool .unit))))
abbrev al:Ty:=(.pair (.int .i64) (.pair (.int .i64) (.pair (.list (.int .i64)) .unit)))
abbrev aj:Ty:=(.pair (.int .i64) (.pair (.int .i64) (.pair (.int .i64) (.pair bf .unit))))
abbrev an:Ty:=(.pair (.int .i64) (.pair (.int .i64) .unit))
abbrev mK:Ty:=(.pair (.int .i64) (.pair (.list (.int .i64)) (.pair (.int .i64) .unit)))
abbrev dG:Ty:=(.pair (.list (.int .i64)) (.pair (.int .i64) (.pair (.list (.int .i64)) .unit)))
def bd:cf:=[(2,(.int .i64)),(3,(.int .i64)),(4,.bool),(5,(.int .u8)),(9,.str),(22,(.list (.int .u8))),(24,(.list ak)),(25,(.list al)),(26,(.list aj)),(28,ac),(30,ab),(31,(.list (.int .i64))),(33,aU),(34,(.list ax)),(38,aB),(43,ax),(49,au),(56,bf),(65,(.int .u64)),(67,(.list au)),(70,(.list aB)),(73,(.list aY)),(78,aY),(119,aam),(120,(.int .u64)),(122,(.list ab)),(133,ah),(136,ak),(159,al),(167,aj),(184,(.list (.list (.int .i64)))),(215,an),(221,(.list .str)),(242,mK),(255,dG)]
def E0:bB:=[(22,5),(24,136),(25,159),(26,167),(31,2),(34,43),(67,49),(70,38),(73,78),(122,30),(184,31),(221,9)]
theorem ao:ca Tryz.prog bd E0=true:=by kernel_rfl
def V0:cf:=[(2,(.int .i64)),(2,(.int .i64)),(4,.bool),(24,(.list ak)),(25,(.list al)),(26,(.list aj)),(28,ac),(31,(.list (.int .i64))),(56,bf),(136,ak),(159,al),(167,aj)]
def E1:bB:=[(24,136),(25,159),(26,167),(31,2)]
theorem aaJ:ca Tryz.prog V0 E1=true:=by kernel_rfl
def Zv:cf:=[(2,(.int .i64)),(25,(.list (.pair (.int .i64) (.pair (.int .i64) (.pair (.own 2 (.int .i64)) .unit))))),(31,(.list (.int .i64))),(159,al)]
def E2:bB:=[(25,159),(31,2)]
theorem Zw:ca Tryz.prog Zv E2=true:=by kernel_rfl
abbrev G0:Gl:=Gl.none
noncomputable def Jm(x:Ty.T (.pair (.list (.int .u8)) .unit)):Option (Ty.T (.pair .bool .unit)):=
some ((decide ((x.1.length:Int)>(4096:Int))),())
noncomputable def LI:Spec:=⟨_,(.pair .bool .unit),.unit,rfl,Jm⟩
theorem P1:FnOK G0 Tryz.prog 8 LI:=ap ao aJ Tryz.func8
noncomputable def ia(x:(Ty.T (.pair (.list (.int .u8)) (.pair (.box ah) (.pair (.int .i64) .unit))))):Option ((Ty.T (.pair (.list (.int .u8)) (.pair (.box ah) (.pair (.int .i64) .unit)))) ⊕ ((Ty.T (.pair (.box ah) .unit)) ⊕ (Ty.T .unit))):=
match(decide (x.2.2.1<(x.1.length:Int)))with
|true=>
 match(decide (x.2.2.1<(64:Int)))with
 |true=>
  aa (aq x.1 x.2.2.1) fun v1=>
  some (.inl (x.1,(x.2.1.1,x.2.1.2.1,(Int.tmod (IntKind.i64.wrap ((IntKind.i64.wrap (x.2.1.2.2.1*(53:Int)))+(IntKind.i64.wrap v1))) (2147483647:Int)),()),(IntKind.i64.wrap (x.2.2.1+(1:Int))),()))
 |false=>
  some (.inr (.inl ((x.2.1.1,x.2.1.2.1,x.2.1.2.2.1,()),())))
|false=>
 some (.inr (.inl ((x.2.1.1,x.2.1.2.1,x.2.1.2.2.1,()),())))
noncomputable def kA(x:Ty.T (.pair (.list (.int .u8)) .unit)):Option (Ty.T (.pair (.box ah) .unit)):=
match ag ia (x.1,(x.1,(0:Int),(40009:Int),()),(0:Int),())with
|none=>none
|some (.inl v2)=>
 some ((v2.1.1,v2.1.2.1,v2.1.2.2.1,()),())
|some (.inr v4)=>
 none
noncomputable def Ge:Spec:=⟨_,(.pair (.box ah) .unit),.unit,rfl,kA⟩
noncomputable def C8:FuncId→Option Spec:=bh []
theorem LJ:∀f s,C8 f=some s→FnOK G0 Tryz.prog f s:=aF trivial
def A2:aO:=⟨[0,3,4],(.pair (.list (.int .u8)) (.pair (.box ah) (.pair (.int .i64) .unit))),0,[3],(.pair (.box ah) .unit),[],.unit⟩
noncomputable def C9:List ay:=[A2.spec ia]
theorem Jn:bc bd E0 C8 (ba Tryz.f47 C9) Tryz.f47 0 A2 ia:=fun x=>by kernel_rfl
theorem pw:FnOK G0 Tryz.prog 47 Ge:=aH ao LJ Tryz.func47 C9 (by kernel_rfl) (by exact⟨(Jn).lok,trivial⟩) fun x=>by kernel_rfl
noncomputable def ai(x:Ty.T (.pair (.box ah) (.pair (.int .i64) .unit))):Option (Ty.T (.pair (.int .i64) (.pair (.box ah) .unit))):=
match(decide (x.2.1≤(1:Int)))with
|true=>
 some ((0:Int),(x.1.1,x.1.2.1,x.1.2.2.1,()),())
|false=>
 match(decide (x.1.2.1<(x.1.1.length:Int)))with
 |true=>
  aa (aq x.1.1 x.1.2.1) fun v1=>
  match(decide (x.2.1≤(256:Int)))with
  |true=>
   match((Int.tmod (IntKind.i64.wrap (x.1.2.1+(1:Int))) (2:Int))==(0:Int))with
   |true=>
    aa (aq x.1.1 (IntKind.i64.wrap ((IntKind.i64.wrap (x.1.2.1+(1:Int)))-(1:Int)))) fun v2=>
    if x.2.1=0 then none else
    some ((Int.tmod (IntKind.i64.wrap v2) x.2.1),(x.1.1,(IntKind.i64.wrap (x.1.2.1+(1:Int))),(Int.tmod (IntKind.i64.wrap ((IntKind.i64.wrap (x.1.2.2.1*(48271:Int)))+(17:Int))) (2147483647:Int)),()),())
   |false=>
    if x.2.1=0 then none else
    some ((Int.tmod (IntKind.i64.wrap ((IntKind.i64.wrap (Int.tdiv (Int.tmod (IntKind.i64.wrap ((IntKind.i64.wrap (x.1.2.2.1*(48271:Int)))+(17:Int))) (2147483647:Int)) (23:Int)))+(IntKind.i64.wrap v1))) x.2.1),(x.1.1,(IntKind.i64.wrap (x.1.2.1+(1:Int))),(Int.tmod (IntKind.i64.wrap ((IntKind.i64.wrap (x.1.2.2.1*(48271:Int)))+(17:Int))) (2147483647:Int)),()),())
  |false=>
   if x.2.1=0 then none else
   some ((Int.tmod (IntKind.i64.wrap ((IntKind.i64.wrap (Int.tdiv (Int.tmod (IntKind.i64.wrap ((IntKind.i64.wrap (x.1.2.2.1*(48271:Int)))+(17:Int))) (2147483647:Int)) (23:Int)))+(IntKind.i64.wrap v1))) x.2.1),(x.1.1,(IntKind.i64.wrap (x.1.2.1+(1:Int))),(Int.tmod (IntKind.i64.wrap ((IntKind.i64.wrap (x.1.2.2.1*(48271:Int)))+(17:Int))) (2147483647:Int)),()),())
 |false=>
  if x.2.1=0 then none else
  some ((Int.tmod (IntKind.i64.wrap (Int.tdiv (Int.tmod (IntKind.i64.wrap ((IntKind.i64.wrap (x.1.2.2.1*(48271:Int)))+(17:Int))) (2147483647:Int)) (23:Int))) x.2.1),(x.1.1,x.1.2.1,(Int.tmod (IntKind.i64.wrap ((IntKind.i64.wrap (x.1.2.2.1*(48271:Int)))+(17:Int))) (2147483647:Int)),()),())
noncomputable def iC:Spec:=⟨_,(.pair (.int .i64) .unit),(.pair (.box ah) .unit),rfl,ai⟩
theorem bR:FnOK G0 Tryz.prog 52 iC:=ap ao aJ Tryz.func52
noncomputable def lU(x:Ty.T an):Option (Ty.T (.pair .bool .unit)):=
if(IntKind.u64.wrap x.2.1)<0 then none else
some (((bits BinOp.and .i64 (Int.fdiv x.1 (2^min (IntKind.u64.wrap x.2.1).toNat IntKind.i64.bits)) (1:Int))==(1:Int)),())
noncomputable def z8:Spec:=⟨_,(.pair .bool .unit),.unit,rfl,lU⟩
theorem xE:FnOK G0 Tryz.prog 195 z8:=ap ao aJ Tryz.func195
noncomputable def iV(x:Ty.T (.pair (.int .i64) (.pair (.int .i64) (.pair .bool .unit)))):Option (Ty.T (.pair (.int .i64) .unit)):=
match lU (x.1,x.2.1,())with
|none=>none
|some v1=>
match(v1.1==x.2.2.1)with
|true=>
 some (x.1,())
|false=>
 if(IntKind.u64.wrap x.2.1)<0 then none else
 some ((bits BinOp.xor .i64 x.1 (IntKind.i64.wrap ((1:Int)*2^min (IntKind.u64.wrap x.2.1).toNat IntKind.i64.bits))),())
noncomputable def Aa:Spec:=⟨_,(.pair (.int .i64) .unit),.unit,rfl,iV⟩
theorem xF:FnOK G0 Tryz.prog 135 Aa:=ap ao (sg xE (aJ)) Tryz.func135
noncomputable def cN(x:(Ty.T (.pair (.list ak) an))):Option ((Ty.T (.pair (.list ak) an)) ⊕ ((Ty.T (.pair (.int .i64) .unit)) ⊕ (Ty.T .unit))):=
match(decide (x.2.2.1<(x.1.length:Int)))with
|true=>
 aa (aq x.1 x.2.2.1) fun v1=>
 match(!v1.2.2.2.1)with
 |true=>
  aa (aq x.1 x.2.2.1) fun v2=>
  match iV (x.2.1,v2.1,true,())with
  |none=>none
  |some v3=>
  some (.inl (x.1,v3.1,(IntKind.i64.wrap (x.2.2.1+(1:Int))),()))
 |false=>
  some (.inl (x.1,x.2.1,(IntKind.i64.wrap (x.2.2.1+(1:Int))),()))
|false=>
 some (.inr (.inl (x.2.1,())))
noncomputable def cM(x:Ty.T (.pair (.list ak) .unit)):Option (Ty.T (.pair (.int .i64) .unit)):=
match ag cN (x.1,(0:Int),(0:Int),())with
|none=>none
|some (.inl v4)=>
 some (v4.1,())
|some (.inr v6)=>
 none
noncomputable def nV:Spec:=⟨_,(.pair (.int .i64) .unit),.unit,rfl,cM⟩
noncomputable def yd:FuncId→Option Spec:=bh [(135,Aa)]
theorem Hx:∀f s,yd f=some s→FnOK G0 Tryz.prog f s:=aF ⟨xF,trivial⟩
def wo:aO:=⟨[0,3,4],(.pair (.list ak) an),0,[3],(.pair (.int .i64) .unit),[],.unit⟩
noncomputable def ye:List ay:=[wo.spec cN]
theorem Fu:bc bd E0 yd (ba Tryz.f126 ye) Tryz.f126 0 wo cN:=fun x=>by kernel_rfl
theorem kg:FnOK G0 Tryz.prog 126 nV:=aH ao Hx Tryz.func126 ye (by kernel_rfl) (by exact⟨(Fu).lok,trivial⟩) fun x=>by kernel_rfl
noncomputable def xG(x:Ty.T .unit):Option (Ty.T (.pair (.pair (.int .i64) (.pair (.own 136 ak) (.pair (.own 159 al) (.pair (.own 167 aj) .unit)))) .unit)):=
some (((77:Int),[((0:Int),([97]:List UInt8),(100:Int),false,()),((1:Int),([98]:List UInt8),(50:Int),false,())],[((2:Int),(2:Int),[(1:Int)],()),((1:Int),(2:Int),[(0:Int)],())],[((0:Int),(0:Int),(0:Int),((0:Int),(3:Int),(0:Int),(200:Int),false,()),()),((0:Int),(0:Int),(1:Int),((1:Int),(1:Int),(0:Int),(200:Int),false,()),()),((0:Int),(1:Int),(0:Int),((0:Int),(0:Int),(4:Int),(200:Int),true,()),()),((0:Int),(1:Int),(1:Int),((1:Int),(0:Int),(2:Int),(200:Int),false,()),()),((1:Int),(0:Int),(0:Int),((1:Int),(2:Int),(3:Int),(300:Int),true,()),()),((1:Int),(0:Int),(1:Int),((0:Int),(0:Int),(0:Int),(150:Int),false,()),())],()),())
noncomputable def A3:Spec:=⟨_,(.pair (.pair (.int .i64) (.pair (.own 136 ak) (.pair (.own 159 al) (.pair (.own 167 aj) .unit)))) .unit),.unit,rfl,xG⟩
theorem LL:FnOK G0 Tryz.prog 235 A3:=ap ao aJ Tryz.func235
noncomputable def jA(rec:Ty.T (.pair (.int .i64) .unit)→Option (Ty.T (.pair .str .unit)))(x:Ty.T (.pair (.int .i64) .unit)):Option (Ty.T (.pair .str .unit)):=
match(decide (x.1<(10:Int)))with
|true=>
 some ((List.map (fun n=>UInt8.ofNat (Int.toNat n)) ([(IntKind.u8.wrap (IntKind.i64.wrap ((48:Int)+x.1)))]:List Int)),())
|false=>
 aQ (
  match rec ((IntKind.i64.wrap (Int.tdiv x.1 (10:Int))),())with
  |none=>none
  |some v1=>
  aA (v1.1.length+(List.map (fun n=>UInt8.ofNat (Int.toNat n)) ([(IntKind.u8.wrap (IntKind.i64.wrap ((48:Int)+(Int.tmod x.1 (10:Int)))))]:List Int)).length) (
   some ((v1.1++(List.map (fun n=>UInt8.ofNat (Int.toNat n)) ([(IntKind.u8.wrap (IntKind.i64.wrap ((48:Int)+(Int.tmod x.1 (10:Int)))))]:List Int))),()))) (
  aI (
   match rec ((IntKind.i64.wrap (Int.tdiv x.1 (10:Int))),())with
   |none=>none
   |some v1=>
   aA (v1.1.length+(List.map (fun n=>UInt8.ofNat (Int.toNat n)) ([(IntKind.u8.wrap (IntKind.i64.wrap ((48:Int)+(Int.tmod x.1 (10:Int)))))]:List Int)).length) (
    some ((v1.1++(List.map (fun n=>UInt8.ofNat (Int.toNat n)) ([(IntKind.u8.wrap (IntKind.i64.wrap ((48:Int)+(Int.tmod x.1 (10:Int)))))]:List Int))),()))))
noncomputable def jK(i:Nat):Ty.T (.pair (.int .i64) .unit)→Option (Ty.T (.pair .str .unit)):=Nat.rec (fun _=>none) (fun _ f=>jA f) i
noncomputable def kK(rec:Ty.T (.pair (.int .i64) .unit)→Option (Ty.T (.pair .str .unit))):Spec:=⟨(.pair (.int .i64) .unit),(.pair .str .unit),.unit,rfl,rec⟩
noncomputable def Jo:Spec:=kK (jK 100)
noncomputable def Gf(rec:Ty.T (.pair (.int .i64) .unit)→Option (Ty.T (.pair .str .unit))):FuncId→Option Spec:=bh [(280,kK rec)]
theorem N4(rec:Ty.T (.pair (.int .i64) .unit)→Option (Ty.T (.pair .str .unit)))(hr:FnOK G0 Tryz.prog 280 (kK rec)):∀f s,(Gf rec) f=some s→FnOK G0 Tryz.prog f s:=aF ⟨hr,trivial⟩
noncomputable def Gg(rec:Ty.T (.pair (.int .i64) .unit)→Option (Ty.T (.pair .str .unit))):Nat→Option ay:=ya (bZ (ff Tryz.f280)) []
theorem N5(rec:Ty.T (.pair (.int .i64) .unit)→Option (Ty.T (.pair .str .unit)))(hr:FnOK G0 Tryz.prog 280 (kK rec)):FnOK G0 Tryz.prog 280 (kK (jA rec)):=Yc (Λ:=(Gg rec)) ao (N4 rec hr) Tryz.func280 (by kernel_rfl) (show Tryz.f280.body=some (ff Tryz.f280) by kernel_rfl) [] rfl (by kernel_rfl) (by exact trivial) (by kernel_rfl)
 fun x y h=>(show rn bd E0 (Gf rec) (Gg rec) Tryz.f280 (kK (jA rec)) x=jA rec x by kernel_rfl).trans h
theorem A4:∀i,FnOK G0 Tryz.prog 280 (kK (jK i))
 |0=>Ys Tryz.func280 (by kernel_rfl) (show Tryz.f280.body=some (ff Tryz.f280) by kernel_rfl)
 |i+1=>N5 _ (A4 i)
theorem Sd:FnOK G0 Tryz.prog 280 Jo:=A4 100
noncomputable def ib(x:(Ty.T (.pair (.box ah) (.pair (.own 136 ak) an)))):Option ((Ty.T (.pair (.box ah) (.pair (.own 136 ak) an))) ⊕ ((Ty.T (.pair (.box ah) (.pair (.own 136 ak) .unit))) ⊕ (Ty.T .unit))):=
match(decide (x.2.2.2.1>(0:Int)))with
|true=>
 match jK 100 (x.2.2.1,())with
 |none=>none
 |some v3=>
 aA (([110]:List UInt8).length+v3.1.length) (
  match ai ((x.1.1,x.1.2.1,x.1.2.2.1,()),(200:Int),())with
  |none=>none
  |some v4=>
  match ai ((v4.2.1.1,v4.2.1.2.1,v4.2.1.2.2.1,()),(5:Int),())with
  |none=>none
  |some v5=>
  aA (x.2.1.length+ [(x.2.2.1,(([110]:List UInt8)++v3.1),v4.1,(v5.1==(0:Int)),())].length) (
   match ai ((v5.2.1.1,v5.2.1.2.1,v5.2.1.2.2.1,()),(3:Int),())with
   |none=>none
   |some v6=>
   some (.inl ((v6.2.1.1,v6.2.1.2.1,v6.2.1.2.2.1,()),(x.2.1++ [(x.2.2.1,(([110]:List UInt8)++v3.1),v4.1,(v5.1==(0:Int)),())]),(IntKind.i64.wrap ((IntKind.i64.wrap (x.2.2.1+(1:Int)))+v6.1)),(IntKind.i64.wrap (x.2.2.2.1-(1:Int))),()))))
|false=>
 some (.inr (.inl ((x.1.1,x.1.2.1,x.1.2.2.1,()),x.2.1,())))
noncomputable def rv(x:Ty.T (.pair (.box ah) .unit)):Option (Ty.T (.pair (.own 136 ak) (.pair (.box ah) .unit))):=
match ai ((x.1.1,x.1.2.1,x.1.2.2.1,()),(2:Int),())with
|none=>none
|some v1=>
match ai ((v1.2.1.1,v1.2.1.2.1,v1.2.1.2.2.1,()),(4:Int),())with
|none=>none
|some v2=>
match ag ib ((v2.2.1.1,v2.2.1.2.1,v2.2.1.2.2.1,()),[],v1.1,(IntKind.i64.wrap ((1:Int)+v2.1)),())with
|none=>none
|some (.inl v7)=>
 some (v7.2.1,(v7.1.1,v7.1.2.1,v7.1.2.2.1,()),())
|some (.inr v9)=>
 none
noncomputable def Gh:Spec:=⟨_,(.pair (.own 136 ak) .unit),(.pair (.box ah) .unit),rfl,rv⟩
noncomputable def Da:FuncId→Option Spec:=bh [(52,iC),(280,Jo)]
theorem LM:∀f s,Da f=some s→FnOK G0 Tryz.prog f s:=aF ⟨bR,Sd,trivial⟩
def A5:aO:=⟨[0,3,4,5],(.pair (.box ah) (.pair (.own 136 ak) an)),0,[0,3],(.pair (.box ah) (.pair (.own 136 ak) .unit)),[],.unit⟩
noncomputable def Db:List ay:=[A5.spec ib]
theorem Jp:bc bd E0 Da (ba Tryz.f236 Db) Tryz.f236 0 A5 ib:=fun x=>by kernel_rfl
theorem Dc:FnOK G0 Tryz.prog 236 Gh:=aH ao LM Tryz.func236 Db (by kernel_rfl) (by exact⟨(Jp).lok,trivial⟩) fun x=>by kernel_rfl
noncomputable def bp(x:Ty.T (.pair (.int .i64) an)):Option (Ty.T (.pair .bool .unit)):=
match(decide (x.1≥x.2.1))with
|true=>
 some ((decide (x.1≤x.2.2.1)),())
|false=>
 some (false,())
noncomputable def lV:Spec:=⟨_,(.pair .bool .unit),.unit,rfl,bp⟩
theorem cD:FnOK G0 Tryz.prog 70 lV:=ap ao aJ Tryz.func70
noncomputable def fR(x:(Ty.T (.pair (.list (.int .i64)) (.pair (.int .i64) .unit)))):Option ((Ty.T (.pair (.list (.int .i64)) (.pair (.int .i64) .unit))) ⊕ ((Ty.T .unit) ⊕ (Ty.T (.pair .bool .unit)))):=
match(decide (x.2.1<(x.1.length:Int)))with
|true=>
 aa (aq x.1 x.2.1) fun v1=>
 match bp (v1,(0:Int),(4294967295:Int),())with
 |none=>none
 |some v2=>
 match(!v2.1)with
 |true=>
  some (.inr (.inr (false,())))
 |false=>
  some (.inl (x.1,(IntKind.i64.wrap (x.2.1+(1:Int))),()))
|false=>
 some (.inr (.inl (())))
noncomputable def nB(x:Ty.T (.pair (.list (.int .i64)) .unit)):Option (Ty.T (.pair .bool .unit)):=
match ag fR (x.1,(0:Int),())with
|none=>none
|some (.inl v3)=>
 some (true,())
|some (.inr v4)=>
 some (v4.1,())
noncomputable def A6:Spec:=⟨_,(.pair .bool .unit),.unit,rfl,nB⟩
noncomputable def yf:FuncId→Option Spec:=bh [(70,lV)]
theorem Hy:∀f s,yf f=some s→FnOK G0 Tryz.prog f s:=aF ⟨cD,trivial⟩
def wq:aO:=⟨[0,3],(.pair (.list (.int .i64)) (.pair (.int .i64) .unit)),0,[],.unit,[2],(.pair .bool .unit)⟩
noncomputable def yg:List ay:=[wq.spec fR]
theorem Fv:bc bd E0 yf (ba Tryz.f281 yg) Tryz.f281 0 wq fR:=fun x=>by kernel_rfl
theorem LN:FnOK G0 Tryz.prog 281 A6:=aH ao Hy Tryz.func281 yg (by kernel_rfl) (by exact⟨(Fv).lok,trivial⟩) fun x=>by kernel_rfl
noncomputable def fS(x:(Ty.T (.pair (.int .i64) (.pair (.own 2 (.int .i64)) (.pair (.int .i64) .unit))))):Option ((Ty.T (.pair (.int .i64) (.pair (.own 2 (.int .i64)) (.pair (.int .i64) .unit)))) ⊕ ((Ty.T (.pair (.own 2 (.int .i64)) .unit)) ⊕ (Ty.T .unit))):=
match(decide (x.2.2.1<(32:Int)))with
|true=>
 match lU (x.1,x.2.2.1,())with
 |none=>none
 |some v2=>
 match v2.1 with
 |true=>
  aA (x.2.1.length+ [x.2.2.1].length) (
   some (.inl (x.1,(x.2.1++ [x.2.2.1]),(IntKind.i64.wrap (x.2.2.1+(1:Int))),())))
 |false=>
  some (.inl (x.1,x.2.1,(IntKind.i64.wrap (x.2.2.1+(1:Int))),()))
|false=>
 some (.inr (.inl (x.2.1,())))
noncomputable def iE(x:Ty.T (.pair (.int .i64) .unit)):Option (Ty.T (.pair (.own 2 (.int .i64)) (.pair (.int .i64) .unit))):=
match nB ([x.1],())with
|none=>none
|some v1=>
match(!v1.1)with
|true=>
 some ([],(2:Int),())
|false=>
 match ag fS (x.1,[],(0:Int),())with
 |none=>none
 |some (.inl v3)=>
  some (v3.1,(0:Int),())
 |some (.inr v5)=>
  none
noncomputable def A7:Spec:=⟨_,(.pair (.own 2 (.int .i64)) (.pair (.int .i64) .unit)),.unit,rfl,iE⟩
noncomputable def yh:FuncId→Option Spec:=bh [(195,z8),(281,A6)]
theorem Hz:∀f s,yh f=some s→FnOK G0 Tryz.prog f s:=aF ⟨xE,LN,trivial⟩
def ws:aO:=⟨[0,4,5],(.pair (.int .i64) (.pair (.own 2 (.int .i64)) (.pair (.int .i64) .unit))),0,[4],(.pair (.own 2 (.int .i64)) .unit),[],.unit⟩
noncomputable def yi:List ay:=[ws.spec fS]
theorem Fw:bc bd E0 yh (ba Tryz.f237 yi) Tryz.f237 0 ws fS:=fun x=>by kernel_rfl
theorem yj:FnOK G0 Tryz.prog 237 A7:=aH ao Hz Tryz.func237 yi (by kernel_rfl) (by exact⟨(Fw).lok,trivial⟩) fun x=>by kernel_rfl
noncomputable def gQ(x:Ty.T (.pair (.int .i64) .unit)):Option (Ty.T (.pair .bool .unit)):=
match(x.1==(0:Int))with
|true=>
 some (true,())
|false=>
 some ((x.1==(2:Int)),())
noncomputable def Se:Spec:=⟨_,(.pair .bool .unit),.unit,rfl,gQ⟩
theorem pz:FnOK G0 Tryz.prog 217 Se:=ap ao aJ Tryz.func217
noncomputable def dL(x:Ty.T (.pair (.int .i64) .unit)):Option (Ty.T (.pair .bool .unit)):=
some ((x.1 != (0:Int)),())
noncomputable def P2:Spec:=⟨_,(.pair .bool .unit),.unit,rfl,dL⟩
theorem jp:FnOK G0 Tryz.prog 154 P2:=ap ao aJ Tryz.func154
noncomputable def jq(x:Ty.T an):Option (Ty.T (.pair (.int .i64) .unit)):=
match dL (x.1,())with
|none=>none
|some v1=>
match v1.1 with
|true=>
 match gQ (x.1,())with
 |none=>none
 |some v2=>
 match v2.1 with
 |true=>
  some ((IntKind.i64.wrap ((IntKind.i64.wrap ((IntKind.i64.wrap ((1:Int)+(8:Int)))+(1:Int)))+x.2.1)),())
 |false=>
  some ((IntKind.i64.wrap ((1:Int)+(8:Int))),())
|false=>
 match gQ (x.1,())with
 |none=>none
 |some v3=>
 match v3.1 with
 |true=>
  some ((IntKind.i64.wrap ((IntKind.i64.wrap ((1:Int)+(1:Int)))+x.2.1)),())
 |false=>
  some ((1:Int),())
noncomputable def Jq:Spec:=⟨_,(.pair (.int .i64) .unit),.unit,rfl,jq⟩
theorem HA:FnOK G0 Tryz.prog 282 Jq:=ap ao (sg jp (sg pz (aJ))) Tryz.func282
noncomputable def dM(x:Ty.T an):Option (Ty.T (.pair (.int .i64) .unit)):=
match jq (x.1,x.2.1,())with
|none=>none
|some v1=>
some ((IntKind.i64.wrap ((11:Int)+(IntKind.i64.wrap ((10:Int)*(IntKind.i64.wrap (v1.1+(3:Int))))))),())
noncomputable def P3:Spec:=⟨_,(.pair (.int .i64) .unit),.unit,rfl,dM⟩
theorem sA:FnOK G0 Tryz.prog 240 P3:=ap ao (sg HA (aJ)) Tryz.func240
noncomputable def oU(x:Ty.T (.pair (.box ah) .unit)):Option (Ty.T (.pair bf (.pair (.box ah) .unit))):=
match ai ((x.1.1,x.1.2.1,x.1.2.2.1,()),(4:Int),())with
|none=>none
|some v1=>
match ai ((v1.2.1.1,v1.2.1.2.1,v1.2.1.2.2.1,()),(4:Int),())with
|none=>none
|some v2=>
match ai ((v2.2.1.1,v2.2.1.2.1,v2.2.1.2.2.1,()),(2:Int),())with
|none=>none
|some v3=>
match gQ (v2.1,())with
|none=>none
|some v4=>
match v4.1 with
|true=>
 match ai ((v3.2.1.1,v3.2.1.2.1,v3.2.1.2.2.1,()),(5:Int),())with
 |none=>none
 |some v5=>
 match(v2.1==(3:Int))with
 |true=>
  match dM (v2.1,(IntKind.i64.wrap ((1:Int)+v5.1)),())with
  |none=>none
  |some v6=>
  match ai ((v5.2.1.1,v5.2.1.2.1,v5.2.1.2.2.1,()),(200:Int),())with
  |none=>none
  |some v7=>
  some ((v1.1,v2.1,(IntKind.i64.wrap ((1:Int)+v5.1)),(IntKind.i64.wrap ((IntKind.i64.wrap (v6.1+(20:Int)))+v7.1)),false,()),(v7.2.1.1,v7.2.1.2.1,v7.2.1.2.2.1,()),())
 |false=>
  match dM (v2.1,(IntKind.i64.wrap ((1:Int)+v5.1)),())with
  |none=>none
  |some v8=>
  match ai ((v5.2.1.1,v5.2.1.2.1,v5.2.1.2.2.1,()),(200:Int),())with
  |none=>none
  |some v9=>
  some ((v1.1,v2.1,(IntKind.i64.wrap ((1:Int)+v5.1)),(IntKind.i64.wrap ((IntKind.i64.wrap (v8.1+(20:Int)))+v9.1)),(v3.1==(0:Int)),()),(v9.2.1.1,v9.2.1.2.1,v9.2.1.2.2.1,()),())
|false=>
 match(v2.1==(3:Int))with
 |true=>
  match dM (v2.1,(0:Int),())with
  |none=>none
  |some v10=>
  match ai ((v3.2.1.1,v3.2.1.2.1,v3.2.1.2.2.1,()),(200:Int),())with
  |none=>none
  |some v11=>
  some ((v1.1,v2.1,(0:Int),(IntKind.i64.wrap ((IntKind.i64.wrap (v10.1+(20:Int)))+v11.1)),false,()),(v11.2.1.1,v11.2.1.2.1,v11.2.1.2.2.1,()),())
 |false=>
  match dM (v2.1,(0:Int),())with
  |none=>none
  |some v12=>
  match ai ((v3.2.1.1,v3.2.1.2.1,v3.2.1.2.2.1,()),(200:Int),())with
  |none=>none
  |some v13=>
  some ((v1.1,v2.1,(0:Int),(IntKind.i64.wrap ((IntKind.i64.wrap (v12.1+(20:Int)))+v13.1)),(v3.1==(0:Int)),()),(v13.2.1.1,v13.2.1.2.1,v13.2.1.2.2.1,()),())
noncomputable def Gi:Spec:=⟨_,(.pair bf .unit),(.pair (.box ah) .unit),rfl,oU⟩
theorem Dd:FnOK G0 Tryz.prog 238 Gi:=ap ao (sg bR (sg pz (sg sA (aJ)))) Tryz.func238
noncomputable def fC(x:(Ty.T (.pair (.box ah) (.pair (.box ac) (.pair (.own 136 ak) (.pair (.own 2 (.int .i64)) (.pair (.own 159 al) (.pair (.own 167 aj) (.pair (.int .i64) (.pair (.int .i64) (.pair (.box al) (.pair (.own 2 (.int .i64)) (.pair (.int .i64) .unit))))))))))))):Option ((Ty.T (.pair (.box ah) (.pair (.box ac) (.pair (.own 136 ak) (.pair (.own 2 (.int .i64)) (.pair (.own 159 al) (.pair (.own 167 aj) (.pair (.int .i64) (.pair (.int .i64) (.pair (.box al) (.pair (.own 2 (.int .i64)) (.pair (.int .i64) .unit)))))))))))) ⊕ ((Ty.T (.pair (.box ah) (.pair (.box ac) (.pair (.own 136 ak) (.pair (.own 2 (.int .i64)) (.pair (.own 159 al) (.pair (.own 167 aj) (.pair (.int .i64) (.pair (.int .i64) (.pair (.box al) (.pair (.own 2 (.int .i64)) .unit))))))))))) ⊕ (Ty.T .unit))):=
match(decide (x.2.2.2.2.2.2.2.2.2.2.1<x.2.2.2.2.2.2.2.2.1.2.1))with
|true=>
 match ai ((x.1.1,x.1.2.1,x.1.2.2.1,()),(100:Int),())with
 |none=>none
 |some v12=>
 aA (x.2.2.2.2.2.2.2.2.2.1.length+ [(IntKind.i64.wrap ((260:Int)+v12.1))].length) (
  some (.inl ((v12.2.1.1,v12.2.1.2.1,v12.2.1.2.2.1,()),(x.2.1.1,x.2.1.2.1,x.2.1.2.2.1,x.2.1.2.2.2.1,()),x.2.2.1,x.2.2.2.1,x.2.2.2.2.1,x.2.2.2.2.2.1,x.2.2.2.2.2.2.1,x.2.2.2.2.2.2.2.1,(x.2.2.2.2.2.2.2.2.1.1,x.2.2.2.2.2.2.2.2.1.2.1,x.2.2.2.2.2.2.2.2.1.2.2.1,()),(x.2.2.2.2.2.2.2.2.2.1++ [(IntKind.i64.wrap ((260:Int)+v12.1))]),(IntKind.i64.wrap (x.2.2.2.2.2.2.2.2.2.2.1+(1:Int))),())))
|false=>
 some (.inr (.inl ((x.1.1,x.1.2.1,x.1.2.2.1,()),(x.2.1.1,x.2.1.2.1,x.2.1.2.2.1,x.2.1.2.2.2.1,()),x.2.2.1,x.2.2.2.1,x.2.2.2.2.1,x.2.2.2.2.2.1,x.2.2.2.2.2.2.1,x.2.2.2.2.2.2.2.1,(x.2.2.2.2.2.2.2.2.1.1,x.2.2.2.2.2.2.2.2.1.2.1,x.2.2.2.2.2.2.2.2.1.2.2.1,()),x.2.2.2.2.2.2.2.2.2.1,())))
noncomputable def eu(x:(Ty.T (.pair (.box ah) (.pair (.box ac) (.pair (.own 136 ak) (.pair (.own 2 (.int .i64)) (.pair (.own 159 al) (.pair (.own 167 aj) (.pair (.int .i64) (.pair (.int .i64) (.pair (.box al) (.pair (.own 2 (.int .i64)) an)))))))))))):Option ((Ty.T (.pair (.box ah) (.pair (.box ac) (.pair (.own 136 ak) (.pair (.own 2 (.int .i64)) (.pair (.own 159 al) (.pair (.own 167 aj) (.pair (.int .i64) (.pair (.int .i64) (.pair (.box al) (.pair (.own 2 (.int .i64)) an))))))))))) ⊕ ((Ty.T (.pair (.box ah) (.pair (.box ac) (.pair (.own 136 ak) (.pair (.own 2 (.int .i64)) (.pair (.own 159 al) (.pair (.own 167 aj) (.pair (.int .i64) (.pair (.int .i64) (.pair (.box al) (.pair (.own 2 (.int .i64)) (.pair (.int .i64) .unit)))))))))))) ⊕ (Ty.T .unit))):=
match(decide (x.2.2.2.2.2.2.2.2.2.2.2.1<x.2.2.2.2.2.2.2.2.1.2.1))with
|true=>
 match oU ((x.1.1,x.1.2.1,x.1.2.2.1,()),())with
 |none=>none
 |some v15=>
 if(x.2.2.2.1.length:Int)=0 then none else
 aa (aq x.2.2.2.1 (Int.tmod x.2.2.2.2.2.2.2.2.2.2.2.1 (x.2.2.2.1.length:Int))) fun _=>
 match x.2.2.2.1[(Int.tmod x.2.2.2.2.2.2.2.2.2.2.2.1 (x.2.2.2.1.length:Int)).toNat]? with
 |none=>none
 |some v17=>
 match(v15.1.2.1==(3:Int))with
 |true=>
  match(decide (x.2.2.2.2.2.2.2.1>(0:Int)))with
  |true=>
   aa (aq x.2.2.2.2.2.2.2.2.2.1 x.2.2.2.2.2.2.2.2.2.2.2.1) fun _=>
   match x.2.2.2.2.2.2.2.2.2.1[x.2.2.2.2.2.2.2.2.2.2.2.1.toNat]? with
   |none=>none
   |some v19=>
   aA (x.2.2.2.2.2.1.length+ [(x.2.2.2.2.2.2.2.1,x.2.2.2.2.2.2.2.2.2.2.1,x.2.2.2.2.2.2.2.2.2.2.2.1,(v17,(1:Int),v15.1.2.2.1,v19,v15.1.2.2.2.2.1,()),())].length) (
    some (.inl ((v15.2.1.1,v15.2.1.2.1,v15.2.1.2.2.1,()),(x.2.1.1,x.2.1.2.1,x.2.1.2.2.1,x.2.1.2.2.2.1,()),x.2.2.1,x.2.2.2.1,x.2.2.2.2.1,(x.2.2.2.2.2.1++ [(x.2.2.2.2.2.2.2.1,x.2.2.2.2.2.2.2.2.2.2.1,x.2.2.2.2.2.2.2.2.2.2.2.1,(v17,(1:Int),v15.1.2.2.1,v19,v15.1.2.2.2.2.1,()),())]),x.2.2.2.2.2.2.1,x.2.2.2.2.2.2.2.1,(x.2.2.2.2.2.2.2.2.1.1,x.2.2.2.2.2.2.2.2.1.2.1,x.2.2.2.2.2.2.2.2.1.2.2.1,()),x.2.2.2.2.2.2.2.2.2.1,x.2.2.2.2.2.2.2.2.2.2.1,(IntKind.i64.wrap (x.2.2.2.2.2.2.2.2.2.2.2.1+(1:Int))),())))
  |false=>
   aa (aq x.2.2.2.2.2.2.2.2.2.1 x.2.2.2.2.2.2.2.2.2.2.2.1) fun _=>
   match x.2.2.2.2.2.2.2.2.2.1[x.2.2.2.2.2.2.2.2.2.2.2.1.toNat]? with
   |none=>none
   |some v21=>
   aA (x.2.2.2.2.2.1.length+ [(x.2.2.2.2.2.2.2.1,x.2.2.2.2.2.2.2.2.2.2.1,x.2.2.2.2.2.2.2.2.2.2.2.1,(v17,v15.1.2.1,v15.1.2.2.1,v21,v15.1.2.2.2.2.1,()),())].length) (
    some (.inl ((v15.2.1.1,v15.2.1.2.1,v15.2.1.2.2.1,()),(x.2.1.1,x.2.1.2.1,x.2.1.2.2.1,x.2.1.2.2.2.1,()),x.2.2.1,x.2.2.2.1,x.2.2.2.2.1,(x.2.2.2.2.2.1++ [(x.2.2.2.2.2.2.2.1,x.2.2.2.2.2.2.2.2.2.2.1,x.2.2.2.2.2.2.2.2.2.2.2.1,(v17,v15.1.2.1,v15.1.2.2.1,v21,v15.1.2.2.2.2.1,()),())]),x.2.2.2.2.2.2.1,x.2.2.2.2.2.2.2.1,(x.2.2.2.2.2.2.2.2.1.1,x.2.2.2.2.2.2.2.2.1.2.1,x.2.2.2.2.2.2.2.2.1.2.2.1,()),x.2.2.2.2.2.2.2.2.2.1,x.2.2.2.2.2.2.2.2.2.2.1,(IntKind.i64.wrap (x.2.2.2.2.2.2.2.2.2.2.2.1+(1:Int))),())))
 |false=>
  aa (aq x.2.2.2.2.2.2.2.2.2.1 x.2.2.2.2.2.2.2.2.2.2.2.1) fun _=>
  match x.2.2.2.2.2.2.2.2.2.1[x.2.2.2.2.2.2.2.2.2.2.2.1.toNat]? with
  |none=>none
  |some v23=>
  aA (x.2.2.2.2.2.1.length+ [(x.2.2.2.2.2.2.2.1,x.2.2.2.2.2.2.2.2.2.2.1,x.2.2.2.2.2.2.2.2.2.2.2.1,(v17,v15.1.2.1,v15.1.2.2.1,v23,v15.1.2.2.2.2.1,()),())].length) (
   some (.inl ((v15.2.1.1,v15.2.1.2.1,v15.2.1.2.2.1,()),(x.2.1.1,x.2.1.2.1,x.2.1.2.2.1,x.2.1.2.2.2.1,()),x.2.2.1,x.2.2.2.1,x.2.2.2.2.1,(x.2.2.2.2.2.1++ [(x.2.2.2.2.2.2.2.1,x.2.2.2.2.2.2.2.2.2.2.1,x.2.2.2.2.2.2.2.2.2.2.2.1,(v17,v15.1.2.1,v15.1.2.2.1,v23,v15.1.2.2.2.2.1,()),())]),x.2.2.2.2.2.2.1,x.2.2.2.2.2.2.2.1,(x.2.2.2.2.2.2.2.2.1.1,x.2.2.2.2.2.2.2.2.1.2.1,x.2.2.2.2.2.2.2.2.1.2.2.1,()),x.2.2.2.2.2.2.2.2.2.1,x.2.2.2.2.2.2.2.2.2.2.1,(IntKind.i64.wrap (x.2.2.2.2.2.2.2.2.2.2.2.1+(1:Int))),())))
|false=>
 some (.inr (.inl ((x.1.1,x.1.2.1,x.1.2.2.1,()),(x.2.1.1,x.2.1.2.1,x.2.1.2.2.1,x.2.1.2.2.2.1,()),x.2.2.1,x.2.2.2.1,x.2.2.2.2.1,x.2.2.2.2.2.1,x.2.2.2.2.2.2.1,x.2.2.2.2.2.2.2.1,(x.2.2.2.2.2.2.2.2.1.1,x.2.2.2.2.2.2.2.2.1.2.1,x.2.2.2.2.2.2.2.2.1.2.2.1,()),x.2.2.2.2.2.2.2.2.2.1,x.2.2.2.2.2.2.2.2.2.2.1,())))
noncomputable def fD(x:(Ty.T (.pair (.box ah) (.pair (.box ac) (.pair (.own 136 ak) (.pair (.own 2 (.int .i64)) (.pair (.own 159 al) (.pair (.own 167 aj) (.pair (.int .i64) (.pair (.int .i64) (.pair (.box al) (.pair (.own 2 (.int .i64)) (.pair (.int .i64) .unit))))))))))))):Option ((Ty.T (.pair (.box ah) (.pair (.box ac) (.pair (.own 136 ak) (.pair (.own 2 (.int .i64)) (.pair (.own 159 al) (.pair (.own 167 aj) (.pair (.int .i64) (.pair (.int .i64) (.pair (.box al) (.pair (.own 2 (.int .i64)) (.pair (.int .i64) .unit)))))))))))) ⊕ ((Ty.T (.pair (.box ah) (.pair (.box ac) (.pair (.own 136 ak) (.pair (.own 2 (.int .i64)) (.pair (.own 159 al) (.pair (.own 167 aj) an))))))) ⊕ (Ty.T .unit))):=
match(decide (x.2.2.2.2.2.2.2.2.2.2.1<x.2.2.2.2.2.2.2.2.1.1))with
|true=>
 match ag eu ((x.1.1,x.1.2.1,x.1.2.2.1,()),(x.2.1.1,x.2.1.2.1,x.2.1.2.2.1,x.2.1.2.2.2.1,()),x.2.2.1,x.2.2.2.1,x.2.2.2.2.1,x.2.2.2.2.2.1,x.2.2.2.2.2.2.1,x.2.2.2.2.2.2.2.1,(x.2.2.2.2.2.2.2.2.1.1,x.2.2.2.2.2.2.2.2.1.2.1,x.2.2.2.2.2.2.2.2.1.2.2.1,()),x.2.2.2.2.2.2.2.2.2.1,x.2.2.2.2.2.2.2.2.2.2.1,(0:Int),())with
 |none=>none
 |some (.inl v15)=>
  some (.inl ((v15.1.1,v15.1.2.1,v15.1.2.2.1,()),(v15.2.1.1,v15.2.1.2.1,v15.2.1.2.2.1,v15.2.1.2.2.2.1,()),v15.2.2.1,v15.2.2.2.1,v15.2.2.2.2.1,v15.2.2.2.2.2.1,v15.2.2.2.2.2.2.1,v15.2.2.2.2.2.2.2.1,(v15.2.2.2.2.2.2.2.2.1.1,v15.2.2.2.2.2.2.2.2.1.2.1,v15.2.2.2.2.2.2.2.2.1.2.2.1,()),v15.2.2.2.2.2.2.2.2.2.1,(IntKind.i64.wrap (v15.2.2.2.2.2.2.2.2.2.2.1+(1:Int))),()))
 |some (.inr v17)=>
  some (.inr (.inr (())))
|false=>
 some (.inr (.inl ((x.1.1,x.1.2.1,x.1.2.2.1,()),(x.2.1.1,x.2.1.2.1,x.2.1.2.2.1,x.2.1.2.2.2.1,()),x.2.2.1,x.2.2.2.1,x.2.2.2.2.1,x.2.2.2.2.2.1,x.2.2.2.2.2.2.1,x.2.2.2.2.2.2.2.1,())))
noncomputable def dD(x:(Ty.T (.pair (.box ah) (.pair (.box ac) (.pair (.own 136 ak) (.pair (.own 2 (.int .i64)) (.pair (.own 159 al) (.pair (.own 167 aj) an)))))))):Option ((Ty.T (.pair (.box ah) (.pair (.box ac) (.pair (.own 136 ak) (.pair (.own 2 (.int .i64)) (.pair (.own 159 al) (.pair (.own 167 aj) an))))))) ⊕ ((Ty.T (.pair (.box ah) (.pair (.box ac) (.pair (.own 136 ak) (.pair (.own 159 al) (.pair (.own 167 aj) .unit)))))) ⊕ (Ty.T .unit))):=
match(decide (x.2.2.2.2.2.2.2.1<x.2.2.2.2.2.2.1))with
|true=>
 match ai ((x.1.1,x.1.2.1,x.1.2.2.1,()),(2:Int),())with
 |none=>none
 |some v10=>
 match ai ((v10.2.1.1,v10.2.1.2.1,v10.2.1.2.2.1,()),(2:Int),())with
 |none=>none
 |some v11=>
 match(decide (x.2.2.2.2.2.2.1>(1:Int)))with
 |true=>
  aA (x.2.2.2.2.1.length+ [((IntKind.i64.wrap ((1:Int)+v10.1)),(IntKind.i64.wrap ((x.2.2.2.1.length:Int)+v11.1)),[(IntKind.i64.wrap ((1:Int)-x.2.2.2.2.2.2.2.1))],())].length) (
   match ag fC ((v11.2.1.1,v11.2.1.2.1,v11.2.1.2.2.1,()),(x.2.1.1,x.2.1.2.1,x.2.1.2.2.1,x.2.1.2.2.2.1,()),x.2.2.1,x.2.2.2.1,(x.2.2.2.2.1++ [((IntKind.i64.wrap ((1:Int)+v10.1)),(IntKind.i64.wrap ((x.2.2.2.1.length:Int)+v11.1)),[(IntKind.i64.wrap ((1:Int)-x.2.2.2.2.2.2.2.1))],())]),x.2.2.2.2.2.1,x.2.2.2.2.2.2.1,x.2.2.2.2.2.2.2.1,((IntKind.i64.wrap ((1:Int)+v10.1)),(IntKind.i64.wrap ((x.2.2.2.1.length:Int)+v11.1)),[(IntKind.i64.wrap ((1:Int)-x.2.2.2.2.2.2.2.1))],()),[],(0:Int),())with
   |none=>none
   |some (.inl v12)=>
    match ag fD ((v12.1.1,v12.1.2.1,v12.1.2.2.1,()),(v12.2.1.1,v12.2.1.2.1,v12.2.1.2.2.1,v12.2.1.2.2.2.1,()),v12.2.2.1,v12.2.2.2.1,v12.2.2.2.2.1,v12.2.2.2.2.2.1,v12.2.2.2.2.2.2.1,v12.2.2.2.2.2.2.2.1,(v12.2.2.2.2.2.2.2.2.1.1,v12.2.2.2.2.2.2.2.2.1.2.1,v12.2.2.2.2.2.2.2.2.1.2.2.1,()),v12.2.2.2.2.2.2.2.2.2.1,(0:Int),())with
    |none=>none
    |some (.inl v14)=>
     some (.inl ((v14.1.1,v14.1.2.1,v14.1.2.2.1,()),(v14.2.1.1,v14.2.1.2.1,v14.2.1.2.2.1,v14.2.1.2.2.2.1,()),v14.2.2.1,v14.2.2.2.1,v14.2.2.2.2.1,v14.2.2.2.2.2.1,v14.2.2.2.2.2.2.1,(IntKind.i64.wrap (v14.2.2.2.2.2.2.2.1+(1:Int))),()))
    |some (.inr v16)=>
     some (.inr (.inr (())))
   |some (.inr v17)=>
    some (.inr (.inr (()))))
 |false=>
  aA (x.2.2.2.2.1.length+([((IntKind.i64.wrap ((1:Int)+v10.1)),(IntKind.i64.wrap ((x.2.2.2.1.length:Int)+v11.1)),[],())]:List (Ty.T al)).length) (
   match ag fC ((v11.2.1.1,v11.2.1.2.1,v11.2.1.2.2.1,()),(x.2.1.1,x.2.1.2.1,x.2.1.2.2.1,x.2.1.2.2.2.1,()),x.2.2.1,x.2.2.2.1,(x.2.2.2.2.1++([((IntKind.i64.wrap ((1:Int)+v10.1)),(IntKind.i64.wrap ((x.2.2.2.1.length:Int)+v11.1)),[],())]:List (Ty.T al))),x.2.2.2.2.2.1,x.2.2.2.2.2.2.1,x.2.2.2.2.2.2.2.1,((IntKind.i64.wrap ((1:Int)+v10.1)),(IntKind.i64.wrap ((x.2.2.2.1.length:Int)+v11.1)),[],()),[],(0:Int),())with
   |none=>none
   |some (.inl v18)=>
    match ag fD ((v18.1.1,v18.1.2.1,v18.1.2.2.1,()),(v18.2.1.1,v18.2.1.2.1,v18.2.1.2.2.1,v18.2.1.2.2.2.1,()),v18.2.2.1,v18.2.2.2.1,v18.2.2.2.2.1,v18.2.2.2.2.2.1,v18.2.2.2.2.2.2.1,v18.2.2.2.2.2.2.2.1,(v18.2.2.2.2.2.2.2.2.1.1,v18.2.2.2.2.2.2.2.2.1.2.1,v18.2.2.2.2.2.2.2.2.1.2.2.1,()),v18.2.2.2.2.2.2.2.2.2.1,(0:Int),())with
    |none=>none
    |some (.inl v20)=>
     some (.inl ((v20.1.1,v20.1.2.1,v20.1.2.2.1,()),(v20.2.1.1,v20.2.1.2.1,v20.2.1.2.2.1,v20.2.1.2.2.2.1,()),v20.2.2.1,v20.2.2.2.1,v20.2.2.2.2.1,v20.2.2.2.2.2.1,v20.2.2.2.2.2.2.1,(IntKind.i64.wrap (v20.2.2.2.2.2.2.2.1+(1:Int))),()))
    |some (.inr v22)=>
     some (.inr (.inr (())))
   |some (.inr v23)=>
    some (.inr (.inr (()))))
|false=>
 some (.inr (.inl ((x.1.1,x.1.2.1,x.1.2.2.1,()),(x.2.1.1,x.2.1.2.1,x.2.1.2.2.1,x.2.1.2.2.2.1,()),x.2.2.1,x.2.2.2.2.1,x.2.2.2.2.2.1,())))
noncomputable def wt(x:Ty.T (.pair (.box ah) .unit)):Option (Ty.T (.pair (.pair (.int .i64) (.pair (.own 136 ak) (.pair (.own 159 al) (.pair (.own 167 aj) .unit)))) (.pair (.box ah) .unit))):=
match ai ((x.1.1,x.1.2.1,x.1.2.2.1,()),(4:Int),())with
|none=>none
|some v1=>
match(v1.1==(0:Int))with
|true=>
 match xG (())with
 |none=>none
 |some v2=>
 some ((v2.1.1,v2.1.2.1,v2.1.2.2.1,v2.1.2.2.2.1,()),(v1.2.1.1,v1.2.1.2.1,v1.2.1.2.2.1,()),())
|false=>
 match rv ((v1.2.1.1,v1.2.1.2.1,v1.2.1.2.2.1,()),())with
 |none=>none
 |some v3=>
 aa (aq v3.1 (0:Int)) fun _=>
 match v3.1[(0:Int).toNat]? with
 |none=>none
 |some v5=>
 match(decide (((v3.1.set ((0:Int).toNat) (v5.1,v5.2.1,v5.2.2.1,false,())).length:Int)>(3:Int)))with
 |true=>
  aa (aL (v3.1.set ((0:Int).toNat) (v5.1,v5.2.1,v5.2.2.1,false,())).length none (some (.dat (.int .i64) (3:Int)))) fun v6=>
  match cM ((List.take v6.2 (v3.1.set ((0:Int).toNat) (v5.1,v5.2.1,v5.2.2.1,false,()))),())with
  |none=>none
  |some v7=>
  match iE (v7.1,())with
  |none=>none
  |some v8=>
  match ai ((v3.2.1.1,v3.2.1.2.1,v3.2.1.2.2.1,()),(2:Int),())with
  |none=>none
  |some v9=>
  match ag dD ((v9.2.1.1,v9.2.1.2.1,v9.2.1.2.2.1,()),((0:Int),[],[],[],()),(List.take v6.2 (v3.1.set ((0:Int).toNat) (v5.1,v5.2.1,v5.2.2.1,false,()))),v8.1,[],[],(IntKind.i64.wrap ((1:Int)+v9.1)),(0:Int),())with
  |none=>none
  |some (.inl v24)=>
   match ai ((v24.1.1,v24.1.2.1,v24.1.2.2.1,()),(5000:Int),())with
   |none=>none
   |some v26=>
   some (((IntKind.i64.wrap ((1:Int)+v26.1)),v24.2.2.1,v24.2.2.2.1,v24.2.2.2.2.1,()),(v26.2.1.1,v26.2.1.2.1,v26.2.1.2.2.1,()),())
  |some (.inr v27)=>
   none
 |false=>
  match cM ((v3.1.set ((0:Int).toNat) (v5.1,v5.2.1,v5.2.2.1,false,())),())with
  |none=>none
  |some v28=>
  match iE (v28.1,())with
  |none=>none
  |some v29=>
  match ai ((v3.2.1.1,v3.2.1.2.1,v3.2.1.2.2.1,()),(2:Int),())with
  |none=>none
  |some v30=>
  match ag dD ((v30.2.1.1,v30.2.1.2.1,v30.2.1.2.2.1,()),((0:Int),[],[],[],()),(v3.1.set ((0:Int).toNat) (v5.1,v5.2.1,v5.2.2.1,false,())),v29.1,[],[],(IntKind.i64.wrap ((1:Int)+v30.1)),(0:Int),())with
  |none=>none
  |some (.inl v31)=>
   match ai ((v31.1.1,v31.1.2.1,v31.1.2.2.1,()),(5000:Int),())with
   |none=>none
   |some v33=>
   some (((IntKind.i64.wrap ((1:Int)+v33.1)),v31.2.2.1,v31.2.2.2.1,v31.2.2.2.2.1,()),(v33.2.1.1,v33.2.1.2.1,v33.2.1.2.2.1,()),())
  |some (.inr v34)=>
   none
noncomputable def Gj:Spec:=⟨_,(.pair (.pair (.int .i64) (.pair (.own 136 ak) (.pair (.own 159 al) (.pair (.own 167 aj) .unit)))) .unit),(.pair (.box ah) .unit),rfl,wt⟩
noncomputable def lW:FuncId→Option Spec:=bh [(52,iC),(126,nV),(235,A3),(236,Gh),(237,A7),(238,Gi)]
theorem LO:∀f s,lW f=some s→FnOK G0 Tryz.prog f s:=aF ⟨bR,kg,LL,Dc,yj,Dd,trivial⟩
def yk:aO:=⟨[0,2,3,4,6,7,8,9],(.pair (.box ah) (.pair (.box ac) (.pair (.own 136 ak) (.pair (.own 2 (.int .i64)) (.pair (.own 159 al) (.pair (.own 167 aj) an)))))),0,[0,2,3,6,7],(.pair (.box ah) (.pair (.box ac) (.pair (.own 136 ak) (.pair (.own 159 al) (.pair (.own 167 aj) .unit))))),[],.unit⟩
def yl:aO:=⟨[0,2,3,4,6,7,8,9,10,11,12],(.pair (.box ah) (.pair (.box ac) (.pair (.own 136 ak) (.pair (.own 2 (.int .i64)) (.pair (.own 159 al) (.pair (.own 167 aj) (.pair (.int .i64) (.pair (.int .i64) (.pair (.box al) (.pair (.own 2 (.int .i64)) (.pair (.int .i64) .unit))))))))))),2,[0,2,3,4,6,7,8,9,10,11],(.pair (.box ah) (.pair (.box ac) (.pair (.own 136 ak) (.pair (.own 2 (.int .i64)) (.pair (.own 159 al) (.pair (.own 167 aj) (.pair (.int .i64) (.pair (.int .i64) (.pair (.box al) (.pair (.own 2 (.int .i64)) .unit)))))))))),[],.unit⟩
def yn:aO:=⟨[0,2,3,4,6,7,8,9,10,11,13],(.pair (.box ah) (.pair (.box ac) (.pair (.own 136 ak) (.pair (.own 2 (.int .i64)) (.pair (.own 159 al) (.pair (.own 167 aj) (.pair (.int .i64) (.pair (.int .i64) (.pair (.box al) (.pair (.own 2 (.int .i64)) (.pair (.int .i64) .unit))))))))))),4,[0,2,3,4,6,7,8,9],(.pair (.box ah) (.pair (.box ac) (.pair (.own 136 ak) (.pair (.own 2 (.int .i64)) (.pair (.own 159 al) (.pair (.own 167 aj) an)))))),[],.unit⟩
def yo:aO:=⟨[0,2,3,4,6,7,8,9,10,11,13,14],(.pair (.box ah) (.pair (.box ac) (.pair (.own 136 ak) (.pair (.own 2 (.int .i64)) (.pair (.own 159 al) (.pair (.own 167 aj) (.pair (.int .i64) (.pair (.int .i64) (.pair (.box al) (.pair (.own 2 (.int .i64)) an)))))))))),6,[0,2,3,4,6,7,8,9,10,11,13],(.pair (.box ah) (.pair (.box ac) (.pair (.own 136 ak) (.pair (.own 2 (.int .i64)) (.pair (.own 159 al) (.pair (.own 167 aj) (.pair (.int .i64) (.pair (.int .i64) (.pair (.box al) (.pair (.own 2 (.int .i64)) (.pair (.int .i64) .unit))))))))))),[],.unit⟩
noncomputable def lX:List ay:=[yk.spec dD,yl.spec fC,yn.spec fD,yo.spec eu]
theorem HB:bc V0 E1 lW (ba Tryz.f184 lX) Tryz.f184 0 yk dD:=fun x=>by kernel_rfl
theorem HD:bc V0 E1 lW (ba Tryz.f184 lX) Tryz.f184 1 yl fC:=fun x=>by kernel_rfl
theorem HE:bc V0 E1 lW (ba Tryz.f184 lX) Tryz.f184 2 yn fD:=fun x=>by kernel_rfl
theorem HF:bc V0 E1 lW (ba Tryz.f184 lX) Tryz.f184 3 yo eu:=fun x=>by kernel_rfl
theorem P4:FnOK G0 Tryz.prog 184 Gj:=aH aaJ LO Tryz.func184 lX (by kernel_rfl) (by exact⟨(HB).lok,(HD).lok,(HE).lok,(HF).lok,trivial⟩) fun x=>by kernel_rfl
noncomputable def pA(x:Ty.T (.pair (.box ah) .unit)):Option (Ty.T (.pair (.own 136 ak) (.pair (.box ah) .unit))):=
match rv ((x.1.1,x.1.2.1,x.1.2.2.1,()),())with
|none=>none
|some v1=>
match ai ((v1.2.1.1,v1.2.1.2.1,v1.2.1.2.2.1,()),(v1.1.length:Int),())with
|none=>none
|some v2=>
match ai ((v2.2.1.1,v2.2.1.2.1,v2.2.1.2.2.1,()),(24:Int),())with
|none=>none
|some v3=>
match(v3.1==(0:Int))with
|true=>
 match ai ((v3.2.1.1,v3.2.1.2.1,v3.2.1.2.2.1,()),(3:Int),())with
 |none=>none
 |some v4=>
 aa (aq [(-1:Int),(31:Int),(32:Int)] v4.1) fun _=>
 match [(-1:Int),(31:Int),(32:Int)][v4.1.toNat]? with
 |none=>none
 |some v6=>
 aa (aq v1.1 v2.1) fun _=>
 match v1.1[v2.1.toNat]? with
 |none=>none
 |some v8=>
 some ((v1.1.set v2.1.toNat (v6,v8.2.1,v8.2.2.1,v8.2.2.2.1,())),(v4.2.1.1,v4.2.1.2.1,v4.2.1.2.2.1,()),())
|false=>
 match(v3.1==(1:Int))with
 |true=>
  match ai ((v3.2.1.1,v3.2.1.2.1,v3.2.1.2.2.1,()),(5:Int),())with
  |none=>none
  |some v9=>
  aa (aq [[],([115,101,118,101,110,110,55]:List UInt8),([115,105,120,120,120,54]:List UInt8),([78,49]:List UInt8),([110,48]:List UInt8)] v9.1) fun _=>
  match [[],([115,101,118,101,110,110,55]:List UInt8),([115,105,120,120,120,54]:List UInt8),([78,49]:List UInt8),([110,48]:List UInt8)][v9.1.toNat]? with
  |none=>none
  |some v11=>
  aa (aq v1.1 v2.1) fun _=>
  match v1.1[v2.1.toNat]? with
  |none=>none
  |some v13=>
  some ((v1.1.set v2.1.toNat (v13.1,v11,v13.2.2.1,v13.2.2.2.1,())),(v9.2.1.1,v9.2.1.2.1,v9.2.1.2.2.1,()),())
 |false=>
  match(v3.1==(2:Int))with
  |true=>
   match ai ((v3.2.1.1,v3.2.1.2.1,v3.2.1.2.2.1,()),(3:Int),())with
   |none=>none
   |some v14=>
   aa (aq [(-1:Int),(1000:Int),(1001:Int)] v14.1) fun _=>
   match [(-1:Int),(1000:Int),(1001:Int)][v14.1.toNat]? with
   |none=>none
   |some v16=>
   aa (aq v1.1 v2.1) fun _=>
   match v1.1[v2.1.toNat]? with
   |none=>none
   |some v18=>
   some ((v1.1.set v2.1.toNat (v18.1,v18.2.1,v16,v18.2.2.2.1,())),(v14.2.1.1,v14.2.1.2.1,v14.2.1.2.2.1,()),())
  |false=>
   match(v3.1==(3:Int))with
   |true=>
    aa (aq v1.1 v2.1) fun _=>
    match v1.1[v2.1.toNat]? with
    |none=>none
    |some v20=>
    aA (v1.1.length+ [v20].length) (
     some ((v1.1++ [v20]),(v3.2.1.1,v3.2.1.2.1,v3.2.1.2.2.1,()),()))
   |false=>
    match(v3.1==(4:Int))with
    |true=>
     some ([],(v3.2.1.1,v3.2.1.2.1,v3.2.1.2.2.1,()),())
    |false=>
     some (v1.1,(v3.2.1.1,v3.2.1.2.1,v3.2.1.2.2.1,()),())
noncomputable def yp:Spec:=⟨_,(.pair (.own 136 ak) .unit),(.pair (.box ah) .unit),rfl,pA⟩
theorem Jr:FnOK G0 Tryz.prog 185 yp:=ap ao (sg bR (sg Dc (aJ))) Tryz.func185
noncomputable def gg(x:(Ty.T (.pair (.box ah) (.pair (.own 159 (.pair (.int .i64) (.pair (.int .i64) (.pair (.own 2 (.int .i64)) .unit)))) (.pair (.int .i64) (.pair (.int .i64) (.pair (.own 2 (.int .i64)) (.pair (.int .i64) .unit)))))))):Option ((Ty.T (.pair (.box ah) (.pair (.own 159 (.pair (.int .i64) (.pair (.int .i64) (.pair (.own 2 (.int .i64)) .unit)))) (.pair (.int .i64) (.pair (.int .i64) (.pair (.own 2 (.int .i64)) (.pair (.int .i64) .unit))))))) ⊕ ((Ty.T (.pair (.box ah) (.pair (.own 159 (.pair (.int .i64) (.pair (.int .i64) (.pair (.own 2 (.int .i64)) .unit)))) (.pair (.int .i64) (.pair (.int .i64) (.pair (.own 2 (.int .i64)) .unit)))))) ⊕ (Ty.T .unit))):=
match(decide (x.2.2.2.2.2.1<x.2.2.1))with
|true=>
 match(x.2.2.2.2.2.1 != x.2.2.2.1)with
 |true=>
  match ai ((x.1.1,x.1.2.1,x.1.2.2.1,()),(2:Int),())with
  |none=>none
  |some v2=>
  match(v2.1==(0:Int))with
  |true=>
   aA (x.2.2.2.2.1.length+ [x.2.2.2.2.2.1].length) (
    some (.inl ((v2.2.1.1,v2.2.1.2.1,v2.2.1.2.2.1,()),x.2.1,x.2.2.1,x.2.2.2.1,(x.2.2.2.2.1++ [x.2.2.2.2.2.1]),(IntKind.i64.wrap (x.2.2.2.2.2.1+(1:Int))),())))
  |false=>
   some (.inl ((v2.2.1.1,v2.2.1.2.1,v2.2.1.2.2.1,()),x.2.1,x.2.2.1,x.2.2.2.1,x.2.2.2.2.1,(IntKind.i64.wrap (x.2.2.2.2.2.1+(1:Int))),()))
 |false=>
  some (.inl ((x.1.1,x.1.2.1,x.1.2.2.1,()),x.2.1,x.2.2.1,x.2.2.2.1,x.2.2.2.2.1,(IntKind.i64.wrap (x.2.2.2.2.2.1+(1:Int))),()))
|false=>
 some (.inr (.inl ((x.1.1,x.1.2.1,x.1.2.2.1,()),x.2.1,x.2.2.1,x.2.2.2.1,x.2.2.2.2.1,())))
noncomputable def jr(x:(Ty.T (.pair (.box ah) (.pair (.own 159 (.pair (.int .i64) (.pair (.int .i64) (.pair (.own 2 (.int .i64)) .unit)))) an)))):Option ((Ty.T (.pair (.box ah) (.pair (.own 159 (.pair (.int .i64) (.pair (.int .i64) (.pair (.own 2 (.int .i64)) .unit)))) an))) ⊕ ((Ty.T (.pair (.box ah) (.pair (.own 159 (.pair (.int .i64) (.pair (.int .i64) (.pair (.own 2 (.int .i64)) .unit)))) .unit))) ⊕ (Ty.T .unit))):=
match(decide (x.2.2.2.1<x.2.2.1))with
|true=>
 match ag gg ((x.1.1,x.1.2.1,x.1.2.2.1,()),x.2.1,x.2.2.1,x.2.2.2.1,[],(0:Int),())with
 |none=>none
 |some (.inl v2)=>
  match ai ((v2.1.1,v2.1.2.1,v2.1.2.2.1,()),(3:Int),())with
  |none=>none
  |some v4=>
  match ai ((v4.2.1.1,v4.2.1.2.1,v4.2.1.2.2.1,()),(4:Int),())with
  |none=>none
  |some v5=>
  aA (v2.2.1.length+ [((IntKind.i64.wrap ((1:Int)+v4.1)),(IntKind.i64.wrap ((1:Int)+v5.1)),v2.2.2.2.2.1,())].length) (
   some (.inl ((v5.2.1.1,v5.2.1.2.1,v5.2.1.2.2.1,()),(v2.2.1++ [((IntKind.i64.wrap ((1:Int)+v4.1)),(IntKind.i64.wrap ((1:Int)+v5.1)),v2.2.2.2.2.1,())]),v2.2.2.1,(IntKind.i64.wrap (v2.2.2.2.1+(1:Int))),())))
 |some (.inr v6)=>
  some (.inr (.inr (())))
|false=>
 some (.inr (.inl ((x.1.1,x.1.2.1,x.1.2.2.1,()),x.2.1,())))
noncomputable def wu(x:Ty.T (.pair (.box ah) .unit)):Option (Ty.T (.pair (.own 159 (.pair (.int .i64) (.pair (.int .i64) (.pair (.own 2 (.int .i64)) .unit)))) (.pair (.box ah) .unit))):=
match ai ((x.1.1,x.1.2.1,x.1.2.2.1,()),(4:Int),())with
|none=>none
|some v1=>
match ag jr ((v1.2.1.1,v1.2.1.2.1,v1.2.1.2.2.1,()),[],(IntKind.i64.wrap ((1:Int)+v1.1)),(0:Int),())with
|none=>none
|some (.inl v7)=>
 some (v7.2.1,(v7.1.1,v7.1.2.1,v7.1.2.2.1,()),())
|some (.inr v9)=>
 none
noncomputable def Sf:Spec:=⟨_,(.pair (.own 159 (.pair (.int .i64) (.pair (.int .i64) (.pair (.own 2 (.int .i64)) .unit)))) .unit),(.pair (.box ah) .unit),rfl,wu⟩
noncomputable def uE:FuncId→Option Spec:=bh [(52,iC)]
theorem LP:∀f s,uE f=some s→FnOK G0 Tryz.prog f s:=aF ⟨bR,trivial⟩
def A8:aO:=⟨[0,3,4,5],(.pair (.box ah) (.pair (.own 159 (.pair (.int .i64) (.pair (.int .i64) (.pair (.own 2 (.int .i64)) .unit)))) an)),0,[0,3],(.pair (.box ah) (.pair (.own 159 (.pair (.int .i64) (.pair (.int .i64) (.pair (.own 2 (.int .i64)) .unit)))) .unit)),[],.unit⟩
def A9:aO:=⟨[0,3,4,5,6,7],(.pair (.box ah) (.pair (.own 159 (.pair (.int .i64) (.pair (.int .i64) (.pair (.own 2 (.int .i64)) .unit)))) (.pair (.int .i64) (.pair (.int .i64) (.pair (.own 2 (.int .i64)) (.pair (.int .i64) .unit)))))),2,[0,3,4,5,6],(.pair (.box ah) (.pair (.own 159 (.pair (.int .i64) (.pair (.int .i64) (.pair (.own 2 (.int .i64)) .unit)))) (.pair (.int .i64) (.pair (.int .i64) (.pair (.own 2 (.int .i64)) .unit))))),[],.unit⟩
noncomputable def uF:List ay:=[A8.spec jr,A9.spec gg]
theorem Js:bc Zv E2 uE (ba Tryz.f239 uF) Tryz.f239 0 A8 jr:=fun x=>by kernel_rfl
theorem Jt:bc Zv E2 uE (ba Tryz.f239 uF) Tryz.f239 1 A9 gg:=fun x=>by kernel_rfl
theorem P5:FnOK G0 Tryz.prog 239 Sf:=aH Zw LP Tryz.func239 uF (by kernel_rfl) (by exact⟨(Js).lok,(Jt).lok,trivial⟩) fun x=>by kernel_rfl
noncomputable def pB(x:Ty.T (.pair (.box ah) .unit)):Option (Ty.T (.pair (.own 159 (.pair (.int .i64) (.pair (.int .i64) (.pair (.own 2 (.int .i64)) .unit)))) (.pair (.box ah) .unit))):=
match wu ((x.1.1,x.1.2.1,x.1.2.2.1,()),())with
|none=>none
|some v1=>
match ai ((v1.2.1.1,v1.2.1.2.1,v1.2.1.2.2.1,()),(v1.1.length:Int),())with
|none=>none
|some v2=>
match ai ((v2.2.1.1,v2.2.1.2.1,v2.2.1.2.2.1,()),(24:Int),())with
|none=>none
|some v3=>
match(v3.1==(0:Int))with
|true=>
 match ai ((v3.2.1.1,v3.2.1.2.1,v3.2.1.2.2.1,()),(3:Int),())with
 |none=>none
 |some v4=>
 aa (aq [(0:Int),(8:Int),(9:Int)] v4.1) fun _=>
 match [(0:Int),(8:Int),(9:Int)][v4.1.toNat]? with
 |none=>none
 |some v6=>
 aa (aq v1.1 v2.1) fun _=>
 match v1.1[v2.1.toNat]? with
 |none=>none
 |some v8=>
 some ((v1.1.set v2.1.toNat (v6,v8.2)),(v4.2.1.1,v4.2.1.2.1,v4.2.1.2.2.1,()),())
|false=>
 match(v3.1==(1:Int))with
 |true=>
  match ai ((v3.2.1.1,v3.2.1.2.1,v3.2.1.2.2.1,()),(3:Int),())with
  |none=>none
  |some v9=>
  aa (aq [(0:Int),(16:Int),(17:Int)] v9.1) fun _=>
  match [(0:Int),(16:Int),(17:Int)][v9.1.toNat]? with
  |none=>none
  |some v11=>
  aa (aq v1.1 v2.1) fun _=>
  match v1.1[v2.1.toNat]? with
  |none=>none
  |some v13=>
  some ((v1.1.set v2.1.toNat (v13.1,(v11,v13.2.2))),(v9.2.1.1,v9.2.1.2.1,v9.2.1.2.2.1,()),())
 |false=>
  match(v3.1==(2:Int))with
  |true=>
   aa (aq v1.1 v2.1) fun _=>
   aQ (
    match v1.1[v2.1.toNat]? with
    |none=>none
    |some v15=>
    aQ (
     aI (
      match ai ((v3.2.1.1,v3.2.1.2.1,v3.2.1.2.2.1,()),(3:Int),())with
      |none=>none
      |some v16=>
      aa (aq [v2.1,(v1.1.length:Int),(0:Int)] v16.1) fun _=>
      match [v2.1,(v1.1.length:Int),(0:Int)][v16.1.toNat]? with
      |none=>none
      |some v18=>
      aA (v15.2.2.1.length+ [v18].length) (
       aa (aq v1.1 v2.1) fun _=>
       if v2.1.toNat=v2.1.toNat then
        some ((v1.1.set v2.1.toNat (v15.1,(v15.2.1,((v15.2.2.1++ [v18]),v15.2.2.2)))),(v16.2.1.1,v16.2.1.2.1,v16.2.1.2.2.1,()),())
       else none))) (
     match ai ((v3.2.1.1,v3.2.1.2.1,v3.2.1.2.2.1,()),(3:Int),())with
     |none=>none
     |some v16=>
     aa (aq [v2.1,(v1.1.length:Int),(0:Int)] v16.1) fun _=>
     match [v2.1,(v1.1.length:Int),(0:Int)][v16.1.toNat]? with
     |none=>none
     |some v18=>
     aA (v15.2.2.1.length+ [v18].length) (
      aa (aq v1.1 v2.1) fun _=>
      if v2.1.toNat=v2.1.toNat then
       some ((v1.1.set v2.1.toNat (v15.1,(v15.2.1,((v15.2.2.1++ [v18]),v15.2.2.2)))),(v16.2.1.1,v16.2.1.2.1,v16.2.1.2.2.1,()),())
      else none))) (
    aQ (
     aQ (
      match v1.1[v2.1.toNat]? with
      |none=>none
      |some v15=>
      aI (
       match ai ((v3.2.1.1,v3.2.1.2.1,v3.2.1.2.2.1,()),(3:Int),())with
       |none=>none
       |some v16=>
       aa (aq [v2.1,(v1.1.length:Int),(0:Int)] v16.1) fun _=>
       match [v2.1,(v1.1.length:Int),(0:Int)][v16.1.toNat]? with
       |none=>none
       |some v18=>
       aA (v15.2.2.1.length+ [v18].length) (
        aa (aq v1.1 v2.1) fun _=>
        if v2.1.toNat=v2.1.toNat then
         some ((v1.1.set v2.1.toNat (v15.1,(v15.2.1,((v15.2.2.1++ [v18]),v15.2.2.2)))),(v16.2.1.1,v16.2.1.2.1,v16.2.1.2.2.1,()),())
        else none))) (
      aQ (
       aQ (
        match v1.1[v2.1.toNat]? with
        |none=>none
        |some v15=>
        match ai ((v3.2.1.1,v3.2.1.2.1,v3.2.1.2.2.1,()),(3:Int),())with
        |none=>none
        |some v16=>
        aa (aq [v2.1,(v1.1.length:Int),(0:Int)] v16.1) fun _=>
        match [v2.1,(v1.1.length:Int),(0:Int)][v16.1.toNat]? with
        |none=>none
        |some v18=>
        aA (v15.2.2.1.length+ [v18].length) (
         aa (aq v1.1 v2.1) fun _=>
         if v2.1.toNat=v2.1.toNat then
          some ((v1.1.set v2.1.toNat (v15.1,(v15.2.1,((v15.2.2.1++ [v18]),v15.2.2.2)))),(v16.2.1.1,v16.2.1.2.1,v16.2.1.2.2.1,()),())
         else none)) (
        match ai ((v3.2.1.1,v3.2.1.2.1,v3.2.1.2.2.1,()),(3:Int),())with
        |none=>none
        |some v15=>
        aa (aq [v2.1,(v1.1.length:Int),(0:Int)] v15.1) fun _=>
        aQ (
         match v1.1[v2.1.toNat]? with
         |none=>none
         |some v17=>
         match [v2.1,(v1.1.length:Int),(0:Int)][v15.1.toNat]? with
         |none=>none
         |some v18=>
         aA (v17.2.2.1.length+ [v18].length) (
          aa (aq v1.1 v2.1) fun _=>
          if v2.1.toNat=v2.1.toNat then
           some ((v1.1.set v2.1.toNat (v17.1,(v17.2.1,((v17.2.2.1++ [v18]),v17.2.2.2)))),(v15.2.1.1,v15.2.1.2.1,v15.2.1.2.2.1,()),())
          else none)) (
         match [v2.1,(v1.1.length:Int),(0:Int)][v15.1.toNat]? with
         |none=>none
         |some v17=>
         aI (
          match v1.1[v2.1.toNat]? with
          |none=>none
          |some v18=>
          aA (v18.2.2.1.length+ [v17].length) (
           aa (aq v1.1 v2.1) fun _=>
           if v2.1.toNat=v2.1.toNat then
            some ((v1.1.set v2.1.toNat (v18.1,(v18.2.1,((v18.2.2.1++ [v17]),v18.2.2.2)))),(v15.2.1.1,v15.2.1.2.1,v15.2.1.2.2.1,()),())
           else none))))) (
       match ai ((v3.2.1.1,v3.2.1.2.1,v3.2.1.2.2.1,()),(3:Int),())with
       |none=>none
       |some v15=>
       aQ (
        match v1.1[v2.1.toNat]? with
        |none=>none
        |some v16=>
        aa (aq [v2.1,(v1.1.length:Int),(0:Int)] v15.1) fun _=>
        match [v2.1,(v1.1.length:Int),(0:Int)][v15.1.toNat]? with
        |none=>none
        |some v18=>
        aA (v16.2.2.1.length+ [v18].length) (
         aa (aq v1.1 v2.1) fun _=>
         if v2.1.toNat=v2.1.toNat then
          some ((v1.1.set v2.1.toNat (v16.1,(v16.2.1,((v16.2.2.1++ [v18]),v16.2.2.2)))),(v15.2.1.1,v15.2.1.2.1,v15.2.1.2.2.1,()),())
         else none)) (
        aa (aq [v2.1,(v1.1.length:Int),(0:Int)] v15.1) fun _=>
        aQ (
         match v1.1[v2.1.toNat]? with
         |none=>none
         |some v17=>
         match [v2.1,(v1.1.length:Int),(0:Int)][v15.1.toNat]? with
         |none=>none
         |some v18=>
         aA (v17.2.2.1.length+ [v18].length) (
          aa (aq v1.1 v2.1) fun _=>
          if v2.1.toNat=v2.1.toNat then
           some ((v1.1.set v2.1.toNat (v17.1,(v17.2.1,((v17.2.2.1++ [v18]),v17.2.2.2)))),(v15.2.1.1,v15.2.1.2.1,v15.2.1.2.2.1,()),())
          else none)) (
         match [v2.1,(v1.1.length:Int),(0:Int)][v15.1.toNat]? with
         |none=>none
         |some v17=>
         aI (
          match v1.1[v2.1.toNat]? with
          |none=>none
          |some v18=>
          aA (v18.2.2.1.length+ [v17].length) (
           aa (aq v1.1 v2.1) fun _=>
           if v2.1.toNat=v2.1.toNat then
            some ((v1.1.set v2.1.toNat (v18.1,(v18.2.1,((v18.2.2.1++ [v17]),v18.2.2.2)))),(v15.2.1.1,v15.2.1.2.1,v15.2.1.2.2.1,()),())
           else none))))))) (
     match ai ((v3.2.1.1,v3.2.1.2.1,v3.2.1.2.2.1,()),(3:Int),())with
     |none=>none
     |some v15=>
     aQ (
      match v1.1[v2.1.toNat]? with
      |none=>none
      |some v16=>
      aa (aq [v2.1,(v1.1.length:Int),(0:Int)] v15.1) fun _=>
      match [v2.1,(v1.1.length:Int),(0:Int)][v15.1.toNat]? with
      |none=>none
      |some v18=>
      aA (v16.2.2.1.length+ [v18].length) (
       aa (aq v1.1 v2.1) fun _=>
       if v2.1.toNat=v2.1.toNat then
        some ((v1.1.set v2.1.toNat (v16.1,(v16.2.1,((v16.2.2.1++ [v18]),v16.2.2.2)))),(v15.2.1.1,v15.2.1.2.1,v15.2.1.2.2.1,()),())
       else none)) (
      aQ (
       match v1.1[v2.1.toNat]? with
       |none=>none
       |some v16=>
       aa (aq [v2.1,(v1.1.length:Int),(0:Int)] v15.1) fun _=>
       match [v2.1,(v1.1.length:Int),(0:Int)][v15.1.toNat]? with
       |none=>none
       |some v18=>
       aA (v16.2.2.1.length+ [v18].length) (
        aa (aq v1.1 v2.1) fun _=>
        if v2.1.toNat=v2.1.toNat then
         some ((v1.1.set v2.1.toNat (v16.1,(v16.2.1,((v16.2.2.1++ [v18]),v16.2.2.2)))),(v15.2.1.1,v15.2.1.2.1,v15.2.1.2.2.1,()),())
        else none)) (
       aa (aq [v2.1,(v1.1.length:Int),(0:Int)] v15.1) fun _=>
       aQ (
        match v1.1[v2.1.toNat]? with
        |none=>none
        |some v17=>
        match [v2.1,(v1.1.length:Int),(0:Int)][v15.1.toNat]? with
        |none=>none
        |some v18=>
        aA (v17.2.2.1.length+ [v18].length) (
         aa (aq v1.1 v2.1) fun _=>
         if v2.1.toNat=v2.1.toNat then
          some ((v1.1.set v2.1.toNat (v17.1,(v17.2.1,((v17.2.2.1++ [v18]),v17.2.2.2)))),(v15.2.1.1,v15.2.1.2.1,v15.2.1.2.2.1,()),())
         else none)) (
        match [v2.1,(v1.1.length:Int),(0:Int)][v15.1.toNat]? with
        |none=>none
        |some v17=>
        aI (
         match v1.1[v2.1.toNat]? with
         |none=>none
         |some v18=>
         aA (v18.2.2.1.length+ [v17].length) (
          aa (aq v1.1 v2.1) fun _=>
          if v2.1.toNat=v2.1.toNat then
           some ((v1.1.set v2.1.toNat (v18.1,(v18.2.1,((v18.2.2.1++ [v17]),v18.2.2.2)))),(v15.2.1.1,v15.2.1.2.1,v15.2.1.2.2.1,()),())
          else none)))))))
  |false=>
   match(v3.1==(3:Int))with
   |true=>
    some ([],(v3.2.1.1,v3.2.1.2.1,v3.2.1.2.2.1,()),())
   |false=>
    match(v3.1==(4:Int))with
    |true=>
     if 0≤(17:Int)∧(17:Int)≤(17:Int)then
      aA ((17:Int).toNat) (
       some ((List.replicate (17:Int).toNat ((0:Int),(0:Int),[],())),(v3.2.1.1,v3.2.1.2.1,v3.2.1.2.2.1,()),()))
     else none
    |false=>
     some (v1.1,(v3.2.1.1,v3.2.1.2.1,v3.2.1.2.2.1,()),())
noncomputable def yq:Spec:=⟨_,(.pair (.own 159 (.pair (.int .i64) (.pair (.int .i64) (.pair (.own 2 (.int .i64)) .unit)))) .unit),(.pair (.box ah) .unit),rfl,pB⟩
theorem Ju:FnOK G0 Tryz.prog 186 yq:=ap Zw (sg bR (sg P5 (aJ))) Tryz.func186
noncomputable def pC(x:Ty.T (.pair (.box ah) .unit)):Option (Ty.T (.pair bf (.pair (.box ah) .unit))):=
match oU ((x.1.1,x.1.2.1,x.1.2.2.1,()),())with
|none=>none
|some v1=>
match ai ((v1.2.1.1,v1.2.1.2.1,v1.2.1.2.2.1,()),(30:Int),())with
|none=>none
|some v2=>
match(v2.1==(0:Int))with
|true=>
 match ai ((v2.2.1.1,v2.2.1.2.1,v2.2.1.2.2.1,()),(3:Int),())with
 |none=>none
 |some v3=>
 aa (aq [(-1:Int),(31:Int),(32:Int)] v3.1) fun _=>
 match [(-1:Int),(31:Int),(32:Int)][v3.1.toNat]? with
 |none=>none
 |some v5=>
 some ((v5,v1.1.2.1,v1.1.2.2.1,v1.1.2.2.2.1,v1.1.2.2.2.2.1,()),(v3.2.1.1,v3.2.1.2.1,v3.2.1.2.2.1,()),())
|false=>
 match(v2.1==(1:Int))with
 |true=>
  match ai ((v2.2.1.1,v2.2.1.2.1,v2.2.1.2.2.1,()),(6:Int),())with
  |none=>none
  |some v6=>
  some ((v1.1.1,(IntKind.i64.wrap (v6.1-(1:Int))),v1.1.2.2.1,v1.1.2.2.2.1,v1.1.2.2.2.2.1,()),(v6.2.1.1,v6.2.1.2.1,v6.2.1.2.2.1,()),())
 |false=>
  match(v2.1==(2:Int))with
  |true=>
   match ai ((v2.2.1.1,v2.2.1.2.1,v2.2.1.2.2.1,()),(4:Int),())with
   |none=>none
   |some v7=>
   aa (aq [(-1:Int),(0:Int),(32:Int),(33:Int)] v7.1) fun _=>
   match [(-1:Int),(0:Int),(32:Int),(33:Int)][v7.1.toNat]? with
   |none=>none
   |some v9=>
   some ((v1.1.1,v1.1.2.1,v9,v1.1.2.2.2.1,v1.1.2.2.2.2.1,()),(v7.2.1.1,v7.2.1.2.1,v7.2.1.2.2.1,()),())
  |false=>
   match(v2.1==(3:Int))with
   |true=>
    match dM (v1.1.2.1,v1.1.2.2.1,())with
    |none=>none
    |some v10=>
    match ai ((v2.2.1.1,v2.2.1.2.1,v2.2.1.2.2.1,()),(4:Int),())with
    |none=>none
    |some v11=>
    aa (aq [(0:Int),(IntKind.i64.wrap ((IntKind.i64.wrap (v10.1+(20:Int)))-(1:Int))),(1000:Int),(1001:Int)] v11.1) fun _=>
    match [(0:Int),(IntKind.i64.wrap ((IntKind.i64.wrap (v10.1+(20:Int)))-(1:Int))),(1000:Int),(1001:Int)][v11.1.toNat]? with
    |none=>none
    |some v13=>
    some ((v1.1.1,v1.1.2.1,v1.1.2.2.1,v13,v1.1.2.2.2.2.1,()),(v11.2.1.1,v11.2.1.2.1,v11.2.1.2.2.1,()),())
   |false=>
    match(v2.1==(4:Int))with
    |true=>
     some ((v1.1.1,v1.1.2.1,v1.1.2.2.1,v1.1.2.2.2.1,(!v1.1.2.2.2.2.1),()),(v2.2.1.1,v2.2.1.2.1,v2.2.1.2.2.1,()),())
    |false=>
     some ((v1.1.1,v1.1.2.1,v1.1.2.2.1,v1.1.2.2.2.1,v1.1.2.2.2.2.1,()),(v2.2.1.1,v2.2.1.2.1,v2.2.1.2.2.1,()),())
noncomputable def yt:Spec:=⟨_,(.pair bf .unit),(.pair (.box ah) .unit),rfl,pC⟩
theorem Jv:FnOK G0 Tryz.prog 187 yt:=ap ao (sg bR (sg Dd (sg sA (aJ)))) Tryz.func187
noncomputable def dH(x:(Ty.T (.pair (.box ah) (.pair (.box ac) (.pair (.box (.pair (.int .i64) (.pair (.own 136 ak) (.pair (.own 159 al) (.pair (.own 167 aj) .unit))))) (.pair (.int .i64) .unit)))))):Option ((Ty.T (.pair (.box ah) (.pair (.box ac) (.pair (.box (.pair (.int .i64) (.pair (.own 136 ak) (.pair (.own 159 al) (.pair (.own 167 aj) .unit))))) (.pair (.int .i64) .unit))))) ⊕ ((Ty.T (.pair (.box ah) (.pair (.box ac) (.pair (.box (.pair (.int .i64) (.pair (.own 136 ak) (.pair (.own 159 al) (.pair (.own 167 aj) .unit))))) .unit)))) ⊕ (Ty.T .unit))):=
match(decide (x.2.2.2.1<(x.2.2.1.2.2.2.1.length:Int)))with
|true=>
 aa (aq x.2.2.1.2.2.2.1 x.2.2.2.1) fun _=>
 match x.2.2.1.2.2.2.1[x.2.2.2.1.toNat]? with
 |none=>none
 |some v27=>
 some (.inl ((x.1.1,x.1.2.1,x.1.2.2.1,()),(x.2.1.1,x.2.1.2.1,x.2.1.2.2.1,x.2.1.2.2.2.1,()),(x.2.2.1.1,x.2.2.1.2.1,x.2.2.1.2.2.1,(x.2.2.1.2.2.2.1.set x.2.2.2.1.toNat (v27.1,v27.2.1,v27.2.2.1,(v27.2.2.2.1.1,v27.2.2.2.1.2.1,v27.2.2.2.1.2.2.1,(1000:Int),v27.2.2.2.1.2.2.2.2.1,()),())),()),(IntKind.i64.wrap (x.2.2.2.1+(1:Int))),()))
|false=>
 some (.inr (.inl ((x.1.1,x.1.2.1,x.1.2.2.1,()),(x.2.1.1,x.2.1.2.1,x.2.1.2.2.1,x.2.1.2.2.2.1,()),(x.2.2.1.1,x.2.2.1.2.1,x.2.2.1.2.2.1,x.2.2.1.2.2.2.1,()),())))
noncomputable def cz(x:(Ty.T (.pair (.box ah) (.pair (.box ac) (.pair (.box (.pair (.int .i64) (.pair (.own 136 ak) (.pair (.own 159 al) (.pair (.list aj) .unit))))) (.pair (.own 167 aj) (.pair (.int .i64) .unit))))))):Option ((Ty.T (.pair (.box ah) (.pair (.box ac) (.pair (.box (.pair (.int .i64) (.pair (.own 136 ak) (.pair (.own 159 al) (.pair (.list aj) .unit))))) (.pair (.own 167 aj) (.pair (.int .i64) .unit)))))) ⊕ ((Ty.T (.pair (.box ah) (.pair (.box ac) (.pair (.box (.pair (.int .i64) (.pair (.own 136 ak) (.pair (.own 159 al) (.pair (.list aj) .unit))))) (.pair (.own 167 aj) .unit))))) ⊕ (Ty.T .unit))):=
aa (aq x.2.2.1.2.2.1 (0:Int)) fun _=>
match x.2.2.1.2.2.1[(0:Int).toNat]? with
|none=>none
|some v33=>
aa (aq x.2.2.1.2.2.1 (0:Int)) fun _=>
match x.2.2.1.2.2.1[(0:Int).toNat]? with
|none=>none
|some v35=>
match(decide (x.2.2.2.2.1<(IntKind.i64.wrap (v33.1*v35.2.1))))with
|true=>
 aQ (
  aa (aq x.2.2.1.2.2.1 (0:Int)) fun _=>
  aQ (
   match x.2.2.1.2.2.1[(0:Int).toNat]? with
   |none=>none
   |some v37=>
   if v37.2.1=0 then none else
   aQ (
    aa (aq x.2.2.1.2.2.1 (0:Int)) fun _=>
    aI (
     match x.2.2.1.2.2.1[(0:Int).toNat]? with
     |none=>none
     |some v39=>
     if v39.2.1=0 then none else
     aA (x.2.2.2.1.length+ [((0:Int),(IntKind.i64.wrap (Int.tdiv x.2.2.2.2.1 v37.2.1)),(Int.tmod x.2.2.2.2.1 v39.2.1),((0:Int),(1:Int),(0:Int),(1000:Int),false,()),())].length) (
      some (.inl ((x.1.1,x.1.2.1,x.1.2.2.1,()),(x.2.1.1,x.2.1.2.1,x.2.1.2.2.1,x.2.1.2.2.2.1,()),(x.2.2.1.1,x.2.2.1.2.1,x.2.2.1.2.2.1,x.2.2.1.2.2.2.1,()),(x.2.2.2.1++ [((0:Int),(IntKind.i64.wrap (Int.tdiv x.2.2.2.2.1 v37.2.1)),(Int.tmod x.2.2.2.2.1 v39.2.1),((0:Int),(1:Int),(0:Int),(1000:Int),false,()),())]),(IntKind.i64.wrap (x.2.2.2.2.1+(1:Int))),()))))) (
    aa (aq x.2.2.1.2.2.1 (0:Int)) fun _=>
    match x.2.2.1.2.2.1[(0:Int).toNat]? with
    |none=>none
    |some v39=>
    if v39.2.1=0 then none else
    aA (x.2.2.2.1.length+ [((0:Int),(IntKind.i64.wrap (Int.tdiv x.2.2.2.2.1 v37.2.1)),(Int.tmod x.2.2.2.2.1 v39.2.1),((0:Int),(1:Int),(0:Int),(1000:Int),false,()),())].length) (
     some (.inl ((x.1.1,x.1.2.1,x.1.2.2.1,()),(x.2.1.1,x.2.1.2.1,x.2.1.2.2.1,x.2.1.2.2.2.1,()),(x.2.2.1.1,x.2.2.1.2.1,x.2.2.1.2.2.1,x.2.2.1.2.2.2.1,()),(x.2.2.2.1++ [((0:Int),(IntKind.i64.wrap (Int.tdiv x.2.2.2.2.1 v37.2.1)),(Int.tmod x.2.2.2.2.1 v39.2.1),((0:Int),(1:Int),(0:Int),(1000:Int),false,()),())]),(IntKind.i64.wrap (x.2.2.2.2.1+(1:Int))),()))))) (
   aQ (
    aa (aq x.2.2.1.2.2.1 (0:Int)) fun _=>
    aQ (
     match x.2.2.1.2.2.1[(0:Int).toNat]? with
     |none=>none
     |some v38=>
     if v38.2.1=0 then none else
     aI (
      match x.2.2.1.2.2.1[(0:Int).toNat]? with
      |none=>none
      |some v39=>
      if v39.2.1=0 then none else
      aA (x.2.2.2.1.length+ [((0:Int),(IntKind.i64.wrap (Int.tdiv x.2.2.2.2.1 v38.2.1)),(Int.tmod x.2.2.2.2.1 v39.2.1),((0:Int),(1:Int),(0:Int),(1000:Int),false,()),())].length) (
       some (.inl ((x.1.1,x.1.2.1,x.1.2.2.1,()),(x.2.1.1,x.2.1.2.1,x.2.1.2.2.1,x.2.1.2.2.2.1,()),(x.2.2.1.1,x.2.2.1.2.1,x.2.2.1.2.2.1,x.2.2.1.2.2.2.1,()),(x.2.2.2.1++ [((0:Int),(IntKind.i64.wrap (Int.tdiv x.2.2.2.2.1 v38.2.1)),(Int.tmod x.2.2.2.2.1 v39.2.1),((0:Int),(1:Int),(0:Int),(1000:Int),false,()),())]),(IntKind.i64.wrap (x.2.2.2.2.1+(1:Int))),()))))) (
     aQ (
      match x.2.2.1.2.2.1[(0:Int).toNat]? with
      |none=>none
      |some v38=>
      if v38.2.1=0 then none else
      aI (
       match x.2.2.1.2.2.1[(0:Int).toNat]? with
       |none=>none
       |some v39=>
       if v39.2.1=0 then none else
       aA (x.2.2.2.1.length+ [((0:Int),(IntKind.i64.wrap (Int.tdiv x.2.2.2.2.1 v39.2.1)),(Int.tmod x.2.2.2.2.1 v38.2.1),((0:Int),(1:Int),(0:Int),(1000:Int),false,()),())].length) (
        some (.inl ((x.1.1,x.1.2.1,x.1.2.2.1,()),(x.2.1.1,x.2.1.2.1,x.2.1.2.2.1,x.2.1.2.2.2.1,()),(x.2.2.1.1,x.2.2.1.2.1,x.2.2.1.2.2.1,x.2.2.1.2.2.2.1,()),(x.2.2.2.1++ [((0:Int),(IntKind.i64.wrap (Int.tdiv x.2.2.2.2.1 v39.2.1)),(Int.tmod x.2.2.2.2.1 v38.2.1),((0:Int),(1:Int),(0:Int),(1000:Int),false,()),())]),(IntKind.i64.wrap (x.2.2.2.2.1+(1:Int))),()))))) (
      aQ (
       match x.2.2.1.2.2.1[(0:Int).toNat]? with
       |none=>none
       |some v38=>
       if v38.2.1=0 then none else
       match x.2.2.1.2.2.1[(0:Int).toNat]? with
       |none=>none
       |some v39=>
       if v39.2.1=0 then none else
       aA (x.2.2.2.1.length+ [((0:Int),(IntKind.i64.wrap (Int.tdiv x.2.2.2.2.1 v38.2.1)),(Int.tmod x.2.2.2.2.1 v39.2.1),((0:Int),(1:Int),(0:Int),(1000:Int),false,()),())].length) (
        some (.inl ((x.1.1,x.1.2.1,x.1.2.2.1,()),(x.2.1.1,x.2.1.2.1,x.2.1.2.2.1,x.2.1.2.2.2.1,()),(x.2.2.1.1,x.2.2.1.2.1,x.2.2.1.2.2.1,x.2.2.1.2.2.2.1,()),(x.2.2.2.1++ [((0:Int),(IntKind.i64.wrap (Int.tdiv x.2.2.2.2.1 v38.2.1)),(Int.tmod x.2.2.2.2.1 v39.2.1),((0:Int),(1:Int),(0:Int),(1000:Int),false,()),())]),(IntKind.i64.wrap (x.2.2.2.2.1+(1:Int))),())))) (
       match x.2.2.1.2.2.1[(0:Int).toNat]? with
       |none=>none
       |some v38=>
       if v38.2.1=0 then none else
       match x.2.2.1.2.2.1[(0:Int).toNat]? with
       |none=>none
       |some v39=>
       if v39.2.1=0 then none else
       aA (x.2.2.2.1.length+ [((0:Int),(IntKind.i64.wrap (Int.tdiv x.2.2.2.2.1 v39.2.1)),(Int.tmod x.2.2.2.2.1 v38.2.1),((0:Int),(1:Int),(0:Int),(1000:Int),false,()),())].length) (
        some (.inl ((x.1.1,x.1.2.1,x.1.2.2.1,()),(x.2.1.1,x.2.1.2.1,x.2.1.2.2.1,x.2.1.2.2.2.1,()),(x.2.2.1.1,x.2.2.1.2.1,x.2.2.1.2.2.1,x.2.2.1.2.2.2.1,()),(x.2.2.2.1++ [((0:Int),(IntKind.i64.wrap (Int.tdiv x.2.2.2.2.1 v39.2.1)),(Int.tmod x.2.2.2.2.1 v38.2.1),((0:Int),(1:Int),(0:Int),(1000:Int),false,()),())]),(IntKind.i64.wrap (x.2.2.2.2.1+(1:Int))),()))))))) (
    aQ (
     match x.2.2.1.2.2.1[(0:Int).toNat]? with
     |none=>none
     |some v37=>
     if v37.2.1=0 then none else
     aa (aq x.2.2.1.2.2.1 (0:Int)) fun _=>
     match x.2.2.1.2.2.1[(0:Int).toNat]? with
     |none=>none
     |some v39=>
     if v39.2.1=0 then none else
     aA (x.2.2.2.1.length+ [((0:Int),(IntKind.i64.wrap (Int.tdiv x.2.2.2.2.1 v37.2.1)),(Int.tmod x.2.2.2.2.1 v39.2.1),((0:Int),(1:Int),(0:Int),(1000:Int),false,()),())].length) (
      some (.inl ((x.1.1,x.1.2.1,x.1.2.2.1,()),(x.2.1.1,x.2.1.2.1,x.2.1.2.2.1,x.2.1.2.2.2.1,()),(x.2.2.1.1,x.2.2.1.2.1,x.2.2.1.2.2.1,x.2.2.1.2.2.2.1,()),(x.2.2.2.1++ [((0:Int),(IntKind.i64.wrap (Int.tdiv x.2.2.2.2.1 v37.2.1)),(Int.tmod x.2.2.2.2.1 v39.2.1),((0:Int),(1:Int),(0:Int),(1000:Int),false,()),())]),(IntKind.i64.wrap (x.2.2.2.2.1+(1:Int))),())))) (
     aa (aq x.2.2.1.2.2.1 (0:Int)) fun _=>
     aQ (
      match x.2.2.1.2.2.1[(0:Int).toNat]? with
      |none=>none
      |some v38=>
      if v38.2.1=0 then none else
      match x.2.2.1.2.2.1[(0:Int).toNat]? with
      |none=>none
      |some v39=>
      if v39.2.1=0 then none else
      aA (x.2.2.2.1.length+ [((0:Int),(IntKind.i64.wrap (Int.tdiv x.2.2.2.2.1 v38.2.1)),(Int.tmod x.2.2.2.2.1 v39.2.1),((0:Int),(1:Int),(0:Int),(1000:Int),false,()),())].length) (
       some (.inl ((x.1.1,x.1.2.1,x.1.2.2.1,()),(x.2.1.1,x.2.1.2.1,x.2.1.2.2.1,x.2.1.2.2.2.1,()),(x.2.2.1.1,x.2.2.1.2.1,x.2.2.1.2.2.1,x.2.2.1.2.2.2.1,()),(x.2.2.2.1++ [((0:Int),(IntKind.i64.wrap (Int.tdiv x.2.2.2.2.1 v38.2.1)),(Int.tmod x.2.2.2.2.1 v39.2.1),((0:Int),(1:Int),(0:Int),(1000:Int),false,()),())]),(IntKind.i64.wrap (x.2.2.2.2.1+(1:Int))),())))) (
      match x.2.2.1.2.2.1[(0:Int).toNat]? with
      |none=>none
      |some v38=>
      if v38.2.1=0 then none else
      match x.2.2.1.2.2.1[(0:Int).toNat]? with
      |none=>none
      |some v39=>
      if v39.2.1=0 then none else
      aA (x.2.2.2.1.length+ [((0:Int),(IntKind.i64.wrap (Int.tdiv x.2.2.2.2.1 v39.2.1)),(Int.tmod x.2.2.2.2.1 v38.2.1),((0:Int),(1:Int),(0:Int),(1000:Int),false,()),())].length) (
       some (.inl ((x.1.1,x.1.2.1,x.1.2.2.1,()),(x.2.1.1,x.2.1.2.1,x.2.1.2.2.1,x.2.1.2.2.2.1,()),(x.2.2.1.1,x.2.2.1.2.1,x.2.2.1.2.2.1,x.2.2.1.2.2.2.1,()),(x.2.2.2.1++ [((0:Int),(IntKind.i64.wrap (Int.tdiv x.2.2.2.2.1 v39.2.1)),(Int.tmod x.2.2.2.2.1 v38.2.1),((0:Int),(1:Int),(0:Int),(1000:Int),false,()),())]),(IntKind.i64.wrap (x.2.2.2.2.1+(1:Int))),())))))))) (
  aQ (
   aa (aq x.2.2.1.2.2.1 (0:Int)) fun _=>
   aQ (
    aa (aq x.2.2.1.2.2.1 (0:Int)) fun _=>
    aQ (
     match x.2.2.1.2.2.1[(0:Int).toNat]? with
     |none=>none
     |some v38=>
     if v38.2.1=0 then none else
     aI (
      match x.2.2.1.2.2.1[(0:Int).toNat]? with
      |none=>none
      |some v39=>
      if v39.2.1=0 then none else
      aA (x.2.2.2.1.length+ [((0:Int),(IntKind.i64.wrap (Int.tdiv x.2.2.2.2.1 v38.2.1)),(Int.tmod x.2.2.2.2.1 v39.2.1),((0:Int),(1:Int),(0:Int),(1000:Int),false,()),())].length) (
       some (.inl ((x.1.1,x.1.2.1,x.1.2.2.1,()),(x.2.1.1,x.2.1.2.1,x.2.1.2.2.1,x.2.1.2.2.2.1,()),(x.2.2.1.1,x.2.2.1.2.1,x.2.2.1.2.2.1,x.2.2.1.2.2.2.1,()),(x.2.2.2.1++ [((0:Int),(IntKind.i64.wrap (Int.tdiv x.2.2.2.2.1 v38.2.1)),(Int.tmod x.2.2.2.2.1 v39.2.1),((0:Int),(1:Int),(0:Int),(1000:Int),false,()),())]),(IntKind.i64.wrap (x.2.2.2.2.1+(1:Int))),()))))) (
     aQ (
      match x.2.2.1.2.2.1[(0:Int).toNat]? with
      |none=>none
      |some v38=>
      if v38.2.1=0 then none else
      aI (
       match x.2.2.1.2.2.1[(0:Int).toNat]? with
       |none=>none
       |some v39=>
       if v39.2.1=0 then none else
       aA (x.2.2.2.1.length+ [((0:Int),(IntKind.i64.wrap (Int.tdiv x.2.2.2.2.1 v39.2.1)),(Int.tmod x.2.2.2.2.1 v38.2.1),((0:Int),(1:Int),(0:Int),(1000:Int),false,()),())].length) (
        some (.inl ((x.1.1,x.1.2.1,x.1.2.2.1,()),(x.2.1.1,x.2.1.2.1,x.2.1.2.2.1,x.2.1.2.2.2.1,()),(x.2.2.1.1,x.2.2.1.2.1,x.2.2.1.2.2.1,x.2.2.1.2.2.2.1,()),(x.2.2.2.1++ [((0:Int),(IntKind.i64.wrap (Int.tdiv x.2.2.2.2.1 v39.2.1)),(Int.tmod x.2.2.2.2.1 v38.2.1),((0:Int),(1:Int),(0:Int),(1000:Int),false,()),())]),(IntKind.i64.wrap (x.2.2.2.2.1+(1:Int))),()))))) (
      aQ (
       match x.2.2.1.2.2.1[(0:Int).toNat]? with
       |none=>none
       |some v38=>
       if v38.2.1=0 then none else
       match x.2.2.1.2.2.1[(0:Int).toNat]? with
       |none=>none
       |some v39=>
       if v39.2.1=0 then none else
       aA (x.2.2.2.1.length+ [((0:Int),(IntKind.i64.wrap (Int.tdiv x.2.2.2.2.1 v38.2.1)),(Int.tmod x.2.2.2.2.1 v39.2.1),((0:Int),(1:Int),(0:Int),(1000:Int),false,()),())].length) (
        some (.inl ((x.1.1,x.1.2.1,x.1.2.2.1,()),(x.2.1.1,x.2.1.2.1,x.2.1.2.2.1,x.2.1.2.2.2.1,()),(x.2.2.1.1,x.2.2.1.2.1,x.2.2.1.2.2.1,x.2.2.1.2.2.2.1,()),(x.2.2.2.1++ [((0:Int),(IntKind.i64.wrap (Int.tdiv x.2.2.2.2.1 v38.2.1)),(Int.tmod x.2.2.2.2.1 v39.2.1),((0:Int),(1:Int),(0:Int),(1000:Int),false,()),())]),(IntKind.i64.wrap (x.2.2.2.2.1+(1:Int))),())))) (
       match x.2.2.1.2.2.1[(0:Int).toNat]? with
       |none=>none
       |some v38=>
       if v38.2.1=0 then none else
       match x.2.2.1.2.2.1[(0:Int).toNat]? with
       |none=>none
       |some v39=>
       if v39.2.1=0 then none else
       aA (x.2.2.2.1.length+ [((0:Int),(IntKind.i64.wrap (Int.tdiv x.2.2.2.2.1 v39.2.1)),(Int.tmod x.2.2.2.2.1 v38.2.1),((0:Int),(1:Int),(0:Int),(1000:Int),false,()),())].length) (
        some (.inl ((x.1.1,x.1.2.1,x.1.2.2.1,()),(x.2.1.1,x.2.1.2.1,x.2.1.2.2.1,x.2.1.2.2.2.1,()),(x.2.2.1.1,x.2.2.1.2.1,x.2.2.1.2.2.1,x.2.2.1.2.2.2.1,()),(x.2.2.2.1++ [((0:Int),(IntKind.i64.wrap (Int.tdiv x.2.2.2.2.1 v39.2.1)),(Int.tmod x.2.2.2.2.1 v38.2.1),((0:Int),(1:Int),(0:Int),(1000:Int),false,()),())]),(IntKind.i64.wrap (x.2.2.2.2.1+(1:Int))),()))))))) (
    aQ (
     match x.2.2.1.2.2.1[(0:Int).toNat]? with
     |none=>none
     |some v37=>
     if v37.2.1=0 then none else
     aQ (
      aa (aq x.2.2.1.2.2.1 (0:Int)) fun _=>
      aI (
       match x.2.2.1.2.2.1[(0:Int).toNat]? with
       |none=>none
       |some v39=>
       if v39.2.1=0 then none else
       aA (x.2.2.2.1.length+ [((0:Int),(IntKind.i64.wrap (Int.tdiv x.2.2.2.2.1 v39.2.1)),(Int.tmod x.2.2.2.2.1 v37.2.1),((0:Int),(1:Int),(0:Int),(1000:Int),false,()),())].length) (
        some (.inl ((x.1.1,x.1.2.1,x.1.2.2.1,()),(x.2.1.1,x.2.1.2.1,x.2.1.2.2.1,x.2.1.2.2.2.1,()),(x.2.2.1.1,x.2.2.1.2.1,x.2.2.1.2.2.1,x.2.2.1.2.2.2.1,()),(x.2.2.2.1++ [((0:Int),(IntKind.i64.wrap (Int.tdiv x.2.2.2.2.1 v39.2.1)),(Int.tmod x.2.2.2.2.1 v37.2.1),((0:Int),(1:Int),(0:Int),(1000:Int),false,()),())]),(IntKind.i64.wrap (x.2.2.2.2.1+(1:Int))),()))))) (
      aa (aq x.2.2.1.2.2.1 (0:Int)) fun _=>
      match x.2.2.1.2.2.1[(0:Int).toNat]? with
      |none=>none
      |some v39=>
      if v39.2.1=0 then none else
      aA (x.2.2.2.1.length+ [((0:Int),(IntKind.i64.wrap (Int.tdiv x.2.2.2.2.1 v39.2.1)),(Int.tmod x.2.2.2.2.1 v37.2.1),((0:Int),(1:Int),(0:Int),(1000:Int),false,()),())].length) (
       some (.inl ((x.1.1,x.1.2.1,x.1.2.2.1,()),(x.2.1.1,x.2.1.2.1,x.2.1.2.2.1,x.2.1.2.2.2.1,()),(x.2.2.1.1,x.2.2.1.2.1,x.2.2.1.2.2.1,x.2.2.1.2.2.2.1,()),(x.2.2.2.1++ [((0:Int),(IntKind.i64.wrap (Int.tdiv x.2.2.2.2.1 v39.2.1)),(Int.tmod x.2.2.2.2.1 v37.2.1),((0:Int),(1:Int),(0:Int),(1000:Int),false,()),())]),(IntKind.i64.wrap (x.2.2.2.2.1+(1:Int))),()))))) (
     aQ (
      aa (aq x.2.2.1.2.2.1 (0:Int)) fun _=>
      aQ (
       match x.2.2.1.2.2.1[(0:Int).toNat]? with
       |none=>none
       |some v38=>
       if v38.2.1=0 then none else
       match x.2.2.1.2.2.1[(0:Int).toNat]? with
       |none=>none
       |some v39=>
       if v39.2.1=0 then none else
       aA (x.2.2.2.1.length+ [((0:Int),(IntKind.i64.wrap (Int.tdiv x.2.2.2.2.1 v38.2.1)),(Int.tmod x.2.2.2.2.1 v39.2.1),((0:Int),(1:Int),(0:Int),(1000:Int),false,()),())].length) (
        some (.inl ((x.1.1,x.1.2.1,x.1.2.2.1,()),(x.2.1.1,x.2.1.2.1,x.2.1.2.2.1,x.2.1.2.2.2.1,()),(x.2.2.1.1,x.2.2.1.2.1,x.2.2.1.2.2.1,x.2.2.1.2.2.2.1,()),(x.2.2.2.1++ [((0:Int),(IntKind.i64.wrap (Int.tdiv x.2.2.2.2.1 v38.2.1)),(Int.tmod x.2.2.2.2.1 v39.2.1),((0:Int),(1:Int),(0:Int),(1000:Int),false,()),())]),(IntKind.i64.wrap (x.2.2.2.2.1+(1:Int))),())))) (
       match x.2.2.1.2.2.1[(0:Int).toNat]? with
       |none=>none
       |some v38=>
       if v38.2.1=0 then none else
       match x.2.2.1.2.2.1[(0:Int).toNat]? with
       |none=>none
       |some v39=>
       if v39.2.1=0 then none else
       aA (x.2.2.2.1.length+ [((0:Int),(IntKind.i64.wrap (Int.tdiv x.2.2.2.2.1 v39.2.1)),(Int.tmod x.2.2.2.2.1 v38.2.1),((0:Int),(1:Int),(0:Int),(1000:Int),false,()),())].length) (
        some (.inl ((x.1.1,x.1.2.1,x.1.2.2.1,()),(x.2.1.1,x.2.1.2.1,x.2.1.2.2.1,x.2.1.2.2.2.1,()),(x.2.2.1.1,x.2.2.1.2.1,x.2.2.1.2.2.1,x.2.2.1.2.2.2.1,()),(x.2.2.2.1++ [((0:Int),(IntKind.i64.wrap (Int.tdiv x.2.2.2.2.1 v39.2.1)),(Int.tmod x.2.2.2.2.1 v38.2.1),((0:Int),(1:Int),(0:Int),(1000:Int),false,()),())]),(IntKind.i64.wrap (x.2.2.2.2.1+(1:Int))),()))))) (
      match x.2.2.1.2.2.1[(0:Int).toNat]? with
      |none=>none
      |some v37=>
      if v37.2.1=0 then none else
      aa (aq x.2.2.1.2.2.1 (0:Int)) fun _=>
      match x.2.2.1.2.2.1[(0:Int).toNat]? with
      |none=>none
      |some v39=>
      if v39.2.1=0 then none else
      aA (x.2.2.2.1.length+ [((0:Int),(IntKind.i64.wrap (Int.tdiv x.2.2.2.2.1 v39.2.1)),(Int.tmod x.2.2.2.2.1 v37.2.1),((0:Int),(1:Int),(0:Int),(1000:Int),false,()),())].length) (
       some (.inl ((x.1.1,x.1.2.1,x.1.2.2.1,()),(x.2.1.1,x.2.1.2.1,x.2.1.2.2.1,x.2.1.2.2.2.1,()),(x.2.2.1.1,x.2.2.1.2.1,x.2.2.1.2.2.1,x.2.2.1.2.2.2.1,()),(x.2.2.2.1++ [((0:Int),(IntKind.i64.wrap (Int.tdiv x.2.2.2.2.1 v39.2.1)),(Int.tmod x.2.2.2.2.1 v37.2.1),((0:Int),(1:Int),(0:Int),(1000:Int),false,()),())]),(IntKind.i64.wrap (x.2.2.2.2.1+(1:Int))),()))))))) (
   aQ (
    aa (aq x.2.2.1.2.2.1 (0:Int)) fun _=>
    aQ (
     match x.2.2.1.2.2.1[(0:Int).toNat]? with
     |none=>none
     |some v37=>
     if v37.2.1=0 then none else
     aa (aq x.2.2.1.2.2.1 (0:Int)) fun _=>
     match x.2.2.1.2.2.1[(0:Int).toNat]? with
     |none=>none
     |some v39=>
     if v39.2.1=0 then none else
     aA (x.2.2.2.1.length+ [((0:Int),(IntKind.i64.wrap (Int.tdiv x.2.2.2.2.1 v37.2.1)),(Int.tmod x.2.2.2.2.1 v39.2.1),((0:Int),(1:Int),(0:Int),(1000:Int),false,()),())].length) (
      some (.inl ((x.1.1,x.1.2.1,x.1.2.2.1,()),(x.2.1.1,x.2.1.2.1,x.2.1.2.2.1,x.2.1.2.2.2.1,()),(x.2.2.1.1,x.2.2.1.2.1,x.2.2.1.2.2.1,x.2.2.1.2.2.2.1,()),(x.2.2.2.1++ [((0:Int),(IntKind.i64.wrap (Int.tdiv x.2.2.2.2.1 v37.2.1)),(Int.tmod x.2.2.2.2.1 v39.2.1),((0:Int),(1:Int),(0:Int),(1000:Int),false,()),())]),(IntKind.i64.wrap (x.2.2.2.2.1+(1:Int))),())))) (
     aa (aq x.2.2.1.2.2.1 (0:Int)) fun _=>
     aQ (
      match x.2.2.1.2.2.1[(0:Int).toNat]? with
      |none=>none
      |some v38=>
      if v38.2.1=0 then none else
      match x.2.2.1.2.2.1[(0:Int).toNat]? with
      |none=>none
      |some v39=>
      if v39.2.1=0 then none else
      aA (x.2.2.2.1.length+ [((0:Int),(IntKind.i64.wrap (Int.tdiv x.2.2.2.2.1 v38.2.1)),(Int.tmod x.2.2.2.2.1 v39.2.1),((0:Int),(1:Int),(0:Int),(1000:Int),false,()),())].length) (
       some (.inl ((x.1.1,x.1.2.1,x.1.2.2.1,()),(x.2.1.1,x.2.1.2.1,x.2.1.2.2.1,x.2.1.2.2.2.1,()),(x.2.2.1.1,x.2.2.1.2.1,x.2.2.1.2.2.1,x.2.2.1.2.2.2.1,()),(x.2.2.2.1++ [((0:Int),(IntKind.i64.wrap (Int.tdiv x.2.2.2.2.1 v38.2.1)),(Int.tmod x.2.2.2.2.1 v39.2.1),((0:Int),(1:Int),(0:Int),(1000:Int),false,()),())]),(IntKind.i64.wrap (x.2.2.2.2.1+(1:Int))),())))) (
      match x.2.2.1.2.2.1[(0:Int).toNat]? with
      |none=>none
      |some v38=>
      if v38.2.1=0 then none else
      match x.2.2.1.2.2.1[(0:Int).toNat]? with
      |none=>none
      |some v39=>
      if v39.2.1=0 then none else
      aA (x.2.2.2.1.length+ [((0:Int),(IntKind.i64.wrap (Int.tdiv x.2.2.2.2.1 v39.2.1)),(Int.tmod x.2.2.2.2.1 v38.2.1),((0:Int),(1:Int),(0:Int),(1000:Int),false,()),())].length) (
       some (.inl ((x.1.1,x.1.2.1,x.1.2.2.1,()),(x.2.1.1,x.2.1.2.1,x.2.1.2.2.1,x.2.1.2.2.2.1,()),(x.2.2.1.1,x.2.2.1.2.1,x.2.2.1.2.2.1,x.2.2.1.2.2.2.1,()),(x.2.2.2.1++ [((0:Int),(IntKind.i64.wrap (Int.tdiv x.2.2.2.2.1 v39.2.1)),(Int.tmod x.2.2.2.2.1 v38.2.1),((0:Int),(1:Int),(0:Int),(1000:Int),false,()),())]),(IntKind.i64.wrap (x.2.2.2.2.1+(1:Int))),())))))) (
    aa (aq x.2.2.1.2.2.1 (0:Int)) fun _=>
    aQ (
     aa (aq x.2.2.1.2.2.1 (0:Int)) fun _=>
     aQ (
      match x.2.2.1.2.2.1[(0:Int).toNat]? with
      |none=>none
      |some v38=>
      if v38.2.1=0 then none else
      match x.2.2.1.2.2.1[(0:Int).toNat]? with
      |none=>none
      |some v39=>
      if v39.2.1=0 then none else
      aA (x.2.2.2.1.length+ [((0:Int),(IntKind.i64.wrap (Int.tdiv x.2.2.2.2.1 v38.2.1)),(Int.tmod x.2.2.2.2.1 v39.2.1),((0:Int),(1:Int),(0:Int),(1000:Int),false,()),())].length) (
       some (.inl ((x.1.1,x.1.2.1,x.1.2.2.1,()),(x.2.1.1,x.2.1.2.1,x.2.1.2.2.1,x.2.1.2.2.2.1,()),(x.2.2.1.1,x.2.2.1.2.1,x.2.2.1.2.2.1,x.2.2.1.2.2.2.1,()),(x.2.2.2.1++ [((0:Int),(IntKind.i64.wrap (Int.tdiv x.2.2.2.2.1 v38.2.1)),(Int.tmod x.2.2.2.2.1 v39.2.1),((0:Int),(1:Int),(0:Int),(1000:Int),false,()),())]),(IntKind.i64.wrap (x.2.2.2.2.1+(1:Int))),())))) (
      match x.2.2.1.2.2.1[(0:Int).toNat]? with
      |none=>none
      |some v38=>
      if v38.2.1=0 then none else
      match x.2.2.1.2.2.1[(0:Int).toNat]? with
      |none=>none
      |some v39=>
      if v39.2.1=0 then none else
      aA (x.2.2.2.1.length+ [((0:Int),(IntKind.i64.wrap (Int.tdiv x.2.2.2.2.1 v39.2.1)),(Int.tmod x.2.2.2.2.1 v38.2.1),((0:Int),(1:Int),(0:Int),(1000:Int),false,()),())].length) (
       some (.inl ((x.1.1,x.1.2.1,x.1.2.2.1,()),(x.2.1.1,x.2.1.2.1,x.2.1.2.2.1,x.2.1.2.2.2.1,()),(x.2.2.1.1,x.2.2.1.2.1,x.2.2.1.2.2.1,x.2.2.1.2.2.2.1,()),(x.2.2.2.1++ [((0:Int),(IntKind.i64.wrap (Int.tdiv x.2.2.2.2.1 v39.2.1)),(Int.tmod x.2.2.2.2.1 v38.2.1),((0:Int),(1:Int),(0:Int),(1000:Int),false,()),())]),(IntKind.i64.wrap (x.2.2.2.2.1+(1:Int))),()))))) (
     match x.2.2.1.2.2.1[(0:Int).toNat]? with
     |none=>none
     |some v37=>
     if v37.2.1=0 then none else
     aa (aq x.2.2.1.2.2.1 (0:Int)) fun _=>
     match x.2.2.1.2.2.1[(0:Int).toNat]? with
     |none=>none
     |some v39=>
     if v39.2.1=0 then none else
     aA (x.2.2.2.1.length+ [((0:Int),(IntKind.i64.wrap (Int.tdiv x.2.2.2.2.1 v39.2.1)),(Int.tmod x.2.2.2.2.1 v37.2.1),((0:Int),(1:Int),(0:Int),(1000:Int),false,()),())].length) (
      some (.inl ((x.1.1,x.1.2.1,x.1.2.2.1,()),(x.2.1.1,x.2.1.2.1,x.2.1.2.2.1,x.2.1.2.2.2.1,()),(x.2.2.1.1,x.2.2.1.2.1,x.2.2.1.2.2.1,x.2.2.1.2.2.2.1,()),(x.2.2.2.1++ [((0:Int),(IntKind.i64.wrap (Int.tdiv x.2.2.2.2.1 v39.2.1)),(Int.tmod x.2.2.2.2.1 v37.2.1),((0:Int),(1:Int),(0:Int),(1000:Int),false,()),())]),(IntKind.i64.wrap (x.2.2.2.2.1+(1:Int))),())))))))
|false=>
 some (.inr (.inl ((x.1.1,x.1.2.1,x.1.2.2.1,()),(x.2.1.1,x.2.1.2.1,x.2.1.2.2.1,x.2.1.2.2.2.1,()),(x.2.2.1.1,x.2.2.1.2.1,x.2.2.1.2.2.1,x.2.2.1.2.2.2.1,()),x.2.2.2.1,())))
noncomputable def lY(x:Ty.T (.pair (.box ah) .unit)):Option (Ty.T (.pair ac (.pair (.box ah) .unit))):=
match wt ((x.1.1,x.1.2.1,x.1.2.2.1,()),())with
|none=>none
|some v1=>
match ai ((v1.2.1.1,v1.2.1.2.1,v1.2.1.2.2.1,()),(v1.1.2.2.2.1.length:Int),())with
|none=>none
|some v2=>
match ai ((v2.2.1.1,v2.2.1.2.1,v2.2.1.2.2.1,()),(30:Int),())with
|none=>none
|some v3=>
match(v3.1==(0:Int))with
|true=>
 match ai ((v3.2.1.1,v3.2.1.2.1,v3.2.1.2.2.1,()),(3:Int),())with
 |none=>none
 |some v4=>
 aa (aq [(0:Int),(16777215:Int),(16777216:Int)] v4.1) fun _=>
 match [(0:Int),(16777215:Int),(16777216:Int)][v4.1.toNat]? with
 |none=>none
 |some v6=>
 some ((v6,v1.1.2.1,v1.1.2.2.1,v1.1.2.2.2.1,()),(v4.2.1.1,v4.2.1.2.1,v4.2.1.2.2.1,()),())
|false=>
 match(v3.1==(1:Int))with
 |true=>
  match pA ((v3.2.1.1,v3.2.1.2.1,v3.2.1.2.2.1,()),())with
  |none=>none
  |some v7=>
  some ((v1.1.1,v7.1,v1.1.2.2.1,v1.1.2.2.2.1,()),(v7.2.1.1,v7.2.1.2.1,v7.2.1.2.2.1,()),())
 |false=>
  match(v3.1==(2:Int))with
  |true=>
   match pB ((v3.2.1.1,v3.2.1.2.1,v3.2.1.2.2.1,()),())with
   |none=>none
   |some v8=>
   some ((v1.1.1,v1.1.2.1,v8.1,v1.1.2.2.2.1,()),(v8.2.1.1,v8.2.1.2.1,v8.2.1.2.2.1,()),())
  |false=>
   match(v3.1==(3:Int))with
   |true=>
    aa (aL v1.1.2.2.2.1.length (some (.dat (.int .i64) (1:Int))) none) fun v9=>
    some ((v1.1.1,v1.1.2.1,v1.1.2.2.1,(List.drop v9.1 (List.take v9.2 v1.1.2.2.2.1)),()),(v3.2.1.1,v3.2.1.2.1,v3.2.1.2.2.1,()),())
   |false=>
    match(v3.1==(4:Int))with
    |true=>
     aI (
      match pC ((v3.2.1.1,v3.2.1.2.1,v3.2.1.2.2.1,()),())with
      |none=>none
      |some v10=>
      aa (aq v1.1.2.2.2.1 v2.1) fun _=>
      match v1.1.2.2.2.1[v2.1.toNat]? with
      |none=>none
      |some v12=>
      some ((v1.1.1,v1.1.2.1,v1.1.2.2.1,(v1.1.2.2.2.1.set v2.1.toNat (v12.1,v12.2.1,v12.2.2.1,(v10.1.1,v10.1.2.1,v10.1.2.2.1,v10.1.2.2.2.1,v10.1.2.2.2.2.1,()),())),()),(v10.2.1.1,v10.2.1.2.1,v10.2.1.2.2.1,()),()))
    |false=>
     match(v3.1==(5:Int))with
     |true=>
      aQ (
       aa (aq v1.1.2.2.2.1 v2.1) fun _=>
       match v1.1.2.2.2.1[v2.1.toNat]? with
       |none=>none
       |some v14=>
       aa (aq v1.1.2.2.2.1 v2.1) fun _=>
       match v1.1.2.2.2.1[v2.1.toNat]? with
       |none=>none
       |some v16=>
       some ((v1.1.1,v1.1.2.1,v1.1.2.2.1,(v1.1.2.2.2.1.set v2.1.toNat (v16.1,v16.2.1,v16.2.2.1,(v16.2.2.2.1.1,v16.2.2.2.1.2.1,v16.2.2.2.1.2.2.1,(IntKind.i64.wrap (v14.2.2.2.1.2.2.2.1+(1:Int))),v16.2.2.2.1.2.2.2.2.1,()),())),()),(v3.2.1.1,v3.2.1.2.1,v3.2.1.2.2.1,()),())) (
       aa (aq v1.1.2.2.2.1 v2.1) fun _=>
       aI (
        match v1.1.2.2.2.1[v2.1.toNat]? with
        |none=>none
        |some v14=>
        aa (aq v1.1.2.2.2.1 v2.1) fun _=>
        match v1.1.2.2.2.1[v2.1.toNat]? with
        |none=>none
        |some v16=>
        some ((v1.1.1,v1.1.2.1,v1.1.2.2.1,(v1.1.2.2.2.1.set v2.1.toNat (v16.1,v16.2.1,v16.2.2.1,(v16.2.2.2.1.1,v16.2.2.2.1.2.1,v16.2.2.2.1.2.2.1,(IntKind.i64.wrap (v14.2.2.2.1.2.2.2.1+(1:Int))),v16.2.2.2.1.2.2.2.2.1,()),())),()),(v3.2.1.1,v3.2.1.2.1,v3.2.1.2.2.1,()),())))
     |false=>
      match(v3.1==(6:Int))with
      |true=>
       aI (
        match ai ((v3.2.1.1,v3.2.1.2.1,v3.2.1.2.2.1,()),(9:Int),())with
        |none=>none
        |some v17=>
        aa (aq v1.1.2.2.2.1 v2.1) fun _=>
        match v1.1.2.2.2.1[v2.1.toNat]? with
        |none=>none
        |some v19=>
        some ((v1.1.1,v1.1.2.1,v1.1.2.2.1,(v1.1.2.2.2.1.set v2.1.toNat (v19.1,v19.2.1,v19.2.2.1,(v17.1,v19.2.2.2.1.2.1,v19.2.2.2.1.2.2.1,v19.2.2.2.1.2.2.2.1,v19.2.2.2.1.2.2.2.2.1,()),())),()),(v17.2.1.1,v17.2.1.2.1,v17.2.1.2.2.1,()),()))
      |false=>
       match(v3.1==(7:Int))with
       |true=>
        aa (aq v1.1.2.2.2.1 v2.1) fun _=>
        match v1.1.2.2.2.1[v2.1.toNat]? with
        |none=>none
        |some v21=>
        aa (aq (v1.1.2.2.2.1.set v2.1.toNat (v21.1,v21.2.1,v21.2.2.1,(v21.2.2.2.1.1,(3:Int),v21.2.2.2.1.2.2.1,v21.2.2.2.1.2.2.2.1,v21.2.2.2.1.2.2.2.2.1,()),())) v2.1) fun _=>
        match(v1.1.2.2.2.1.set v2.1.toNat (v21.1,v21.2.1,v21.2.2.1,(v21.2.2.2.1.1,(3:Int),v21.2.2.2.1.2.2.1,v21.2.2.2.1.2.2.2.1,v21.2.2.2.1.2.2.2.2.1,()),()))[v2.1.toNat]? with
        |none=>none
        |some v23=>
        aa (aq ((v1.1.2.2.2.1.set v2.1.toNat (v21.1,v21.2.1,v21.2.2.1,(v21.2.2.2.1.1,(3:Int),v21.2.2.2.1.2.2.1,v21.2.2.2.1.2.2.2.1,v21.2.2.2.1.2.2.2.2.1,()),())).set v2.1.toNat (v23.1,v23.2.1,v23.2.2.1,(v23.2.2.2.1.1,v23.2.2.2.1.2.1,(0:Int),v23.2.2.2.1.2.2.2.1,v23.2.2.2.1.2.2.2.2.1,()),())) v2.1) fun _=>
        match((v1.1.2.2.2.1.set v2.1.toNat (v21.1,v21.2.1,v21.2.2.1,(v21.2.2.2.1.1,(3:Int),v21.2.2.2.1.2.2.1,v21.2.2.2.1.2.2.2.1,v21.2.2.2.1.2.2.2.2.1,()),())).set v2.1.toNat (v23.1,v23.2.1,v23.2.2.1,(v23.2.2.2.1.1,v23.2.2.2.1.2.1,(0:Int),v23.2.2.2.1.2.2.2.1,v23.2.2.2.1.2.2.2.2.1,()),()))[v2.1.toNat]? with
        |none=>none
        |some v25=>
        some ((v1.1.1,v1.1.2.1,v1.1.2.2.1,(((v1.1.2.2.2.1.set v2.1.toNat (v21.1,v21.2.1,v21.2.2.1,(v21.2.2.2.1.1,(3:Int),v21.2.2.2.1.2.2.1,v21.2.2.2.1.2.2.2.1,v21.2.2.2.1.2.2.2.2.1,()),())).set v2.1.toNat (v23.1,v23.2.1,v23.2.2.1,(v23.2.2.2.1.1,v23.2.2.2.1.2.1,(0:Int),v23.2.2.2.1.2.2.2.1,v23.2.2.2.1.2.2.2.2.1,()),())).set v2.1.toNat (v25.1,v25.2.1,v25.2.2.1,(v25.2.2.2.1.1,v25.2.2.2.1.2.1,v25.2.2.2.1.2.2.1,v25.2.2.2.1.2.2.2.1,false,()),())),()),(v3.2.1.1,v3.2.1.2.1,v3.2.1.2.2.1,()),())
       |false=>
        match(v3.1==(8:Int))with
        |true=>
         match ag dH ((v3.2.1.1,v3.2.1.2.1,v3.2.1.2.2.1,()),((0:Int),[],[],[],()),(v1.1.1,v1.1.2.1,v1.1.2.2.1,v1.1.2.2.2.1,()),(0:Int),())with
         |none=>none
         |some (.inl v28)=>
          match ai ((v28.1.1,v28.1.2.1,v28.1.2.2.1,()),(2:Int),())with
          |none=>none
          |some v30=>
          match(v30.1==(0:Int))with
          |true=>
           match ai ((v30.2.1.1,v30.2.1.2.1,v30.2.1.2.2.1,()),(2:Int),())with
           |none=>none
           |some v31=>
           match(v31.1==(0:Int))with
           |true=>
            match ag cz ((v31.2.1.1,v31.2.1.2.1,v31.2.1.2.2.1,()),(v28.2.1.1,v28.2.1.2.1,v28.2.1.2.2.1,v28.2.1.2.2.2.1,()),((3:Int),[((0:Int),([97]:List UInt8),(0:Int),false,())],[((3:Int),(11:Int),[],())],[],()),[],(0:Int),())with
            |none=>none
            |some (.inl v40)=>
             some ((v40.2.2.1.1,v40.2.2.1.2.1,v40.2.2.1.2.2.1,v40.2.2.2.1,()),(v40.1.1,v40.1.2.1,v40.1.2.2.1,()),())
            |some (.inr v42)=>
             none
           |false=>
            match ag cz ((v31.2.1.1,v31.2.1.2.1,v31.2.1.2.2.1,()),(v28.2.1.1,v28.2.1.2.1,v28.2.1.2.2.1,v28.2.1.2.2.2.1,()),((3:Int),[((0:Int),([97]:List UInt8),(0:Int),false,())],[((2:Int),(16:Int),[],())],[],()),[],(0:Int),())with
            |none=>none
            |some (.inl v43)=>
             some ((v43.2.2.1.1,v43.2.2.1.2.1,v43.2.2.1.2.2.1,v43.2.2.2.1,()),(v43.1.1,v43.1.2.1,v43.1.2.2.1,()),())
            |some (.inr v45)=>
             none
          |false=>
           some ((v28.2.2.1.1,v28.2.2.1.2.1,v28.2.2.1.2.2.1,v28.2.2.1.2.2.2.1,()),(v30.2.1.1,v30.2.1.2.1,v30.2.1.2.2.1,()),())
         |some (.inr v46)=>
          none
        |false=>
         some ((v1.1.1,v1.1.2.1,v1.1.2.2.1,v1.1.2.2.2.1,()),(v3.2.1.1,v3.2.1.2.1,v3.2.1.2.2.1,()),())
noncomputable def LQ:Spec:=⟨_,(.pair ac .unit),(.pair (.box ah) .unit),rfl,lY⟩
noncomputable def pD:FuncId→Option Spec:=bh [(52,iC),(184,Gj),(185,yp),(186,yq),(187,yt)]
theorem Fx:∀f s,pD f=some s→FnOK G0 Tryz.prog f s:=aF ⟨bR,P4,Jr,Ju,Jv,trivial⟩
def sS:aO:=⟨[0,2,3,5],(.pair (.box ah) (.pair (.box ac) (.pair (.box (.pair (.int .i64) (.pair (.own 136 ak) (.pair (.own 159 al) (.pair (.own 167 aj) .unit))))) (.pair (.int .i64) .unit)))),1,[0,2,3],(.pair (.box ah) (.pair (.box ac) (.pair (.box (.pair (.int .i64) (.pair (.own 136 ak) (.pair (.own 159 al) (.pair (.own 167 aj) .unit))))) .unit))),[],.unit⟩
def sU:aO:=⟨[0,2,3,6,7],(.pair (.box ah) (.pair (.box ac) (.pair (.box (.pair (.int .i64) (.pair (.own 136 ak) (.pair (.own 159 al) (.pair (.list aj) .unit))))) (.pair (.own 167 aj) (.pair (.int .i64) .unit))))),3,[0,2,3,6],(.pair (.box ah) (.pair (.box ac) (.pair (.box (.pair (.int .i64) (.pair (.own 136 ak) (.pair (.own 159 al) (.pair (.list aj) .unit))))) (.pair (.own 167 aj) .unit)))),[],.unit⟩
noncomputable def pE:List ay:=[sS.spec dH,sU.spec cz]
theorem Cg:bc bd E0 pD (ba Tryz.f123 pE) Tryz.f123 0 sS dH:=fun x=>by kernel_rfl
theorem Ci:bc bd E0 pD (ba Tryz.f123 pE) Tryz.f123 1 sU cz:=fun x=>by kernel_rfl
theorem Jw:FnOK G0 Tryz.prog 123 LQ:=aH ao Fx Tryz.func123 pE (by kernel_rfl) (by exact⟨(Cg).lok,(Ci).lok,trivial⟩) fun x=>by kernel_rfl
noncomputable def oV(x:Ty.T (.pair (.box ah) .unit)):Option (Ty.T (.pair ab (.pair (.box ah) .unit))):=
match ai ((x.1.1,x.1.2.1,x.1.2.2.1,()),(200:Int),())with
|none=>none
|some v1=>
match ai ((v1.2.1.1,v1.2.1.2.1,v1.2.1.2.2.1,()),(3:Int),())with
|none=>none
|some v2=>
match ai ((v2.2.1.1,v2.2.1.2.1,v2.2.1.2.2.1,()),(3:Int),())with
|none=>none
|some v3=>
match ai ((v3.2.1.1,v3.2.1.2.1,v3.2.1.2.2.1,()),(6:Int),())with
|none=>none
|some v4=>
match ai ((v4.2.1.1,v4.2.1.2.1,v4.2.1.2.2.1,()),(256:Int),())with
|none=>none
|some v5=>
match ai ((v5.2.1.1,v5.2.1.2.1,v5.2.1.2.2.1,()),(8:Int),())with
|none=>none
|some v6=>
match(v6.1==(0:Int))with
|true=>
 match ai ((v6.2.1.1,v6.2.1.2.1,v6.2.1.2.2.1,()),(9:Int),())with
 |none=>none
 |some v7=>
 match ai ((v7.2.1.1,v7.2.1.2.1,v7.2.1.2.2.1,()),(16:Int),())with
 |none=>none
 |some v8=>
 match ai ((v8.2.1.1,v8.2.1.2.1,v8.2.1.2.2.1,()),(16:Int),())with
 |none=>none
 |some v9=>
 match ai ((v9.2.1.1,v9.2.1.2.1,v9.2.1.2.2.1,()),(256:Int),())with
 |none=>none
 |some v10=>
 match ai ((v10.2.1.1,v10.2.1.2.1,v10.2.1.2.2.1,()),(99:Int),())with
 |none=>none
 |some v11=>
 some (((IntKind.i64.wrap ((65535:Int)-v7.1)),v8.1,v9.1,v10.1,(IntKind.i64.wrap ((4294967295:Int)-v11.1)),()),(v11.2.1.1,v11.2.1.2.1,v11.2.1.2.2.1,()),())
|false=>
 some ((v1.1,v2.1,v3.1,v4.1,v5.1,()),(v6.2.1.1,v6.2.1.2.1,v6.2.1.2.2.1,()),())
noncomputable def Sg:Spec:=⟨_,(.pair ab .unit),(.pair (.box ah) .unit),rfl,oV⟩
theorem P6:FnOK G0 Tryz.prog 96 Sg:=ap ao (sg bR (aJ)) Tryz.func96
noncomputable def iW(x:Ty.T (.pair (.box ah) .unit)):Option (Ty.T (.pair ab (.pair (.box ah) .unit))):=
match oV ((x.1.1,x.1.2.1,x.1.2.2.1,()),())with
|none=>none
|some v1=>
match ai ((v1.2.1.1,v1.2.1.2.1,v1.2.1.2.2.1,()),(30:Int),())with
|none=>none
|some v2=>
match(v2.1==(0:Int))with
|true=>
 match ai ((v2.2.1.1,v2.2.1.2.1,v2.2.1.2.2.1,()),(3:Int),())with
 |none=>none
 |some v3=>
 aa (aq [(-1:Int),(65535:Int),(65536:Int)] v3.1) fun _=>
 match [(-1:Int),(65535:Int),(65536:Int)][v3.1.toNat]? with
 |none=>none
 |some v5=>
 some ((v5,v1.1.2.1,v1.1.2.2.1,v1.1.2.2.2.1,v1.1.2.2.2.2.1,()),(v3.2.1.1,v3.2.1.2.1,v3.2.1.2.2.1,()),())
|false=>
 match(v2.1==(1:Int))with
 |true=>
  match ai ((v2.2.1.1,v2.2.1.2.1,v2.2.1.2.2.1,()),(2:Int),())with
  |none=>none
  |some v6=>
  aa (aq [(-1:Int),(16:Int)] v6.1) fun _=>
  match [(-1:Int),(16:Int)][v6.1.toNat]? with
  |none=>none
  |some v8=>
  some ((v1.1.1,v8,v1.1.2.2.1,v1.1.2.2.2.1,v1.1.2.2.2.2.1,()),(v6.2.1.1,v6.2.1.2.1,v6.2.1.2.2.1,()),())
 |false=>
  match(v2.1==(2:Int))with
  |true=>
   match ai ((v2.2.1.1,v2.2.1.2.1,v2.2.1.2.2.1,()),(2:Int),())with
   |none=>none
   |some v9=>
   aa (aq [(-1:Int),(16:Int)] v9.1) fun _=>
   match [(-1:Int),(16:Int)][v9.1.toNat]? with
   |none=>none
   |some v11=>
   some ((v1.1.1,v1.1.2.1,v11,v1.1.2.2.2.1,v1.1.2.2.2.2.1,()),(v9.2.1.1,v9.2.1.2.1,v9.2.1.2.2.1,()),())
  |false=>
   match(v2.1==(3:Int))with
   |true=>
    match ai ((v2.2.1.1,v2.2.1.2.1,v2.2.1.2.2.1,()),(2:Int),())with
    |none=>none
    |some v12=>
    aa (aq [(-1:Int),(256:Int)] v12.1) fun _=>
    match [(-1:Int),(256:Int)][v12.1.toNat]? with
    |none=>none
    |some v14=>
    some ((v1.1.1,v1.1.2.1,v1.1.2.2.1,v14,v1.1.2.2.2.2.1,()),(v12.2.1.1,v12.2.1.2.1,v12.2.1.2.2.1,()),())
   |false=>
    match(v2.1==(4:Int))with
    |true=>
     match ai ((v2.2.1.1,v2.2.1.2.1,v2.2.1.2.2.1,()),(2:Int),())with
     |none=>none
     |some v15=>
     aa (aq [(-1:Int),(4294967296:Int)] v15.1) fun _=>
     match [(-1:Int),(4294967296:Int)][v15.1.toNat]? with
     |none=>none
     |some v17=>
     some ((v1.1.1,v1.1.2.1,v1.1.2.2.1,v1.1.2.2.2.1,v17,()),(v15.2.1.1,v15.2.1.2.1,v15.2.1.2.2.1,()),())
    |false=>
     some ((v1.1.1,v1.1.2.1,v1.1.2.2.1,v1.1.2.2.2.1,v1.1.2.2.2.2.1,()),(v2.2.1.1,v2.2.1.2.1,v2.2.1.2.2.1,()),())
noncomputable def LR:Spec:=⟨_,(.pair ab .unit),(.pair (.box ah) .unit),rfl,iW⟩
theorem wv:FnOK G0 Tryz.prog 124 LR:=ap ao (sg bR (sg P6 (aJ))) Tryz.func124
noncomputable def rz(x:Ty.T (.pair (.int .i64) .unit)):Option (Ty.T (.pair .bool .unit)):=
match bp (x.1,(0:Int),(31:Int),())with
|none=>none
|some v1=>
some (v1.1,())
noncomputable def Si:Spec:=⟨_,(.pair .bool .unit),.unit,rfl,rz⟩
theorem De:FnOK G0 Tryz.prog 295 Si:=ap ao (sg cD (aJ)) Tryz.func295
noncomputable def ic(x:(Ty.T (.pair .str (.pair (.int .i64) .unit)))):Option ((Ty.T (.pair .str (.pair (.int .i64) .unit))) ⊕ ((Ty.T (.pair .str .unit)) ⊕ (Ty.T (.pair .bool .unit)))):=
match(decide (x.2.1<(x.1.length:Int)))with
|true=>
 aa (aq x.1 x.2.1) fun v1=>
 match(decide ((v1.toNat:Int)<(97:Int)))with
 |true=>
  aa (aq x.1 x.2.1) fun v2=>
  match(decide ((v2.toNat:Int)<(48:Int)))with
  |true=>
   some (.inr (.inr (false,())))
  |false=>
   aa (aq x.1 x.2.1) fun v3=>
   match(decide ((v3.toNat:Int)>(57:Int)))with
   |true=>
    some (.inr (.inr (false,())))
   |false=>
    some (.inl (x.1,(IntKind.i64.wrap (x.2.1+(1:Int))),()))
 |false=>
  aa (aq x.1 x.2.1) fun v4=>
  match(decide ((v4.toNat:Int)>(122:Int)))with
  |true=>
   aa (aq x.1 x.2.1) fun v5=>
   match(decide ((v5.toNat:Int)<(48:Int)))with
   |true=>
    some (.inr (.inr (false,())))
   |false=>
    aa (aq x.1 x.2.1) fun v6=>
    match(decide ((v6.toNat:Int)>(57:Int)))with
    |true=>
     some (.inr (.inr (false,())))
    |false=>
     some (.inl (x.1,(IntKind.i64.wrap (x.2.1+(1:Int))),()))
  |false=>
   some (.inl (x.1,(IntKind.i64.wrap (x.2.1+(1:Int))),()))
|false=>
 some (.inr (.inl (x.1,())))
noncomputable def ww(x:Ty.T (.pair .str .unit)):Option (Ty.T (.pair .bool .unit)):=
match ag ic (x.1,(0:Int),())with
|none=>none
|some (.inl v7)=>
 match(decide ((v7.1.length:Int)≥(1:Int)))with
 |true=>
  some ((decide ((v7.1.length:Int)≤(6:Int))),())
 |false=>
  some (false,())
|some (.inr v8)=>
 some (v8.1,())
noncomputable def Sj:Spec:=⟨_,(.pair .bool .unit),.unit,rfl,ww⟩
noncomputable def Df:FuncId→Option Spec:=bh []
theorem LS:∀f s,Df f=some s→FnOK G0 Tryz.prog f s:=aF trivial
def Ba:aO:=⟨[0,3],(.pair .str (.pair (.int .i64) .unit)),0,[0],(.pair .str .unit),[2],(.pair .bool .unit)⟩
noncomputable def Dg:List ay:=[Ba.spec ic]
theorem Jy:bc bd E0 Df (ba Tryz.f309 Dg) Tryz.f309 0 Ba ic:=fun x=>by kernel_rfl
theorem P7:FnOK G0 Tryz.prog 309 Sj:=aH ao LS Tryz.func309 Dg (by kernel_rfl) (by exact⟨(Jy).lok,trivial⟩) fun x=>by kernel_rfl
noncomputable def pF(x:Ty.T (.pair ak .unit)):Option (Ty.T (.pair .bool .unit)):=
match rz (x.1.1,())with
|none=>none
|some v1=>
match v1.1 with
|true=>
 match ww (x.1.2.1,())with
 |none=>none
 |some v2=>
 match v2.1 with
 |true=>
  match bp (x.1.2.2.1,(0:Int),(1000:Int),())with
  |none=>none
  |some v3=>
  some (v3.1,())
 |false=>
  some (false,())
|false=>
 some (false,())
noncomputable def yu:Spec:=⟨_,(.pair .bool .unit),.unit,rfl,pF⟩
theorem Jz:FnOK G0 Tryz.prog 283 yu:=ap ao (sg cD (sg De (sg P7 (aJ)))) Tryz.func283
noncomputable def cZ(x:(Ty.T (.pair (.list ak) an))):Option ((Ty.T (.pair (.list ak) an)) ⊕ ((Ty.T (.pair (.list ak) (.pair (.int .i64) .unit))) ⊕ (Ty.T (.pair .bool .unit)))):=
match(decide (x.2.2.1<x.2.1))with
|true=>
 aa (aq x.1 x.2.2.1) fun v6=>
 aa (aq x.1 x.2.1) fun v7=>
 match(v6.2.1==v7.2.1)with
 |true=>
  some (.inr (.inr (false,())))
 |false=>
  some (.inl (x.1,x.2.1,(IntKind.i64.wrap (x.2.2.1+(1:Int))),()))
|false=>
 some (.inr (.inl (x.1,x.2.1,())))
noncomputable def eJ(x:(Ty.T (.pair (.list ak) (.pair (.int .i64) .unit)))):Option ((Ty.T (.pair (.list ak) (.pair (.int .i64) .unit))) ⊕ ((Ty.T .unit) ⊕ (Ty.T (.pair .bool .unit)))):=
match(decide (x.2.1<(x.1.length:Int)))with
|true=>
 aa (aq x.1 x.2.1) fun v2=>
 match pF (v2,())with
 |none=>none
 |some v3=>
 match(!v3.1)with
 |true=>
  some (.inr (.inr (false,())))
 |false=>
  match(decide (x.2.1>(0:Int)))with
  |true=>
   aa (aq x.1 x.2.1) fun v4=>
   aa (aq x.1 (IntKind.i64.wrap (x.2.1-(1:Int)))) fun v5=>
   match(decide (v4.1≤v5.1))with
   |true=>
    some (.inr (.inr (false,())))
   |false=>
    match ag cZ (x.1,x.2.1,(0:Int),())with
    |none=>none
    |some (.inl v6)=>
     some (.inl (v6.1,(IntKind.i64.wrap (v6.2.1+(1:Int))),()))
    |some (.inr v7)=>
     some (.inr (.inr (v7.1,())))
  |false=>
   match ag cZ (x.1,x.2.1,(0:Int),())with
   |none=>none
   |some (.inl v8)=>
    some (.inl (v8.1,(IntKind.i64.wrap (v8.2.1+(1:Int))),()))
   |some (.inr v9)=>
    some (.inr (.inr (v9.1,())))
|false=>
 some (.inr (.inl (())))
noncomputable def nW(x:Ty.T (.pair (.list ak) .unit)):Option (Ty.T (.pair .bool .unit)):=
match bp ((x.1.length:Int),(1:Int),(32:Int),())with
|none=>none
|some v1=>
match(!v1.1)with
|true=>
 some (false,())
|false=>
 match ag eJ (x.1,(0:Int),())with
 |none=>none
 |some (.inl v10)=>
  some (true,())
 |some (.inr v11)=>
  some (v11.1,())
noncomputable def wA:Spec:=⟨_,(.pair .bool .unit),.unit,rfl,nW⟩
noncomputable def oq:FuncId→Option Spec:=bh [(70,lV),(283,yu)]
theorem Dh:∀f s,oq f=some s→FnOK G0 Tryz.prog f s:=aF ⟨cD,Jz,trivial⟩
def sV:aO:=⟨[0,3],(.pair (.list ak) (.pair (.int .i64) .unit)),0,[],.unit,[2],(.pair .bool .unit)⟩
def sW:aO:=⟨[0,3,4],(.pair (.list ak) an),2,[0,3],(.pair (.list ak) (.pair (.int .i64) .unit)),[2],(.pair .bool .unit)⟩
noncomputable def ot:List ay:=[sV.spec eJ,sW.spec cZ]
theorem Cj:bc bd E0 oq (ba Tryz.f241 ot) Tryz.f241 0 sV eJ:=fun x=>by kernel_rfl
theorem Ck:bc bd E0 oq (ba Tryz.f241 ot) Tryz.f241 1 sW cZ:=fun x=>by kernel_rfl
theorem HG:FnOK G0 Tryz.prog 241 wA:=aH ao Dh Tryz.func241 ot (by kernel_rfl) (by exact⟨(Cj).lok,(Ck).lok,trivial⟩) fun x=>by kernel_rfl
noncomputable def iX(x:(Ty.T (.pair (.list (.int .i64)) an))):Option ((Ty.T (.pair (.list (.int .i64)) an)) ⊕ ((Ty.T .unit) ⊕ (Ty.T (.pair .bool .unit)))):=
match(decide (x.2.2.1<(x.1.length:Int)))with
|true=>
 aa (aq x.1 x.2.2.1) fun v1=>
 match(v1==x.2.1)with
 |true=>
  some (.inr (.inr (true,())))
 |false=>
  some (.inl (x.1,x.2.1,(IntKind.i64.wrap (x.2.2.1+(1:Int))),()))
|false=>
 some (.inr (.inl (())))
noncomputable def ou(x:Ty.T (.pair (.list (.int .i64)) (.pair (.int .i64) .unit))):Option (Ty.T (.pair .bool .unit)):=
match ag iX (x.1,x.2.1,(0:Int),())with
|none=>none
|some (.inl v2)=>
 some (false,())
|some (.inr v3)=>
 some (v3.1,())
noncomputable def Ab:Spec:=⟨_,(.pair .bool .unit),.unit,rfl,ou⟩
noncomputable def Gk:FuncId→Option Spec:=bh []
theorem N6:∀f s,Gk f=some s→FnOK G0 Tryz.prog f s:=aF trivial
def Di:aO:=⟨[0,1,5],(.pair (.list (.int .i64)) an),0,[],.unit,[4],(.pair .bool .unit)⟩
noncomputable def Gm:List ay:=[Di.spec iX]
theorem LT:bc bd E0 Gk (ba Tryz.f145 Gm) Tryz.f145 0 Di iX:=fun x=>by kernel_rfl
theorem Gn:FnOK G0 Tryz.prog 145 Ab:=aH ao N6 Tryz.func145 Gm (by kernel_rfl) (by exact⟨(LT).lok,trivial⟩) fun x=>by kernel_rfl
noncomputable def gq(x:(Ty.T (.pair (.list (.int .i64)) an))):Option ((Ty.T (.pair (.list (.int .i64)) an)) ⊕ ((Ty.T .unit) ⊕ (Ty.T (.pair .bool .unit)))):=
match(decide (x.2.2.1<(x.1.length:Int)))with
|true=>
 aa (aq x.1 x.2.2.1) fun v1=>
 match bp (v1,(0:Int),(IntKind.i64.wrap (x.2.1-(1:Int))),())with
 |none=>none
 |some v2=>
 match(!v2.1)with
 |true=>
  some (.inr (.inr (false,())))
 |false=>
  match(decide (x.2.2.1>(0:Int)))with
  |true=>
   aa (aq x.1 x.2.2.1) fun v3=>
   aa (aq x.1 (IntKind.i64.wrap (x.2.2.1-(1:Int)))) fun v4=>
   match(decide (v3≤v4))with
   |true=>
    some (.inr (.inr (false,())))
   |false=>
    some (.inl (x.1,x.2.1,(IntKind.i64.wrap (x.2.2.1+(1:Int))),()))
  |false=>
   some (.inl (x.1,x.2.1,(IntKind.i64.wrap (x.2.2.1+(1:Int))),()))
|false=>
 some (.inr (.inl (())))
noncomputable def tQ(x:Ty.T (.pair (.list (.int .i64)) (.pair (.int .i64) .unit))):Option (Ty.T (.pair .bool .unit)):=
match ag gq (x.1,x.2.1,(0:Int),())with
|none=>none
|some (.inl v5)=>
 some (true,())
|some (.inr v6)=>
 some (v6.1,())
noncomputable def Dj:Spec:=⟨_,(.pair .bool .unit),.unit,rfl,tQ⟩
noncomputable def Bb:FuncId→Option Spec:=bh [(70,lV)]
theorem JA:∀f s,Bb f=some s→FnOK G0 Tryz.prog f s:=aF ⟨cD,trivial⟩
def yv:aO:=⟨[0,1,5],(.pair (.list (.int .i64)) an),0,[],.unit,[4],(.pair .bool .unit)⟩
noncomputable def Bc:List ay:=[yv.spec gq]
theorem HH:bc bd E0 Bb (ba Tryz.f284 Bc) Tryz.f284 0 yv gq:=fun x=>by kernel_rfl
theorem N7:FnOK G0 Tryz.prog 284 Dj:=aH ao JA Tryz.func284 Bc (by kernel_rfl) (by exact⟨(HH).lok,trivial⟩) fun x=>by kernel_rfl
noncomputable def eK(x:(Ty.T (.pair (.list al) (.pair (.int .i64) .unit)))):Option ((Ty.T (.pair (.list al) (.pair (.int .i64) .unit))) ⊕ ((Ty.T .unit) ⊕ (Ty.T (.pair .bool .unit)))):=
match(decide (x.2.1<(x.1.length:Int)))with
|true=>
 aa (aq x.1 x.2.1) fun v2=>
 match bp (v2.1,(1:Int),(8:Int),())with
 |none=>none
 |some v3=>
 match(!v3.1)with
 |true=>
  some (.inr (.inr (false,())))
 |false=>
  match bp (v2.2.1,(1:Int),(16:Int),())with
  |none=>none
  |some v4=>
  match(!v4.1)with
  |true=>
   some (.inr (.inr (false,())))
  |false=>
   match tQ (v2.2.2.1,(x.1.length:Int),())with
   |none=>none
   |some v5=>
   match(!v5.1)with
   |true=>
    some (.inr (.inr (false,())))
   |false=>
    match ou (v2.2.2.1,x.2.1,())with
    |none=>none
    |some v6=>
    match v6.1 with
    |true=>
     some (.inr (.inr (false,())))
    |false=>
     some (.inl (x.1,(IntKind.i64.wrap (x.2.1+(1:Int))),()))
|false=>
 some (.inr (.inl (())))
noncomputable def nX(x:Ty.T (.pair (.list al) .unit)):Option (Ty.T (.pair .bool .unit)):=
match bp ((x.1.length:Int),(1:Int),(16:Int),())with
|none=>none
|some v1=>
match(!v1.1)with
|true=>
 some (false,())
|false=>
 match ag eK (x.1,(0:Int),())with
 |none=>none
 |some (.inl v7)=>
  some (true,())
 |some (.inr v8)=>
  some (v8.1,())
noncomputable def wB:Spec:=⟨_,(.pair .bool .unit),.unit,rfl,nX⟩
noncomputable def uG:FuncId→Option Spec:=bh [(70,lV),(145,Ab),(284,Dj)]
theorem Dk:∀f s,uG f=some s→FnOK G0 Tryz.prog f s:=aF ⟨cD,Gn,N7,trivial⟩
def sX:aO:=⟨[0,3],(.pair (.list al) (.pair (.int .i64) .unit)),0,[],.unit,[2],(.pair .bool .unit)⟩
noncomputable def uH:List ay:=[sX.spec eK]
theorem Cl:bc bd E0 uG (ba Tryz.f242 uH) Tryz.f242 0 sX eK:=fun x=>by kernel_rfl
theorem HI:FnOK G0 Tryz.prog 242 wB:=aH ao Dk Tryz.func242 uH (by kernel_rfl) (by exact⟨(Cl).lok,trivial⟩) fun x=>by kernel_rfl
noncomputable def rA(x:Ty.T (.pair (.int .i64) .unit)):Option (Ty.T (.pair .bool .unit)):=
match bp (x.1,(0:Int),(3:Int),())with
|none=>none
|some v1=>
some (v1.1,())
noncomputable def Sk:Spec:=⟨_,(.pair .bool .unit),.unit,rfl,rA⟩
theorem Dl:FnOK G0 Tryz.prog 296 Sk:=ap ao (sg cD (aJ)) Tryz.func296
noncomputable def rB(x:Ty.T an):Option (Ty.T (.pair .bool .unit)):=
match(x.1==(0:Int))with
|true=>
 match bp (x.2.1,(0:Int),(32:Int),())with
 |none=>none
 |some v1=>
 some (v1.1,())
|false=>
 match(x.1==(2:Int))with
 |true=>
  match bp (x.2.1,(1:Int),(32:Int),())with
  |none=>none
  |some v2=>
  some (v2.1,())
 |false=>
  some ((x.2.1==(0:Int)),())
noncomputable def Sl:Spec:=⟨_,(.pair .bool .unit),.unit,rfl,rB⟩
theorem Dm:FnOK G0 Tryz.prog 297 Sl:=ap ao (sg cD (aJ)) Tryz.func297
noncomputable def ex(x:Ty.T (.pair bf .unit)):Option (Ty.T (.pair .bool .unit)):=
match rz (x.1.1,())with
|none=>none
|some v1=>
match(!v1.1)with
|true=>
 some (false,())
|false=>
 match rA (x.1.2.1,())with
 |none=>none
 |some v2=>
 match(!v2.1)with
 |true=>
  some (false,())
 |false=>
  match rB (x.1.2.1,x.1.2.2.1,())with
  |none=>none
  |some v3=>
  match(!v3.1)with
  |true=>
   some (false,())
  |false=>
   match(x.1.2.1==(3:Int))with
   |true=>
    match x.1.2.2.2.2.1 with
    |true=>
     some (false,())
    |false=>
     match dM (x.1.2.1,x.1.2.2.1,())with
     |none=>none
     |some v4=>
     match bp (x.1.2.2.2.1,(IntKind.i64.wrap (v4.1+(20:Int))),(1000:Int),())with
     |none=>none
     |some v5=>
     some (v5.1,())
   |false=>
    match dM (x.1.2.1,x.1.2.2.1,())with
    |none=>none
    |some v6=>
    match bp (x.1.2.2.2.1,(IntKind.i64.wrap (v6.1+(20:Int))),(1000:Int),())with
    |none=>none
    |some v7=>
    some (v7.1,())
noncomputable def HJ:Spec:=⟨_,(.pair .bool .unit),.unit,rfl,ex⟩
theorem sY:FnOK G0 Tryz.prog 265 HJ:=ap ao (sg cD (sg sA (sg De (sg Dl (sg Dm (aJ)))))) Tryz.func265
noncomputable def Fa(x:Ty.T (.pair aj .unit)):Option (Ty.T (.pair .bool .unit)):=
match bp (x.1.1,(0:Int),(15:Int),())with
|none=>none
|some v1=>
match v1.1 with
|true=>
 match bp (x.1.2.1,(0:Int),(7:Int),())with
 |none=>none
 |some v2=>
 match v2.1 with
 |true=>
  match bp (x.1.2.2.1,(0:Int),(15:Int),())with
  |none=>none
  |some v3=>
  match v3.1 with
  |true=>
   match ex ((x.1.2.2.2.1.1,x.1.2.2.2.1.2.1,x.1.2.2.2.1.2.2.1,x.1.2.2.2.1.2.2.2.1,x.1.2.2.2.1.2.2.2.2.1,()),())with
   |none=>none
   |some v4=>
   some (v4.1,())
  |false=>
   some (false,())
 |false=>
  some (false,())
|false=>
 some (false,())
noncomputable def Nv:Spec:=⟨_,(.pair .bool .unit),.unit,rfl,Fa⟩
theorem Uz:FnOK G0 Tryz.prog 285 Nv:=ap ao (sg cD (sg sY (aJ))) Tryz.func285
noncomputable def ck(x:(Ty.T (.pair (.own 2 (.int .i64)) (.pair (.own 2 (.int .i64)) (.pair (.int .i64) .unit))))):Option ((Ty.T (.pair (.own 2 (.int .i64)) (.pair (.own 2 (.int .i64)) (.pair (.int .i64) .unit)))) ⊕ ((Ty.T .unit) ⊕ (Ty.T (.pair (.int .i64) .unit)))):=
match(decide (x.2.2.1<(3:Int)))with
|true=>
 aa (aq x.1 x.2.2.1) fun _=>
 match x.1[x.2.2.1.toNat]? with
 |none=>none
 |some v2=>
 aa (aq x.2.1 x.2.2.1) fun _=>
 match x.2.1[x.2.2.1.toNat]? with
 |none=>none
 |some v4=>
 match(decide (v2<v4))with
 |true=>
  some (.inr (.inr ((-1:Int),())))
 |false=>
  aa (aq x.1 x.2.2.1) fun _=>
  match x.1[x.2.2.1.toNat]? with
  |none=>none
  |some v6=>
  aa (aq x.2.1 x.2.2.1) fun _=>
  match x.2.1[x.2.2.1.toNat]? with
  |none=>none
  |some v8=>
  match(decide (v6>v8))with
  |true=>
   some (.inr (.inr ((1:Int),())))
  |false=>
   some (.inl (x.1,x.2.1,(IntKind.i64.wrap (x.2.2.1+(1:Int))),()))
|false=>
 some (.inr (.inl (())))
noncomputable def mL(x:Ty.T (.pair aj (.pair aj .unit))):Option (Ty.T (.pair (.int .i64) .unit)):=
aQ (
 match ag ck ([x.1.1,x.1.2.1,x.1.2.2.1],[x.2.1.1,x.2.1.2.1,x.2.1.2.2.1],(0:Int),())with
 |none=>none
 |some (.inl v9)=>
  some ((0:Int),())
 |some (.inr v10)=>
  some (v10.1,())) (
 match ag ck ([x.1.1,x.1.2.1,x.1.2.2.1],[x.2.1.1,x.2.1.2.1,x.2.1.2.2.1],(0:Int),())with
 |none=>none
 |some (.inl v1)=>
  some ((0:Int),())
 |some (.inr v2)=>
  some (v2.1,()))
noncomputable def uI:Spec:=⟨_,(.pair (.int .i64) .unit),.unit,rfl,mL⟩
noncomputable def sZ:FuncId→Option Spec:=bh []
theorem Cm:∀f s,sZ f=some s→FnOK G0 Tryz.prog f s:=aF trivial
def rC:aO:=⟨[5,6,7],(.pair (.own 2 (.int .i64)) (.pair (.own 2 (.int .i64)) (.pair (.int .i64) .unit))),0,[],.unit,[4],(.pair (.int .i64) .unit)⟩
noncomputable def s5:List ay:=[rC.spec ck]
theorem Ac:bc bd E0 sZ (ba Tryz.f286 s5) Tryz.f286 0 rC ck:=fun x=>by kernel_rfl
theorem Fy:FnOK G0 Tryz.prog 286 uI:=aH ao Cm Tryz.func286 s5 (by kernel_rfl) (by exact⟨(Ac).lok,trivial⟩) fun x=>by kernel_rfl
noncomputable def eL(x:(Ty.T (.pair (.list aj) (.pair (.int .i64) .unit)))):Option ((Ty.T (.pair (.list aj) (.pair (.int .i64) .unit))) ⊕ ((Ty.T .unit) ⊕ (Ty.T (.pair .bool .unit)))):=
match(decide (x.2.1<(x.1.length:Int)))with
|true=>
 aa (aq x.1 x.2.1) fun v1=>
 match Fa (v1,())with
 |none=>none
 |some v2=>
 match(!v2.1)with
 |true=>
  some (.inr (.inr (false,())))
 |false=>
  match(decide (x.2.1>(0:Int)))with
  |true=>
   aa (aq x.1 (IntKind.i64.wrap (x.2.1-(1:Int)))) fun v3=>
   aa (aq x.1 x.2.1) fun v4=>
   match mL (v3,v4,())with
   |none=>none
   |some v5=>
   match(decide (v5.1≥(0:Int)))with
   |true=>
    some (.inr (.inr (false,())))
   |false=>
    some (.inl (x.1,(IntKind.i64.wrap (x.2.1+(1:Int))),()))
  |false=>
   some (.inl (x.1,(IntKind.i64.wrap (x.2.1+(1:Int))),()))
|false=>
 some (.inr (.inl (())))
noncomputable def nY(x:Ty.T (.pair (.list aj) .unit)):Option (Ty.T (.pair .bool .unit)):=
match(decide ((x.1.length:Int)>(120:Int)))with
|true=>
 some (false,())
|false=>
 match ag eL (x.1,(0:Int),())with
 |none=>none
 |some (.inl v6)=>
  some (true,())
 |some (.inr v7)=>
  some (v7.1,())
noncomputable def wC:Spec:=⟨_,(.pair .bool .unit),.unit,rfl,nY⟩
noncomputable def uJ:FuncId→Option Spec:=bh [(285,Nv),(286,uI)]
theorem Dn:∀f s,uJ f=some s→FnOK G0 Tryz.prog f s:=aF ⟨Uz,Fy,trivial⟩
def s6:aO:=⟨[0,3],(.pair (.list aj) (.pair (.int .i64) .unit)),0,[],.unit,[2],(.pair .bool .unit)⟩
noncomputable def uK:List ay:=[s6.spec eL]
theorem Cn:bc bd E0 uJ (ba Tryz.f243 uK) Tryz.f243 0 s6 eL:=fun x=>by kernel_rfl
theorem HK:FnOK G0 Tryz.prog 243 wC:=aH ao Dn Tryz.func243 uK (by kernel_rfl) (by exact⟨(Cn).lok,trivial⟩) fun x=>by kernel_rfl
noncomputable def ie(x:(Ty.T (.pair (.list aj) ax))):Option ((Ty.T (.pair (.list aj) ax)) ⊕ ((Ty.T .unit) ⊕ (Ty.T (.pair (.int .i64) .unit)))):=
match(decide (x.2.2.2.2.1<(x.1.length:Int)))with
|true=>
 aa (aq x.1 x.2.2.2.2.1) fun v1=>
 match(v1.1==x.2.1)with
 |true=>
  aa (aq x.1 x.2.2.2.2.1) fun v2=>
  match(v2.2.1==x.2.2.1)with
  |true=>
   aa (aq x.1 x.2.2.2.2.1) fun v3=>
   match(v3.2.2.1==x.2.2.2.1)with
   |true=>
    some (.inr (.inr (x.2.2.2.2.1,())))
   |false=>
    some (.inl (x.1,x.2.1,x.2.2.1,x.2.2.2.1,(IntKind.i64.wrap (x.2.2.2.2.1+(1:Int))),()))
  |false=>
   some (.inl (x.1,x.2.1,x.2.2.1,x.2.2.2.1,(IntKind.i64.wrap (x.2.2.2.2.1+(1:Int))),()))
 |false=>
  some (.inl (x.1,x.2.1,x.2.2.1,x.2.2.2.1,(IntKind.i64.wrap (x.2.2.2.2.1+(1:Int))),()))
|false=>
 some (.inr (.inl (())))
noncomputable def rD(x:Ty.T (.pair (.list aj) (.pair (.int .i64) an))):Option (Ty.T (.pair (.int .i64) .unit)):=
match ag ie (x.1,x.2.1,x.2.2.1,x.2.2.2.1,(0:Int),())with
|none=>none
|some (.inl v4)=>
 some ((-1:Int),())
|some (.inr v5)=>
 some (v5.1,())
noncomputable def Gp:Spec:=⟨_,(.pair (.int .i64) .unit),.unit,rfl,rD⟩
noncomputable def Dp:FuncId→Option Spec:=bh []
theorem LU:∀f s,Dp f=some s→FnOK G0 Tryz.prog f s:=aF trivial
def Bd:aO:=⟨[0,1,2,3,9],(.pair (.list aj) ax),0,[],.unit,[8],(.pair (.int .i64) .unit)⟩
noncomputable def Dq:List ay:=[Bd.spec ie]
theorem JB:bc bd E0 Dp (ba Tryz.f146 Dq) Tryz.f146 0 Bd ie:=fun x=>by kernel_rfl
theorem Dr:FnOK G0 Tryz.prog 146 Gp:=aH ao LU Tryz.func146 Dq (by kernel_rfl) (by exact⟨(JB).lok,trivial⟩) fun x=>by kernel_rfl
noncomputable def eM(x:(Ty.T (.pair (.box ac) ax))):Option ((Ty.T (.pair (.box ac) ax)) ⊕ ((Ty.T (.pair (.box ac) (.pair (.int .i64) an))) ⊕ (Ty.T (.pair .bool .unit)))):=
aa (aq x.1.2.2.1 x.2.2.1) fun v2=>
match(decide (x.2.2.2.2.1<v2.2.1))with
|true=>
 match rD (x.1.2.2.2.1,x.2.2.1,x.2.2.2.1,x.2.2.2.2.1,())with
 |none=>none
 |some v3=>
 match(decide (v3.1<(0:Int)))with
 |true=>
  some (.inr (.inr (false,())))
 |false=>
  some (.inl ((x.1.1,x.1.2.1,x.1.2.2.1,x.1.2.2.2.1,()),(IntKind.i64.wrap (x.2.1+(1:Int))),x.2.2.1,x.2.2.2.1,(IntKind.i64.wrap (x.2.2.2.2.1+(1:Int))),()))
|false=>
 some (.inr (.inl ((x.1.1,x.1.2.1,x.1.2.2.1,x.1.2.2.2.1,()),x.2.1,x.2.2.1,x.2.2.2.1,())))
noncomputable def eN(x:(Ty.T (.pair (.box ac) (.pair (.int .i64) an)))):Option ((Ty.T (.pair (.box ac) (.pair (.int .i64) an))) ⊕ ((Ty.T (.pair (.box ac) an)) ⊕ (Ty.T (.pair .bool .unit)))):=
aa (aq x.1.2.2.1 x.2.2.1) fun v1=>
match(decide (x.2.2.2.1<v1.1))with
|true=>
 match ag eM ((x.1.1,x.1.2.1,x.1.2.2.1,x.1.2.2.2.1,()),x.2.1,x.2.2.1,x.2.2.2.1,(0:Int),())with
 |none=>none
 |some (.inl v2)=>
  some (.inl ((v2.1.1,v2.1.2.1,v2.1.2.2.1,v2.1.2.2.2.1,()),v2.2.1,v2.2.2.1,(IntKind.i64.wrap (v2.2.2.2.1+(1:Int))),()))
 |some (.inr v3)=>
  some (.inr (.inr (v3.1,())))
|false=>
 some (.inr (.inl ((x.1.1,x.1.2.1,x.1.2.2.1,x.1.2.2.2.1,()),x.2.1,x.2.2.1,())))
noncomputable def c7(x:(Ty.T (.pair (.box ac) an))):Option ((Ty.T (.pair (.box ac) an)) ⊕ ((Ty.T (.pair (.box ac) (.pair (.int .i64) .unit))) ⊕ (Ty.T (.pair .bool .unit)))):=
match(decide (x.2.2.1<(x.1.2.2.1.length:Int)))with
|true=>
 match ag eN ((x.1.1,x.1.2.1,x.1.2.2.1,x.1.2.2.2.1,()),x.2.1,x.2.2.1,(0:Int),())with
 |none=>none
 |some (.inl v1)=>
  some (.inl ((v1.1.1,v1.1.2.1,v1.1.2.2.1,v1.1.2.2.2.1,()),v1.2.1,(IntKind.i64.wrap (v1.2.2.1+(1:Int))),()))
 |some (.inr v2)=>
  some (.inr (.inr (v2.1,())))
|false=>
 some (.inr (.inl ((x.1.1,x.1.2.1,x.1.2.2.1,x.1.2.2.2.1,()),x.2.1,())))
noncomputable def kZ(x:Ty.T (.pair ac .unit)):Option (Ty.T (.pair .bool .unit)):=
match ag c7 ((x.1.1,x.1.2.1,x.1.2.2.1,x.1.2.2.2.1,()),(0:Int),(0:Int),())with
|none=>none
|some (.inl v3)=>
 some ((v3.2.1==(v3.1.2.2.2.1.length:Int)),())
|some (.inr v4)=>
 some (v4.1,())
noncomputable def wD:Spec:=⟨_,(.pair .bool .unit),.unit,rfl,kZ⟩
noncomputable def kL:FuncId→Option Spec:=bh [(146,Gp)]
theorem Ds:∀f s,kL f=some s→FnOK G0 Tryz.prog f s:=aF ⟨Dr,trivial⟩
def s7:aO:=⟨[1,3,4],(.pair (.box ac) an),0,[1,3],(.pair (.box ac) (.pair (.int .i64) .unit)),[2],(.pair .bool .unit)⟩
def s8:aO:=⟨[1,3,4,5],(.pair (.box ac) (.pair (.int .i64) an)),2,[1,3,4],(.pair (.box ac) an),[2],(.pair .bool .unit)⟩
def s9:aO:=⟨[1,3,4,5,6],(.pair (.box ac) ax),4,[1,3,4,5],(.pair (.box ac) (.pair (.int .i64) an)),[2],(.pair .bool .unit)⟩
noncomputable def kM:List ay:=[s7.spec c7,s8.spec eN,s9.spec eM]
theorem Co:bc bd E0 kL (ba Tryz.f244 kM) Tryz.f244 0 s7 c7:=fun x=>by kernel_rfl
theorem Cp:bc bd E0 kL (ba Tryz.f244 kM) Tryz.f244 1 s8 eN:=fun x=>by kernel_rfl
theorem Cq:bc bd E0 kL (ba Tryz.f244 kM) Tryz.f244 2 s9 eM:=fun x=>by kernel_rfl
theorem HL:FnOK G0 Tryz.prog 244 wD:=aH ao Ds Tryz.func244 kM (by kernel_rfl) (by exact⟨(Co).lok,(Cp).lok,(Cq).lok,trivial⟩) fun x=>by kernel_rfl
noncomputable def fu(x:(Ty.T (.pair (.box ac) an))):Option ((Ty.T (.pair (.box ac) an)) ⊕ ((Ty.T .unit) ⊕ (Ty.T (.pair .bool .unit)))):=
match(decide (x.2.2.1<(x.1.2.2.2.1.length:Int)))with
|true=>
 aa (aq x.1.2.2.2.1 x.2.2.1) fun v2=>
 match lU (x.2.1,v2.2.2.2.1.1,())with
 |none=>none
 |some v3=>
 match(!v3.1)with
 |true=>
  some (.inr (.inr (false,())))
 |false=>
  some (.inl ((x.1.1,x.1.2.1,x.1.2.2.1,x.1.2.2.2.1,()),x.2.1,(IntKind.i64.wrap (x.2.2.1+(1:Int))),()))
|false=>
 some (.inr (.inl (())))
noncomputable def lZ(x:Ty.T (.pair ac .unit)):Option (Ty.T (.pair .bool .unit)):=
match cM (x.1.2.1,())with
|none=>none
|some v1=>
match ag fu ((x.1.1,x.1.2.1,x.1.2.2.1,x.1.2.2.2.1,()),v1.1,(0:Int),())with
|none=>none
|some (.inl v4)=>
 some (true,())
|some (.inr v5)=>
 some (v5.1,())
noncomputable def yw:Spec:=⟨_,(.pair .bool .unit),.unit,rfl,lZ⟩
noncomputable def wE:FuncId→Option Spec:=bh [(126,nV),(195,z8)]
theorem Fz:∀f s,wE f=some s→FnOK G0 Tryz.prog f s:=aF ⟨kg,xE,trivial⟩
def uL:aO:=⟨[1,3,4],(.pair (.box ac) an),0,[],.unit,[2],(.pair .bool .unit)⟩
noncomputable def wF:List ay:=[uL.spec fu]
theorem Dt:bc bd E0 wE (ba Tryz.f245 wF) Tryz.f245 0 uL fu:=fun x=>by kernel_rfl
theorem JC:FnOK G0 Tryz.prog 245 yw:=aH ao Fz Tryz.func245 wF (by kernel_rfl) (by exact⟨(Dt).lok,trivial⟩) fun x=>by kernel_rfl
noncomputable def dW(x:(Ty.T (.pair (.ptr ac) an))):Option ((Ty.T (.pair (.ptr ac) an)) ⊕ ((Ty.T (.pair (.ptr ac) (.pair (.int .i64) .unit))) ⊕ (Ty.T (.pair .bool .unit)))):=
match(decide (x.2.2.1<x.2.1))with
|true=>
 aa (aq x.1.2.2.2.1 x.2.1) fun v1=>
 aa (aq x.1.2.2.2.1 x.2.2.1) fun v2=>
 aI (
  match(v1.1==v2.1)with
  |true=>
   match(v1.2.2.1==v2.2.2.1)with
   |true=>
    match(v1.2.2.2.1.2.2.2.1 != v2.2.2.2.1.2.2.2.1)with
    |true=>
     some (.inr (.inr (false,())))
    |false=>
     some (.inl (x.1,x.2.1,(IntKind.i64.wrap (x.2.2.1+(1:Int))),()))
   |false=>
    some (.inl (x.1,x.2.1,(IntKind.i64.wrap (x.2.2.1+(1:Int))),()))
  |false=>
   some (.inl (x.1,x.2.1,(IntKind.i64.wrap (x.2.2.1+(1:Int))),())))
|false=>
 some (.inr (.inl (x.1,x.2.1,())))
noncomputable def dX(x:(Ty.T (.pair (.ptr ac) (.pair (.int .i64) .unit)))):Option ((Ty.T (.pair (.ptr ac) (.pair (.int .i64) .unit))) ⊕ ((Ty.T .unit) ⊕ (Ty.T (.pair .bool .unit)))):=
match(decide (x.2.1<(x.1.2.2.2.1.length:Int)))with
|true=>
 match ag dW (x.1,x.2.1,(0:Int),())with
 |none=>none
 |some (.inl v1)=>
  some (.inl (v1.1,(IntKind.i64.wrap (v1.2.1+(1:Int))),()))
 |some (.inr v2)=>
  some (.inr (.inr (v2.1,())))
|false=>
 some (.inr (.inl (())))
noncomputable def kh(x:Ty.T (.pair ac .unit)):Option (Ty.T (.pair .bool .unit)):=
match ag dX ((x.1.1,x.1.2.1,x.1.2.2.1,x.1.2.2.2.1,()),(0:Int),())with
|none=>none
|some (.inl v3)=>
 some (true,())
|some (.inr v4)=>
 some (v4.1,())
noncomputable def uM:Spec:=⟨_,(.pair .bool .unit),.unit,rfl,kh⟩
noncomputable def nm:FuncId→Option Spec:=bh []
theorem Cr:∀f s,nm f=some s→FnOK G0 Tryz.prog f s:=aF trivial
def rE:aO:=⟨[1,3],(.pair (.ptr ac) (.pair (.int .i64) .unit)),0,[],.unit,[2],(.pair .bool .unit)⟩
def rF:aO:=⟨[1,3,4],(.pair (.ptr ac) an),2,[1,3],(.pair (.ptr ac) (.pair (.int .i64) .unit)),[2],(.pair .bool .unit)⟩
noncomputable def nn:List ay:=[rE.spec dX,rF.spec dW]
theorem Ad:bc bd E0 nm (ba Tryz.f246 nn) Tryz.f246 0 rE dX:=fun x=>by kernel_rfl
theorem Ae:bc bd E0 nm (ba Tryz.f246 nn) Tryz.f246 1 rF dW:=fun x=>by kernel_rfl
theorem FA:FnOK G0 Tryz.prog 246 uM:=aH ao Cr Tryz.func246 nn (by kernel_rfl) (by exact⟨(Ad).lok,(Ae).lok,trivial⟩) fun x=>by kernel_rfl
noncomputable def gr(x:(Ty.T (.pair (.int .i64) (.pair (.box ac) an)))):Option ((Ty.T (.pair (.int .i64) (.pair (.box ac) an))) ⊕ ((Ty.T (.pair (.int .i64) .unit)) ⊕ (Ty.T .unit))):=
match(decide (x.2.2.2.1<(x.2.1.2.2.2.1.length:Int)))with
|true=>
 aa (aq x.2.1.2.2.2.1 x.2.2.2.1) fun v1=>
 match(v1.1==x.1)with
 |true=>
  aa (aq x.2.1.2.2.2.1 x.2.2.2.1) fun v2=>
  some (.inl (x.1,(x.2.1.1,x.2.1.2.1,x.2.1.2.2.1,x.2.1.2.2.2.1,()),(IntKind.i64.wrap (x.2.2.1+v2.2.2.2.1.2.2.2.1)),(IntKind.i64.wrap (x.2.2.2.1+(1:Int))),()))
 |false=>
  some (.inl (x.1,(x.2.1.1,x.2.1.2.1,x.2.1.2.2.1,x.2.1.2.2.2.1,()),x.2.2.1,(IntKind.i64.wrap (x.2.2.2.1+(1:Int))),()))
|false=>
 some (.inr (.inl (x.2.2.1,())))
noncomputable def pG(x:Ty.T (.pair ac (.pair (.int .i64) .unit))):Option (Ty.T (.pair (.int .i64) .unit)):=
match ag gr (x.2.1,(x.1.1,x.1.2.1,x.1.2.2.1,x.1.2.2.2.1,()),(0:Int),(0:Int),())with
|none=>none
|some (.inl v3)=>
 some (v3.1,())
|some (.inr v5)=>
 none
noncomputable def Du:Spec:=⟨_,(.pair (.int .i64) .unit),.unit,rfl,pG⟩
noncomputable def Be:FuncId→Option Spec:=bh []
theorem JD:∀f s,Be f=some s→FnOK G0 Tryz.prog f s:=aF trivial
def yx:aO:=⟨[1,2,5,6],(.pair (.int .i64) (.pair (.box ac) an)),0,[5],(.pair (.int .i64) .unit),[],.unit⟩
noncomputable def Bf:List ay:=[yx.spec gr]
theorem HM:bc bd E0 Be (ba Tryz.f247 Bf) Tryz.f247 0 yx gr:=fun x=>by kernel_rfl
theorem N8:FnOK G0 Tryz.prog 247 Du:=aH ao JD Tryz.func247 Bf (by kernel_rfl) (by exact⟨(HM).lok,trivial⟩) fun x=>by kernel_rfl
noncomputable def dp(x:(Ty.T (.pair (.box ac) ab))):Option ((Ty.T (.pair (.box ac) ab)) ⊕ ((Ty.T (.pair (.box ac) ax)) ⊕ (Ty.T .unit))):=
match(decide (x.2.2.2.2.2.1<(x.1.2.2.2.1.length:Int)))with
|true=>
 aa (aq x.1.2.2.2.1 x.2.2.2.2.2.1) fun v3=>
 match(v3.1==x.2.2.1)with
 |true=>
  aa (aq x.1.2.2.2.1 x.2.2.2.2.2.1) fun v4=>
  match(v4.2.1==x.2.2.2.1)with
  |true=>
   aa (aq x.1.2.2.2.1 x.2.2.2.2.2.1) fun v5=>
   match iV (x.2.2.2.2.1,v5.2.2.2.1.1,true,())with
   |none=>none
   |some v6=>
   some (.inl ((x.1.1,x.1.2.1,x.1.2.2.1,x.1.2.2.2.1,()),x.2.1,x.2.2.1,x.2.2.2.1,v6.1,(IntKind.i64.wrap (x.2.2.2.2.2.1+(1:Int))),()))
  |false=>
   some (.inl ((x.1.1,x.1.2.1,x.1.2.2.1,x.1.2.2.2.1,()),x.2.1,x.2.2.1,x.2.2.2.1,x.2.2.2.2.1,(IntKind.i64.wrap (x.2.2.2.2.2.1+(1:Int))),()))
 |false=>
  some (.inl ((x.1.1,x.1.2.1,x.1.2.2.1,x.1.2.2.2.1,()),x.2.1,x.2.2.1,x.2.2.2.1,x.2.2.2.2.1,(IntKind.i64.wrap (x.2.2.2.2.2.1+(1:Int))),()))
|false=>
 some (.inr (.inl ((x.1.1,x.1.2.1,x.1.2.2.1,x.1.2.2.2.1,()),x.2.1,x.2.2.1,x.2.2.2.1,x.2.2.2.2.1,())))
noncomputable def eZ(x:(Ty.T (.pair (.box ac) (.pair (.int .i64) an)))):Option ((Ty.T (.pair (.box ac) (.pair (.int .i64) an))) ⊕ ((Ty.T (.pair (.box ac) an)) ⊕ (Ty.T (.pair .bool .unit)))):=
aa (aq x.1.2.2.1 x.2.2.1) fun v2=>
match(decide (x.2.2.2.1<v2.1))with
|true=>
 match ag dp ((x.1.1,x.1.2.1,x.1.2.2.1,x.1.2.2.2.1,()),x.2.1,x.2.2.1,x.2.2.2.1,(0:Int),(0:Int),())with
 |none=>none
 |some (.inl v3)=>
  match(v3.2.2.2.2.1 != v3.2.1)with
  |true=>
   some (.inr (.inr (false,())))
  |false=>
   some (.inl ((v3.1.1,v3.1.2.1,v3.1.2.2.1,v3.1.2.2.2.1,()),v3.2.1,v3.2.2.1,(IntKind.i64.wrap (v3.2.2.2.1+(1:Int))),()))
 |some (.inr v5)=>
  none
|false=>
 some (.inr (.inl ((x.1.1,x.1.2.1,x.1.2.2.1,x.1.2.2.2.1,()),x.2.1,x.2.2.1,())))
noncomputable def fT(x:(Ty.T (.pair (.box ac) an))):Option ((Ty.T (.pair (.box ac) an)) ⊕ ((Ty.T .unit) ⊕ (Ty.T (.pair .bool .unit)))):=
match(decide (x.2.2.1<(x.1.2.2.1.length:Int)))with
|true=>
 match ag eZ ((x.1.1,x.1.2.1,x.1.2.2.1,x.1.2.2.2.1,()),x.2.1,x.2.2.1,(0:Int),())with
 |none=>none
 |some (.inl v2)=>
  some (.inl ((v2.1.1,v2.1.2.1,v2.1.2.2.1,v2.1.2.2.2.1,()),v2.2.1,(IntKind.i64.wrap (v2.2.2.1+(1:Int))),()))
 |some (.inr v3)=>
  some (.inr (.inr (v3.1,())))
|false=>
 some (.inr (.inl (())))
noncomputable def nC(x:Ty.T (.pair ac .unit)):Option (Ty.T (.pair .bool .unit)):=
match cM (x.1.2.1,())with
|none=>none
|some v1=>
match ag fT ((x.1.1,x.1.2.1,x.1.2.2.1,x.1.2.2.2.1,()),v1.1,(0:Int),())with
|none=>none
|some (.inl v4)=>
 some (true,())
|some (.inr v5)=>
 some (v5.1,())
noncomputable def Bg:Spec:=⟨_,(.pair .bool .unit),.unit,rfl,nC⟩
noncomputable def mM:FuncId→Option Spec:=bh [(126,nV),(135,Aa)]
theorem HN:∀f s,mM f=some s→FnOK G0 Tryz.prog f s:=aF ⟨kg,xF,trivial⟩
def wG:aO:=⟨[1,3,4],(.pair (.box ac) an),0,[],.unit,[2],(.pair .bool .unit)⟩
def wH:aO:=⟨[1,3,4,5],(.pair (.box ac) (.pair (.int .i64) an)),2,[1,3,4],(.pair (.box ac) an),[2],(.pair .bool .unit)⟩
def uN:aO:=⟨[1,3,4,5,6,7],(.pair (.box ac) ab),4,[1,3,4,5,6],(.pair (.box ac) ax),[],.unit⟩
noncomputable def mN:List ay:=[wG.spec fT,wH.spec eZ,uN.spec dp]
theorem FB:bc bd E0 mM (ba Tryz.f248 mN) Tryz.f248 0 wG fT:=fun x=>by kernel_rfl
theorem FC:bc bd E0 mM (ba Tryz.f248 mN) Tryz.f248 1 wH eZ:=fun x=>by kernel_rfl
theorem Dv:bc bd E0 mM (ba Tryz.f248 mN) Tryz.f248 2 uN dp:=fun x=>by kernel_rfl
theorem LV:FnOK G0 Tryz.prog 248 Bg:=aH ao HN Tryz.func248 mN (by kernel_rfl) (by exact⟨(FB).lok,(FC).lok,(Dv).lok,trivial⟩) fun x=>by kernel_rfl
noncomputable def dI(x:(Ty.T (.pair (.box ac) (.pair (.int .i64) .unit)))):Option ((Ty.T (.pair (.box ac) (.pair (.int .i64) .unit))) ⊕ ((Ty.T (.pair (.box ac) .unit)) ⊕ (Ty.T (.pair (.int .i64) .unit)))):=
match(decide (x.2.1<(x.1.2.2.1.length:Int)))with
|true=>
 match pG ((x.1.1,x.1.2.1,x.1.2.2.1,x.1.2.2.2.1,()),x.2.1,())with
 |none=>none
 |some v8=>
 match(decide (v8.1>(32000:Int)))with
 |true=>
  some (.inr (.inr ((8:Int),())))
 |false=>
  some (.inl ((x.1.1,x.1.2.1,x.1.2.2.1,x.1.2.2.2.1,()),(IntKind.i64.wrap (x.2.1+(1:Int))),()))
|false=>
 some (.inr (.inl ((x.1.1,x.1.2.1,x.1.2.2.1,x.1.2.2.2.1,()),())))
noncomputable def c8(x:(Ty.T (.pair (.box ac) (.pair (.int .i64) .unit)))):Option ((Ty.T (.pair (.box ac) (.pair (.int .i64) .unit))) ⊕ ((Ty.T .unit) ⊕ (Ty.T (.pair (.int .i64) .unit)))):=
match(decide (x.2.1<(x.1.2.2.2.1.length:Int)))with
|true=>
 aa (aq x.1.2.2.2.1 x.2.1) fun v12=>
 match(v12.2.2.2.1.2.1==(3:Int))with
 |true=>
  aa (aq x.1.2.2.2.1 x.2.1) fun v13=>
  match(v13.1 != (0:Int))with
  |true=>
   some (.inr (.inr ((10:Int),())))
  |false=>
   some (.inl ((x.1.1,x.1.2.1,x.1.2.2.1,x.1.2.2.2.1,()),(IntKind.i64.wrap (x.2.1+(1:Int))),()))
 |false=>
  some (.inl ((x.1.1,x.1.2.1,x.1.2.2.1,x.1.2.2.2.1,()),(IntKind.i64.wrap (x.2.1+(1:Int))),()))
|false=>
 some (.inr (.inl (())))
noncomputable def l0(x:Ty.T (.pair ac .unit)):Option (Ty.T (.pair (.int .i64) .unit)):=
match bp (x.1.1,(1:Int),(16777215:Int),())with
|none=>none
|some v1=>
match(!v1.1)with
|true=>
 some ((1:Int),())
|false=>
 match nW (x.1.2.1,())with
 |none=>none
 |some v2=>
 match(!v2.1)with
 |true=>
  some ((2:Int),())
 |false=>
  match nX (x.1.2.2.1,())with
  |none=>none
  |some v3=>
  match(!v3.1)with
  |true=>
   some ((3:Int),())
  |false=>
   match nY (x.1.2.2.2.1,())with
   |none=>none
   |some v4=>
   match(!v4.1)with
   |true=>
    some ((4:Int),())
   |false=>
    match kZ ((x.1.1,x.1.2.1,x.1.2.2.1,x.1.2.2.2.1,()),())with
    |none=>none
    |some v5=>
    match(!v5.1)with
    |true=>
     some ((5:Int),())
    |false=>
     match lZ ((x.1.1,x.1.2.1,x.1.2.2.1,x.1.2.2.2.1,()),())with
     |none=>none
     |some v6=>
     match(!v6.1)with
     |true=>
      some ((6:Int),())
     |false=>
      match kh ((x.1.1,x.1.2.1,x.1.2.2.1,x.1.2.2.2.1,()),())with
      |none=>none
      |some v7=>
      match(!v7.1)with
      |true=>
       some ((7:Int),())
      |false=>
       match ag dI ((x.1.1,x.1.2.1,x.1.2.2.1,x.1.2.2.2.1,()),(0:Int),())with
       |none=>none
       |some (.inl v9)=>
        match nC ((v9.1.1,v9.1.2.1,v9.1.2.2.1,v9.1.2.2.2.1,()),())with
        |none=>none
        |some v11=>
        match(!v11.1)with
        |true=>
         some ((9:Int),())
        |false=>
         match ag c8 ((v9.1.1,v9.1.2.1,v9.1.2.2.1,v9.1.2.2.2.1,()),(0:Int),())with
         |none=>none
         |some (.inl v14)=>
          some ((0:Int),())
         |some (.inr v15)=>
          some (v15.1,())
       |some (.inr v10)=>
        some (v10.1,())
noncomputable def LW:Spec:=⟨_,(.pair (.int .i64) .unit),.unit,rfl,l0⟩
noncomputable def pH:FuncId→Option Spec:=bh [(70,lV),(241,wA),(242,wB),(243,wC),(244,wD),(245,yw),(246,uM),(247,Du),(248,Bg)]
theorem FD:∀f s,pH f=some s→FnOK G0 Tryz.prog f s:=aF ⟨cD,HG,HI,HK,HL,JC,FA,N8,LV,trivial⟩
def tc:aO:=⟨[1,3],(.pair (.box ac) (.pair (.int .i64) .unit)),1,[1],(.pair (.box ac) .unit),[2],(.pair (.int .i64) .unit)⟩
def td:aO:=⟨[1,4],(.pair (.box ac) (.pair (.int .i64) .unit)),3,[],.unit,[2],(.pair (.int .i64) .unit)⟩
noncomputable def pI:List ay:=[tc.spec dI,td.spec c8]
theorem Cs:bc bd E0 pH (ba Tryz.f188 pI) Tryz.f188 0 tc dI:=fun x=>by kernel_rfl
theorem Ct:bc bd E0 pH (ba Tryz.f188 pI) Tryz.f188 1 td c8:=fun x=>by kernel_rfl
theorem JE:FnOK G0 Tryz.prog 188 LW:=aH ao FD Tryz.func188 pI (by kernel_rfl) (by exact⟨(Cs).lok,(Ct).lok,trivial⟩) fun x=>by kernel_rfl
noncomputable def l5(x:Ty.T (.pair ac .unit)):Option (Ty.T (.pair .bool .unit)):=
match l0 ((x.1.1,x.1.2.1,x.1.2.2.1,x.1.2.2.2.1,()),())with
|none=>none
|some v1=>
some ((v1.1==(0:Int)),())
noncomputable def UA:Spec:=⟨_,(.pair .bool .unit),.unit,rfl,l5⟩
theorem Gq:FnOK G0 Tryz.prog 125 UA:=ap ao (sg JE (aJ)) Tryz.func125
noncomputable def rG(x:Ty.T (.pair (.box ah) .unit)):Option (Ty.T (.pair ac (.pair ab (.pair (.box ah) .unit)))):=
match lY ((x.1.1,x.1.2.1,x.1.2.2.1,()),())with
|none=>none
|some v1=>
match iW ((v1.2.1.1,v1.2.1.2.1,v1.2.1.2.2.1,()),())with
|none=>none
|some v2=>
match l5 ((v1.1.1,v1.1.2.1,v1.1.2.2.1,v1.1.2.2.2.1,()),())with
|none=>none
|some v3=>
match(!v3.1)with
|true=>
 aI (
  some ((v1.1.1,v1.1.2.1,v1.1.2.2.1,v1.1.2.2.2.1,()),(v2.1.1,v2.1.2.1,v2.1.2.2.1,v2.1.2.2.2.1,v2.1.2.2.2.2.1,()),(v2.2.1.1,v2.2.1.2.1,v2.2.1.2.2.1,()),()))
|false=>
 match ai ((v2.2.1.1,v2.2.1.2.1,v2.2.1.2.2.1,()),(16:Int),())with
 |none=>none
 |some v4=>
 match(v4.1==(0:Int))with
 |true=>
  aI (
   some ((v1.1.1,v1.1.2.1,v1.1.2.2.1,v1.1.2.2.2.1,()),(v2.1.1,v2.1.2.1,v2.1.2.2.1,v2.1.2.2.2.1,v2.1.2.2.2.2.1,()),(v4.2.1.1,v4.2.1.2.1,v4.2.1.2.2.1,()),()))
 |false=>
  match ai ((v4.2.1.1,v4.2.1.2.1,v4.2.1.2.2.1,()),(65536:Int),())with
  |none=>none
  |some v5=>
  match ai ((v5.2.1.1,v5.2.1.2.1,v5.2.1.2.2.1,()),(v1.1.2.2.1.length:Int),())with
  |none=>none
  |some v6=>
  aQ (
   aa (aq v1.1.2.2.1 v6.1) fun v7=>
   aI (
    match ai ((v6.2.1.1,v6.2.1.2.1,v6.2.1.2.2.1,()),(30:Int),())with
    |none=>none
    |some v8=>
    match ai ((v8.2.1.1,v8.2.1.2.1,v8.2.1.2.2.1,()),(IntKind.i64.wrap (v7.1+(IntKind.i64.wrap (Int.tdiv v8.1 (29:Int))))),())with
    |none=>none
    |some v9=>
    aQ (
     aa (aq v1.1.2.2.1 v6.1) fun v10=>
     aI (
      match ai ((v9.2.1.1,v9.2.1.2.1,v9.2.1.2.2.1,()),(30:Int),())with
      |none=>none
      |some v11=>
      match ai ((v11.2.1.1,v11.2.1.2.1,v11.2.1.2.2.1,()),(IntKind.i64.wrap (v10.2.1+(IntKind.i64.wrap (Int.tdiv v11.1 (29:Int))))),())with
      |none=>none
      |some v12=>
      match cM (v1.1.2.1,())with
      |none=>none
      |some v13=>
      match ai ((v12.2.1.1,v12.2.1.2.1,v12.2.1.2.2.1,()),(3:Int),())with
      |none=>none
      |some v14=>
      match(v14.1==(0:Int))with
      |true=>
       aI (
        match ai ((v14.2.1.1,v14.2.1.2.1,v14.2.1.2.2.1,()),(256:Int),())with
        |none=>none
        |some v15=>
        match ai ((v15.2.1.1,v15.2.1.2.1,v15.2.1.2.2.1,()),(30:Int),())with
        |none=>none
        |some v16=>
        match(v16.1==(0:Int))with
        |true=>
         aI (
          match ai ((v16.2.1.1,v16.2.1.2.1,v16.2.1.2.2.1,()),(10:Int),())with
          |none=>none
          |some v17=>
          if(IntKind.u64.wrap v17.1)<0 then none else
          aI (
           some ((v1.1.1,v1.1.2.1,v1.1.2.2.1,v1.1.2.2.2.1,()),(v5.1,v6.1,v9.1,v12.1,(bits BinOp.xor .i64 (bits BinOp.and .i64 v13.1 v15.1) (IntKind.i64.wrap ((1:Int)*2^min (IntKind.u64.wrap v17.1).toNat IntKind.i64.bits))),()),(v17.2.1.1,v17.2.1.2.1,v17.2.1.2.2.1,()),())))
        |false=>
         aI (
          some ((v1.1.1,v1.1.2.1,v1.1.2.2.1,v1.1.2.2.2.1,()),(v5.1,v6.1,v9.1,v12.1,(bits BinOp.and .i64 v13.1 v15.1),()),(v16.2.1.1,v16.2.1.2.1,v16.2.1.2.2.1,()),())))
      |false=>
       match ai ((v14.2.1.1,v14.2.1.2.1,v14.2.1.2.2.1,()),(30:Int),())with
       |none=>none
       |some v18=>
       match(v18.1==(0:Int))with
       |true=>
        aI (
         match ai ((v18.2.1.1,v18.2.1.2.1,v18.2.1.2.2.1,()),(10:Int),())with
         |none=>none
         |some v19=>
         if(IntKind.u64.wrap v19.1)<0 then none else
         aI (
          some ((v1.1.1,v1.1.2.1,v1.1.2.2.1,v1.1.2.2.2.1,()),(v5.1,v6.1,v9.1,v12.1,(bits BinOp.xor .i64 v13.1 (IntKind.i64.wrap ((1:Int)*2^min (IntKind.u64.wrap v19.1).toNat IntKind.i64.bits))),()),(v19.2.1.1,v19.2.1.2.1,v19.2.1.2.2.1,()),())))
       |false=>
        aI (
         some ((v1.1.1,v1.1.2.1,v1.1.2.2.1,v1.1.2.2.2.1,()),(v5.1,v6.1,v9.1,v12.1,v13.1,()),(v18.2.1.1,v18.2.1.2.1,v18.2.1.2.2.1,()),())))) (
     match ai ((v9.2.1.1,v9.2.1.2.1,v9.2.1.2.2.1,()),(30:Int),())with
     |none=>none
     |some v10=>
     aa (aq v1.1.2.2.1 v6.1) fun v11=>
     match ai ((v10.2.1.1,v10.2.1.2.1,v10.2.1.2.2.1,()),(IntKind.i64.wrap (v11.2.1+(IntKind.i64.wrap (Int.tdiv v10.1 (29:Int))))),())with
     |none=>none
     |some v12=>
     match cM (v1.1.2.1,())with
     |none=>none
     |some v13=>
     match ai ((v12.2.1.1,v12.2.1.2.1,v12.2.1.2.2.1,()),(3:Int),())with
     |none=>none
     |some v14=>
     match(v14.1==(0:Int))with
     |true=>
      aI (
       match ai ((v14.2.1.1,v14.2.1.2.1,v14.2.1.2.2.1,()),(256:Int),())with
       |none=>none
       |some v15=>
       match ai ((v15.2.1.1,v15.2.1.2.1,v15.2.1.2.2.1,()),(30:Int),())with
       |none=>none
       |some v16=>
       match(v16.1==(0:Int))with
       |true=>
        aI (
         match ai ((v16.2.1.1,v16.2.1.2.1,v16.2.1.2.2.1,()),(10:Int),())with
         |none=>none
         |some v17=>
         if(IntKind.u64.wrap v17.1)<0 then none else
         aI (
          some ((v1.1.1,v1.1.2.1,v1.1.2.2.1,v1.1.2.2.2.1,()),(v5.1,v6.1,v9.1,v12.1,(bits BinOp.xor .i64 (bits BinOp.and .i64 v13.1 v15.1) (IntKind.i64.wrap ((1:Int)*2^min (IntKind.u64.wrap v17.1).toNat IntKind.i64.bits))),()),(v17.2.1.1,v17.2.1.2.1,v17.2.1.2.2.1,()),())))
       |false=>
        aI (
         some ((v1.1.1,v1.1.2.1,v1.1.2.2.1,v1.1.2.2.2.1,()),(v5.1,v6.1,v9.1,v12.1,(bits BinOp.and .i64 v13.1 v15.1),()),(v16.2.1.1,v16.2.1.2.1,v16.2.1.2.2.1,()),())))
     |false=>
      match ai ((v14.2.1.1,v14.2.1.2.1,v14.2.1.2.2.1,()),(30:Int),())with
      |none=>none
      |some v18=>
      match(v18.1==(0:Int))with
      |true=>
       aI (
        match ai ((v18.2.1.1,v18.2.1.2.1,v18.2.1.2.2.1,()),(10:Int),())with
        |none=>none
        |some v19=>
        if(IntKind.u64.wrap v19.1)<0 then none else
        aI (
         some ((v1.1.1,v1.1.2.1,v1.1.2.2.1,v1.1.2.2.2.1,()),(v5.1,v6.1,v9.1,v12.1,(bits BinOp.xor .i64 v13.1 (IntKind.i64.wrap ((1:Int)*2^min (IntKind.u64.wrap v19.1).toNat IntKind.i64.bits))),()),(v19.2.1.1,v19.2.1.2.1,v19.2.1.2.2.1,()),())))
      |false=>
       aI (
        some ((v1.1.1,v1.1.2.1,v1.1.2.2.1,v1.1.2.2.2.1,()),(v5.1,v6.1,v9.1,v12.1,v13.1,()),(v18.2.1.1,v18.2.1.2.1,v18.2.1.2.2.1,()),()))))) (
   match ai ((v6.2.1.1,v6.2.1.2.1,v6.2.1.2.2.1,()),(30:Int),())with
   |none=>none
   |some v7=>
   aa (aq v1.1.2.2.1 v6.1) fun v8=>
   match ai ((v7.2.1.1,v7.2.1.2.1,v7.2.1.2.2.1,()),(IntKind.i64.wrap (v8.1+(IntKind.i64.wrap (Int.tdiv v7.1 (29:Int))))),())with
   |none=>none
   |some v9=>
   aQ (
    aa (aq v1.1.2.2.1 v6.1) fun v10=>
    aI (
     match ai ((v9.2.1.1,v9.2.1.2.1,v9.2.1.2.2.1,()),(30:Int),())with
     |none=>none
     |some v11=>
     match ai ((v11.2.1.1,v11.2.1.2.1,v11.2.1.2.2.1,()),(IntKind.i64.wrap (v10.2.1+(IntKind.i64.wrap (Int.tdiv v11.1 (29:Int))))),())with
     |none=>none
     |some v12=>
     match cM (v1.1.2.1,())with
     |none=>none
     |some v13=>
     match ai ((v12.2.1.1,v12.2.1.2.1,v12.2.1.2.2.1,()),(3:Int),())with
     |none=>none
     |some v14=>
     match(v14.1==(0:Int))with
     |true=>
      aI (
       match ai ((v14.2.1.1,v14.2.1.2.1,v14.2.1.2.2.1,()),(256:Int),())with
       |none=>none
       |some v15=>
       match ai ((v15.2.1.1,v15.2.1.2.1,v15.2.1.2.2.1,()),(30:Int),())with
       |none=>none
       |some v16=>
       match(v16.1==(0:Int))with
       |true=>
        aI (
         match ai ((v16.2.1.1,v16.2.1.2.1,v16.2.1.2.2.1,()),(10:Int),())with
         |none=>none
         |some v17=>
         if(IntKind.u64.wrap v17.1)<0 then none else
         aI (
          some ((v1.1.1,v1.1.2.1,v1.1.2.2.1,v1.1.2.2.2.1,()),(v5.1,v6.1,v9.1,v12.1,(bits BinOp.xor .i64 (bits BinOp.and .i64 v13.1 v15.1) (IntKind.i64.wrap ((1:Int)*2^min (IntKind.u64.wrap v17.1).toNat IntKind.i64.bits))),()),(v17.2.1.1,v17.2.1.2.1,v17.2.1.2.2.1,()),())))
       |false=>
        aI (
         some ((v1.1.1,v1.1.2.1,v1.1.2.2.1,v1.1.2.2.2.1,()),(v5.1,v6.1,v9.1,v12.1,(bits BinOp.and .i64 v13.1 v15.1),()),(v16.2.1.1,v16.2.1.2.1,v16.2.1.2.2.1,()),())))
     |false=>
      match ai ((v14.2.1.1,v14.2.1.2.1,v14.2.1.2.2.1,()),(30:Int),())with
      |none=>none
      |some v18=>
      match(v18.1==(0:Int))with
      |true=>
       aI (
        match ai ((v18.2.1.1,v18.2.1.2.1,v18.2.1.2.2.1,()),(10:Int),())with
        |none=>none
        |some v19=>
        if(IntKind.u64.wrap v19.1)<0 then none else
        aI (
         some ((v1.1.1,v1.1.2.1,v1.1.2.2.1,v1.1.2.2.2.1,()),(v5.1,v6.1,v9.1,v12.1,(bits BinOp.xor .i64 v13.1 (IntKind.i64.wrap ((1:Int)*2^min (IntKind.u64.wrap v19.1).toNat IntKind.i64.bits))),()),(v19.2.1.1,v19.2.1.2.1,v19.2.1.2.2.1,()),())))
      |false=>
       aI (
        some ((v1.1.1,v1.1.2.1,v1.1.2.2.1,v1.1.2.2.2.1,()),(v5.1,v6.1,v9.1,v12.1,v13.1,()),(v18.2.1.1,v18.2.1.2.1,v18.2.1.2.2.1,()),())))) (
    match ai ((v9.2.1.1,v9.2.1.2.1,v9.2.1.2.2.1,()),(30:Int),())with
    |none=>none
    |some v10=>
    aa (aq v1.1.2.2.1 v6.1) fun v11=>
    match ai ((v10.2.1.1,v10.2.1.2.1,v10.2.1.2.2.1,()),(IntKind.i64.wrap (v11.2.1+(IntKind.i64.wrap (Int.tdiv v10.1 (29:Int))))),())with
    |none=>none
    |some v12=>
    match cM (v1.1.2.1,())with
    |none=>none
    |some v13=>
    match ai ((v12.2.1.1,v12.2.1.2.1,v12.2.1.2.2.1,()),(3:Int),())with
    |none=>none
    |some v14=>
    match(v14.1==(0:Int))with
    |true=>
     aI (
      match ai ((v14.2.1.1,v14.2.1.2.1,v14.2.1.2.2.1,()),(256:Int),())with
      |none=>none
      |some v15=>
      match ai ((v15.2.1.1,v15.2.1.2.1,v15.2.1.2.2.1,()),(30:Int),())with
      |none=>none
      |some v16=>
      match(v16.1==(0:Int))with
      |true=>
       aI (
        match ai ((v16.2.1.1,v16.2.1.2.1,v16.2.1.2.2.1,()),(10:Int),())with
        |none=>none
        |some v17=>
        if(IntKind.u64.wrap v17.1)<0 then none else
        aI (
         some ((v1.1.1,v1.1.2.1,v1.1.2.2.1,v1.1.2.2.2.1,()),(v5.1,v6.1,v9.1,v12.1,(bits BinOp.xor .i64 (bits BinOp.and .i64 v13.1 v15.1) (IntKind.i64.wrap ((1:Int)*2^min (IntKind.u64.wrap v17.1).toNat IntKind.i64.bits))),()),(v17.2.1.1,v17.2.1.2.1,v17.2.1.2.2.1,()),())))
      |false=>
       aI (
        some ((v1.1.1,v1.1.2.1,v1.1.2.2.1,v1.1.2.2.2.1,()),(v5.1,v6.1,v9.1,v12.1,(bits BinOp.and .i64 v13.1 v15.1),()),(v16.2.1.1,v16.2.1.2.1,v16.2.1.2.2.1,()),())))
    |false=>
     match ai ((v14.2.1.1,v14.2.1.2.1,v14.2.1.2.2.1,()),(30:Int),())with
     |none=>none
     |some v18=>
     match(v18.1==(0:Int))with
     |true=>
      aI (
       match ai ((v18.2.1.1,v18.2.1.2.1,v18.2.1.2.2.1,()),(10:Int),())with
       |none=>none
       |some v19=>
       if(IntKind.u64.wrap v19.1)<0 then none else
       aI (
        some ((v1.1.1,v1.1.2.1,v1.1.2.2.1,v1.1.2.2.2.1,()),(v5.1,v6.1,v9.1,v12.1,(bits BinOp.xor .i64 v13.1 (IntKind.i64.wrap ((1:Int)*2^min (IntKind.u64.wrap v19.1).toNat IntKind.i64.bits))),()),(v19.2.1.1,v19.2.1.2.1,v19.2.1.2.2.1,()),())))
     |false=>
      aI (
       some ((v1.1.1,v1.1.2.1,v1.1.2.2.1,v1.1.2.2.2.1,()),(v5.1,v6.1,v9.1,v12.1,v13.1,()),(v18.2.1.1,v18.2.1.2.1,v18.2.1.2.2.1,()),()))))
noncomputable def Gr:Spec:=⟨_,(.pair ac (.pair ab .unit)),(.pair (.box ah) .unit),rfl,rG⟩
theorem P8:FnOK G0 Tryz.prog 62 Gr:=ap ao (sg bR (sg Jw (sg wv (sg Gq (sg kg (aJ)))))) Tryz.func62
noncomputable def lu(x:Ty.T (.pair (.int .i64) .unit)):Option (Ty.T (.pair .bool (.pair .bool .unit))):=
match(x.1==(2:Int))with
|true=>
 some (true,false,())
|false=>
 match(x.1==(3:Int))with
 |true=>
  some (true,false,())
 |false=>
  match(x.1==(4:Int))with
  |true=>
   some (true,true,())
  |false=>
   match(x.1==(6:Int))with
   |true=>
    some (true,true,())
   |false=>
    some (false,false,())
noncomputable def N9:Spec:=⟨_,(.pair .bool (.pair .bool .unit)),.unit,rfl,lu⟩
theorem yy:FnOK G0 Tryz.prog 160 N9:=ap ao aJ Tryz.func160
noncomputable def qZ(x:Ty.T (.pair (.box ah) (.pair (.int .i64) .unit))):Option (Ty.T (.pair ax (.pair (.box ah) .unit))):=
match ai ((x.1.1,x.1.2.1,x.1.2.2.1,()),(6:Int),())with
|none=>none
|some v1=>
match ai ((v1.2.1.1,v1.2.1.2.1,v1.2.1.2.2.1,()),(IntKind.i64.wrap (x.2.1+(4:Int))),())with
|none=>none
|some v2=>
match lu ((IntKind.i64.wrap ((1:Int)+v1.1)),())with
|none=>none
|some v3=>
match v3.1 with
|true=>
 match ai ((v2.2.1.1,v2.2.1.2.1,v2.2.1.2.2.1,()),(12:Int),())with
 |none=>none
 |some v4=>
 match v3.2.1 with
 |true=>
  match ai ((v4.2.1.1,v4.2.1.2.1,v4.2.1.2.2.1,()),(2:Int),())with
  |none=>none
  |some v5=>
  some (((IntKind.i64.wrap ((1:Int)+v1.1)),(if v2.1<(8192:Int)then v2.1 else(8192:Int)),(IntKind.i64.wrap ((1:Int)+v4.1)),v5.1,()),(v5.2.1.1,v5.2.1.2.1,v5.2.1.2.2.1,()),())
 |false=>
  some (((IntKind.i64.wrap ((1:Int)+v1.1)),(if v2.1<(8192:Int)then v2.1 else(8192:Int)),(IntKind.i64.wrap ((1:Int)+v4.1)),(0:Int),()),(v4.2.1.1,v4.2.1.2.1,v4.2.1.2.2.1,()),())
|false=>
 match v3.2.1 with
 |true=>
  match ai ((v2.2.1.1,v2.2.1.2.1,v2.2.1.2.2.1,()),(2:Int),())with
  |none=>none
  |some v6=>
  some (((IntKind.i64.wrap ((1:Int)+v1.1)),(if v2.1<(8192:Int)then v2.1 else(8192:Int)),(0:Int),v6.1,()),(v6.2.1.1,v6.2.1.2.1,v6.2.1.2.2.1,()),())
 |false=>
  some (((IntKind.i64.wrap ((1:Int)+v1.1)),(if v2.1<(8192:Int)then v2.1 else(8192:Int)),(0:Int),(0:Int),()),(v2.2.1.1,v2.2.1.2.1,v2.2.1.2.2.1,()),())
noncomputable def Oa:Spec:=⟨_,(.pair ax .unit),(.pair (.box ah) .unit),rfl,qZ⟩
theorem LX:FnOK G0 Tryz.prog 159 Oa:=ap ao (sg bR (sg yy (aJ))) Tryz.func159
noncomputable def rH(x:Ty.T (.pair (.box ah) (.pair (.int .i64) .unit))):Option (Ty.T (.pair ax (.pair (.box ah) .unit))):=
match qZ ((x.1.1,x.1.2.1,x.1.2.2.1,()),x.2.1,())with
|none=>none
|some v1=>
match ai ((v1.2.1.1,v1.2.1.2.1,v1.2.1.2.2.1,()),(30:Int),())with
|none=>none
|some v2=>
match(v2.1==(0:Int))with
|true=>
 match ai ((v2.2.1.1,v2.2.1.2.1,v2.2.1.2.2.1,()),(2:Int),())with
 |none=>none
 |some v3=>
 aa (aq [(0:Int),(7:Int)] v3.1) fun _=>
 match [(0:Int),(7:Int)][v3.1.toNat]? with
 |none=>none
 |some v5=>
 some ((v5,v1.1.2.1,v1.1.2.2.1,v1.1.2.2.2.1,()),(v3.2.1.1,v3.2.1.2.1,v3.2.1.2.2.1,()),())
|false=>
 match(v2.1==(1:Int))with
 |true=>
  match ai ((v2.2.1.1,v2.2.1.2.1,v2.2.1.2.2.1,()),(3:Int),())with
  |none=>none
  |some v6=>
  aa (aq [(-1:Int),(8192:Int),(8193:Int)] v6.1) fun _=>
  match [(-1:Int),(8192:Int),(8193:Int)][v6.1.toNat]? with
  |none=>none
  |some v8=>
  some ((v1.1.1,v8,v1.1.2.2.1,v1.1.2.2.2.1,()),(v6.2.1.1,v6.2.1.2.1,v6.2.1.2.2.1,()),())
 |false=>
  match(v2.1==(2:Int))with
  |true=>
   match ai ((v2.2.1.1,v2.2.1.2.1,v2.2.1.2.2.1,()),(4:Int),())with
   |none=>none
   |some v9=>
   aa (aq [(-1:Int),(0:Int),(8192:Int),(8193:Int)] v9.1) fun _=>
   match [(-1:Int),(0:Int),(8192:Int),(8193:Int)][v9.1.toNat]? with
   |none=>none
   |some v11=>
   some ((v1.1.1,v1.1.2.1,v11,v1.1.2.2.2.1,()),(v9.2.1.1,v9.2.1.2.1,v9.2.1.2.2.1,()),())
  |false=>
   match(v2.1==(3:Int))with
   |true=>
    match ai ((v2.2.1.1,v2.2.1.2.1,v2.2.1.2.2.1,()),(3:Int),())with
    |none=>none
    |some v12=>
    aa (aq [(-1:Int),(1:Int),(2:Int)] v12.1) fun _=>
    match [(-1:Int),(1:Int),(2:Int)][v12.1.toNat]? with
    |none=>none
    |some v14=>
    some ((v1.1.1,v1.1.2.1,v1.1.2.2.1,v14,()),(v12.2.1.1,v12.2.1.2.1,v12.2.1.2.2.1,()),())
   |false=>
    some ((v1.1.1,v1.1.2.1,v1.1.2.2.1,v1.1.2.2.2.1,()),(v2.2.1.1,v2.2.1.2.1,v2.2.1.2.2.1,()),())
noncomputable def Gs:Spec:=⟨_,(.pair ax .unit),(.pair (.box ah) .unit),rfl,rH⟩
theorem P9:FnOK G0 Tryz.prog 100 Gs:=ap ao (sg bR (sg LX (aJ))) Tryz.func100
noncomputable def l6(x:Ty.T (.pair ax .unit)):Option (Ty.T (.pair .bool .unit)):=
match bp (x.1.1,(1:Int),(6:Int),())with
|none=>none
|some v1=>
match(!v1.1)with
|true=>
 some (false,())
|false=>
 match bp (x.1.2.1,(0:Int),(8192:Int),())with
 |none=>none
 |some v2=>
 match(!v2.1)with
 |true=>
  some (false,())
 |false=>
  match lu (x.1.1,())with
  |none=>none
  |some v3=>
  match v3.1 with
  |true=>
   match bp (x.1.2.2.1,(1:Int),(8192:Int),())with
   |none=>none
   |some v4=>
   match(!v4.1)with
   |true=>
    some (false,())
   |false=>
    match(!v3.1)with
    |true=>
     match(x.1.2.2.1 != (0:Int))with
     |true=>
      some (false,())
     |false=>
      match bp (x.1.2.2.2.1,(0:Int),(1:Int),())with
      |none=>none
      |some v5=>
      match v5.1 with
      |true=>
       match v3.2.1 with
       |true=>
        some (true,())
       |false=>
        some ((x.1.2.2.2.1==(0:Int)),())
      |false=>
       some (false,())
    |false=>
     match bp (x.1.2.2.2.1,(0:Int),(1:Int),())with
     |none=>none
     |some v6=>
     match v6.1 with
     |true=>
      match v3.2.1 with
      |true=>
       some (true,())
      |false=>
       some ((x.1.2.2.2.1==(0:Int)),())
     |false=>
      some (false,())
  |false=>
   match(!v3.1)with
   |true=>
    match(x.1.2.2.1 != (0:Int))with
    |true=>
     some (false,())
    |false=>
     match bp (x.1.2.2.2.1,(0:Int),(1:Int),())with
     |none=>none
     |some v7=>
     match v7.1 with
     |true=>
      match v3.2.1 with
      |true=>
       some (true,())
      |false=>
       some ((x.1.2.2.2.1==(0:Int)),())
     |false=>
      some (false,())
   |false=>
    match bp (x.1.2.2.2.1,(0:Int),(1:Int),())with
    |none=>none
    |some v8=>
    match v8.1 with
    |true=>
     match v3.2.1 with
     |true=>
      some (true,())
     |false=>
      some ((x.1.2.2.2.1==(0:Int)),())
    |false=>
     some (false,())
noncomputable def xH:Spec:=⟨_,(.pair .bool .unit),.unit,rfl,l6⟩
theorem Dw:FnOK G0 Tryz.prog 101 xH:=ap ao (sg cD (sg yy (aJ))) Tryz.func101
noncomputable def ig(x:(Ty.T (.pair (.box ah) (.pair (.int .i64) (.pair (.own 43 ax) (.pair (.int .i64) .unit)))))):Option ((Ty.T (.pair (.box ah) (.pair (.int .i64) (.pair (.own 43 ax) (.pair (.int .i64) .unit))))) ⊕ ((Ty.T (.pair (.box ah) (.pair (.own 43 ax) .unit))) ⊕ (Ty.T .unit))):=
match(decide (x.2.2.2.1>(0:Int)))with
|true=>
 match rH ((x.1.1,x.1.2.1,x.1.2.2.1,()),x.2.1,())with
 |none=>none
 |some v2=>
 match l6 ((v2.1.1,v2.1.2.1,v2.1.2.2.1,v2.1.2.2.2.1,()),())with
 |none=>none
 |some v3=>
 match v3.1 with
 |true=>
  aA (x.2.2.1.length+ [(v2.1.1,v2.1.2.1,v2.1.2.2.1,v2.1.2.2.2.1,())].length) (
   some (.inl ((v2.2.1.1,v2.2.1.2.1,v2.2.1.2.2.1,()),x.2.1,(x.2.2.1++ [(v2.1.1,v2.1.2.1,v2.1.2.2.1,v2.1.2.2.2.1,())]),(IntKind.i64.wrap (x.2.2.2.1-(1:Int))),())))
 |false=>
  match ai ((v2.2.1.1,v2.2.1.2.1,v2.2.1.2.2.1,()),(4:Int),())with
  |none=>none
  |some v4=>
  match(v4.1==(0:Int))with
  |true=>
   aA (x.2.2.1.length+ [(v2.1.1,v2.1.2.1,v2.1.2.2.1,v2.1.2.2.2.1,())].length) (
    some (.inl ((v4.2.1.1,v4.2.1.2.1,v4.2.1.2.2.1,()),x.2.1,(x.2.2.1++ [(v2.1.1,v2.1.2.1,v2.1.2.2.1,v2.1.2.2.2.1,())]),(IntKind.i64.wrap (x.2.2.2.1-(1:Int))),())))
  |false=>
   some (.inl ((v4.2.1.1,v4.2.1.2.1,v4.2.1.2.2.1,()),x.2.1,x.2.2.1,(IntKind.i64.wrap (x.2.2.2.1-(1:Int))),()))
|false=>
 some (.inr (.inl ((x.1.1,x.1.2.1,x.1.2.2.1,()),x.2.2.1,())))
noncomputable def ii(x:(Ty.T (.pair (.box ah) (.pair (.own 43 ax) .unit)))):Option ((Ty.T (.pair (.box ah) (.pair (.own 43 ax) .unit))) ⊕ ((Ty.T (.pair (.box ah) (.pair (.own 43 ax) .unit))) ⊕ (Ty.T .unit))):=
match ai ((x.1.1,x.1.2.1,x.1.2.2.1,()),(2:Int),())with
|none=>none
|some v8=>
match(decide ((x.2.1.length:Int)<(IntKind.i64.wrap ((30:Int)+v8.1))))with
|true=>
 aA (x.2.1.length+ [((1:Int),(3:Int),(0:Int),(0:Int),())].length) (
  some (.inl ((v8.2.1.1,v8.2.1.2.1,v8.2.1.2.2.1,()),(x.2.1++ [((1:Int),(3:Int),(0:Int),(0:Int),())]),())))
|false=>
 some (.inr (.inl ((v8.2.1.1,v8.2.1.2.1,v8.2.1.2.2.1,()),x.2.1,())))
noncomputable def wI(x:Ty.T (.pair (.box ah) (.pair (.int .i64) .unit))):Option (Ty.T (.pair (.own 43 ax) (.pair (.box ah) .unit))):=
match ai ((x.1.1,x.1.2.1,x.1.2.2.1,()),(5:Int),())with
|none=>none
|some v1=>
match ag ig ((v1.2.1.1,v1.2.1.2.1,v1.2.1.2.2.1,()),x.2.1,[],v1.1,())with
|none=>none
|some (.inl v5)=>
 match ai ((v5.1.1,v5.1.2.1,v5.1.2.2.1,()),(40:Int),())with
 |none=>none
 |some v7=>
 match(v7.1==(0:Int))with
 |true=>
  match ag ii ((v7.2.1.1,v7.2.1.2.1,v7.2.1.2.2.1,()),v5.2.1,())with
  |none=>none
  |some (.inl v9)=>
   some (v9.2.1,(v9.1.1,v9.1.2.1,v9.1.2.2.1,()),())
  |some (.inr v11)=>
   none
 |false=>
  some (v5.2.1,(v7.2.1.1,v7.2.1.2.1,v7.2.1.2.2.1,()),())
|some (.inr v12)=>
 none
noncomputable def Sm:Spec:=⟨_,(.pair (.own 43 ax) .unit),(.pair (.box ah) .unit),rfl,wI⟩
noncomputable def uO:FuncId→Option Spec:=bh [(52,iC),(100,Gs),(101,xH)]
theorem LY:∀f s,uO f=some s→FnOK G0 Tryz.prog f s:=aF ⟨bR,P9,Dw,trivial⟩
def Bh:aO:=⟨[0,1,5,6],(.pair (.box ah) (.pair (.int .i64) (.pair (.own 43 ax) (.pair (.int .i64) .unit)))),0,[0,5],(.pair (.box ah) (.pair (.own 43 ax) .unit)),[],.unit⟩
def Bi:aO:=⟨[0,5],(.pair (.box ah) (.pair (.own 43 ax) .unit)),2,[0,5],(.pair (.box ah) (.pair (.own 43 ax) .unit)),[],.unit⟩
noncomputable def uP:List ay:=[Bh.spec ig,Bi.spec ii]
theorem JF:bc bd E0 uO (ba Tryz.f50 uP) Tryz.f50 0 Bh ig:=fun x=>by kernel_rfl
theorem JG:bc bd E0 uO (ba Tryz.f50 uP) Tryz.f50 1 Bi ii:=fun x=>by kernel_rfl
theorem Qa:FnOK G0 Tryz.prog 50 Sm:=aH ao LY Tryz.func50 uP (by kernel_rfl) (by exact⟨(JF).lok,(JG).lok,trivial⟩) fun x=>by kernel_rfl
noncomputable def lc(x:Ty.T (.pair (.box ah) .unit)):Option (Ty.T (.pair au (.pair (.box ah) .unit))):=
match ai ((x.1.1,x.1.2.1,x.1.2.2.1,()),(256:Int),())with
|none=>none
|some v1=>
match ai ((v1.2.1.1,v1.2.1.2.1,v1.2.1.2.2.1,()),(3:Int),())with
|none=>none
|some v2=>
match ai ((v2.2.1.1,v2.2.1.2.1,v2.2.1.2.2.1,()),(3:Int),())with
|none=>none
|some v3=>
match ai ((v3.2.1.1,v3.2.1.2.1,v3.2.1.2.2.1,()),(6:Int),())with
|none=>none
|some v4=>
match(v4.1==(0:Int))with
|true=>
 match wI ((v4.2.1.1,v4.2.1.2.1,v4.2.1.2.2.1,()),(2400:Int),())with
 |none=>none
 |some v5=>
 match ai ((v5.2.1.1,v5.2.1.2.1,v5.2.1.2.2.1,()),(40:Int),())with
 |none=>none
 |some v6=>
 match(v6.1==(0:Int))with
 |true=>
  match ai ((v6.2.1.1,v6.2.1.2.1,v6.2.1.2.2.1,()),(2:Int),())with
  |none=>none
  |some v7=>
  aa (aq [(-1:Int),(256:Int)] v7.1) fun _=>
  match [(-1:Int),(256:Int)][v7.1.toNat]? with
  |none=>none
  |some v9=>
  some ((v9,(IntKind.i64.wrap (v2.1*(IntKind.i64.wrap (Int.tdiv v3.1 (2:Int))))),v5.1,[],()),(v7.2.1.1,v7.2.1.2.1,v7.2.1.2.2.1,()),())
 |false=>
  match(v6.1==(1:Int))with
  |true=>
   match ai ((v6.2.1.1,v6.2.1.2.1,v6.2.1.2.2.1,()),(3:Int),())with
   |none=>none
   |some v10=>
   aa (aq [(-1:Int),(7:Int),(8:Int)] v10.1) fun _=>
   match [(-1:Int),(7:Int),(8:Int)][v10.1.toNat]? with
   |none=>none
   |some v12=>
   some ((v1.1,v12,v5.1,[],()),(v10.2.1.1,v10.2.1.2.1,v10.2.1.2.2.1,()),())
  |false=>
   some ((v1.1,(IntKind.i64.wrap (v2.1*(IntKind.i64.wrap (Int.tdiv v3.1 (2:Int))))),v5.1,[],()),(v6.2.1.1,v6.2.1.2.1,v6.2.1.2.2.1,()),())
|false=>
 match(v4.1==(1:Int))with
 |true=>
  match ai ((v4.2.1.1,v4.2.1.2.1,v4.2.1.2.2.1,()),(40:Int),())with
  |none=>none
  |some v13=>
  match(v13.1==(0:Int))with
  |true=>
   match ai ((v13.2.1.1,v13.2.1.2.1,v13.2.1.2.2.1,()),(2:Int),())with
   |none=>none
   |some v14=>
   aa (aq [(-1:Int),(256:Int)] v14.1) fun _=>
   match [(-1:Int),(256:Int)][v14.1.toNat]? with
   |none=>none
   |some v16=>
   some ((v16,(IntKind.i64.wrap (v2.1*(IntKind.i64.wrap (Int.tdiv v3.1 (2:Int))))),[],[((5:Int),(0:Int),(0:Int),(0:Int),())],()),(v14.2.1.1,v14.2.1.2.1,v14.2.1.2.2.1,()),())
  |false=>
   match(v13.1==(1:Int))with
   |true=>
    match ai ((v13.2.1.1,v13.2.1.2.1,v13.2.1.2.2.1,()),(3:Int),())with
    |none=>none
    |some v17=>
    aa (aq [(-1:Int),(7:Int),(8:Int)] v17.1) fun _=>
    match [(-1:Int),(7:Int),(8:Int)][v17.1.toNat]? with
    |none=>none
    |some v19=>
    some ((v1.1,v19,[],[((5:Int),(0:Int),(0:Int),(0:Int),())],()),(v17.2.1.1,v17.2.1.2.1,v17.2.1.2.2.1,()),())
   |false=>
    some ((v1.1,(IntKind.i64.wrap (v2.1*(IntKind.i64.wrap (Int.tdiv v3.1 (2:Int))))),[],[((5:Int),(0:Int),(0:Int),(0:Int),())],()),(v13.2.1.1,v13.2.1.2.1,v13.2.1.2.2.1,()),())
 |false=>
  match(v4.1==(2:Int))with
  |true=>
   match ai ((v4.2.1.1,v4.2.1.2.1,v4.2.1.2.2.1,()),(900:Int),())with
   |none=>none
   |some v20=>
   match ai ((v20.2.1.1,v20.2.1.2.1,v20.2.1.2.2.1,()),(90:Int),())with
   |none=>none
   |some v21=>
   match ai ((v21.2.1.1,v21.2.1.2.1,v21.2.1.2.2.1,()),(40:Int),())with
   |none=>none
   |some v22=>
   match(v22.1==(0:Int))with
   |true=>
    match ai ((v22.2.1.1,v22.2.1.2.1,v22.2.1.2.2.1,()),(2:Int),())with
    |none=>none
    |some v23=>
    aa (aq [(-1:Int),(256:Int)] v23.1) fun _=>
    match [(-1:Int),(256:Int)][v23.1.toNat]? with
    |none=>none
    |some v25=>
    some ((v25,(IntKind.i64.wrap (v2.1*(IntKind.i64.wrap (Int.tdiv v3.1 (2:Int))))),[((1:Int),(IntKind.i64.wrap ((200:Int)+v20.1)),(0:Int),(0:Int),())],[((2:Int),(IntKind.i64.wrap ((8:Int)*(IntKind.i64.wrap ((20:Int)+v21.1)))),(8:Int),(0:Int),())],()),(v23.2.1.1,v23.2.1.2.1,v23.2.1.2.2.1,()),())
   |false=>
    match(v22.1==(1:Int))with
    |true=>
     match ai ((v22.2.1.1,v22.2.1.2.1,v22.2.1.2.2.1,()),(3:Int),())with
     |none=>none
     |some v26=>
     aa (aq [(-1:Int),(7:Int),(8:Int)] v26.1) fun _=>
     match [(-1:Int),(7:Int),(8:Int)][v26.1.toNat]? with
     |none=>none
     |some v28=>
     some ((v1.1,v28,[((1:Int),(IntKind.i64.wrap ((200:Int)+v20.1)),(0:Int),(0:Int),())],[((2:Int),(IntKind.i64.wrap ((8:Int)*(IntKind.i64.wrap ((20:Int)+v21.1)))),(8:Int),(0:Int),())],()),(v26.2.1.1,v26.2.1.2.1,v26.2.1.2.2.1,()),())
    |false=>
     some ((v1.1,(IntKind.i64.wrap (v2.1*(IntKind.i64.wrap (Int.tdiv v3.1 (2:Int))))),[((1:Int),(IntKind.i64.wrap ((200:Int)+v20.1)),(0:Int),(0:Int),())],[((2:Int),(IntKind.i64.wrap ((8:Int)*(IntKind.i64.wrap ((20:Int)+v21.1)))),(8:Int),(0:Int),())],()),(v22.2.1.1,v22.2.1.2.1,v22.2.1.2.2.1,()),())
  |false=>
   match(v4.1==(3:Int))with
   |true=>
    match ai ((v4.2.1.1,v4.2.1.2.1,v4.2.1.2.2.1,()),(1500:Int),())with
    |none=>none
    |some v29=>
    match ai ((v29.2.1.1,v29.2.1.2.1,v29.2.1.2.2.1,()),(40:Int),())with
    |none=>none
    |some v30=>
    match(v30.1==(0:Int))with
    |true=>
     match ai ((v30.2.1.1,v30.2.1.2.1,v30.2.1.2.2.1,()),(2:Int),())with
     |none=>none
     |some v31=>
     aa (aq [(-1:Int),(256:Int)] v31.1) fun _=>
     match [(-1:Int),(256:Int)][v31.1.toNat]? with
     |none=>none
     |some v33=>
     some ((v33,(IntKind.i64.wrap (v2.1*(IntKind.i64.wrap (Int.tdiv v3.1 (2:Int))))),[((5:Int),(0:Int),(0:Int),(0:Int),())],[((5:Int),v29.1,(0:Int),(0:Int),())],()),(v31.2.1.1,v31.2.1.2.1,v31.2.1.2.2.1,()),())
    |false=>
     match(v30.1==(1:Int))with
     |true=>
      match ai ((v30.2.1.1,v30.2.1.2.1,v30.2.1.2.2.1,()),(3:Int),())with
      |none=>none
      |some v34=>
      aa (aq [(-1:Int),(7:Int),(8:Int)] v34.1) fun _=>
      match [(-1:Int),(7:Int),(8:Int)][v34.1.toNat]? with
      |none=>none
      |some v36=>
      some ((v1.1,v36,[((5:Int),(0:Int),(0:Int),(0:Int),())],[((5:Int),v29.1,(0:Int),(0:Int),())],()),(v34.2.1.1,v34.2.1.2.1,v34.2.1.2.2.1,()),())
     |false=>
      some ((v1.1,(IntKind.i64.wrap (v2.1*(IntKind.i64.wrap (Int.tdiv v3.1 (2:Int))))),[((5:Int),(0:Int),(0:Int),(0:Int),())],[((5:Int),v29.1,(0:Int),(0:Int),())],()),(v30.2.1.1,v30.2.1.2.1,v30.2.1.2.2.1,()),())
   |false=>
    match ai ((v4.2.1.1,v4.2.1.2.1,v4.2.1.2.2.1,()),(40:Int),())with
    |none=>none
    |some v37=>
    match(v37.1==(0:Int))with
    |true=>
     match ai ((v37.2.1.1,v37.2.1.2.1,v37.2.1.2.2.1,()),(2:Int),())with
     |none=>none
     |some v38=>
     aa (aq [(-1:Int),(256:Int)] v38.1) fun _=>
     match [(-1:Int),(256:Int)][v38.1.toNat]? with
     |none=>none
     |some v40=>
     some ((v40,(IntKind.i64.wrap (v2.1*(IntKind.i64.wrap (Int.tdiv v3.1 (2:Int))))),[],[],()),(v38.2.1.1,v38.2.1.2.1,v38.2.1.2.2.1,()),())
    |false=>
     match(v37.1==(1:Int))with
     |true=>
      match ai ((v37.2.1.1,v37.2.1.2.1,v37.2.1.2.2.1,()),(3:Int),())with
      |none=>none
      |some v41=>
      aa (aq [(-1:Int),(7:Int),(8:Int)] v41.1) fun _=>
      match [(-1:Int),(7:Int),(8:Int)][v41.1.toNat]? with
      |none=>none
      |some v43=>
      some ((v1.1,v43,[],[],()),(v41.2.1.1,v41.2.1.2.1,v41.2.1.2.2.1,()),())
     |false=>
      some ((v1.1,(IntKind.i64.wrap (v2.1*(IntKind.i64.wrap (Int.tdiv v3.1 (2:Int))))),[],[],()),(v37.2.1.1,v37.2.1.2.1,v37.2.1.2.2.1,()),())
noncomputable def wJ:Spec:=⟨_,(.pair au .unit),(.pair (.box ah) .unit),rfl,lc⟩
theorem HO:FnOK G0 Tryz.prog 63 wJ:=ap ao (sg Qa (sg bR (aJ))) Tryz.func63
noncomputable def js(x:(Ty.T (.pair (.box ah) (.pair (.box ac) (.pair (.box ab) (.pair (.box ac) (.pair (.box ab) (.pair (.own 49 au) (.pair (.int .i64) .unit))))))))):Option ((Ty.T (.pair (.box ah) (.pair (.box ac) (.pair (.box ab) (.pair (.box ac) (.pair (.box ab) (.pair (.own 49 au) (.pair (.int .i64) .unit)))))))) ⊕ ((Ty.T (.pair (.box ah) (.pair (.box ac) (.pair (.box ab) (.pair (.box ac) (.pair (.box ab) (.pair (.own 49 au) .unit))))))) ⊕ (Ty.T .unit))):=
match(decide (x.2.2.2.2.2.2.1>(0:Int)))with
|true=>
 match lc ((x.1.1,x.1.2.1,x.1.2.2.1,()),())with
 |none=>none
 |some v3=>
 aA (x.2.2.2.2.2.1.length+ [v3.1].length) (
  some (.inl ((v3.2.1.1,v3.2.1.2.1,v3.2.1.2.2.1,()),(x.2.1.1,x.2.1.2.1,x.2.1.2.2.1,x.2.1.2.2.2.1,()),(x.2.2.1.1,x.2.2.1.2.1,x.2.2.1.2.2.1,x.2.2.1.2.2.2.1,x.2.2.1.2.2.2.2.1,()),(x.2.2.2.1.1,x.2.2.2.1.2.1,x.2.2.2.1.2.2.1,x.2.2.2.1.2.2.2.1,()),(x.2.2.2.2.1.1,x.2.2.2.2.1.2.1,x.2.2.2.2.1.2.2.1,x.2.2.2.2.1.2.2.2.1,x.2.2.2.2.1.2.2.2.2.1,()),(x.2.2.2.2.2.1++ [v3.1]),(IntKind.i64.wrap (x.2.2.2.2.2.2.1-(1:Int))),())))
|false=>
 some (.inr (.inl ((x.1.1,x.1.2.1,x.1.2.2.1,()),(x.2.1.1,x.2.1.2.1,x.2.1.2.2.1,x.2.1.2.2.2.1,()),(x.2.2.1.1,x.2.2.1.2.1,x.2.2.1.2.2.1,x.2.2.1.2.2.2.1,x.2.2.1.2.2.2.2.1,()),(x.2.2.2.1.1,x.2.2.2.1.2.1,x.2.2.2.1.2.2.1,x.2.2.2.1.2.2.2.1,()),(x.2.2.2.2.1.1,x.2.2.2.2.1.2.1,x.2.2.2.2.1.2.2.1,x.2.2.2.2.1.2.2.2.1,x.2.2.2.2.1.2.2.2.2.1,()),x.2.2.2.2.2.1,())))
noncomputable def kB(x:Ty.T (.pair (.box ah) .unit)):Option (Ty.T (.pair ac (.pair ab (.pair (.own 49 au) (.pair (.box ah) .unit))))):=
match rG ((x.1.1,x.1.2.1,x.1.2.2.1,()),())with
|none=>none
|some v1=>
match ai ((v1.2.2.1.1,v1.2.2.1.2.1,v1.2.2.1.2.2.1,()),(6:Int),())with
|none=>none
|some v2=>
match ag js ((v2.2.1.1,v2.2.1.2.1,v2.2.1.2.2.1,()),((0:Int),[],[],[],()),((0:Int),(0:Int),(0:Int),(0:Int),(0:Int),()),(v1.1.1,v1.1.2.1,v1.1.2.2.1,v1.1.2.2.2.1,()),(v1.2.1.1,v1.2.1.2.1,v1.2.1.2.2.1,v1.2.1.2.2.2.1,v1.2.1.2.2.2.2.1,()),[],v2.1,())with
|none=>none
|some (.inl v4)=>
 match ai ((v4.1.1,v4.1.2.1,v4.1.2.2.1,()),(60:Int),())with
 |none=>none
 |some v6=>
 match(v6.1==(0:Int))with
 |true=>
  match ai ((v6.2.1.1,v6.2.1.2.1,v6.2.1.2.2.1,()),(2:Int),())with
  |none=>none
  |some v7=>
  if 0≤(IntKind.i64.wrap ((40:Int)+v7.1))∧(IntKind.i64.wrap ((40:Int)+v7.1))≤(IntKind.i64.wrap ((40:Int)+v7.1))then
   aA ((IntKind.i64.wrap ((40:Int)+v7.1)).toNat) (
    aI (
     some ((v4.2.2.2.1.1,v4.2.2.2.1.2.1,v4.2.2.2.1.2.2.1,v4.2.2.2.1.2.2.2.1,()),(v4.2.2.2.2.1.1,v4.2.2.2.2.1.2.1,v4.2.2.2.2.1.2.2.1,v4.2.2.2.2.1.2.2.2.1,v4.2.2.2.2.1.2.2.2.2.1,()),(List.replicate (IntKind.i64.wrap ((40:Int)+v7.1)).toNat ((0:Int),(0:Int),[],[],())),(v7.2.1.1,v7.2.1.2.1,v7.2.1.2.2.1,()),())))
  else none
 |false=>
  aI (
   some ((v4.2.2.2.1.1,v4.2.2.2.1.2.1,v4.2.2.2.1.2.2.1,v4.2.2.2.1.2.2.2.1,()),(v4.2.2.2.2.1.1,v4.2.2.2.2.1.2.1,v4.2.2.2.2.1.2.2.1,v4.2.2.2.2.1.2.2.2.1,v4.2.2.2.2.1.2.2.2.2.1,()),v4.2.2.2.2.2.1,(v6.2.1.1,v6.2.1.2.1,v6.2.1.2.2.1,()),()))
|some (.inr v8)=>
 none
noncomputable def Gt:Spec:=⟨_,(.pair ac (.pair ab (.pair (.own 49 au) .unit))),(.pair (.box ah) .unit),rfl,kB⟩
noncomputable def Dx:FuncId→Option Spec:=bh [(52,iC),(62,Gr),(63,wJ)]
theorem LZ:∀f s,Dx f=some s→FnOK G0 Tryz.prog f s:=aF ⟨bR,P8,HO,trivial⟩
def Bj:aO:=⟨[0,2,3,5,6,7,8],(.pair (.box ah) (.pair (.box ac) (.pair (.box ab) (.pair (.box ac) (.pair (.box ab) (.pair (.own 49 au) (.pair (.int .i64) .unit))))))),0,[0,2,3,5,6,7],(.pair (.box ah) (.pair (.box ac) (.pair (.box ab) (.pair (.box ac) (.pair (.box ab) (.pair (.own 49 au) .unit)))))),[],.unit⟩
noncomputable def Dy:List ay:=[Bj.spec js]
theorem JH:bc bd E0 Dx (ba Tryz.f81 Dy) Tryz.f81 0 Bj js:=fun x=>by kernel_rfl
theorem Dz:FnOK G0 Tryz.prog 81 Gt:=aH ao LZ Tryz.func81 Dy (by kernel_rfl) (by exact⟨(JH).lok,trivial⟩) fun x=>by kernel_rfl
noncomputable def bj(x:Ty.T (.pair (.int .i64) an)):Option (Ty.T (.pair .bool .unit)):=
match(decide (x.1≥x.2.1))with
|true=>
 some ((decide (x.1≤x.2.2.1)),())
|false=>
 some (false,())
noncomputable def Af:Spec:=⟨_,(.pair .bool .unit),.unit,rfl,bj⟩
theorem ci:FnOK G0 Tryz.prog 68 Af:=ap ao aJ Tryz.func68
noncomputable def O9(x:Ty.T an):Option (Ty.T (.pair .bool .unit)):=
if x.2.1<0 then none else
some (((bits BinOp.and .i64 (Int.fdiv x.1 (2^min x.2.1.toNat IntKind.i64.bits)) (1:Int))==(1:Int)),())
noncomputable def Yu:Spec:=⟨_,(.pair .bool .unit),.unit,rfl,O9⟩
theorem Xr:FnOK G0 Tryz.prog 78 Yu:=ap ao aJ Tryz.func78
noncomputable def dY(x:(Ty.T (.pair (.int .i64) (.pair (.list ak) an)))):Option ((Ty.T (.pair (.int .i64) (.pair (.list ak) an))) ⊕ ((Ty.T (.pair (.int .i64) .unit)) ⊕ (Ty.T .unit))):=
match(decide (x.2.2.2.1<x.2.2.1))with
|true=>
 aa (aq x.2.1 x.2.2.2.1) fun v1=>
 match(!v1.2.2.2.1)with
 |true=>
  if v1.1<0 then none else
  some (.inl ((bits BinOp.or .i64 x.1 (IntKind.i64.wrap ((1:Int)*2^min v1.1.toNat IntKind.i64.bits))),x.2.1,x.2.2.1,(IntKind.i64.wrap (x.2.2.2.1+(1:Int))),()))
 |false=>
  some (.inl (x.1,x.2.1,x.2.2.1,(IntKind.i64.wrap (x.2.2.2.1+(1:Int))),()))
|false=>
 some (.inr (.inl (x.1,())))
noncomputable def iJ(x:Ty.T (.pair (.list ak) .unit)):Option (Ty.T (.pair (.int .i64) .unit)):=
match ag dY ((0:Int),x.1,(x.1.length:Int),(0:Int),())with
|none=>none
|some (.inl v2)=>
 some (v2.1,())
|some (.inr v4)=>
 none
noncomputable def uQ:Spec:=⟨_,(.pair (.int .i64) .unit),.unit,rfl,iJ⟩
noncomputable def tf:FuncId→Option Spec:=bh []
theorem Cu:∀f s,tf f=some s→FnOK G0 Tryz.prog f s:=aF trivial
def rI:aO:=⟨[3,6,7,8],(.pair (.int .i64) (.pair (.list ak) an)),0,[3],(.pair (.int .i64) .unit),[],.unit⟩
noncomputable def tg:List ay:=[rI.spec dY]
theorem Ag:bc bd E0 tf (ba Tryz.f141 tg) Tryz.f141 0 rI dY:=fun x=>by kernel_rfl
theorem np:FnOK G0 Tryz.prog 141 uQ:=aH ao Cu Tryz.func141 tg (by kernel_rfl) (by exact⟨(Ag).lok,trivial⟩) fun x=>by kernel_rfl
noncomputable def mO(x:Ty.T (.pair aj (.pair (.ptr ac) .unit))):Option (Ty.T (.pair .bool .unit)):=
match iJ (x.2.1.2.1,())with
|none=>none
|some v1=>
match O9 (v1.1,x.1.2.2.2.1.1,())with
|none=>none
|some v2=>
some ((!v2.1),())
noncomputable def HP:Spec:=⟨_,(.pair .bool .unit),.unit,rfl,mO⟩
theorem FE:FnOK G0 Tryz.prog 201 HP:=ap ao (sg Xr (sg np (aJ))) Tryz.func201
noncomputable def mP(x:Ty.T (.pair aj .unit)):Option (Ty.T (.pair .bool .unit)):=
match(x.1.2.2.2.1.2.1==(3:Int))with
|true=>
 some ((x.1.1 != (0:Int)),())
|false=>
 some (false,())
noncomputable def HQ:Spec:=⟨_,(.pair .bool .unit),.unit,rfl,mP⟩
theorem FF:FnOK G0 Tryz.prog 202 HQ:=ap ao aJ Tryz.func202
noncomputable def kN(x:Ty.T (.pair (.int .i64) .unit)):Option (Ty.T (.pair .bool .unit)):=
match bj (x.1,(0:Int),(31:Int),())with
|none=>none
|some v1=>
some (v1.1,())
noncomputable def UB:Spec:=⟨_,(.pair .bool .unit),.unit,rfl,kN⟩
theorem q6:FnOK G0 Tryz.prog 77 UB:=ap ao (sg ci (aJ)) Tryz.func77
noncomputable def uR(x:Ty.T (.pair .str (.pair .str .unit))):Option (Ty.T (.pair .str .unit)):=aa (Ji x.1 x.2.1) fun s=>some (s,())
noncomputable def L0:Spec:=⟨(.pair .str (.pair .str .unit)),(.pair .str .unit),.unit,rfl,uR⟩
theorem JI:FnOK G0 Tryz.prog 291 L0:=FnOK.str2_str (kJ Tryz.func291 (by kernel_rfl) (show Tryz.f291.body=some (ff Tryz.f291) by kernel_rfl)) (fun w s t y _ hy=>Uu w s t y hy)
noncomputable def l7(x:Ty.T (.pair ak .unit)):Option (Ty.T (.pair .bool .unit)):=
match(decide ((x.1.2.1.length:Int)≥(1:Int)))with
|true=>
 match(decide ((x.1.2.1.length:Int)≤(6:Int)))with
 |true=>
  match uR (x.1.2.1,([97,98,99,100,101,102,103,104,105,106,107,108,109,110,111,112,113,114,115,116,117,118,119,120,121,122,48,49,50,51,52,53,54,55,56,57]:List UInt8),())with
  |none=>none
  |some v1=>
  match(v1.1== [])with
  |true=>
   match kN (x.1.1,())with
   |none=>none
   |some v2=>
   match v2.1 with
   |true=>
    match bj (x.1.2.2.1,(0:Int),(1000:Int),())with
    |none=>none
    |some v3=>
    some (v3.1,())
   |false=>
    some (false,())
  |false=>
   some (false,())
 |false=>
  some (false,())
|false=>
 some (false,())
noncomputable def yz:Spec:=⟨_,(.pair .bool .unit),.unit,rfl,l7⟩
theorem JJ:FnOK G0 Tryz.prog 252 yz:=ap ao (sg ci (sg q6 (sg JI (aJ)))) Tryz.func252
noncomputable def b7(x:(Ty.T (.pair (.list ak) (.pair (.fn (.pair ak .unit) (.pair .bool .unit)) an)))):Option ((Ty.T (.pair (.list ak) (.pair (.fn (.pair ak .unit) (.pair .bool .unit)) an))) ⊕ ((Ty.T .unit) ⊕ (Ty.T (.pair (.int .i64) .unit)))):=
match(decide (x.2.2.2.1<x.2.2.1))with
|true=>
 aa (aq x.1 x.2.2.2.1) fun v1=>
 match x.2.1 (v1,())with
 |none=>none
 |some v2=>
 match v2.1 with
 |true=>
  some (.inr (.inr (x.2.2.2.1,())))
 |false=>
  some (.inl (x.1,x.2.1,x.2.2.1,(IntKind.i64.wrap (x.2.2.2.1+(1:Int))),()))
|false=>
 some (.inr (.inl (())))
noncomputable def dN(x:Ty.T (.pair (.list ak) (.pair (.fn (.pair ak .unit) (.pair .bool .unit)) .unit))):Option (Ty.T (.pair (.int .i64) .unit)):=
match ag b7 (x.1,x.2.1,(x.1.length:Int),(0:Int),())with
|none=>none
|some (.inl v3)=>
 some ((-1:Int),())
|some (.inr v4)=>
 some (v4.1,())
noncomputable def rJ:Spec:=⟨_,(.pair (.int .i64) .unit),.unit,rfl,dN⟩
noncomputable def ki:FuncId→Option Spec:=bh []
theorem pJ:∀f s,ki f=some s→FnOK G0 Tryz.prog f s:=aF trivial
def jT:aO:=⟨[0,1,7,8],(.pair (.list ak) (.pair (.fn (.pair ak .unit) (.pair .bool .unit)) an)),0,[],.unit,[4],(.pair (.int .i64) .unit)⟩
noncomputable def kj:List ay:=[jT.spec b7]
theorem ph:bc bd E0 ki (ba Tryz.f292 kj) Tryz.f292 0 jT b7:=fun x=>by kernel_rfl
theorem qG:FnOK G0 Tryz.prog 292 rJ:=aH ao pJ Tryz.func292 kj (by kernel_rfl) (by exact⟨(ph).lok,trivial⟩) fun x=>by kernel_rfl
noncomputable def cK(x:Ty.T (.pair (.list ak) (.pair (.fn (.pair ak .unit) (.pair .bool .unit)) .unit))):Option (Ty.T (.pair .bool .unit)):=
match dN (x.1,x.2.1,())with
|none=>none
|some v1=>
some ((decide (v1.1≥(0:Int))),())
noncomputable def jB:Spec:=⟨_,(.pair .bool .unit),.unit,rfl,cK⟩
theorem pi:FnOK G0 Tryz.prog 253 jB:=ap ao (sg qG (aJ)) Tryz.func253
noncomputable def jC(x:Ty.T (.pair ak (.pair (.ptr ak) .unit))):Option (Ty.T (.pair .bool .unit)):=
some ((x.1.2.1==x.2.1.2.1),())
noncomputable def th:Spec:=⟨_,(.pair .bool .unit),.unit,rfl,jC⟩
theorem DA:FnOK G0 Tryz.prog 254 th:=ap ao aJ Tryz.func254
noncomputable def eO(x:(Ty.T (.pair (.list ak) (.pair (.list ak) an)))):Option ((Ty.T (.pair (.list ak) (.pair (.list ak) an))) ⊕ ((Ty.T (.pair (.list ak) .unit)) ⊕ (Ty.T (.pair .bool .unit)))):=
match(decide (x.2.2.2.1<x.2.2.1))with
|true=>
 aa (aq x.2.1 x.2.2.2.1) fun v1=>
 match l7 ((v1.1,v1.2.1,v1.2.2.1,v1.2.2.2.1,()),())with
 |none=>none
 |some v2=>
 match(!v2.1)with
 |true=>
  some (.inr (.inr (false,())))
 |false=>
  match(decide (x.2.2.2.1>(0:Int)))with
  |true=>
   aa (aq x.1 (IntKind.i64.wrap (x.2.2.2.1-(1:Int)))) fun v3=>
   match(decide (v3.1≥v1.1))with
   |true=>
    some (.inr (.inr (false,())))
   |false=>
    aa (aL x.1.length none (some (.dat (.int .i64) x.2.2.2.1))) fun v4=>
    match cK ((List.drop v4.1 (List.take v4.2 x.1)),(fun z=>jC (z.1,(v1.1,v1.2.1,v1.2.2.1,v1.2.2.2.1,()),())),())with
    |none=>none
    |some v5=>
    match v5.1 with
    |true=>
     some (.inr (.inr (false,())))
    |false=>
     some (.inl (x.1,x.2.1,x.2.2.1,(IntKind.i64.wrap (x.2.2.2.1+(1:Int))),()))
  |false=>
   aa (aL x.1.length none (some (.dat (.int .i64) x.2.2.2.1))) fun v6=>
   match cK ((List.drop v6.1 (List.take v6.2 x.1)),(fun z=>jC (z.1,(v1.1,v1.2.1,v1.2.2.1,v1.2.2.2.1,()),())),())with
   |none=>none
   |some v7=>
   match v7.1 with
   |true=>
    some (.inr (.inr (false,())))
   |false=>
    some (.inl (x.1,x.2.1,x.2.2.1,(IntKind.i64.wrap (x.2.2.2.1+(1:Int))),()))
|false=>
 some (.inr (.inl (x.1,())))
noncomputable def nZ(x:Ty.T (.pair (.list ak) .unit)):Option (Ty.T (.pair .bool .unit)):=
match ag eO (x.1,x.1,(x.1.length:Int),(0:Int),())with
|none=>none
|some (.inl v8)=>
 match(decide ((v8.1.length:Int)≥(1:Int)))with
 |true=>
  some ((decide ((v8.1.length:Int)≤(32:Int))),())
 |false=>
  some (false,())
|some (.inr v9)=>
 some (v9.1,())
noncomputable def JK:Spec:=⟨_,(.pair .bool .unit),.unit,rfl,nZ⟩
noncomputable def uS:FuncId→Option Spec:=bh [(252,yz),(253,jB),(254,th)]
theorem DB:∀f s,uS f=some s→FnOK G0 Tryz.prog f s:=aF ⟨JJ,pi,DA,trivial⟩
def ti:aO:=⟨[0,5,6,7],(.pair (.list ak) (.pair (.list ak) an)),0,[0],(.pair (.list ak) .unit),[2],(.pair .bool .unit)⟩
noncomputable def uT:List ay:=[ti.spec eO]
theorem Cv:bc bd E0 uS (ba Tryz.f203 uT) Tryz.f203 0 ti eO:=fun x=>by kernel_rfl
theorem HR:FnOK G0 Tryz.prog 203 JK:=aH ao DB Tryz.func203 uT (by kernel_rfl) (by exact⟨(Cv).lok,trivial⟩) fun x=>by kernel_rfl
noncomputable def cS(x:(Ty.T (.pair (.list (.int .i64)) (.pair (.int .i64) an)))):Option ((Ty.T (.pair (.list (.int .i64)) (.pair (.int .i64) an))) ⊕ ((Ty.T .unit) ⊕ (Ty.T (.pair (.int .i64) .unit)))):=
match(decide (x.2.2.2.1<x.2.2.1))with
|true=>
 aa (aq x.1 x.2.2.2.1) fun v1=>
 match(x.2.1==v1)with
 |true=>
  some (.inr (.inr (x.2.2.2.1,())))
 |false=>
  some (.inl (x.1,x.2.1,x.2.2.1,(IntKind.i64.wrap (x.2.2.2.1+(1:Int))),()))
|false=>
 some (.inr (.inl (())))
noncomputable def l8(x:Ty.T (.pair (.list (.int .i64)) (.pair (.int .i64) .unit))):Option (Ty.T (.pair (.int .i64) .unit)):=
match ag cS (x.1,x.2.1,(x.1.length:Int),(0:Int),())with
|none=>none
|some (.inl v2)=>
 some ((-1:Int),())
|some (.inr v3)=>
 some (v3.1,())
noncomputable def Ah:Spec:=⟨_,(.pair (.int .i64) .unit),.unit,rfl,l8⟩
noncomputable def oW:FuncId→Option Spec:=bh []
theorem vZ:∀f s,oW f=some s→FnOK G0 Tryz.prog f s:=aF trivial
def nD:aO:=⟨[0,1,7,8],(.pair (.list (.int .i64)) (.pair (.int .i64) an)),0,[],.unit,[4],(.pair (.int .i64) .unit)⟩
noncomputable def oX:List ay:=[nD.spec cS]
theorem uU:bc bd E0 oW (ba Tryz.f264 oX) Tryz.f264 0 nD cS:=fun x=>by kernel_rfl
theorem yA:FnOK G0 Tryz.prog 264 Ah:=aH ao vZ Tryz.func264 oX (by kernel_rfl) (by exact⟨(uU).lok,trivial⟩) fun x=>by kernel_rfl
noncomputable def fE(x:Ty.T (.pair (.list (.int .i64)) (.pair (.int .i64) .unit))):Option (Ty.T (.pair .bool .unit)):=
match l8 (x.1,x.2.1,())with
|none=>none
|some v1=>
some ((decide (v1.1≥(0:Int))),())
noncomputable def nc:Spec:=⟨_,(.pair .bool .unit),.unit,rfl,fE⟩
theorem l9:FnOK G0 Tryz.prog 215 nc:=ap ao (sg yA (aJ)) Tryz.func215
noncomputable def gt(x:(Ty.T (.pair (.list (.int .i64)) (.pair (.int .i64) (.pair (.list (.int .i64)) an))))):Option ((Ty.T (.pair (.list (.int .i64)) (.pair (.int .i64) (.pair (.list (.int .i64)) an)))) ⊕ ((Ty.T .unit) ⊕ (Ty.T (.pair .bool .unit)))):=
match(decide (x.2.2.2.2.1<x.2.2.2.1))with
|true=>
 aa (aq x.2.2.1 x.2.2.2.2.1) fun v1=>
 match(decide (v1<(0:Int)))with
 |true=>
  some (.inr (.inr (false,())))
 |false=>
  match(decide (v1≥x.2.1))with
  |true=>
   some (.inr (.inr (false,())))
  |false=>
   match(decide (x.2.2.2.2.1>(0:Int)))with
   |true=>
    aa (aq x.1 (IntKind.i64.wrap (x.2.2.2.2.1-(1:Int)))) fun v2=>
    match(decide (v2≥v1))with
    |true=>
     some (.inr (.inr (false,())))
    |false=>
     some (.inl (x.1,x.2.1,x.2.2.1,x.2.2.2.1,(IntKind.i64.wrap (x.2.2.2.2.1+(1:Int))),()))
   |false=>
    some (.inl (x.1,x.2.1,x.2.2.1,x.2.2.2.1,(IntKind.i64.wrap (x.2.2.2.2.1+(1:Int))),()))
|false=>
 some (.inr (.inl (())))
noncomputable def tR(x:Ty.T (.pair (.list (.int .i64)) (.pair (.int .i64) .unit))):Option (Ty.T (.pair .bool .unit)):=
match ag gt (x.1,x.2.1,x.1,(x.1.length:Int),(0:Int),())with
|none=>none
|some (.inl v3)=>
 some (true,())
|some (.inr v4)=>
 some (v4.1,())
noncomputable def DC:Spec:=⟨_,(.pair .bool .unit),.unit,rfl,tR⟩
noncomputable def Bk:FuncId→Option Spec:=bh []
theorem JL:∀f s,Bk f=some s→FnOK G0 Tryz.prog f s:=aF trivial
def yB:aO:=⟨[0,1,7,8,9],(.pair (.list (.int .i64)) (.pair (.int .i64) (.pair (.list (.int .i64)) an))),0,[],.unit,[4],(.pair .bool .unit)⟩
noncomputable def Bl:List ay:=[yB.spec gt]
theorem HS:bc bd E0 Bk (ba Tryz.f255 Bl) Tryz.f255 0 yB gt:=fun x=>by kernel_rfl
theorem Ob:FnOK G0 Tryz.prog 255 DC:=aH ao JL Tryz.func255 Bl (by kernel_rfl) (by exact⟨(HS).lok,trivial⟩) fun x=>by kernel_rfl
noncomputable def eP(x:(Ty.T (.pair (.list al) (.pair (.list al) an)))):Option ((Ty.T (.pair (.list al) (.pair (.list al) an))) ⊕ ((Ty.T (.pair (.list al) .unit)) ⊕ (Ty.T (.pair .bool .unit)))):=
match(decide (x.2.2.2.1<x.2.2.1))with
|true=>
 aa (aq x.2.1 x.2.2.2.1) fun v1=>
 match bj (v1.1,(1:Int),(8:Int),())with
 |none=>none
 |some v2=>
 match(!v2.1)with
 |true=>
  some (.inr (.inr (false,())))
 |false=>
  match bj (v1.2.1,(1:Int),(16:Int),())with
  |none=>none
  |some v3=>
  match(!v3.1)with
  |true=>
   some (.inr (.inr (false,())))
  |false=>
   match tR (v1.2.2.1,(x.1.length:Int),())with
   |none=>none
   |some v4=>
   match(!v4.1)with
   |true=>
    some (.inr (.inr (false,())))
   |false=>
    match fE (v1.2.2.1,x.2.2.2.1,())with
    |none=>none
    |some v5=>
    match v5.1 with
    |true=>
     some (.inr (.inr (false,())))
    |false=>
     some (.inl (x.1,x.2.1,x.2.2.1,(IntKind.i64.wrap (x.2.2.2.1+(1:Int))),()))
|false=>
 some (.inr (.inl (x.1,())))
noncomputable def ld(x:Ty.T (.pair (.list al) .unit)):Option (Ty.T (.pair .bool .unit)):=
match ag eP (x.1,x.1,(x.1.length:Int),(0:Int),())with
|none=>none
|some (.inl v6)=>
 match(decide ((v6.1.length:Int)≥(1:Int)))with
 |true=>
  some ((decide ((v6.1.length:Int)≤(16:Int))),())
 |false=>
  some (false,())
|some (.inr v7)=>
 some (v7.1,())
noncomputable def JM:Spec:=⟨_,(.pair .bool .unit),.unit,rfl,ld⟩
noncomputable def uV:FuncId→Option Spec:=bh [(68,Af),(215,nc),(255,DC)]
theorem DD:∀f s,uV f=some s→FnOK G0 Tryz.prog f s:=aF ⟨ci,l9,Ob,trivial⟩
def tj:aO:=⟨[0,5,6,7],(.pair (.list al) (.pair (.list al) an)),0,[0],(.pair (.list al) .unit),[2],(.pair .bool .unit)⟩
noncomputable def uW:List ay:=[tj.spec eP]
theorem Cw:bc bd E0 uV (ba Tryz.f204 uW) Tryz.f204 0 tj eP:=fun x=>by kernel_rfl
theorem uX:FnOK G0 Tryz.prog 204 JM:=aH ao DD Tryz.func204 uW (by kernel_rfl) (by exact⟨(Cw).lok,trivial⟩) fun x=>by kernel_rfl
noncomputable def uY(x:Ty.T (.pair (.int .i64) .unit)):Option (Ty.T (.pair .bool .unit)):=
match bj (x.1,(0:Int),(3:Int),())with
|none=>none
|some v1=>
some (v1.1,())
noncomputable def UC:Spec:=⟨_,(.pair .bool .unit),.unit,rfl,uY⟩
theorem Gu:FnOK G0 Tryz.prog 260 UC:=ap ao (sg ci (aJ)) Tryz.func260
noncomputable def ma(x:Ty.T an):Option (Ty.T (.pair .bool .unit)):=
match(x.1==(0:Int))with
|true=>
 match bj (x.2.1,(0:Int),(32:Int),())with
 |none=>none
 |some v1=>
 some (v1.1,())
|false=>
 match(x.1==(2:Int))with
 |true=>
  match bj (x.2.1,(1:Int),(32:Int),())with
  |none=>none
  |some v2=>
  some (v2.1,())
 |false=>
  some ((x.2.1==(0:Int)),())
noncomputable def L1:Spec:=⟨_,(.pair .bool .unit),.unit,rfl,ma⟩
theorem wK:FnOK G0 Tryz.prog 261 L1:=ap ao (sg ci (aJ)) Tryz.func261
noncomputable def ez(x:Ty.T (.pair (.int .i64) .unit)):Option (Ty.T (.pair .bool .unit)):=
some ((x.1 != (0:Int)),())
noncomputable def Qb:Spec:=⟨_,(.pair .bool .unit),.unit,rfl,ez⟩
theorem jt:FnOK G0 Tryz.prog 142 Qb:=ap ao aJ Tryz.func142
noncomputable def jD(x:Ty.T (.pair (.int .i64) .unit)):Option (Ty.T (.pair .bool .unit)):=
match(x.1==(0:Int))with
|true=>
 some (true,())
|false=>
 some ((x.1==(2:Int)),())
noncomputable def Sn:Spec:=⟨_,(.pair .bool .unit),.unit,rfl,jD⟩
theorem uZ:FnOK G0 Tryz.prog 229 Sn:=ap ao aJ Tryz.func229
noncomputable def tS(x:Ty.T an):Option (Ty.T (.pair (.int .i64) .unit)):=
match ez (x.1,())with
|none=>none
|some v1=>
match v1.1 with
|true=>
 match jD (x.1,())with
 |none=>none
 |some v2=>
 match v2.1 with
 |true=>
  some ((IntKind.i64.wrap ((IntKind.i64.wrap ((1:Int)+(8:Int)))+(IntKind.i64.wrap ((1:Int)+x.2.1)))),())
 |false=>
  some ((IntKind.i64.wrap ((1:Int)+(8:Int))),())
|false=>
 match jD (x.1,())with
 |none=>none
 |some v3=>
 match v3.1 with
 |true=>
  some ((IntKind.i64.wrap ((1:Int)+(IntKind.i64.wrap ((1:Int)+x.2.1)))),())
 |false=>
  some ((1:Int),())
noncomputable def Qc:Spec:=⟨_,(.pair (.int .i64) .unit),.unit,rfl,tS⟩
theorem Oc:FnOK G0 Tryz.prog 294 Qc:=ap ao (sg jt (sg uZ (aJ))) Tryz.func294
noncomputable def lf(x:Ty.T an):Option (Ty.T (.pair (.int .i64) .unit)):=
match tS (x.1,x.2.1,())with
|none=>none
|some v1=>
some ((IntKind.i64.wrap ((11:Int)+(IntKind.i64.wrap ((10:Int)*(IntKind.i64.wrap (v1.1+(3:Int))))))),())
noncomputable def JN:Spec:=⟨_,(.pair (.int .i64) .unit),.unit,rfl,lf⟩
theorem HT:FnOK G0 Tryz.prog 262 JN:=ap ao (sg Oc (aJ)) Tryz.func262
noncomputable def fF(x:Ty.T (.pair bf .unit)):Option (Ty.T (.pair .bool .unit)):=
match kN (x.1.1,())with
|none=>none
|some v1=>
match(!v1.1)with
|true=>
 some (false,())
|false=>
 match uY (x.1.2.1,())with
 |none=>none
 |some v2=>
 match(!v2.1)with
 |true=>
  some (false,())
 |false=>
  match ma (x.1.2.1,x.1.2.2.1,())with
  |none=>none
  |some v3=>
  match(!v3.1)with
  |true=>
   some (false,())
  |false=>
   match x.1.2.2.2.2.1 with
   |true=>
    match(x.1.2.1==(3:Int))with
    |true=>
     some (false,())
    |false=>
     match lf (x.1.2.1,x.1.2.2.1,())with
     |none=>none
     |some v4=>
     match bj (x.1.2.2.2.1,(IntKind.i64.wrap (v4.1+(20:Int))),(1000:Int),())with
     |none=>none
     |some v5=>
     some (v5.1,())
   |false=>
    match lf (x.1.2.1,x.1.2.2.1,())with
    |none=>none
    |some v6=>
    match bj (x.1.2.2.2.1,(IntKind.i64.wrap (v6.1+(20:Int))),(1000:Int),())with
    |none=>none
    |some v7=>
    some (v7.1,())
noncomputable def HU:Spec:=⟨_,(.pair .bool .unit),.unit,rfl,fF⟩
theorem tk:FnOK G0 Tryz.prog 211 HU:=ap ao (sg ci (sg q6 (sg Gu (sg wK (sg HT (aJ)))))) Tryz.func211
noncomputable def mb(x:Ty.T (.pair aj .unit)):Option (Ty.T (.pair .bool .unit)):=
match bj (x.1.1,(0:Int),(15:Int),())with
|none=>none
|some v1=>
match v1.1 with
|true=>
 match bj (x.1.2.1,(0:Int),(7:Int),())with
 |none=>none
 |some v2=>
 match v2.1 with
 |true=>
  match bj (x.1.2.2.1,(0:Int),(15:Int),())with
  |none=>none
  |some v3=>
  match v3.1 with
  |true=>
   match fF ((x.1.2.2.2.1.1,x.1.2.2.2.1.2.1,x.1.2.2.2.1.2.2.1,x.1.2.2.2.1.2.2.2.1,x.1.2.2.2.1.2.2.2.2.1,()),())with
   |none=>none
   |some v4=>
   some (v4.1,())
  |false=>
   some (false,())
 |false=>
  some (false,())
|false=>
 some (false,())
noncomputable def yC:Spec:=⟨_,(.pair .bool .unit),.unit,rfl,mb⟩
theorem JO:FnOK G0 Tryz.prog 256 yC:=ap ao (sg ci (sg tk (aJ))) Tryz.func256
noncomputable def oY(x:Ty.T an):Option (Ty.T (.pair (.int .i64) .unit)):=
match(decide (x.1<x.2.1))with
|true=>
 some ((-1:Int),())
|false=>
 match(decide (x.1>x.2.1))with
 |true=>
  some ((1:Int),())
 |false=>
  some ((0:Int),())
noncomputable def So:Spec:=⟨_,(.pair (.int .i64) .unit),.unit,rfl,oY⟩
theorem Qd:FnOK G0 Tryz.prog 293 So:=ap ao aJ Tryz.func293
noncomputable def iK(x:Ty.T (.pair aj (.pair aj .unit))):Option (Ty.T (.pair (.int .i64) .unit)):=
match(x.1.1 != x.2.1.1)with
|true=>
 match oY (x.1.1,x.2.1.1,())with
 |none=>none
 |some v1=>
 some (v1.1,())
|false=>
 match(x.1.2.1 != x.2.1.2.1)with
 |true=>
  match oY (x.1.2.1,x.2.1.2.1,())with
  |none=>none
  |some v2=>
  some (v2.1,())
 |false=>
  match oY (x.1.2.2.1,x.2.1.2.2.1,())with
  |none=>none
  |some v3=>
  some (v3.1,())
noncomputable def ov:Spec:=⟨_,(.pair (.int .i64) .unit),.unit,rfl,iK⟩
theorem tm:FnOK G0 Tryz.prog 257 ov:=ap ao (sg Qd (aJ)) Tryz.func257
noncomputable def eR(x:(Ty.T (.pair (.list aj) (.pair (.list aj) an)))):Option ((Ty.T (.pair (.list aj) (.pair (.list aj) an))) ⊕ ((Ty.T (.pair (.list aj) .unit)) ⊕ (Ty.T (.pair .bool .unit)))):=
match(decide (x.2.2.2.1<x.2.2.1))with
|true=>
 aa (aq x.2.1 x.2.2.2.1) fun v1=>
 match mb ((v1.1,v1.2.1,v1.2.2.1,(v1.2.2.2.1.1,v1.2.2.2.1.2.1,v1.2.2.2.1.2.2.1,v1.2.2.2.1.2.2.2.1,v1.2.2.2.1.2.2.2.2.1,()),()),())with
 |none=>none
 |some v2=>
 match(!v2.1)with
 |true=>
  some (.inr (.inr (false,())))
 |false=>
  match(decide (x.2.2.2.1>(0:Int)))with
  |true=>
   aa (aq x.1 (IntKind.i64.wrap (x.2.2.2.1-(1:Int)))) fun v3=>
   match iK (v3,(v1.1,v1.2.1,v1.2.2.1,(v1.2.2.2.1.1,v1.2.2.2.1.2.1,v1.2.2.2.1.2.2.1,v1.2.2.2.1.2.2.2.1,v1.2.2.2.1.2.2.2.2.1,()),()),())with
   |none=>none
   |some v4=>
   match(decide (v4.1≥(0:Int)))with
   |true=>
    some (.inr (.inr (false,())))
   |false=>
    some (.inl (x.1,x.2.1,x.2.2.1,(IntKind.i64.wrap (x.2.2.2.1+(1:Int))),()))
  |false=>
   some (.inl (x.1,x.2.1,x.2.2.1,(IntKind.i64.wrap (x.2.2.2.1+(1:Int))),()))
|false=>
 some (.inr (.inl (x.1,())))
noncomputable def n6(x:Ty.T (.pair (.list aj) .unit)):Option (Ty.T (.pair .bool .unit)):=
match ag eR (x.1,x.1,(x.1.length:Int),(0:Int),())with
|none=>none
|some (.inl v5)=>
 some ((decide ((v5.1.length:Int)≤(120:Int))),())
|some (.inr v6)=>
 some (v6.1,())
noncomputable def JP:Spec:=⟨_,(.pair .bool .unit),.unit,rfl,n6⟩
noncomputable def u6:FuncId→Option Spec:=bh [(256,yC),(257,ov)]
theorem DE:∀f s,u6 f=some s→FnOK G0 Tryz.prog f s:=aF ⟨JO,tm,trivial⟩
def tn:aO:=⟨[0,5,6,7],(.pair (.list aj) (.pair (.list aj) an)),0,[0],(.pair (.list aj) .unit),[2],(.pair .bool .unit)⟩
noncomputable def u7:List ay:=[tn.spec eR]
theorem Cy:bc bd E0 u6 (ba Tryz.f205 u7) Tryz.f205 0 tn eR:=fun x=>by kernel_rfl
theorem HV:FnOK G0 Tryz.prog 205 JP:=aH ao DE Tryz.func205 u7 (by kernel_rfl) (by exact⟨(Cy).lok,trivial⟩) fun x=>by kernel_rfl
noncomputable def dZ(x:(Ty.T (.pair (.box ac) (.pair (.int .i64) (.pair (.int .i64) (.pair (.box al) (.pair (.list al) ax))))))):Option ((Ty.T (.pair (.box ac) (.pair (.int .i64) (.pair (.int .i64) (.pair (.box al) (.pair (.list al) ax)))))) ⊕ ((Ty.T (.pair (.box ac) (.pair (.int .i64) (.pair (.list al) an)))) ⊕ (Ty.T (.pair .bool .unit)))):=
match(decide (x.2.2.2.2.2.2.2.2.1<x.2.2.2.2.2.2.2.1))with
|true=>
 match(x.2.1==(x.1.2.2.2.1.length:Int))with
 |true=>
  some (.inr (.inr (false,())))
 |false=>
  aa (aq x.1.2.2.2.1 x.2.1) fun v2=>
  if x.2.2.2.1.2.1=0 then none else
  if x.2.2.2.1.2.1=0 then none else
  match iK (v2,(x.2.2.1,(IntKind.i64.wrap (Int.tdiv x.2.2.2.2.2.2.2.2.1 x.2.2.2.1.2.1)),(Int.tmod x.2.2.2.2.2.2.2.2.1 x.2.2.2.1.2.1),((0:Int),(0:Int),(0:Int),(0:Int),false,()),()),())with
  |none=>none
  |some v3=>
  match(v3.1 != (0:Int))with
  |true=>
   some (.inr (.inr (false,())))
  |false=>
   some (.inl ((x.1.1,x.1.2.1,x.1.2.2.1,x.1.2.2.2.1,()),(IntKind.i64.wrap (x.2.1+(1:Int))),x.2.2.1,(x.2.2.2.1.1,x.2.2.2.1.2.1,x.2.2.2.1.2.2.1,()),x.2.2.2.2.1,x.2.2.2.2.2.1,x.2.2.2.2.2.2.1,x.2.2.2.2.2.2.2.1,(IntKind.i64.wrap (x.2.2.2.2.2.2.2.2.1+(1:Int))),()))
|false=>
 some (.inr (.inl ((x.1.1,x.1.2.1,x.1.2.2.1,x.1.2.2.2.1,()),x.2.1,x.2.2.2.2.1,x.2.2.2.2.2.1,x.2.2.2.2.2.2.1,())))
noncomputable def dq(x:(Ty.T (.pair (.box ac) (.pair (.int .i64) (.pair (.list al) an))))):Option ((Ty.T (.pair (.box ac) (.pair (.int .i64) (.pair (.list al) an)))) ⊕ ((Ty.T (.pair (.box ac) (.pair (.int .i64) .unit))) ⊕ (Ty.T (.pair .bool .unit)))):=
match(decide (x.2.2.2.2.1<x.2.2.2.1))with
|true=>
 aa (aq x.2.2.1 x.2.2.2.2.1) fun v1=>
 match ag dZ ((x.1.1,x.1.2.1,x.1.2.2.1,x.1.2.2.2.1,()),x.2.1,x.2.2.2.2.1,(v1.1,v1.2.1,v1.2.2.1,()),x.2.2.1,x.2.2.2.1,x.2.2.2.2.1,(IntKind.i64.wrap (v1.1*v1.2.1)),(0:Int),())with
 |none=>none
 |some (.inl v2)=>
  some (.inl ((v2.1.1,v2.1.2.1,v2.1.2.2.1,v2.1.2.2.2.1,()),v2.2.1,v2.2.2.1,v2.2.2.2.1,(IntKind.i64.wrap (v2.2.2.2.2.1+(1:Int))),()))
 |some (.inr v3)=>
  some (.inr (.inr (v3.1,())))
|false=>
 some (.inr (.inl ((x.1.1,x.1.2.1,x.1.2.2.1,x.1.2.2.2.1,()),x.2.1,())))
noncomputable def mc(x:Ty.T (.pair ac .unit)):Option (Ty.T (.pair .bool .unit)):=
match ag dq ((x.1.1,x.1.2.1,x.1.2.2.1,x.1.2.2.2.1,()),(0:Int),x.1.2.2.1,(x.1.2.2.1.length:Int),(0:Int),())with
|none=>none
|some (.inl v4)=>
 some ((v4.2.1==(v4.1.2.2.2.1.length:Int)),())
|some (.inr v5)=>
 some (v5.1,())
noncomputable def L2:Spec:=⟨_,(.pair .bool .unit),.unit,rfl,mc⟩
noncomputable def pK:FuncId→Option Spec:=bh [(257,ov)]
theorem FG:∀f s,pK f=some s→FnOK G0 Tryz.prog f s:=aF ⟨tm,trivial⟩
def u9:aO:=⟨[1,3,8,9,10],(.pair (.box ac) (.pair (.int .i64) (.pair (.list al) an))),0,[1,3],(.pair (.box ac) (.pair (.int .i64) .unit)),[2],(.pair .bool .unit)⟩
def va:aO:=⟨[1,3,4,5,8,9,10,19,20],(.pair (.box ac) (.pair (.int .i64) (.pair (.int .i64) (.pair (.box al) (.pair (.list al) ax))))),2,[1,3,8,9,10],(.pair (.box ac) (.pair (.int .i64) (.pair (.list al) an))),[2],(.pair .bool .unit)⟩
noncomputable def pL:List ay:=[u9.spec dq,va.spec dZ]
theorem DF:bc bd E0 pK (ba Tryz.f206 pL) Tryz.f206 0 u9 dq:=fun x=>by kernel_rfl
theorem DG:bc bd E0 pK (ba Tryz.f206 pL) Tryz.f206 1 va dZ:=fun x=>by kernel_rfl
theorem JQ:FnOK G0 Tryz.prog 206 L2:=aH ao FG Tryz.func206 pL (by kernel_rfl) (by exact⟨(DF).lok,(DG).lok,trivial⟩) fun x=>by kernel_rfl
noncomputable def b8(x:(Ty.T (.pair (.list aj) (.pair (.fn (.pair aj .unit) (.pair .bool .unit)) an)))):Option ((Ty.T (.pair (.list aj) (.pair (.fn (.pair aj .unit) (.pair .bool .unit)) an))) ⊕ ((Ty.T .unit) ⊕ (Ty.T (.pair (.int .i64) .unit)))):=
match(decide (x.2.2.2.1<x.2.2.1))with
|true=>
 aa (aq x.1 x.2.2.2.1) fun v1=>
 match x.2.1 (v1,())with
 |none=>none
 |some v2=>
 match v2.1 with
 |true=>
  some (.inr (.inr (x.2.2.2.1,())))
 |false=>
  some (.inl (x.1,x.2.1,x.2.2.1,(IntKind.i64.wrap (x.2.2.2.1+(1:Int))),()))
|false=>
 some (.inr (.inl (())))
noncomputable def cW(x:Ty.T (.pair (.list aj) (.pair (.fn (.pair aj .unit) (.pair .bool .unit)) .unit))):Option (Ty.T (.pair (.int .i64) .unit)):=
match ag b8 (x.1,x.2.1,(x.1.length:Int),(0:Int),())with
|none=>none
|some (.inl v3)=>
 some ((-1:Int),())
|some (.inr v4)=>
 some (v4.1,())
noncomputable def rK:Spec:=⟨_,(.pair (.int .i64) .unit),.unit,rfl,cW⟩
noncomputable def kk:FuncId→Option Spec:=bh []
theorem pM:∀f s,kk f=some s→FnOK G0 Tryz.prog f s:=aF trivial
def jU:aO:=⟨[0,1,7,8],(.pair (.list aj) (.pair (.fn (.pair aj .unit) (.pair .bool .unit)) an)),0,[],.unit,[4],(.pair (.int .i64) .unit)⟩
noncomputable def kl:List ay:=[jU.spec b8]
theorem pj:bc bd E0 kk (ba Tryz.f199 kl) Tryz.f199 0 jU b8:=fun x=>by kernel_rfl
theorem km:FnOK G0 Tryz.prog 199 rK:=aH ao pM Tryz.func199 kl (by kernel_rfl) (by exact⟨(pj).lok,trivial⟩) fun x=>by kernel_rfl
noncomputable def cd(x:Ty.T (.pair (.list aj) (.pair (.fn (.pair aj .unit) (.pair .bool .unit)) .unit))):Option (Ty.T (.pair .bool .unit)):=
match cW (x.1,x.2.1,())with
|none=>none
|some v1=>
some ((decide (v1.1≥(0:Int))),())
noncomputable def pN:Spec:=⟨_,(.pair .bool .unit),.unit,rfl,cd⟩
theorem pk:FnOK G0 Tryz.prog 207 pN:=ap ao (sg km (aJ)) Tryz.func207
noncomputable def pO(x:Ty.T (.pair aj (.pair (.ptr (.int .i64)) (.pair (.ptr (.int .i64)) (.pair (.ptr (.int .i64)) .unit))))):Option (Ty.T (.pair .bool .unit)):=
match(x.1.1==x.2.1)with
|true=>
 match(x.1.2.1==x.2.2.1)with
 |true=>
  some ((x.1.2.2.1==x.2.2.2.1),())
 |false=>
  some (false,())
|false=>
 some (false,())
noncomputable def L3:Spec:=⟨_,(.pair .bool .unit),.unit,rfl,pO⟩
theorem JR:FnOK G0 Tryz.prog 200 L3:=ap ao aJ Tryz.func200
noncomputable def mQ(x:Ty.T (.pair (.list aj) (.pair (.int .i64) an))):Option (Ty.T (.pair (.int .i64) .unit)):=
match cW (x.1,(fun z=>pO (z.1,x.2.1,x.2.2.1,x.2.2.2.1,())),())with
|none=>none
|some v1=>
some (v1.1,())
noncomputable def DH:Spec:=⟨_,(.pair (.int .i64) .unit),.unit,rfl,mQ⟩
theorem Bm:FnOK G0 Tryz.prog 139 DH:=ap ao (sg km (sg JR (aJ))) Tryz.func139
noncomputable def gu(x:(Ty.T (.pair (.box ac) (.pair (.list aj) an)))):Option ((Ty.T (.pair (.box ac) (.pair (.list aj) an))) ⊕ ((Ty.T .unit) ⊕ (Ty.T (.pair .bool .unit)))):=
match(decide (x.2.2.2.1<x.2.2.1))with
|true=>
 aa (aq x.2.1 x.2.2.2.1) fun v1=>
 aI (
  match mQ (x.1.2.2.2.1,v1.1,(0:Int),v1.2.2.1,())with
  |none=>none
  |some v2=>
  aa (aq x.1.2.2.2.1 v2.1) fun v3=>
  match(v1.2.2.2.1.2.2.2.1 != v3.2.2.2.1.2.2.2.1)with
  |true=>
   some (.inr (.inr (false,())))
  |false=>
   some (.inl ((x.1.1,x.1.2.1,x.1.2.2.1,x.1.2.2.2.1,()),x.2.1,x.2.2.1,(IntKind.i64.wrap (x.2.2.2.1+(1:Int))),())))
|false=>
 some (.inr (.inl (())))
noncomputable def pP(x:Ty.T (.pair ac .unit)):Option (Ty.T (.pair .bool .unit)):=
match ag gu ((x.1.1,x.1.2.1,x.1.2.2.1,x.1.2.2.2.1,()),x.1.2.2.2.1,(x.1.2.2.2.1.length:Int),(0:Int),())with
|none=>none
|some (.inl v4)=>
 some (true,())
|some (.inr v5)=>
 some (v5.1,())
noncomputable def Qe:Spec:=⟨_,(.pair .bool .unit),.unit,rfl,pP⟩
noncomputable def Bo:FuncId→Option Spec:=bh [(139,DH)]
theorem JS:∀f s,Bo f=some s→FnOK G0 Tryz.prog f s:=aF ⟨Bm,trivial⟩
def yD:aO:=⟨[1,7,8,9],(.pair (.box ac) (.pair (.list aj) an)),0,[],.unit,[2],(.pair .bool .unit)⟩
noncomputable def Bp:List ay:=[yD.spec gu]
theorem HW:bc bd E0 Bo (ba Tryz.f208 Bp) Tryz.f208 0 yD gu:=fun x=>by kernel_rfl
theorem Od:FnOK G0 Tryz.prog 208 Qe:=aH ao JS Tryz.func208 Bp (by kernel_rfl) (by exact⟨(HW).lok,trivial⟩) fun x=>by kernel_rfl
noncomputable def d4(x:(Ty.T (.pair (.int .i64) (.pair (.list aj) an)))):Option ((Ty.T (.pair (.int .i64) (.pair (.list aj) an))) ⊕ ((Ty.T (.pair (.int .i64) .unit)) ⊕ (Ty.T .unit))):=
match(decide (x.2.2.2.1<x.2.2.1))with
|true=>
 aa (aq x.2.1 x.2.2.2.1) fun v1=>
 some (.inl ((IntKind.i64.wrap (x.1+v1.2.2.2.1.2.2.2.1)),x.2.1,x.2.2.1,(IntKind.i64.wrap (x.2.2.2.1+(1:Int))),()))
|false=>
 some (.inr (.inl (x.1,())))
noncomputable def mR(x:Ty.T (.pair (.list aj) .unit)):Option (Ty.T (.pair (.int .i64) .unit)):=
match ag d4 ((0:Int),x.1,(x.1.length:Int),(0:Int),())with
|none=>none
|some (.inl v2)=>
 some (v2.1,())
|some (.inr v4)=>
 none
noncomputable def vd:Spec:=⟨_,(.pair (.int .i64) .unit),.unit,rfl,mR⟩
noncomputable def tp:FuncId→Option Spec:=bh []
theorem Cz:∀f s,tp f=some s→FnOK G0 Tryz.prog f s:=aF trivial
def rL:aO:=⟨[3,6,7,8],(.pair (.int .i64) (.pair (.list aj) an)),0,[3],(.pair (.int .i64) .unit),[],.unit⟩
noncomputable def tq:List ay:=[rL.spec d4]
theorem Ai:bc bd E0 tp (ba Tryz.f258 tq) Tryz.f258 0 rL d4:=fun x=>by kernel_rfl
theorem FH:FnOK G0 Tryz.prog 258 vd:=aH ao Cz Tryz.func258 tq (by kernel_rfl) (by exact⟨(Ai).lok,trivial⟩) fun x=>by kernel_rfl
end Go.Proofs.YtkgcbbkodalfmaaGreatDoor
