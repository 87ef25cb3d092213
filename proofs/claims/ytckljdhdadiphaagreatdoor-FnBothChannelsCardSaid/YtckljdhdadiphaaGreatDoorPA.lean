import Derived.Test.YtckljdhdadiphaaGreatDoorPB
import Derived.Test.YtckljdhdadiphaaGreatDoorGA
import Derived.Test.YtckljdhdadiphaaGreatDoorGB
import Derived.Test.YtckljdhdadiphaaGreatDoorGC
namespace Go.Proofs.YtckljdhdadiphaaGreatDoor
open Go.RowKit
set_option linter.unusedVariables false
set_option linter.unusedSimpArgs false
theorem Nz(l:List (Ty.T aA))(hl:l.length≤1099511627776)(p:(Ty.pair aA .unit).T→Option (Ty.pair .bool .unit).T)(q:Ty.T aA→Bool)(hq:∀i (h:i<l.length),p (l[i],())=some (q l[i],())):
  dT (l,p,())=some ((match cj q 0 l with|none=>(-1:Int)|some i=>(i:Int)),()):=by
 have e:=xt (B:=b9) l (fun i=>(l,p,(l.length:Int),(i:Int),())) q (.inl ()) (fun i=>.inr ((i:Int),())) (by simp only[b9,bu]) (fun i h=>by
  simp only[b9,bj h,aL h hl,au h,ab,hq i h]
  cases q l[i]<;>simp)
 have e0:dT (l,p,())=match ac b9 (l,p,(l.length:Int),((0:Nat):Int),())with
  |none=>none
  |some (.inl _)=>some ((-1:Int),())
  |some (.inr v4)=>some (v4.1,()):=rfl
 rw[e0,e]
 cases cj q 0 l<;>rfl
theorem Hq(l:List (Ty.T aA))(hl:l.length≤1099511627776)(p:(Ty.pair aA .unit).T→Option (Ty.pair .bool .unit).T)(q:Ty.T aA→Bool)(hq:∀i (h:i<l.length),p (l[i],())=some (q l[i],())):
  cH (l,p,())=some (l.any q,()):=by
 have e0:cH (l,p,())=match dT (l,p,())with
  |none=>none
  |some v1=>some ((decide (v1.1≥(0:Int))),()):=rfl
 rw[e0,Nz l hl p q hq,←lf q 0 l]
 cases cj q 0 l<;>simp
theorem AM(l:List (Ty.T ao))(hl:l.length≤1099511627776)(p:(Ty.pair ao .unit).T→Option (Ty.pair .bool .unit).T)(q:Ty.T ao→Bool)(hq:∀i (h:i<l.length),p (l[i],())=some (q l[i],())):
  dg (l,p,())=some ((match cj q 0 l with|none=>(-1:Int)|some i=>(i:Int)),()):=by
 have e:=xt (B:=ca) l (fun i=>(l,p,(l.length:Int),(i:Int),())) q (.inl ()) (fun i=>.inr ((i:Int),())) (by simp only[ca,bu]) (fun i h=>by
  simp only[ca,bj h,aL h hl,au h,ab,hq i h]
  cases q l[i]<;>simp)
 have e0:dg (l,p,())=match ac ca (l,p,(l.length:Int),((0:Nat):Int),())with
  |none=>none
  |some (.inl _)=>some ((-1:Int),())
  |some (.inr v4)=>some (v4.1,()):=rfl
 rw[e0,e]
 cases cj q 0 l<;>rfl
theorem vh(l:List (Ty.T ao))(hl:l.length≤1099511627776)(p:(Ty.pair ao .unit).T→Option (Ty.pair .bool .unit).T)(q:Ty.T ao→Bool)(hq:∀i (h:i<l.length),p (l[i],())=some (q l[i],())):
  cg (l,p,())=some (l.any q,()):=by
 have e0:cg (l,p,())=match dg (l,p,())with
  |none=>none
  |some v1=>some ((decide (v1.1≥(0:Int))),()):=rfl
 rw[e0,AM l hl p q hq,←lf q 0 l]
 cases cj q 0 l<;>simp
end Go.Proofs.YtckljdhdadiphaaGreatDoor
