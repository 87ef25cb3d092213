import Derived.Test.YtnambbcafhnhpaaGreatDoorPB
import Derived.Test.YtnambbcafhnhpaaGreatDoorGA
import Derived.Test.YtnambbcafhnhpaaGreatDoorGB
import Derived.Test.YtnambbcafhnhpaaGreatDoorGC
namespace Go.Proofs.YtnambbcafhnhpaaGreatDoor
open Go.RowKit
set_option linter.unusedVariables false
set_option linter.unusedSimpArgs false
theorem Sd(l:List (Ty.T aL))(hl:l.length≤1099511627776)(p:(Ty.pair aL .unit).T→Option (Ty.pair .bool .unit).T)(q:Ty.T aL→Bool)(hq:∀i (h:i<l.length),p (l[i],())=some (q l[i],())):
  eZ (l,p,())=some ((match cn q 0 l with|none=>(-1:Int)|some i=>(i:Int)),()):=by
 have e:=sq (B:=cK) l (fun i=>(l,p,(l.length:Int),(i:Int),())) q (.inl ()) (fun i=>.inr ((i:Int),())) (by simp only[cK,bQ]) (fun i h=>by
  simp only[cK,bH h,a7 h hl,aJ h,ac,hq i h]
  cases q l[i]<;>simp)
 have e0:eZ (l,p,())=match ak cK (l,p,(l.length:Int),((0:Nat):Int),())with
  |none=>none
  |some (.inl _)=>some ((-1:Int),())
  |some (.inr v4)=>some (v4.1,()):=rfl
 rw[e0,e]
 cases cn q 0 l<;>rfl
theorem LB(l:List (Ty.T aL))(hl:l.length≤1099511627776)(p:(Ty.pair aL .unit).T→Option (Ty.pair .bool .unit).T)(q:Ty.T aL→Bool)(hq:∀i (h:i<l.length),p (l[i],())=some (q l[i],())):
  dn (l,p,())=some (l.any q,()):=by
 have e0:dn (l,p,())=match eZ (l,p,())with
  |none=>none
  |some v1=>some ((decide (v1.1≥(0:Int))),()):=rfl
 rw[e0,Sd l hl p q hq,←kE q 0 l]
 cases cn q 0 l<;>simp
theorem EZ(l:List (Ty.T az))(hl:l.length≤1099511627776)(p:(Ty.pair az .unit).T→Option (Ty.pair .bool .unit).T)(q:Ty.T az→Bool)(hq:∀i (h:i<l.length),p (l[i],())=some (q l[i],())):
  dG (l,p,())=some ((match cn q 0 l with|none=>(-1:Int)|some i=>(i:Int)),()):=by
 have e:=sq (B:=cL) l (fun i=>(l,p,(l.length:Int),(i:Int),())) q (.inl ()) (fun i=>.inr ((i:Int),())) (by simp only[cL,bQ]) (fun i h=>by
  simp only[cL,bH h,a7 h hl,aJ h,ac,hq i h]
  cases q l[i]<;>simp)
 have e0:dG (l,p,())=match ak cL (l,p,(l.length:Int),((0:Nat):Int),())with
  |none=>none
  |some (.inl _)=>some ((-1:Int),())
  |some (.inr v4)=>some (v4.1,()):=rfl
 rw[e0,e]
 cases cn q 0 l<;>rfl
theorem yc(l:List (Ty.T az))(hl:l.length≤1099511627776)(p:(Ty.pair az .unit).T→Option (Ty.pair .bool .unit).T)(q:Ty.T az→Bool)(hq:∀i (h:i<l.length),p (l[i],())=some (q l[i],())):
  cM (l,p,())=some (l.any q,()):=by
 have e0:cM (l,p,())=match dG (l,p,())with
  |none=>none
  |some v1=>some ((decide (v1.1≥(0:Int))),()):=rfl
 rw[e0,EZ l hl p q hq,←kE q 0 l]
 cases cn q 0 l<;>simp
theorem aap(l:List (Ty.T bI))(hl:l.length≤1099511627776)(p:(Ty.pair bI .unit).T→Option (Ty.pair .bool .unit).T)(q:Ty.T bI→Bool)(hq:∀i (h:i<l.length),p (l[i],())=some (q l[i],())):
  gV (l,p,())=some ((match cn q 0 l with|none=>(-1:Int)|some i=>(i:Int)),()):=by
 have e:=sq (B:=di) l (fun i=>(l,p,(l.length:Int),(i:Int),())) q (.inl ()) (fun i=>.inr ((i:Int),())) (by simp only[di,bQ]) (fun i h=>by
  simp only[di,bH h,a7 h hl,aJ h,ac,hq i h]
  cases q l[i]<;>simp)
 have e0:gV (l,p,())=match ak di (l,p,(l.length:Int),((0:Nat):Int),())with
  |none=>none
  |some (.inl _)=>some ((-1:Int),())
  |some (.inr v4)=>some (v4.1,()):=rfl
 rw[e0,e]
 cases cn q 0 l<;>rfl
theorem Um(l:List (Ty.T bI))(hl:l.length≤1099511627776)(p:(Ty.pair bI .unit).T→Option (Ty.pair .bool .unit).T)(q:Ty.T bI→Bool)(hq:∀i (h:i<l.length),p (l[i],())=some (q l[i],())):
  il (l,p,())=some (l.any q,()):=by
 have e0:il (l,p,())=match gV (l,p,())with
  |none=>none
  |some v1=>some ((decide (v1.1≥(0:Int))),()):=rfl
 rw[e0,aap l hl p q hq,←kE q 0 l]
 cases cn q 0 l<;>simp
theorem Yc(l:List (Ty.T bk))(hl:l.length≤1099511627776)(p:(Ty.pair bk .unit).T→Option (Ty.pair .bool .unit).T)(q:Ty.T bk→Bool)(hq:∀i (h:i<l.length),p (l[i],())=some (q l[i],())):
  ge (l,p,())=some ((match cn q 0 l with|none=>(-1:Int)|some i=>(i:Int)),()):=by
 have e:=sq (B:=cW) l (fun i=>(l,p,(l.length:Int),(i:Int),())) q (.inl ()) (fun i=>.inr ((i:Int),())) (by simp only[cW,bQ]) (fun i h=>by
  simp only[cW,bH h,a7 h hl,aJ h,ac,hq i h]
  cases q l[i]<;>simp)
 have e0:ge (l,p,())=match ak cW (l,p,(l.length:Int),((0:Nat):Int),())with
  |none=>none
  |some (.inl _)=>some ((-1:Int),())
  |some (.inr v4)=>some (v4.1,()):=rfl
 rw[e0,e]
 cases cn q 0 l<;>rfl
theorem Se(l:List (Ty.T bk))(hl:l.length≤1099511627776)(p:(Ty.pair bk .unit).T→Option (Ty.pair .bool .unit).T)(q:Ty.T bk→Bool)(hq:∀i (h:i<l.length),p (l[i],())=some (q l[i],())):
  e7 (l,p,())=some (l.any q,()):=by
 have e0:e7 (l,p,())=match ge (l,p,())with
  |none=>none
  |some v1=>some ((decide (v1.1≥(0:Int))),()):=rfl
 rw[e0,Yc l hl p q hq,←kE q 0 l]
 cases cn q 0 l<;>simp
end Go.Proofs.YtnambbcafhnhpaaGreatDoor
