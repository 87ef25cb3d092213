import Derived.Test.YtkgcbbkodalfmaaGreatDoorPB
import Derived.Test.YtkgcbbkodalfmaaGreatDoorGA
import Derived.Test.YtkgcbbkodalfmaaGreatDoorGB
import Derived.Test.YtkgcbbkodalfmaaGreatDoorGC
namespace Go.Proofs.YtkgcbbkodalfmaaGreatDoor
open Go.RowKit
set_option linter.unusedVariables false
set_option linter.unusedSimpArgs false
theorem BD(l:List (Ty.T al))(hl:l.length≤1099511627776)(p:(Ty.pair al .unit).T→Option (Ty.pair .bool .unit).T)(q:Ty.T al→Bool)(hq:∀i (h:i<l.length),p (l[i],())=some (q l[i],())):
  dl (l,p,())=some ((match cd q 0 l with|none=>(-1:Int)|some i=>(i:Int)),()):=by
 have e:=sI (B:=ci) l (fun i=>(l,p,(l.length:Int),(i:Int),())) q (.inl ()) (fun i=>.inr ((i:Int),())) (by simp only[ci,bp]) (fun i h=>by
  simp only[ci,a7 h,aG h hl,am h,ab,hq i h]
  cases q l[i]<;>simp)
 have e0:dl (l,p,())=match ac ci (l,p,(l.length:Int),((0:Nat):Int),())with
  |none=>none
  |some (.inl _)=>some ((-1:Int),())
  |some (.inr v4)=>some (v4.1,()):=rfl
 rw[e0,e]
 cases cd q 0 l<;>rfl
theorem Ox(l:List (Ty.T au))(hl:l.length≤1099511627776)(p:(Ty.pair au .unit).T→Option (Ty.pair .bool .unit).T)(q:Ty.T au→Bool)(hq:∀i (h:i<l.length),p (l[i],())=some (q l[i],())):
  eE (l,p,())=some ((match cd q 0 l with|none=>(-1:Int)|some i=>(i:Int)),()):=by
 have e:=sI (B:=cj) l (fun i=>(l,p,(l.length:Int),(i:Int),())) q (.inl ()) (fun i=>.inr ((i:Int),())) (by simp only[cj,bp]) (fun i h=>by
  simp only[cj,a7 h,aG h hl,am h,ab,hq i h]
  cases q l[i]<;>simp)
 have e0:eE (l,p,())=match ac cj (l,p,(l.length:Int),((0:Nat):Int),())with
  |none=>none
  |some (.inl _)=>some ((-1:Int),())
  |some (.inr v4)=>some (v4.1,()):=rfl
 rw[e0,e]
 cases cd q 0 l<;>rfl
theorem HY(l:List (Ty.T au))(hl:l.length≤1099511627776)(p:(Ty.pair au .unit).T→Option (Ty.pair .bool .unit).T)(q:Ty.T au→Bool)(hq:∀i (h:i<l.length),p (l[i],())=some (q l[i],())):
  cQ (l,p,())=some (l.any q,()):=by
 have e0:cQ (l,p,())=match eE (l,p,())with
  |none=>none
  |some v1=>some ((decide (v1.1≥(0:Int))),()):=rfl
 rw[e0,Ox l hl p q hq,←kh q 0 l]
 cases cd q 0 l<;>simp
theorem vU(l:List (Ty.T al))(hl:l.length≤1099511627776)(p:(Ty.pair al .unit).T→Option (Ty.pair .bool .unit).T)(q:Ty.T al→Bool)(hq:∀i (h:i<l.length),p (l[i],())=some (q l[i],())):
  ct (l,p,())=some (l.any q,()):=by
 have e0:ct (l,p,())=match dl (l,p,())with
  |none=>none
  |some v1=>some ((decide (v1.1≥(0:Int))),()):=rfl
 rw[e0,BD l hl p q hq,←kh q 0 l]
 cases cd q 0 l<;>simp
theorem Uf(l:List (Ty.T av))(hl:l.length≤1099511627776)(p:(Ty.pair av .unit).T→Option (Ty.pair .bool .unit).T)(q:Ty.T av→Bool)(hq:∀i (h:i<l.length),p (l[i],())=some (q l[i],())):
  fF (l,p,())=some ((match cd q 0 l with|none=>(-1:Int)|some i=>(i:Int)),()):=by
 have e:=sI (B:=cI) l (fun i=>(l,p,(l.length:Int),(i:Int),())) q (.inl ()) (fun i=>.inr ((i:Int),())) (by simp only[cI,bp]) (fun i h=>by
  simp only[cI,a7 h,aG h hl,am h,ab,hq i h]
  cases q l[i]<;>simp)
 have e0:fF (l,p,())=match ac cI (l,p,(l.length:Int),((0:Nat):Int),())with
  |none=>none
  |some (.inl _)=>some ((-1:Int),())
  |some (.inr v4)=>some (v4.1,()):=rfl
 rw[e0,e]
 cases cd q 0 l<;>rfl
theorem BE(l:List (Ty.T av))(hl:l.length≤1099511627776)(p:(Ty.pair av .unit).T→Option (Ty.pair .bool .unit).T)(q:Ty.T av→Bool)(hq:∀i (h:i<l.length),p (l[i],())=some (q l[i],())):
  dm (l,p,())=some (l.any q,()):=by
 have e0:dm (l,p,())=match fF (l,p,())with
  |none=>none
  |some v1=>some ((decide (v1.1≥(0:Int))),()):=rfl
 rw[e0,Uf l hl p q hq,←kh q 0 l]
 cases cd q 0 l<;>simp
end Go.Proofs.YtkgcbbkodalfmaaGreatDoor
