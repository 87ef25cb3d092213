import Derived.Test.YtkgcbbkodalfmaaGreatDoorPB
import Derived.Test.YtkgcbbkodalfmaaGreatDoorGA
import Derived.Test.YtkgcbbkodalfmaaGreatDoorGB
import Derived.Test.YtkgcbbkodalfmaaGreatDoorGC
namespace Go.Proofs.YtkgcbbkodalfmaaGreatDoor
open Go.RowKit
set_option linter.unusedVariables false
set_option linter.unusedSimpArgs false
theorem MH(l:List (Ty.T ak))(hl:l.length≤1099511627776)(p:(Ty.pair ak .unit).T→Option (Ty.pair .bool .unit).T)(q:Ty.T ak→Bool)(hq:∀i (h:i<l.length),p (l[i],())=some (q l[i],())):
  dN (l,p,())=some ((match bv q 0 l with|none=>(-1:Int)|some i=>(i:Int)),()):=by
 have e:=kR (B:=b7) l (fun i=>(l,p,(l.length:Int),(i:Int),())) q (.inl ()) (fun i=>.inr ((i:Int),())) (by simp only[b7,be]) (fun i h=>by
  simp only[b7,a7 h,aG h hl,ar h,aa,hq i h]
  cases q l[i]<;>simp)
 have e0:dN (l,p,())=match ag b7 (l,p,(l.length:Int),((0:Nat):Int),())with
  |none=>none
  |some (.inl _)=>some ((-1:Int),())
  |some (.inr v4)=>some (v4.1,()):=rfl
 rw[e0,e]
 cases bv q 0 l<;>rfl
theorem FX(l:List (Ty.T ak))(hl:l.length≤1099511627776)(p:(Ty.pair ak .unit).T→Option (Ty.pair .bool .unit).T)(q:Ty.T ak→Bool)(hq:∀i (h:i<l.length),p (l[i],())=some (q l[i],())):
  cK (l,p,())=some (l.any q,()):=by
 have e0:cK (l,p,())=match dN (l,p,())with
  |none=>none
  |some v1=>some ((decide (v1.1≥(0:Int))),()):=rfl
 rw[e0,MH l hl p q hq,←fm q 0 l]
 cases bv q 0 l<;>simp
theorem zk(l:List (Ty.T aj))(hl:l.length≤1099511627776)(p:(Ty.pair aj .unit).T→Option (Ty.pair .bool .unit).T)(q:Ty.T aj→Bool)(hq:∀i (h:i<l.length),p (l[i],())=some (q l[i],())):
  cW (l,p,())=some ((match bv q 0 l with|none=>(-1:Int)|some i=>(i:Int)),()):=by
 have e:=kR (B:=b8) l (fun i=>(l,p,(l.length:Int),(i:Int),())) q (.inl ()) (fun i=>.inr ((i:Int),())) (by simp only[b8,be]) (fun i h=>by
  simp only[b8,a7 h,aG h hl,ar h,aa,hq i h]
  cases q l[i]<;>simp)
 have e0:cW (l,p,())=match ag b8 (l,p,(l.length:Int),((0:Nat):Int),())with
  |none=>none
  |some (.inl _)=>some ((-1:Int),())
  |some (.inr v4)=>some (v4.1,()):=rfl
 rw[e0,e]
 cases bv q 0 l<;>rfl
theorem tB(l:List (Ty.T aj))(hl:l.length≤1099511627776)(p:(Ty.pair aj .unit).T→Option (Ty.pair .bool .unit).T)(q:Ty.T aj→Bool)(hq:∀i (h:i<l.length),p (l[i],())=some (q l[i],())):
  cd (l,p,())=some (l.any q,()):=by
 have e0:cd (l,p,())=match cW (l,p,())with
  |none=>none
  |some v1=>some ((decide (v1.1≥(0:Int))),()):=rfl
 rw[e0,zk l hl p q hq,←fm q 0 l]
 cases bv q 0 l<;>simp
theorem UP(l:List (Ty.T au))(hl:l.length≤1099511627776)(p:(Ty.pair au .unit).T→Option (Ty.pair .bool .unit).T)(q:Ty.T au→Bool)(hq:∀i (h:i<l.length),p (l[i],())=some (q l[i],())):
  fG (l,p,())=some ((match bv q 0 l with|none=>(-1:Int)|some i=>(i:Int)),()):=by
 have e:=kR (B:=cE) l (fun i=>(l,p,(l.length:Int),(i:Int),())) q (.inl ()) (fun i=>.inr ((i:Int),())) (by simp only[cE,be]) (fun i h=>by
  simp only[cE,a7 h,aG h hl,ar h,aa,hq i h]
  cases q l[i]<;>simp)
 have e0:fG (l,p,())=match ag cE (l,p,(l.length:Int),((0:Nat):Int),())with
  |none=>none
  |some (.inl _)=>some ((-1:Int),())
  |some (.inr v4)=>some (v4.1,()):=rfl
 rw[e0,e]
 cases bv q 0 l<;>rfl
theorem OZ(l:List (Ty.T au))(hl:l.length≤1099511627776)(p:(Ty.pair au .unit).T→Option (Ty.pair .bool .unit).T)(q:Ty.T au→Bool)(hq:∀i (h:i<l.length),p (l[i],())=some (q l[i],())):
  fV (l,p,())=some (l.any q,()):=by
 have e0:fV (l,p,())=match fG (l,p,())with
  |none=>none
  |some v1=>some ((decide (v1.1≥(0:Int))),()):=rfl
 rw[e0,UP l hl p q hq,←fm q 0 l]
 cases bv q 0 l<;>simp
theorem SX(l:List (Ty.T ax))(hl:l.length≤1099511627776)(p:(Ty.pair ax .unit).T→Option (Ty.pair .bool .unit).T)(q:Ty.T ax→Bool)(hq:∀i (h:i<l.length),p (l[i],())=some (q l[i],())):
  fg (l,p,())=some ((match bv q 0 l with|none=>(-1:Int)|some i=>(i:Int)),()):=by
 have e:=kR (B:=cq) l (fun i=>(l,p,(l.length:Int),(i:Int),())) q (.inl ()) (fun i=>.inr ((i:Int),())) (by simp only[cq,be]) (fun i h=>by
  simp only[cq,a7 h,aG h hl,ar h,aa,hq i h]
  cases q l[i]<;>simp)
 have e0:fg (l,p,())=match ag cq (l,p,(l.length:Int),((0:Nat):Int),())with
  |none=>none
  |some (.inl _)=>some ((-1:Int),())
  |some (.inr v4)=>some (v4.1,()):=rfl
 rw[e0,e]
 cases bv q 0 l<;>rfl
theorem MI(l:List (Ty.T ax))(hl:l.length≤1099511627776)(p:(Ty.pair ax .unit).T→Option (Ty.pair .bool .unit).T)(q:Ty.T ax→Bool)(hq:∀i (h:i<l.length),p (l[i],())=some (q l[i],())):
  dP (l,p,())=some (l.any q,()):=by
 have e0:dP (l,p,())=match fg (l,p,())with
  |none=>none
  |some v1=>some ((decide (v1.1≥(0:Int))),()):=rfl
 rw[e0,SX l hl p q hq,←fm q 0 l]
 cases bv q 0 l<;>simp
end Go.Proofs.YtkgcbbkodalfmaaGreatDoor
