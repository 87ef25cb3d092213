import Derived.Test.YtckljdhdadiphaaGreatDoorPB
import Derived.Test.YtckljdhdadiphaaGreatDoorGA
import Derived.Test.YtckljdhdadiphaaGreatDoorGB
import Derived.Test.YtckljdhdadiphaaGreatDoorGC
namespace Go.Proofs.YtckljdhdadiphaaGreatDoor
open Go.RowKit
set_option linter.unusedVariables false
set_option linter.unusedSimpArgs false
theorem Jl(l:List (Ty.T aw))(hl:l.length≤1099511627776)(p:(Ty.pair aw .unit).T→Option (Ty.pair .bool .unit).T)(q:Ty.T aw→Bool)(hq:∀i (h:i<l.length),p (l[i],())=some (q l[i],())):
  dB (l,p,())=some ((match b8 q 0 l with|none=>(-1:Int)|some i=>(i:Int)),()):=by
 have e:=uM (B:=bV) l (fun i=>(l,p,(l.length:Int),(i:Int),())) q (.inl ()) (fun i=>.inr ((i:Int),())) (by simp only[bV,bJ]) (fun i h=>by
  simp only[bV,bw h,aQ h hl,az h,ab,hq i h]
  cases q l[i]<;>simp)
 have e0:dB (l,p,())=match ac bV (l,p,(l.length:Int),((0:Nat):Int),())with
  |none=>none
  |some (.inl _)=>some ((-1:Int),())
  |some (.inr v4)=>some (v4.1,()):=rfl
 rw[e0,e]
 cases b8 q 0 l<;>rfl
theorem DF(l:List (Ty.T aw))(hl:l.length≤1099511627776)(p:(Ty.pair aw .unit).T→Option (Ty.pair .bool .unit).T)(q:Ty.T aw→Bool)(hq:∀i (h:i<l.length),p (l[i],())=some (q l[i],())):
  cw (l,p,())=some (l.any q,()):=by
 have e0:cw (l,p,())=match dB (l,p,())with
  |none=>none
  |some v1=>some ((decide (v1.1≥(0:Int))),()):=rfl
 rw[e0,Jl l hl p q hq,←ka q 0 l]
 cases b8 q 0 l<;>simp
theorem xL(l:List (Ty.T aj))(hl:l.length≤1099511627776)(p:(Ty.pair aj .unit).T→Option (Ty.pair .bool .unit).T)(q:Ty.T aj→Bool)(hq:∀i (h:i<l.length),p (l[i],())=some (q l[i],())):
  cP (l,p,())=some ((match b8 q 0 l with|none=>(-1:Int)|some i=>(i:Int)),()):=by
 have e:=uM (B:=bW) l (fun i=>(l,p,(l.length:Int),(i:Int),())) q (.inl ()) (fun i=>.inr ((i:Int),())) (by simp only[bW,bJ]) (fun i h=>by
  simp only[bW,bw h,aQ h hl,az h,ab,hq i h]
  cases q l[i]<;>simp)
 have e0:cP (l,p,())=match ac bW (l,p,(l.length:Int),((0:Nat):Int),())with
  |none=>none
  |some (.inl _)=>some ((-1:Int),())
  |some (.inr v4)=>some (v4.1,()):=rfl
 rw[e0,e]
 cases b8 q 0 l<;>rfl
theorem sQ(l:List (Ty.T aj))(hl:l.length≤1099511627776)(p:(Ty.pair aj .unit).T→Option (Ty.pair .bool .unit).T)(q:Ty.T aj→Bool)(hq:∀i (h:i<l.length),p (l[i],())=some (q l[i],())):
  b6 (l,p,())=some (l.any q,()):=by
 have e0:b6 (l,p,())=match cP (l,p,())with
  |none=>none
  |some v1=>some ((decide (v1.1≥(0:Int))),()):=rfl
 rw[e0,xL l hl p q hq,←ka q 0 l]
 cases b8 q 0 l<;>simp
end Go.Proofs.YtckljdhdadiphaaGreatDoor
