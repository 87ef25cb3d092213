import Derived.Test.YthfgmmmeplanbaaGreatDoorPB
import Derived.Test.YthfgmmmeplanbaaGreatDoorGA
import Derived.Test.YthfgmmmeplanbaaGreatDoorGB
import Derived.Test.YthfgmmmeplanbaaGreatDoorGC
namespace Go.Proofs.YthfgmmmeplanbaaGreatDoor
open Go.RowKit
set_option linter.unusedVariables false
set_option linter.unusedSimpArgs false
theorem Wt(x)(h0:0≤x.2.1)(h1:x.2.1≤1048576)(h:x.1.length≤maxLen):sQ x=some ((if x.2.1-(x.1.length:Int)<0 then(-1:Int)else x.2.1-(x.1.length:Int)),()):=
 Vc (g:=sQ) (fun _ _=>by kernel_rfl) x.1 x.2.1 h0 h1 h
theorem Eu(x)(h0:0≤x.2.1)(h1:x.2.1≤1048576)(h:x.1.length≤maxLen):nl x=some ((if x.2.1-(x.1.length:Int)<0 then(-1:Int)else x.2.1-(x.1.length:Int)),()):=
 Vc (g:=nl) (fun _ _=>by kernel_rfl) x.1 x.2.1 h0 h1 h
theorem S8(x):tR x=some (x.1,()):=rfl
theorem Q7(x)(hl:x.1.length≤1099511627776):ku x=some (x.1,()):=
 Et (g:=ku) (B:=fG) (z:=(((0:Int),([],((0:Int),(false,())))):Ty.T ak)) (fun _=>by kernel_rfl) x.1 hl (fun s=>by simp only[fG,aJ]) (fun s i h h'=>by
  simp only[fG,aK h,aJ,av h hl,am h,aa,am h',S8,Int.toNat_natCast,List.getElem?_eq_getElem h'])
theorem Wu(x)(hl:x.1.length≤1099511627776):oL x=some (x.1,()):=
 Et (g:=oL) (B:=ig) (z:=((0:Int):Ty.T (.int .i64))) (fun _=>by kernel_rfl) x.1 hl (fun s=>by simp only[ig,aJ]) (fun s i h h'=>by
  simp only[ig,aK h,aJ,av h hl,am h,aa,am h',Int.toNat_natCast,List.getElem?_eq_getElem h'])
theorem Zu(x):pZ x=some (x.1,()):=rfl
theorem S9(x):tW x=some (x.1,()):=rfl
theorem Q8(x)(hl:x.1.length≤1099511627776):kw x=some (x.1,()):=
 Et (g:=kw) (B:=fI) (z:=(((0:Int),((0:Int),((0:Int),(((0:Int),((0:Int),((0:Int),((0:Int),(false,()))))),())))):Ty.T ag)) (fun _=>by kernel_rfl) x.1 hl (fun s=>by simp only[fI,aJ]) (fun s i h h'=>by
  simp only[fI,aK h,aJ,av h hl,am h,aa,am h',S9,Int.toNat_natCast,List.getElem?_eq_getElem h'])
theorem aaX(x):jb x=some (x.1,()):=rfl
theorem Ta(x)(h:x.2.1=x.1):oN x=some (true,()):=by
 unfold oN
 rw[h]
 simp
theorem Q9(x)(h:x.2.1=x.1)(hl:x.1.length≤1099511627776):kx x=some (true,()):=by
 obtain⟨l,m,u⟩:=x
 obtain rfl:m=l:=h
 have hl:m.length≤1099511627776:=hl
 exact yY (g:=kx) (B:=fJ) (fun _=>by kernel_rfl) m (by simp only[fJ,aJ]) (fun i h=>by
  simp only[fJ,aK h,aJ,av h hl,am h,aa]
  rw[Ta _ rfl]
  simp)
theorem Wv(x)(h:x.2.1=x.1)(hl:x.1.length≤1099511627776):oO x=some (true,()):=by
 obtain⟨l,m,u⟩:=x
 obtain rfl:m=l:=h
 have hl:m.length≤1099511627776:=hl
 exact yY (g:=oO) (B:=ii) (fun _=>by kernel_rfl) m (by simp only[ii,aJ]) (fun i h=>by
  simp only[ii,aK h,aJ,av h hl,am h,aa]
  simp)
theorem O7(x)(h:x.2.1=x.1):mb x=some (true,()):=by
 unfold mb
 rw[h]
 simp
theorem Tb(x)(h:x.2.1=x.1):oQ x=some (true,()):=by
 unfold oQ
 rw[h]
 simp[O7]
theorem Ra(x)(h:x.2.1=x.1)(hl:x.1.length≤1099511627776):kz x=some (true,()):=by
 obtain⟨l,m,u⟩:=x
 obtain rfl:m=l:=h
 have hl:m.length≤1099511627776:=hl
 exact yY (g:=kz) (B:=fL) (fun _=>by kernel_rfl) m (by simp only[fL,aJ]) (fun i h=>by
  simp only[fL,aK h,aJ,av h hl,am h,aa]
  rw[Tb _ rfl]
  simp)
def qc(_:Ty.T (.int .i64))(q:Int):Ty.T (.int .i64)×Int:=(q,(IntKind.i64.wrap (q+(1:Int))))
theorem YD(v:Ty.T (.int .i64))(q:Int)(h0:0≤q)(h1:q≤2305843009213693952):(qc v q).2=q+(1:Nat):=by
 simp only[qc]
 repeat' first|omega|rw[fx]
theorem Td(x)(hl:x.1.length≤1099511627776):lV x=some ((cg qc x.1 x.2.1).2,(cg qc x.1 x.2.1).1,()):=
 MP (g:=lV) (B:=gh) (fun _ _=>by kernel_rfl) x.1 x.2.1 (fun s q hs=>by simp only[gh,←hs,aJ]) (fun s q i h h' hs _=>by
  have hl':s.length≤1099511627776:=hs▸hl
  have hs':(s.length:Int)=x.1.length:=by rw[hs]
  simp only[gh,hs',aK h,av h hl,am h',aa,Int.toNat_natCast,List.getElem?_eq_getElem h',List.length_set,au,List.getElem?_set,List.set_set,List.getElem?_set_self,Int.natCast_nonneg,if_true,h',qc])
theorem XJ(l:List (Ty.T (.int .i64)))(hl:l.length≤1099511627776)(q:Int)(h0:0≤q)(h1:q≤1152921504606846976):(cg qc l q).2=q+(l.length:Int)*(1:Nat):=
 tg (by decide) (fun v q h0 h1=>YD v q h0 h1) l q h0 (by omega)
theorem Ww(x)(h0:0≤x.2.1)(h1:x.2.1≤1048576)(h:x.1.length≤maxLen):mc x=some ((if x.2.1-(x.1.length:Int)<0 then(-1:Int)else x.2.1-(x.1.length:Int)),()):=
 Vc (g:=mc) (fun _ _=>by kernel_rfl) x.1 x.2.1 h0 h1 h
theorem XH(x):DD x=some (x.1,()):=rfl
theorem NK(x)(hl:x.1.length≤1099511627776):g9 x=some (x.1,()):=
 Et (g:=g9) (B:=ik) (z:=(((0:Int),((0:Int),((0:Int),((0:Int),())))):Ty.T al)) (fun _=>by kernel_rfl) x.1 hl (fun s=>by simp only[ik,aJ]) (fun s i h h'=>by
  simp only[ik,aK h,aJ,av h hl,am h,aa,am h',XH,Int.toNat_natCast,List.getElem?_eq_getElem h'])
theorem XI(x)(h:x.2.1=x.1):wm x=some (true,()):=by
 unfold wm
 rw[h]
 simp
theorem NL(x)(h:x.2.1=x.1)(hl:x.1.length≤1099511627776):kp x=some (true,()):=by
 obtain⟨l,m,u⟩:=x
 obtain rfl:m=l:=h
 have hl:m.length≤1099511627776:=hl
 exact yY (g:=kp) (B:=ip) (fun _=>by kernel_rfl) m (by simp only[ip,aJ]) (fun i h=>by
  simp only[ip,aK h,aJ,av h hl,am h,aa]
  rw[XI _ rfl]
  simp)
theorem XK(x)(h:x.2.1=x.1):wv x=some (true,()):=by
 unfold wv
 rw[h]
 simp
def i8(_:Ty.T al)(q:Int):Ty.T al×Int:=((q,((IntKind.i64.wrap (q+(1:Int))),((IntKind.i64.wrap ((IntKind.i64.wrap (q+(1:Int)))+(1:Int))),((IntKind.i64.wrap ((IntKind.i64.wrap ((IntKind.i64.wrap (q+(1:Int)))+(1:Int)))+(1:Int))),())))),(IntKind.i64.wrap ((IntKind.i64.wrap ((IntKind.i64.wrap ((IntKind.i64.wrap (q+(1:Int)))+(1:Int)))+(1:Int)))+(1:Int))))
theorem YF(v:Ty.T al)(q:Int)(h0:0≤q)(h1:q≤2305843009213693952):(i8 v q).2=q+(4:Nat):=by
 simp only[i8]
 repeat' first|omega|rw[fx]
theorem GM(x)(hl:x.1.length≤1099511627776):iC x=some ((cg i8 x.1 x.2.1).2,(cg i8 x.1 x.2.1).1,()):=
 MP (g:=iC) (B:=gi) (fun _ _=>by kernel_rfl) x.1 x.2.1 (fun s q hs=>by simp only[gi,←hs,aJ]) (fun s q i h h' hs _=>by
  have hl':s.length≤1099511627776:=hs▸hl
  have hs':(s.length:Int)=x.1.length:=by rw[hs]
  simp only[gi,hs',aK h,av h hl,am h',aa,Int.toNat_natCast,List.getElem?_eq_getElem h',List.length_set,au,List.getElem?_set,List.set_set,List.getElem?_set_self,Int.natCast_nonneg,if_true,h',i8])
theorem Rb(l:List (Ty.T al))(hl:l.length≤1099511627776)(q:Int)(h0:0≤q)(h1:q≤1152921504606846976):(cg i8 l q).2=q+(l.length:Int)*(4:Nat):=
 tg (by decide) (fun v q h0 h1=>YF v q h0 h1) l q h0 (by omega)
theorem MQ(l:List (Ty.T ak))(hl:l.length≤1099511627776)(p:(Ty.pair ak .unit).T→Option (Ty.pair .bool .unit).T)(q:Ty.T ak→Bool)(hq:∀i (h:i<l.length),p (l[i],())=some (q l[i],())):
  dv (l,p,())=some ((match bB q 0 l with|none=>(-1:Int)|some i=>(i:Int)),()):=by
 have e:=lY (B:=bI) l (fun i=>(l,p,(l.length:Int),(i:Int),())) q (.inl ()) (fun i=>.inr ((i:Int),())) (by simp only[bI,aJ]) (fun i h=>by
  simp only[bI,aK h,av h hl,am h,aa,hq i h]
  cases q l[i]<;>simp)
 have e0:dv (l,p,())=match ac bI (l,p,(l.length:Int),((0:Nat):Int),())with
  |none=>none
  |some (.inl _)=>some ((-1:Int),())
  |some (.inr v4)=>some (v4.1,()):=rfl
 rw[e0,e]
 cases bB q 0 l<;>rfl
theorem FY(l:List (Ty.T ak))(hl:l.length≤1099511627776)(p:(Ty.pair ak .unit).T→Option (Ty.pair .bool .unit).T)(q:Ty.T ak→Bool)(hq:∀i (h:i<l.length),p (l[i],())=some (q l[i],())):
  cq (l,p,())=some (l.any q,()):=by
 have e0:cq (l,p,())=match dv (l,p,())with
  |none=>none
  |some v1=>some ((decide (v1.1≥(0:Int))),()):=rfl
 rw[e0,MQ l hl p q hq,←gm q 0 l]
 cases bB q 0 l<;>simp
theorem yZ(l:List (Ty.T ag))(hl:l.length≤1099511627776)(p:(Ty.pair ag .unit).T→Option (Ty.pair .bool .unit).T)(q:Ty.T ag→Bool)(hq:∀i (h:i<l.length),p (l[i],())=some (q l[i],())):
  cG (l,p,())=some ((match bB q 0 l with|none=>(-1:Int)|some i=>(i:Int)),()):=by
 have e:=lY (B:=bJ) l (fun i=>(l,p,(l.length:Int),(i:Int),())) q (.inl ()) (fun i=>.inr ((i:Int),())) (by simp only[bJ,aJ]) (fun i h=>by
  simp only[bJ,aK h,av h hl,am h,aa,hq i h]
  cases q l[i]<;>simp)
 have e0:cG (l,p,())=match ac bJ (l,p,(l.length:Int),((0:Nat):Int),())with
  |none=>none
  |some (.inl _)=>some ((-1:Int),())
  |some (.inr v4)=>some (v4.1,()):=rfl
 rw[e0,e]
 cases bB q 0 l<;>rfl
theorem sG(l:List (Ty.T ag))(hl:l.length≤1099511627776)(p:(Ty.pair ag .unit).T→Option (Ty.pair .bool .unit).T)(q:Ty.T ag→Bool)(hq:∀i (h:i<l.length),p (l[i],())=some (q l[i],())):
  bP (l,p,())=some (l.any q,()):=by
 have e0:bP (l,p,())=match cG (l,p,())with
  |none=>none
  |some v1=>some ((decide (v1.1≥(0:Int))),()):=rfl
 rw[e0,yZ l hl p q hq,←gm q 0 l]
 cases bB q 0 l<;>simp
theorem Ve(l:List (Ty.T ar))(hl:l.length≤1099511627776)(p:(Ty.pair ar .unit).T→Option (Ty.pair .bool .unit).T)(q:Ty.T ar→Bool)(hq:∀i (h:i<l.length),p (l[i],())=some (q l[i],())):
  e7 (l,p,())=some ((match bB q 0 l with|none=>(-1:Int)|some i=>(i:Int)),()):=by
 have e:=lY (B:=cm) l (fun i=>(l,p,(l.length:Int),(i:Int),())) q (.inl ()) (fun i=>.inr ((i:Int),())) (by simp only[cm,aJ]) (fun i h=>by
  simp only[cm,aK h,av h hl,am h,aa,hq i h]
  cases q l[i]<;>simp)
 have e0:e7 (l,p,())=match ac cm (l,p,(l.length:Int),((0:Nat):Int),())with
  |none=>none
  |some (.inl _)=>some ((-1:Int),())
  |some (.inr v4)=>some (v4.1,()):=rfl
 rw[e0,e]
 cases bB q 0 l<;>rfl
theorem O8(l:List (Ty.T ar))(hl:l.length≤1099511627776)(p:(Ty.pair ar .unit).T→Option (Ty.pair .bool .unit).T)(q:Ty.T ar→Bool)(hq:∀i (h:i<l.length),p (l[i],())=some (q l[i],())):
  fu (l,p,())=some (l.any q,()):=by
 have e0:fu (l,p,())=match e7 (l,p,())with
  |none=>none
  |some v1=>some ((decide (v1.1≥(0:Int))),()):=rfl
 rw[e0,Ve l hl p q hq,←gm q 0 l]
 cases bB q 0 l<;>simp
theorem Tc(l:List (Ty.T al))(hl:l.length≤1099511627776)(p:(Ty.pair al .unit).T→Option (Ty.pair .bool .unit).T)(q:Ty.T al→Bool)(hq:∀i (h:i<l.length),p (l[i],())=some (q l[i],())):
  eE (l,p,())=some ((match bB q 0 l with|none=>(-1:Int)|some i=>(i:Int)),()):=by
 have e:=lY (B:=ce) l (fun i=>(l,p,(l.length:Int),(i:Int),())) q (.inl ()) (fun i=>.inr ((i:Int),())) (by simp only[ce,aJ]) (fun i h=>by
  simp only[ce,aK h,av h hl,am h,aa,hq i h]
  cases q l[i]<;>simp)
 have e0:eE (l,p,())=match ac ce (l,p,(l.length:Int),((0:Nat):Int),())with
  |none=>none
  |some (.inl _)=>some ((-1:Int),())
  |some (.inr v4)=>some (v4.1,()):=rfl
 rw[e0,e]
 cases bB q 0 l<;>rfl
theorem MS(l:List (Ty.T al))(hl:l.length≤1099511627776)(p:(Ty.pair al .unit).T→Option (Ty.pair .bool .unit).T)(q:Ty.T al→Bool)(hq:∀i (h:i<l.length),p (l[i],())=some (q l[i],())):
  dw (l,p,())=some (l.any q,()):=by
 have e0:dw (l,p,())=match eE (l,p,())with
  |none=>none
  |some v1=>some ((decide (v1.1≥(0:Int))),()):=rfl
 rw[e0,Tc l hl p q hq,←gm q 0 l]
 cases bB q 0 l<;>simp
theorem acb(l:List (Ty.T (.int .i64)))(hl:l.length≤1099511627776)(x)(h0:x.1=(cg qc l x.2.1).1):abi x=some ((cg qc l x.2.1).2,()):=
 YC (g:=abi) (B:=abf) (fun _ _=>by kernel_rfl) l x.1 x.2.1 h0 (fun q=>by simp only[abf,aJ]) (fun q v i h hi _=>by
  have hl':x.1.length≤1099511627776:=by rw[h0,lZ];exact hl
  simp only[abf,aK h,av h hl',am h,aa]
  rw[hi]
  simp[qc])
end Go.Proofs.YthfgmmmeplanbaaGreatDoor
