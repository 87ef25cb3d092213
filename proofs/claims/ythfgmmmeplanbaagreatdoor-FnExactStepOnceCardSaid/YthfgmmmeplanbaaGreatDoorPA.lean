import Derived.Test.YthfgmmmeplanbaaGreatDoorPB
import Derived.Test.YthfgmmmeplanbaaGreatDoorGA
import Derived.Test.YthfgmmmeplanbaaGreatDoorGB
import Derived.Test.YthfgmmmeplanbaaGreatDoorGC
namespace Go.Proofs.YthfgmmmeplanbaaGreatDoor
open Go.RowKit
set_option linter.unusedVariables false
set_option linter.unusedSimpArgs false
theorem TW(x)(h0:0≤x.2.1)(h1:x.2.1≤1048576)(h:x.1.length≤maxLen):rE x=some ((if x.2.1-(x.1.length:Int)<0 then(-1:Int)else x.2.1-(x.1.length:Int)),()):=
 SK (g:=rE) (fun _ _=>by kernel_rfl) x.1 x.2.1 h0 h1 h
theorem CN(x)(h0:0≤x.2.1)(h1:x.2.1≤1048576)(h:x.1.length≤maxLen):mA x=some ((if x.2.1-(x.1.length:Int)<0 then(-1:Int)else x.2.1-(x.1.length:Int)),()):=
 SK (g:=mA) (fun _ _=>by kernel_rfl) x.1 x.2.1 h0 h1 h
theorem QF(x):sB x=some (x.1,()):=rfl
theorem OW(x)(hl:x.1.length≤1099511627776):jU x=some (x.1,()):=
 CL (g:=jU) (B:=fp) (z:=(((0:Int),([],((0:Int),(false,())))):Ty.T aj)) (fun _=>by kernel_rfl) x.1 hl (fun s=>by simp only[fp,aK]) (fun s i h h'=>by
  simp only[fp,aM h,aK,av h hl,am h,aa,am h',QF,Int.toNat_natCast,List.getElem?_eq_getElem h'])
theorem TX(x)(hl:x.1.length≤1099511627776):nQ x=some (x.1,()):=
 CL (g:=nQ) (B:=gS) (z:=((0:Int):Ty.T (.int .i64))) (fun _=>by kernel_rfl) x.1 hl (fun s=>by simp only[gS,aK]) (fun s i h h'=>by
  simp only[gS,aM h,aK,av h hl,am h,aa,am h',Int.toNat_natCast,List.getElem?_eq_getElem h'])
theorem WV(x):o8 x=some (x.1,()):=rfl
theorem QG(x):sG x=some (x.1,()):=rfl
theorem OX(x)(hl:x.1.length≤1099511627776):jW x=some (x.1,()):=
 CL (g:=jW) (B:=fu) (z:=(((0:Int),((0:Int),((0:Int),(((0:Int),((0:Int),((0:Int),((0:Int),(false,()))))),())))):Ty.T ae)) (fun _=>by kernel_rfl) x.1 hl (fun s=>by simp only[fu,aK]) (fun s i h h'=>by
  simp only[fu,aM h,aK,av h hl,am h,aa,am h',QG,Int.toNat_natCast,List.getElem?_eq_getElem h'])
theorem Ym(x):cq x=some (x.1,()):=rfl
theorem Gr(x)(h:x.2.1=x.1):gQ x=some (true,()):=by
 unfold gQ
 rw[h]
 simp
theorem LD(x)(h:x.2.1=x.1)(hl:x.1.length≤1099511627776):jJ x=some (true,()):=by
 obtain⟨l,m,u⟩:=x
 obtain rfl:m=l:=h
 have hl:m.length≤1099511627776:=hl
 exact CM (g:=jJ) (B:=gT) (fun _=>by kernel_rfl) m (by simp only[gT,aK]) (fun i h=>by
  simp only[gT,aM h,aK,av h hl,am h,aa]
  simp)
theorem QH(x)(h:x.2.1=x.1):nS x=some (true,()):=by
 unfold nS
 rw[h]
 simp
theorem OY(x)(h:x.2.1=x.1)(hl:x.1.length≤1099511627776):jX x=some (true,()):=by
 obtain⟨l,m,u⟩:=x
 obtain rfl:m=l:=h
 have hl:m.length≤1099511627776:=hl
 exact CM (g:=jX) (B:=fv) (fun _=>by kernel_rfl) m (by simp only[fv,aK]) (fun i h=>by
  simp only[fv,aM h,aK,av h hl,am h,aa]
  rw[QH _ rfl]
  simp)
theorem MU(x)(h:x.2.1=x.1):lz x=some (true,()):=by
 unfold lz
 rw[h]
 simp
theorem QI(x)(h:x.2.1=x.1):nU x=some (true,()):=by
 unfold nU
 rw[h]
 simp[MU]
theorem OZ(x)(h:x.2.1=x.1)(hl:x.1.length≤1099511627776):jZ x=some (true,()):=by
 obtain⟨l,m,u⟩:=x
 obtain rfl:m=l:=h
 have hl:m.length≤1099511627776:=hl
 exact CM (g:=jZ) (B:=fx) (fun _=>by kernel_rfl) m (by simp only[fx,aK]) (fun i h=>by
  simp only[fx,aM h,aK,av h hl,am h,aa]
  rw[QI _ rfl]
  simp)
def df(_:Ty.T (.int .i64))(q:Int):Ty.T (.int .i64)×Int:=(q,(IntKind.i64.wrap (q+(1:Int))))
theorem VZ(v:Ty.T (.int .i64))(q:Int)(h0:0≤q)(h1:q≤2305843009213693952):(df v q).2=q+(1:Nat):=by
 simp only[df]
 repeat' first|omega|rw[gH]
theorem EJ(x)(hl:x.1.length≤1099511627776):g7 x=some ((bM df x.1 x.2.1).2,(bM df x.1 x.2.1).1,()):=
 Rt (g:=g7) (B:=fK) (fun _ _=>by kernel_rfl) x.1 x.2.1 (fun s q hs=>by simp only[fK,←hs,aK]) (fun s q i h h' hs _=>by
  have hl':s.length≤1099511627776:=hs▸hl
  have hs':(s.length:Int)=x.1.length:=by rw[hs]
  simp only[fK,hs',aM h,av h hl,am h',aa,Int.toNat_natCast,List.getElem?_eq_getElem h',List.length_set,aw,List.getElem?_set,List.set_set,List.getElem?_set_self,Int.natCast_nonneg,if_true,h',df])
theorem yC(l:List (Ty.T (.int .i64)))(hl:l.length≤1099511627776)(q:Int)(h0:0≤q)(h1:q≤1152921504606846976):(bM df l q).2=q+(l.length:Int)*(1:Nat):=
 yB (by decide) (fun v q h0 h1=>VZ v q h0 h1) l q h0 (by omega)
theorem QJ(l:List (Ty.T (.int .i64)))(hl:l.length≤1099511627776)(x)(h0:x.1=(bM df l x.2.1).1):kO x=some ((bM df l x.2.1).2,()):=
 VY (g:=kO) (B:=fL) (fun _ _=>by kernel_rfl) l x.1 x.2.1 h0 (fun q=>by simp only[fL,aK]) (fun q v i h hi _=>by
  have hl':x.1.length≤1099511627776:=by rw[h0,tT];exact hl
  simp only[fL,aM h,av h hl',am h,aa]
  rw[hi]
  simp[df])
theorem TY(x)(h0:0≤x.2.1)(h1:x.2.1≤1048576)(h:x.1.length≤maxLen):lA x=some ((if x.2.1-(x.1.length:Int)<0 then(-1:Int)else x.2.1-(x.1.length:Int)),()):=
 SK (g:=lA) (fun _ _=>by kernel_rfl) x.1 x.2.1 h0 h1 h
theorem U1(x):Cc x=some (x.1,()):=rfl
theorem LE(x)(hl:x.1.length≤1099511627776):gL x=some (x.1,()):=
 CL (g:=gL) (B:=gV) (z:=(((0:Int),((0:Int),((0:Int),((0:Int),())))):Ty.T al)) (fun _=>by kernel_rfl) x.1 hl (fun s=>by simp only[gV,aK]) (fun s i h h'=>by
  simp only[gV,aM h,aK,av h hl,am h,aa,am h',U1,Int.toNat_natCast,List.getElem?_eq_getElem h'])
theorem KO(l:List (Ty.T aj))(hl:l.length≤1099511627776)(p:(Ty.pair aj .unit).T→Option (Ty.pair .bool .unit).T)(q:Ty.T aj→Bool)(hq:∀i (h:i<l.length),p (l[i],())=some (q l[i],())):
  dr (l,p,())=some ((match bJ q 0 l with|none=>(-1:Int)|some i=>(i:Int)),()):=by
 have e:=m6 (B:=bG) l (fun i=>(l,p,(l.length:Int),(i:Int),())) q (.inl ()) (fun i=>.inr ((i:Int),())) (by simp only[bG,aK]) (fun i h=>by
  simp only[bG,aM h,av h hl,am h,aa,hq i h]
  cases q l[i]<;>simp)
 have e0:dr (l,p,())=match ac bG (l,p,(l.length:Int),((0:Nat):Int),())with
  |none=>none
  |some (.inl _)=>some ((-1:Int),())
  |some (.inr v4)=>some (v4.1,()):=rfl
 rw[e0,e]
 cases bJ q 0 l<;>rfl
theorem D3(l:List (Ty.T aj))(hl:l.length≤1099511627776)(p:(Ty.pair aj .unit).T→Option (Ty.pair .bool .unit).T)(q:Ty.T aj→Bool)(hq:∀i (h:i<l.length),p (l[i],())=some (q l[i],())):
  cn (l,p,())=some (l.any q,()):=by
 have e0:cn (l,p,())=match dr (l,p,())with
  |none=>none
  |some v1=>some ((decide (v1.1≥(0:Int))),()):=rfl
 rw[e0,KO l hl p q hq,←gM q 0 l]
 cases bJ q 0 l<;>simp
theorem xA(l:List (Ty.T ae))(hl:l.length≤1099511627776)(p:(Ty.pair ae .unit).T→Option (Ty.pair .bool .unit).T)(q:Ty.T ae→Bool)(hq:∀i (h:i<l.length),p (l[i],())=some (q l[i],())):
  cD (l,p,())=some ((match bJ q 0 l with|none=>(-1:Int)|some i=>(i:Int)),()):=by
 have e:=m6 (B:=bH) l (fun i=>(l,p,(l.length:Int),(i:Int),())) q (.inl ()) (fun i=>.inr ((i:Int),())) (by simp only[bH,aK]) (fun i h=>by
  simp only[bH,aM h,av h hl,am h,aa,hq i h]
  cases q l[i]<;>simp)
 have e0:cD (l,p,())=match ac bH (l,p,(l.length:Int),((0:Nat):Int),())with
  |none=>none
  |some (.inl _)=>some ((-1:Int),())
  |some (.inr v4)=>some (v4.1,()):=rfl
 rw[e0,e]
 cases bJ q 0 l<;>rfl
theorem rr(l:List (Ty.T ae))(hl:l.length≤1099511627776)(p:(Ty.pair ae .unit).T→Option (Ty.pair .bool .unit).T)(q:Ty.T ae→Bool)(hq:∀i (h:i<l.length),p (l[i],())=some (q l[i],())):
  bL (l,p,())=some (l.any q,()):=by
 have e0:bL (l,p,())=match cD (l,p,())with
  |none=>none
  |some v1=>some ((decide (v1.1≥(0:Int))),()):=rfl
 rw[e0,xA l hl p q hq,←gM q 0 l]
 cases bJ q 0 l<;>simp
theorem SL(l:List (Ty.T aH))(hl:l.length≤1099511627776)(p:(Ty.pair aH .unit).T→Option (Ty.pair .bool .unit).T)(q:Ty.T aH→Bool)(hq:∀i (h:i<l.length),p (l[i],())=some (q l[i],())):
  eO (l,p,())=some ((match bJ q 0 l with|none=>(-1:Int)|some i=>(i:Int)),()):=by
 have e:=m6 (B:=cj) l (fun i=>(l,p,(l.length:Int),(i:Int),())) q (.inl ()) (fun i=>.inr ((i:Int),())) (by simp only[cj,aK]) (fun i h=>by
  simp only[cj,aM h,av h hl,am h,aa,hq i h]
  cases q l[i]<;>simp)
 have e0:eO (l,p,())=match ac cj (l,p,(l.length:Int),((0:Nat):Int),())with
  |none=>none
  |some (.inl _)=>some ((-1:Int),())
  |some (.inr v4)=>some (v4.1,()):=rfl
 rw[e0,e]
 cases bJ q 0 l<;>rfl
theorem MV(l:List (Ty.T aH))(hl:l.length≤1099511627776)(p:(Ty.pair aH .unit).T→Option (Ty.pair .bool .unit).T)(q:Ty.T aH→Bool)(hq:∀i (h:i<l.length),p (l[i],())=some (q l[i],())):
  fe (l,p,())=some (l.any q,()):=by
 have e0:fe (l,p,())=match eO (l,p,())with
  |none=>none
  |some v1=>some ((decide (v1.1≥(0:Int))),()):=rfl
 rw[e0,SL l hl p q hq,←gM q 0 l]
 cases bJ q 0 l<;>simp
theorem QK(l:List (Ty.T al))(hl:l.length≤1099511627776)(p:(Ty.pair al .unit).T→Option (Ty.pair .bool .unit).T)(q:Ty.T al→Bool)(hq:∀i (h:i<l.length),p (l[i],())=some (q l[i],())):
  et (l,p,())=some ((match bJ q 0 l with|none=>(-1:Int)|some i=>(i:Int)),()):=by
 have e:=m6 (B:=cd) l (fun i=>(l,p,(l.length:Int),(i:Int),())) q (.inl ()) (fun i=>.inr ((i:Int),())) (by simp only[cd,aK]) (fun i h=>by
  simp only[cd,aM h,av h hl,am h,aa,hq i h]
  cases q l[i]<;>simp)
 have e0:et (l,p,())=match ac cd (l,p,(l.length:Int),((0:Nat):Int),())with
  |none=>none
  |some (.inl _)=>some ((-1:Int),())
  |some (.inr v4)=>some (v4.1,()):=rfl
 rw[e0,e]
 cases bJ q 0 l<;>rfl
theorem KP(l:List (Ty.T al))(hl:l.length≤1099511627776)(p:(Ty.pair al .unit).T→Option (Ty.pair .bool .unit).T)(q:Ty.T al→Bool)(hq:∀i (h:i<l.length),p (l[i],())=some (q l[i],())):
  dt (l,p,())=some (l.any q,()):=by
 have e0:dt (l,p,())=match et (l,p,())with
  |none=>none
  |some v1=>some ((decide (v1.1≥(0:Int))),()):=rfl
 rw[e0,QK l hl p q hq,←gM q 0 l]
 cases bJ q 0 l<;>simp
theorem U2(x)(h:x.2.1=x.1):vi x=some (true,()):=by
 unfold vi
 rw[h]
 simp
theorem LF(x)(h:x.2.1=x.1)(hl:x.1.length≤1099511627776):jP x=some (true,()):=by
 obtain⟨l,m,u⟩:=x
 obtain rfl:m=l:=h
 have hl:m.length≤1099511627776:=hl
 exact CM (g:=jP) (B:=gZ) (fun _=>by kernel_rfl) m (by simp only[gZ,aK]) (fun i h=>by
  simp only[gZ,aM h,aK,av h hl,am h,aa]
  rw[U2 _ rfl]
  simp)
def ks(_:Ty.T al)(q:Int):Ty.T al×Int:=((q,((IntKind.i64.wrap (q+(1:Int))),((IntKind.i64.wrap ((IntKind.i64.wrap (q+(1:Int)))+(1:Int))),((IntKind.i64.wrap ((IntKind.i64.wrap ((IntKind.i64.wrap (q+(1:Int)))+(1:Int)))+(1:Int))),())))),(IntKind.i64.wrap ((IntKind.i64.wrap ((IntKind.i64.wrap ((IntKind.i64.wrap (q+(1:Int)))+(1:Int)))+(1:Int)))+(1:Int))))
theorem V0(v:Ty.T al)(q:Int)(h0:0≤q)(h1:q≤2305843009213693952):(ks v q).2=q+(4:Nat):=by
 simp only[ks]
 repeat' first|omega|rw[gH]
theorem EK(x)(hl:x.1.length≤1099511627776):ie x=some ((bM ks x.1 x.2.1).2,(bM ks x.1 x.2.1).1,()):=
 Rt (g:=ie) (B:=fY) (fun _ _=>by kernel_rfl) x.1 x.2.1 (fun s q hs=>by simp only[fY,←hs,aK]) (fun s q i h h' hs _=>by
  have hl':s.length≤1099511627776:=hs▸hl
  have hs':(s.length:Int)=x.1.length:=by rw[hs]
  simp only[fY,hs',aM h,av h hl,am h',aa,Int.toNat_natCast,List.getElem?_eq_getElem h',List.length_set,aw,List.getElem?_set,List.set_set,List.getElem?_set_self,Int.natCast_nonneg,if_true,h',ks])
theorem O0(l:List (Ty.T al))(hl:l.length≤1099511627776)(q:Int)(h0:0≤q)(h1:q≤1152921504606846976):(bM ks l q).2=q+(l.length:Int)*(4:Nat):=
 yB (by decide) (fun v q h0 h1=>V0 v q h0 h1) l q h0 (by omega)
end Go.Proofs.YthfgmmmeplanbaaGreatDoor
