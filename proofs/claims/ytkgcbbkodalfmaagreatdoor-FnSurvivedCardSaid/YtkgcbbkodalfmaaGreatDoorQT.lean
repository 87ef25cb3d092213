import Derived.Test.YtkgcbbkodalfmaaGreatDoorGT
import Derived.Test.YtkgcbbkodalfmaaGreatDoorQ6
namespace Go.Proofs.YtkgcbbkodalfmaaGreatDoor
open Go.RowKit
set_option linter.unusedVariables false
set_option linter.unusedSimpArgs false
theorem Lj(l:List (Ty.T aY))(hl:l.length≤1099511627776)(p:(Ty.pair aY .unit).T→Option (Ty.pair .bool .unit).T)(q:Ty.T aY→Bool)(hq:∀i (h:i<l.length),p (l[i],())=some (q l[i],())):
  dS (l,p,())=some ((match bv q 0 l with|none=>(-1:Int)|some i=>(i:Int)),()):=by
 have e:=kR (B:=cH) l (fun i=>(l,p,(l.length:Int),(i:Int),())) q (.inl ()) (fun i=>.inr ((i:Int),())) (by simp only[cH,be]) (fun i h=>by
  simp only[cH,a7 h,aG h hl,ar h,aa,hq i h]
  cases q l[i]<;>simp)
 have e0:dS (l,p,())=match ag cH (l,p,(l.length:Int),((0:Nat):Int),())with
  |none=>none
  |some (.inl _)=>some ((-1:Int),())
  |some (.inr v4)=>some (v4.1,()):=rfl
 rw[e0,e]
 cases bv q 0 l<;>rfl
theorem O3(l:List (Ty.T aY))(hl:l.length≤1099511627776)(p:(Ty.pair aY .unit).T→Option (Ty.pair .bool .unit).T)(q:Ty.T aY→Bool)(hq:∀i (h:i<l.length),p (l[i],())=some (q l[i],())):
  gb (l,p,())=some (l.any q,()):=by
 have e0:gb (l,p,())=match dS (l,p,())with
  |none=>none
  |some v1=>some ((decide (v1.1≥(0:Int))),()):=rfl
 rw[e0,Lj l hl p q hq,←fm q 0 l]
 cases bv q 0 l<;>simp
end Go.Proofs.YtkgcbbkodalfmaaGreatDoor
namespace Go.Proofs.YtkgcbbkodalfmaaGreatDoor
open Go.RowKit
set_option linter.unusedVariables false
set_option linter.unusedSimpArgs false
def qo(m:ac.T)(s:ab.T)(v:aB.T):aY.T:=(s,(bL m s).1,v.1,())
noncomputable def bF(m:ac.T)(st:ab.T)(l:List au.T):List aY.T:=List.zipWith (qo m) (aX m l st (-1)).2.1 (aX m l st (-1)).1
noncomputable def kx(m:ac.T)(st:ab.T)(l:List au.T):List aY.T×Int×Unit:=if ch m st l=0 then(bF m st l,(0:Int),())else([],ch m st l,())
theorem RT {A B D:Type}(f:A→B→D)(la:List A)(lb:List B)(i:Nat)(h1:i<la.length)(h2:i<lb.length):(List.zipWith f la lb).take (i+1)=(List.zipWith f la lb).take i++ [f la[i] lb[i]]:=by
 have h:i<(List.zipWith f la lb).length:=by rw[List.length_zipWith];omega
 rw[List.take_add_one,List.getElem?_eq_getElem h]
 simp
theorem RU(m:ac.T)(ss:List ab.T)(vs:List aB.T)(h:a8 m=true)(hb:∀s ∈ ss,aC m s=true)(hl:vs.length≤40)(he:ss.length=vs.length):∀(k i:Nat),i+k=vs.length→
  ag fz (m,(List.zipWith (qo m) ss vs).take i,ss,vs,(vs.length:Int),(i:Int),())=some (.inl (List.zipWith (qo m) ss vs,()))
 |0,i,hi=>by
  have hi:i=vs.length:=by omega
  subst hi
  rw[am]
  simp only[fz,be]
  rw[List.take_of_length_le (by rw[List.length_zipWith];omega)]
 |k+1,i,hi=>by
  have hlt:i<vs.length:=by omega
  have hls:i<ss.length:=by omega
  have ih:=RU m ss vs h hb hl he k (i+1) (by omega)
  obtain⟨_,hd,_⟩:=dF m ss[i] h (hb _ (List.getElem_mem hls))
  have hlen:((List.zipWith (qo m) ss vs).take i).length≤40:=by rw[List.length_take,List.length_zipWith];omega
  have r1:∀ {R:Type} (u:aY.T) (y:Option R),aA (((List.zipWith (qo m) ss vs).take i).length+ [u].length) y=y:=fun u y=>aD (by simp only[List.length_cons,List.length_nil];omega)
  rw[am]
  simp only[fz,a7 hlt,ar hlt,ar hls,aa,Int.toNat_natCast,List.getElem?_eq_getElem hlt,List.getElem?_eq_getElem hls,hd,r1,bM,aG hlt (show vs.length≤1099511627776 by omega)]
  rw[RT (qo m) ss vs i hls hlt]at ih
  exact ih
theorem RV(m:ac.T)(st:ab.T)(l:List au.T)(hz:bU m)(hl:l.length≤1048576)(hs:∀x ∈ l,gY x):mC (m,st,l,())=some (kx m st l):=by
 have hc:=RD m st l hz hl hs
 have hc:lv ((m.1,m.2.1,m.2.2.1,m.2.2.2.1,()),(st.1,st.2.1,st.2.2.1,st.2.2.2.1,st.2.2.2.2.1,()),l,())=_:=hc
 unfold mC kx
 simp only[hc]
 by_cases h:ch m st l=0
 ·obtain⟨h1,h2,h3,h4⟩:=m8 h
  have hr:=WL m st l hz h1 h2 h4 h3
  have hr:mY ((m.1,m.2.1,m.2.2.1,m.2.2.2.1,()),(st.1,st.2.1,st.2.2.1,st.2.2.2.1,st.2.2.2.2.1,()),l,())=_:=hr
  obtain⟨n1,n2⟩:=m9 m l st (-1)
  have k0:(ch m st l != 0)=false:=by rw[h];rfl
  have e:=RU m (aX m l st (-1)).2.1 (aX m l st (-1)).1 h1 (zu h1 l st (-1) h2 (.inl rfl)).1 (by omega) (by omega) (aX m l st (-1)).1.length 0 (by omega)
  have e:ag fz ((m.1,m.2.1,m.2.2.1,m.2.2.2.1,()),[],(aX m l st (-1)).2.1,(aX m l st (-1)).1,((aX m l st (-1)).1.length:Int),(0:Int),())=_:=e
  rw[if_pos h]
  simp only[k0,hr,e]
  rfl
 ·have k0:(ch m st l != 0)=true:=by simpa using h
  rw[if_neg h]
  simp only[k0]
end Go.Proofs.YtkgcbbkodalfmaaGreatDoor
namespace Go.Proofs.YtkgcbbkodalfmaaGreatDoor
open Go.RowKit
set_option linter.unusedVariables false
set_option linter.unusedSimpArgs false
def oc(x:aY.T):Bool:=br x.1&&aS x.2.1 0 31&&aS x.2.2.1 0 4
theorem W5(x:aY.T):qT (x,())=some (oc x,()):=by
 have h1:dl ((x.1.1,x.1.2.1,x.1.2.2.1,x.1.2.2.2.1,x.1.2.2.2.2.1,()),())=some (br x.1,()):=uq (x.1,())
 have h2:kN (x.2.1,())=some (aS x.2.1 0 31,()):=Ri (x.2.1,())
 unfold qT oc
 simp only[h1,h2,kS]
 cases br x.1<;>cases aS x.2.1 0 31<;>cases aS x.2.2.1 0 4<;>rfl
theorem RY(l:List aY.T)(hl:l.length≤60)(hm:∀x ∈ l,oc x=true):si (l,())=some (true,()):=by
 have h:=O3 l (by omega) rj (fun m=> !oc m) (fun i h=>by
  have:rj (l[i],())=match qT (l[i],())with|none=>none|some v1=>some ((!v1.1),()):=rfl
  rw[this,W5])
 have ha:l.any (fun m=> !oc m)=false:=by
  rw[List.any_eq_false]
  intro x hx
  rw[hm x hx]
  decide
 have hd:decide ((l.length:Int)≤60)=true:=decide_eq_true (by omega)
 unfold si
 simp only[hd,h,ha]
 rfl
theorem R1 {m:ac.T}(h:a8 m=true):∀(l:List au.T) (st:ab.T) (p:Int),aC m st=true→NR m p→(∀x ∈ l,eF x=true)→∀v ∈ (aX m l st p).1,d8 v=true
 | [],_,_,_,_,_,v,hv=>by cases hv
 |x::r,st,p,hb,hp,hall,v,hv=>by
  obtain⟨a1,a2⟩:=AM (x:=x) (p:=p) h hb hp
  simp only[aX]at hv
  rcases List.mem_cons.1 hv with rfl|hv
  ·exact AL x h hb (hall x (by simp))
  ·exact R1 h r _ _ a1 a2 (fun y hy=>hall y (by simp[hy])) v hv
theorem Vi {v:aB.T}(h:d8 v=true):0≤(v.1:Int)∧(v.1:Int)≤4:=by
 rcases jx h with⟨f,rfl,hf⟩|⟨s,rfl,h0,h4,h3⟩
 ·exact⟨(show(0:Int)≤3 by decide),(show(3:Int)≤4 by decide)⟩
 ·exact⟨h0,h4⟩
theorem X7 {m:ac.T}{st:ab.T}{v:aB.T}(h:a8 m=true)(hb:aC m st=true)(hv:d8 v=true):oc (qo m st v)=true:=by
 obtain⟨_,_,q3⟩:=dF m st h hb
 obtain⟨n,hn,hn2⟩:=xh q3
 have h1:aS (bL m st).1 0 31=true:=by
  rw[hn]
  exact aR.2 ⟨by omega,by omega⟩
 have h2:aS v.1 0 4=true:=aR.2 (Vi hv)
 unfold oc qo
 simp only[mB hb,h1,h2,Bool.and_self]
theorem sk {m:ac.T}{st:ab.T}{l:List au.T}(i:Nat)(h:i<(bF m st l).length):∃(h1:i<(aX m l st (-1)).2.1.length) (h2:i<(aX m l st (-1)).1.length),(bF m st l)[i]=qo m (aX m l st (-1)).2.1[i] (aX m l st (-1)).1[i]:=by
 have hq:=h
 unfold bF at hq
 rw[List.length_zipWith]at hq
 exact⟨by omega,by omega,List.getElem_zipWith⟩
theorem IP {m:ac.T}{st:ab.T}{l:List au.T}(h1:a8 m=true)(h2:aC m st=true)(h4:∀x ∈ l,eF x=true):∀x ∈ bF m st l,oc x=true:=by
 intro x hx
 obtain⟨i,hi,rfl⟩:=List.getElem_of_mem hx
 obtain⟨g1,g2,e⟩:=sk i hi
 rw[e]
 exact X7 h1 ((zu h1 l st (-1) h2 (.inl rfl)).1 _ (List.getElem_mem g1)) (R1 h1 l st (-1) h2 (.inl rfl) h4 _ (List.getElem_mem g2))
theorem uj(m:ac.T)(st:ab.T)(l:List au.T):(bF m st l).length=l.length:=by
 obtain⟨n1,n2⟩:=m9 m l st (-1)
 unfold bF
 rw[List.length_zipWith]
 omega
end Go.Proofs.YtkgcbbkodalfmaaGreatDoor
namespace Go.Proofs.YtkgcbbkodalfmaaGreatDoor
open Go.RowKit
set_option linter.unusedVariables false
set_option linter.unusedSimpArgs false
end Go.Proofs.YtkgcbbkodalfmaaGreatDoor
