import Derived.Test.YtkgcbbkodalfmaaGreatDoorGT
import Derived.Test.YtkgcbbkodalfmaaGreatDoorQ6
namespace Go.Proofs.YtkgcbbkodalfmaaGreatDoor
open Go.RowKit
set_option linter.unusedVariables false
set_option linter.unusedSimpArgs false
theorem Lj(l:List (Ty.T aY))(hl:l.length≤1099511627776)(p:(Ty.pair aY .unit).T→Option (Ty.pair .bool .unit).T)(q:Ty.T aY→Bool)(hq:∀i (h:i<l.length),p (l[i],())=some (q l[i],())):
  dS (l,p,())=some ((match bv q 0 l with|none=>(-1:Int)|some i=>(i:Int)),()):=by
 have e:=kR (B:=cH) l (fun i=>(l,p,(l.length:Int),(i:Int),())) q (.inl ()) (fun i=>.inr ((i:Int),())) (by simp only[cH,be]) (fun i h=>by
  simp only[cH,a7 h,aG h hl,ar h,aa,hq i h]
  cases q l[i]<;>simp)
 have e0:dS (l,p,())=match ag cH (l,p,(l.length:Int),((0:Nat):Int),())with
  |none=>none
  |some (.inl _)=>some ((-1:Int),())
  |some (.inr v4)=>some (v4.1,()):=rfl
 rw[e0,e]
 cases bv q 0 l<;>rfl
theorem O3(l:List (Ty.T aY))(hl:l.length≤1099511627776)(p:(Ty.pair aY .unit).T→Option (Ty.pair .bool .unit).T)(q:Ty.T aY→Bool)(hq:∀i (h:i<l.length),p (l[i],())=some (q l[i],())):
  gb (l,p,())=some (l.any q,()):=by
 have e0:gb (l,p,())=match dS (l,p,())with
  |none=>none
  |some v1=>some ((decide (v1.1≥(0:Int))),()):=rfl
 rw[e0,Lj l hl p q hq,←fm q 0 l]
 cases bv q 0 l<;>simp
end Go.Proofs.YtkgcbbkodalfmaaGreatDoor
namespace Go.Proofs.YtkgcbbkodalfmaaGreatDoor
open Go.RowKit
set_option linter.unusedVariables false
set_option linter.unusedSimpArgs false
def qo(m:ac.T)(s:ab.T)(v:aB.T):aY.T:=(s,(bL m s).1,v.1,())
noncomputable def bF(m:ac.T)(st:ab.T)(l:List au.T):List aY.T:=List.zipWith (qo m) (aX m l st (-1)).2.1 (aX m l st (-1)).1
noncomputable def kx(m:ac.T)(st:ab.T)(l:List au.T):List aY.T×Int×Unit:=if ch m st l=0 then(bF m st l,(0:Int),())else([],ch m st l,())
theorem RT {A B D:Type}(f:A→B→D)(la:List A)(lb:List B)(i:Nat)(h1:i<la.length)(h2:i<lb.length):(List.zipWith f la lb).take (i+1)=(List.zipWith f la lb).take i++ [f la[i] lb[i]]:=by
 have h:i<(List.zipWith f la lb).length:=by rw[List.length_zipWith];omega
 rw[List.take_add_one,List.getElem?_eq_getElem h]
 simp
theorem RU(m:ac.T)(ss:List ab.T)(vs:List aB.T)(h:a8 m=true)(hb:∀s ∈ ss,aC m s=true)(hl:vs.length≤40)(he:ss.length=vs.length):∀(k i:Nat),i+k=vs.length→
  ag fz (m,(List.zipWith (qo m) ss vs).take i,ss,vs,(vs.length:Int),(i:Int),())=some (.inl (List.zipWith (qo m) ss vs,()))
 |0,i,hi=>by
  have hi:i=vs.length:=by omega
  subst hi
  rw[am]
  simp only[fz,be]
  rw[List.take_of_length_le (by rw[List.length_zipWith];omega)]
 |k+1,i,hi=>by
  have hlt:i<vs.length:=by omega
  have hls:i<ss.length:=by omega
  have ih:=RU m ss vs h hb hl he k (i+1) (by omega)
  obtain⟨_,hd,_⟩:=dF m ss[i] h (hb _ (List.getElem_mem hls))
  have hlen:((List.zipWith (qo m) ss vs).take i).length≤40:=by rw[List.length_take,List.length_zipWith];omega
  have r1:∀ {R:Type} (u:aY.T) (y:Option R),aA (((List.zipWith (qo m) ss vs).take i).length+ [u].length) y=y:=fun u y=>aD (by simp only[List.length_cons,List.length_nil];omega)
  rw[am]
  simp only[fz,a7 hlt,ar hlt,ar hls,aa,Int.toNat_natCast,List.getElem?_eq_getElem hlt,List.getElem?_eq_getElem hls,hd,r1,bM,aG hlt (show vs.length≤1099511627776 by omega)]
  rw[RT (qo m) ss vs i hls hlt]at ih
  exact ih
theorem RV(m:ac.T)(st:ab.T)(l:List au.T)(hz:bU m)(hl:l.length≤1048576)(hs:∀x ∈ l,gY x):mC (m,st,l,())=some (kx m st l):=by
 have hc:=RD m st l hz hl hs
 have hc:lv ((m.1,m.2.1,m.2.2.1,m.2.2.2.1,()),(st.1,st.2.1,st.2.2.1,st.2.2.2.1,st.2.2.2.2.1,()),l,())=_:=hc
 unfold mC kx
 simp only[hc]
 by_cases h:ch m st l=0
 ·obtain⟨h1,h2,h3,h4⟩:=m8 h
  have hr:=WL m st l hz h1 h2 h4 h3
  have hr:mY ((m.1,m.2.1,m.2.2.1,m.2.2.2.1,()),(st.1,st.2.1,st.2.2.1,st.2.2.2.1,st.2.2.2.2.1,()),l,())=_:=hr
  obtain⟨n1,n2⟩:=m9 m l st (-1)
  have k0:(ch m st l != 0)=false:=by rw[h];rfl
  have e:=RU m (aX m l st (-1)).2.1 (aX m l st (-1)).1 h1 (zu h1 l st (-1) h2 (.inl rfl)).1 (by omega) (by omega) (aX m l st (-1)).1.length 0 (by omega)
  have e:ag fz ((m.1,m.2.1,m.2.2.1,m.2.2.2.1,()),[],(aX m l st (-1)).2.1,(aX m l st (-1)).1,((aX m l st (-1)).1.length:Int),(0:Int),())=_:=e
  rw[if_pos h]
  simp only[k0,hr,e]
  rfl
 ·have k0:(ch m st l != 0)=true:=by simpa using h
  rw[if_neg h]
  simp only[k0]
theorem RX(m:ac.T)(st:ab.T)(l:List au.T)(hz:bU m)(h:a8 m=true)(hb:aC m st=true)(hall:∀x ∈ l,eF x=true)(hl:l.length≤40):∀(k i:Nat),i+k=(aX m l st (-1)).1.length→
  ag fA (l,m,st,(aX m l st (-1)).1,(bF m st l).take i,(i:Int),())=some (.inl (bF m st l,()))
 |0,i,hi=>by
  obtain⟨n1,n2⟩:=m9 m l st (-1)
  have hi:i=(aX m l st (-1)).1.length:=by omega
  rw[am]
  subst hi
  simp only[fA,be]
  rw[List.take_of_length_le (by unfold bF;rw[List.length_zipWith];omega)]
 |k+1,i,hi=>by
  obtain⟨n1,n2⟩:=m9 m l st (-1)
  have hlt:i<(aX m l st (-1)).1.length:=by omega
  have hls:i<(aX m l st (-1)).2.1.length:=by omega
  have hil:i<l.length:=by omega
  have ih:=RX m st l hz h hb hall hl k (i+1) (by omega)
  have hrun:=RH m st (l.take i) hz h hb (fun x hx=>hall x (List.mem_of_mem_take hx)) (by rw[List.length_take];omega)
  have hst:(aX m (l.take i) st (-1)).2.2=(aX m l st (-1)).2.1[i]:=by
   have:=RI m l st (-1) i hil
   rw[List.getElem?_eq_getElem hls]at this
   exact(Option.some.inj this).symm
  rw[hst]at hrun
  obtain⟨hd,_,_⟩:=dF m (aX m l st (-1)).2.1[i] h ((zu h l st (-1) hb (.inl rfl)).1 _ (List.getElem_mem hls))
  have hlen:((bF m st l).take i).length≤40:=by unfold bF;rw[List.length_take,List.length_zipWith];omega
  have r1:∀ {R:Type} (u:aY.T) (y:Option R),aA (((bF m st l).take i).length+ [u].length) y=y:=fun u y=>aD (by simp only[List.length_cons,List.length_nil];omega)
  have hbd:aL l.length none (some (.dat (.int .i64) (i:Int)))=some (0,i):=lw (by omega)
  have hzt:=RT (qo m) (aX m l st (-1)).2.1 (aX m l st (-1)).1 i hls hlt
  have hzt:(bF m st l).take (i+1)=(bF m st l).take i++ [qo m (aX m l st (-1)).2.1[i] (aX m l st (-1)).1[i]]:=hzt
  rw[hzt]at ih
  rw[am]
  simp only[fA,a7 hlt,hbd,aa,List.drop_zero]
  have hrun:mv (m,(st.1,st.2.1,st.2.2.1,st.2.2.2.1,st.2.2.2.2.1,()),l.take i,())=_:=hrun
  simp only[hrun,ar hlt,Int.toNat_natCast,List.getElem?_eq_getElem hlt]
  generalize (aX m l st (-1)).2.1[i]=s1 at hd ih ⊢
  have hd:cJ (m,(s1.1,s1.2.1,s1.2.2.1,s1.2.2.2.1,s1.2.2.2.2.1,()),())=_:=hd
  simp only[hd,r1,bM,eC,aG hlt (show(aX m l st (-1)).1.length≤1099511627776 by omega)]
  exact ih
theorem X5(m:ac.T)(st:ab.T)(l:List au.T)(hz:bU m)(hl:l.length≤1048576)(hs:∀x ∈ l,gY x):qn (m,st,l,())=some (kx m st l):=by
 have e0:=aad m st l hz hl hs
 have e0:qf ((m.1,m.2.1,m.2.2.1,m.2.2.2.1,()),(st.1,st.2.1,st.2.2.1,st.2.2.2.1,st.2.2.2.2.1,()),l,())=_:=e0
 unfold qn kx
 simp only[e0]
 by_cases h:ch m st l=0
 ·obtain⟨h1,h2,h3,h4⟩:=m8 h
  have e:=RX m st l hz h1 h2 h4 h3 (aX m l st (-1)).1.length 0 (by omega)
  have e:ag fA (l,(m.1,m.2.1,m.2.2.1,m.2.2.2.1,()),(st.1,st.2.1,st.2.2.1,st.2.2.2.1,st.2.2.2.2.1,()),(aX m l st (-1)).1,[],(0:Int),())=_:=e
  have k0:((0:Int) != 0)=false:=rfl
  simp only[if_pos h,k0,e]
 ·have k0:(ch m st l != 0)=true:=by simpa using h
  simp only[if_neg h,k0]
theorem W4(m:ac.T)(st:ab.T)(l:List au.T):(kx m st l).1.length≤40:=by
 unfold kx
 split
 ·rename_i h
  obtain⟨_,_,h3,_⟩:=m8 h
  obtain⟨n1,n2⟩:=m9 m l st (-1)
  show(bF m st l).length≤40
  unfold bF
  rw[List.length_zipWith]
  omega
 ·exact Nat.zero_le _
end Go.Proofs.YtkgcbbkodalfmaaGreatDoor
namespace Go.Proofs.YtkgcbbkodalfmaaGreatDoor
open Go.RowKit
set_option linter.unusedVariables false
set_option linter.unusedSimpArgs false
def oc(x:aY.T):Bool:=br x.1&&aS x.2.1 0 31&&aS x.2.2.1 0 4
theorem W5(x:aY.T):qT (x,())=some (oc x,()):=by
 have h1:dl ((x.1.1,x.1.2.1,x.1.2.2.1,x.1.2.2.2.1,x.1.2.2.2.2.1,()),())=some (br x.1,()):=uq (x.1,())
 have h2:kN (x.2.1,())=some (aS x.2.1 0 31,()):=Ri (x.2.1,())
 unfold qT oc
 simp only[h1,h2,kS]
 cases br x.1<;>cases aS x.2.1 0 31<;>cases aS x.2.2.1 0 4<;>rfl
theorem RY(l:List aY.T)(hl:l.length≤60)(hm:∀x ∈ l,oc x=true):si (l,())=some (true,()):=by
 have h:=O3 l (by omega) rj (fun m=> !oc m) (fun i h=>by
  have:rj (l[i],())=match qT (l[i],())with|none=>none|some v1=>some ((!v1.1),()):=rfl
  rw[this,W5])
 have ha:l.any (fun m=> !oc m)=false:=by
  rw[List.any_eq_false]
  intro x hx
  rw[hm x hx]
  decide
 have hd:decide ((l.length:Int)≤60)=true:=decide_eq_true (by omega)
 unfold si
 simp only[hd,h,ha]
 rfl
def qU:List Int→Int
 | []=>0
 |v::r=>v+qU r
theorem RZ:∀(c:List Int) (k:Nat) (h:k<c.length) (v:Int),qU (c.set k v)=qU c-c[k]+v
 |a::r,0,_,v=>by simp only[List.set_cons_zero,qU,List.getElem_cons_zero];omega
 |a::r,k+1,h,v=>by
  have:=RZ r k (by simpa using h) v
  simp only[List.set_cons_succ,qU,List.getElem_cons_succ]
  omega
theorem Hf(l:List aY.T)(hl:l.length≤60)(hm:∀x ∈ l,oc x=true):∀(k i:Nat) (c:List Int),i+k=l.length→c.length=5→(∀v ∈ c,0≤v∧v≤i)→qU c=i→
  ∃c':List Int,ag ej (c,l,(l.length:Int),(i:Int),())=some (.inl (c',()))∧c'.length=5∧(∀v ∈ c',0≤v∧v≤60)∧qU c'=l.length
 |0,i,c,hi,h5,hv,hs=>by
  have hi:i=l.length:=by omega
  refine⟨c, ?_,h5,fun v h=>⟨(hv v h).1,by have:=(hv v h).2;omega⟩,by omega⟩
  rw[am,hi]
  simp only[ej,be]
 |k+1,i,c,hi,h5,hv,hs=>by
  have hlt:i<l.length:=by omega
  have hmk:=hm _ (List.getElem_mem hlt)
  obtain⟨j,hj,hj4⟩:∃j:Nat,(l[i].2.2.1:Int)=(j:Int)∧j≤4:=by
   unfold oc at hmk
   simp only[Bool.and_eq_true]at hmk
   obtain⟨h0,h1⟩:=aR.1 hmk.2
   have key:∀z:Int,0≤z→z≤4→∃j:Nat,z=(j:Int)∧j≤4:=fun z a b=>⟨z.toNat,by omega,by omega⟩
   exact key _ h0 h1
  have hjc:j<c.length:=by omega
  have hcj:=hv _ (List.getElem_mem hjc)
  have hw:IntKind.i64.wrap (c[j]+(1:Int))=c[j]+1:=by rw[wrap_i64]<;>omega
  obtain⟨c',h1,h2⟩:=Hf l hl hm k (i+1) (c.set j (c[j]+1)) (by omega) (by rw[List.length_set];exact h5) (fun v h=>by
   rcases List.mem_or_eq_of_mem_set h with h|rfl
   ·have:=hv v h
    omega
   ·omega) (by rw[RZ c j hjc];omega)
  refine⟨c', ?_,h2⟩
  rw[am]
  simp only[ej,a7 hlt,ar hlt,aa,hj,ar hjc,Int.toNat_natCast,List.getElem?_eq_getElem hjc,hw,aG hlt (show l.length≤1099511627776 by omega)]
  exact h1
theorem W6(l:List aY.T)(hl:l.length≤60)(hm:∀x ∈ l,oc x=true):∃c:List Int,na (l,())=some (c,(0:Int),())∧c.length=5∧(∀v ∈ c,0≤v∧v≤60)∧qU c=l.length:=by
 obtain⟨c,h1,h2⟩:=Hf l hl hm l.length 0 (List.replicate 5 0) (by omega) (by simp) (fun v hv=>by
  have:=List.eq_of_mem_replicate hv
  omega) rfl
 have h1:ag ej (List.replicate (Int.toNat 5) (0:Int),l,(l.length:Int),(0:Int),())=_:=h1
 have hr:∀ {R:Type} (q:Option R),aA ((5:Int).toNat) q=q:=fun q=>aD (by decide)
 have hc:((0:Int)≤5∧(5:Int)≤5)=True:=eq_true ⟨by decide,by decide⟩
 refine⟨c, ?_,h2⟩
 unfold na
 simp only[RY l hl hm,Bool.not_true,hc,if_true,hr,h1]
theorem R0(c:List Int)(hc:c.length≤100)(hv:∀v ∈ c,0≤v∧v≤60):∀(k i:Nat) (a:Int),i+k=c.length→0≤a→a≤60*(i:Int)→ag mG (c,a,(i:Int),())=some (.inl (a+qU (c.drop i),()))
 |0,i,a,hi,h0,h1=>by
  have hi:i=c.length:=by omega
  rw[am,hi]
  simp only[mG,be,List.drop_length,qU,Int.add_zero]
 |k+1,i,a,hi,h0,h1=>by
  have hlt:i<c.length:=by omega
  have hq:=hv _ (List.getElem_mem hlt)
  have hw:IntKind.i64.wrap (a+c[i])=a+c[i]:=by rw[wrap_i64]<;>omega
  have ih:=R0 c hc hv k (i+1) (a+c[i]) (by omega) (by omega) (by omega)
  rw[am]
  simp only[mG,a7 hlt,ar hlt,aa,hw,aG hlt (show c.length≤1099511627776 by omega)]
  rw[ih,List.drop_eq_getElem_cons hlt,qU,Int.add_assoc]
theorem aaj(c:List Int)(hc:c.length≤100)(hv:∀v ∈ c,0≤v∧v≤60):Pe (c,())=some (qU c,()):=by
 have e:=R0 c hc hv c.length 0 0 (by omega) (by omega) (by omega)
 have e:ag mG (c,(0:Int),(0:Int),())=_:=e
 unfold Pe
 simp only[e,List.drop_zero,Int.zero_add]
theorem X6(v:aY.T):dy aY v v=true:=by simp[dy]
theorem Vh(l:List aY.T)(hl:l.length≤100):ri (l,l,())=some (true,()):=by
 have e:=i8 (B:=ga) l (fun i=>(l,l,(i:Int),())) (fun _=>true) (.inl ()) (.inr (false,())) (by simp only[ga,be]) (fun i h=>by
  simp only[ga,a7 h,aG h (show l.length≤1099511627776 by omega),ar h,aa,X6,Bool.not_true]
  rfl)
 have e:ag ga (l,l,(0:Int),())=_:=e
 have hn:((l.length:Int) != (l.length:Int))=false:=m4 _
 have ha:l.all (fun _=>true)=true:=by simp
 unfold ri
 simp only[hn,e,ha]
 rfl
theorem R1 {m:ac.T}(h:a8 m=true):∀(l:List au.T) (st:ab.T) (p:Int),aC m st=true→NR m p→(∀x ∈ l,eF x=true)→∀v ∈ (aX m l st p).1,d8 v=true
 | [],_,_,_,_,_,v,hv=>by cases hv
 |x::r,st,p,hb,hp,hall,v,hv=>by
  obtain⟨a1,a2⟩:=AM (x:=x) (p:=p) h hb hp
  simp only[aX]at hv
  rcases List.mem_cons.1 hv with rfl|hv
  ·exact AL x h hb (hall x (by simp))
  ·exact R1 h r _ _ a1 a2 (fun y hy=>hall y (by simp[hy])) v hv
theorem Vi {v:aB.T}(h:d8 v=true):0≤(v.1:Int)∧(v.1:Int)≤4:=by
 rcases jx h with⟨f,rfl,hf⟩|⟨s,rfl,h0,h4,h3⟩
 ·exact⟨(show(0:Int)≤3 by decide),(show(3:Int)≤4 by decide)⟩
 ·exact⟨h0,h4⟩
theorem X7 {m:ac.T}{st:ab.T}{v:aB.T}(h:a8 m=true)(hb:aC m st=true)(hv:d8 v=true):oc (qo m st v)=true:=by
 obtain⟨_,_,q3⟩:=dF m st h hb
 obtain⟨n,hn,hn2⟩:=xh q3
 have h1:aS (bL m st).1 0 31=true:=by
  rw[hn]
  exact aR.2 ⟨by omega,by omega⟩
 have h2:aS v.1 0 4=true:=aR.2 (Vi hv)
 unfold oc qo
 simp only[mB hb,h1,h2,Bool.and_self]
theorem sk {m:ac.T}{st:ab.T}{l:List au.T}(i:Nat)(h:i<(bF m st l).length):∃(h1:i<(aX m l st (-1)).2.1.length) (h2:i<(aX m l st (-1)).1.length),(bF m st l)[i]=qo m (aX m l st (-1)).2.1[i] (aX m l st (-1)).1[i]:=by
 have hq:=h
 unfold bF at hq
 rw[List.length_zipWith]at hq
 exact⟨by omega,by omega,List.getElem_zipWith⟩
theorem IP {m:ac.T}{st:ab.T}{l:List au.T}(h1:a8 m=true)(h2:aC m st=true)(h4:∀x ∈ l,eF x=true):∀x ∈ bF m st l,oc x=true:=by
 intro x hx
 obtain⟨i,hi,rfl⟩:=List.getElem_of_mem hx
 obtain⟨g1,g2,e⟩:=sk i hi
 rw[e]
 exact X7 h1 ((zu h1 l st (-1) h2 (.inl rfl)).1 _ (List.getElem_mem g1)) (R1 h1 l st (-1) h2 (.inl rfl) h4 _ (List.getElem_mem g2))
theorem uj(m:ac.T)(st:ab.T)(l:List au.T):(bF m st l).length=l.length:=by
 obtain⟨n1,n2⟩:=m9 m l st (-1)
 unfold bF
 rw[List.length_zipWith]
 omega
theorem Zh(m:ac.T)(st:ab.T)(hz:bU m)(h:a8 m=true)(hb:aC m st=true):lL (m,st,())=some (bL m st,(0:Int),()):=by
 have hk:=Fq m st hz
 simp only[h,hb]at hk
 have hk:dr ((m.1,m.2.1,m.2.2.1,m.2.2.2.1,()),(st.1,st.2.1,st.2.2.1,st.2.2.2.1,st.2.2.2.2.1,()),())=some ((0:Int),()):=hk
 obtain⟨_,hd,_⟩:=dF m st h hb
 have hd:az ((m.1,m.2.1,m.2.2.1,m.2.2.2.1,()),(st.1,st.2.1,st.2.2.1,st.2.2.2.1,st.2.2.2.2.1,()),())=_:=hd
 unfold lL
 simp only[hk,hd]
 rfl
end Go.Proofs.YtkgcbbkodalfmaaGreatDoor
namespace Go.Proofs.YtkgcbbkodalfmaaGreatDoor
open Go.RowKit
set_option linter.unusedVariables false
set_option linter.unusedSimpArgs false
theorem Hg(m:ac.T)(st:ab.T)(l:List au.T)(hz:bU m)(h1:a8 m=true)(h2:aC m st=true)(h3:l.length≤40)(h4:∀x ∈ l,eF x=true):∀(k i:Nat),i+k=(bF m st l).length→
  ag gc (m,st,l,bF m st l,(i:Int),())=some (.inl (st,l,bF m st l,()))
 |0,i,hi=>by
  have hi:i=(bF m st l).length:=by omega
  rw[am,hi]
  simp only[gc,be]
 |k+1,i,hi=>by
  have hlt:i<(bF m st l).length:=by omega
  have hlen:=uj m st l
  have ih:=Hg m st l hz h1 h2 h3 h4 k (i+1) (by omega)
  obtain⟨g1,g2,e⟩:=sk i hlt
  have hd:=Zh m (aX m l st (-1)).2.1[i] hz h1 ((zu h1 l st (-1) h2 (.inl rfl)).1 _ (List.getElem_mem g1))
  have e1:(bF m st l)[i].1=(aX m l st (-1)).2.1[i]:=by rw[e];rfl
  have e2:(bF m st l)[i].2.1=(bL m (aX m l st (-1)).2.1[i]).1:=by rw[e];rfl
  have hm:=W5 (bF m st l)[i]
  rw[IP h1 h2 h4 _ (List.getElem_mem hlt)]at hm
  have hb:∀a:Int,(a != a)=false:=m4
  rw[am]
  simp only[gc,a7 hlt,ar hlt,aa,Int.toNat_natCast,List.getElem?_eq_getElem hlt,e1,hd,e2,hb,hm,Bool.not_true,kw,aG hlt (show(bF m st l).length≤1099511627776 by omega)]
  exact ih
theorem Vj(x)(hx:Wf (.pair (.list (.int .u8)) .unit) x):AU x=some (true,()):=by
 obtain⟨(l:List Int),u⟩:=x
 unfold AU Jm
 by_cases hbig:(l.length:Int)>4096
 ·simp only[decide_eq_true hbig]
 ·have hb:=RJ hx.1
  obtain⟨s,⟨m,st,steps,rest⟩,d1,d2,hz,hl,hs⟩:=W2 (l:=l) (by omega) hb
  have hs:∀x ∈ steps,gY x:=hs
  have hl:steps.length≤100:=hl
  have d2:kB ((s.1,s.2.1,s.2.2.1,()),())=_:=d2
  have hd:kV (l,())=some (m,st,steps,()):=by
   unfold kV
   simp only[d1,d2]
  have ei:=RV m st steps hz (by omega) hs
  have es:=X5 m st steps hz (by omega) hs
  have hlen:=W4 m st steps
  have hlike:=Vh (kx m st steps).1 (by omega)
  have hb0:∀a:Int,(a != a)=false:=m4
  simp only[decide_eq_false hbig,hd,ei,es,hb0,hlike,Bool.not_true]
  by_cases h0:ch m st steps=0
  ·obtain⟨h1,h2,h3,h4⟩:=m8 h0
   have et:kx m st steps=(bF m st steps,(0:Int),()):=by
    unfold kx
    rw[if_pos h0]
   have hb1:((0:Int) != 0)=false:=rfl
   rw[et]
   simp only[hb1]
   cases steps with
   |nil=>
    have:((([]:List au.T).length:Int)==(0:Int))=true:=rfl
    simp only[this]
   |cons x r=>
    have hn:(((x::r).length:Int)==(0:Int))=false:=by simp;omega
    have hlp:=Hg m st (x::r) hz h1 h2 h3 h4 (bF m st (x::r)).length 0 (by omega)
    have hlp:ag gc (m,st,x::r,bF m st (x::r),(0:Int),())=_:=hlp
    have hlen2:=uj m st (x::r)
    obtain⟨c,k1,k2,k3,k4⟩:=W6 (bF m st (x::r)) (by omega) (IP h1 h2 h4)
    have ksum:=aaj c (by omega) k3
    have hpos:0<(bF m st (x::r)).length:=by rw[hlen2];simp
    have hx0:aq (bF m st (x::r)) (0:Int)=some (bF m st (x::r))[0]:=ar hpos
    have hg0:(bF m st (x::r))[(0:Int).toNat]? =some (bF m st (x::r))[0]:=List.getElem?_eq_getElem hpos
    have hst:(bF m st (x::r))[0].1=st:=by
     obtain⟨g1,g2,e⟩:=sk 0 hpos
     rw[e]
     rfl
    have heq:dy ab (bF m st (x::r))[0].1 st=true:=by rw[hst];exact(G5 st st).2 rfl
    have hz0:((0:Int)==0)=true:=rfl
    have hle:(((bF m st (x::r)).length:Int)==((x::r).length:Int))=true:=by rw[hlen2];simp
    have hse:(qU c==((x::r).length:Int))=true:=by rw[k4,hlen2];simp
    simp only[hn,hlp,k1,hz0,aa,hx0,hg0,heq,hle,ksum,hse,kw]
  ·have et:kx m st steps=([],ch m st steps,()):=by
    unfold kx
    rw[if_neg h0]
   have hb1:(ch m st steps != 0)=true:=by simpa using h0
   rw[et]
   simp only[hb1]
end Go.Proofs.YtkgcbbkodalfmaaGreatDoor
