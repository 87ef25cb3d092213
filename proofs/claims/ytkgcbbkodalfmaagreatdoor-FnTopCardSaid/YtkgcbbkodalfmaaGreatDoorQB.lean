import Derived.Test.YtkgcbbkodalfmaaGreatDoorQ7
namespace Go.Proofs.YtkgcbbkodalfmaaGreatDoor
open Go.RowKit
set_option linter.unusedVariables false
set_option linter.unusedSimpArgs false
def jJ(d:Int):List av.T→Prop
 |f::g::r=>d≤(g.2.1:Int)-(f.2.1:Int)∧jJ d (g::r)
 |_=>True
theorem Th(d:Int):∀S:List av.T,(∀j (h:j+1<S.length),d≤(S[j+1].2.1:Int)-(S[j].2.1:Int))→jJ d S
 | [],_=>trivial
 | [_],_=>trivial
 |f::g::r,h=>⟨h 0 (by simp),Th d (g::r) fun j hj=>h (j+1) (by simp at hj ⊢;omega)⟩
theorem ZZ(x y:Int)(hx:0≤x∧x≤8192)(hy:0≤y∧y≤8192):IntKind.i64.wrap (x-y)=x-y:=wrap_i64 (by omega) (by omega)
theorem PJ(d:Int)(S:List av.T)(hS:S.length≤100)(hat:∀f ∈ S,0≤(f.2.1:Int)∧(f.2.1:Int)≤8192):∀k i,i+k+1=S.length→
  ∃o,ac fe (S,d,((i+1:Nat):Int),())=some o∧(o= .inr (false,())∨(o= .inl ()∧∀j,i≤j→(h:j+1<S.length)→d≤(S[j+1].2.1:Int)-(S[j].2.1:Int)))
 |0,i,hi=>by
  have e:i+1=S.length:=by omega
  refine⟨.inl (), ?_,.inr ⟨rfl,fun j h1 h2=>by omega⟩⟩
  rw[ag,e]
  simp only[fe,bp]
 |k+1,i,hi=>by
  have h:i+1<S.length:=by omega
  have h':i<S.length:=by omega
  have w1:IntKind.i64.wrap (((i+1:Nat):Int)-1)=(i:Int):=by rw[wrap_i64]<;>omega
  have w2:IntKind.i64.wrap ((S[i+1].2.1:Int)-(S[i].2.1:Int))=(S[i+1].2.1:Int)-(S[i].2.1:Int):=ZZ _ _ (hat S[i+1] (List.getElem_mem h)) (hat S[i] (List.getElem_mem h'))
  by_cases hd:(S[i+1].2.1:Int)-(S[i].2.1:Int)<d
  ·refine⟨.inr (false,()), ?_,.inl rfl⟩
   rw[ag]
   simp only[fe,a7 h,am h,ab,w1,am h',w2,decide_eq_true hd]
  ·obtain⟨o,h1,h2⟩:=PJ d S hS hat k (i+1) (by omega)
   refine⟨o, ?_, ?_⟩
   ·rw[ag]
    simp only[fe,a7 h,am h,ab,w1,am h',w2,decide_eq_false hd,aG h (show S.length≤1099511627776 by omega)]
    exact h1
   ·rcases h2 with h2|⟨h2,h3⟩
    ·exact .inl h2
    ·refine .inr ⟨h2,fun j hj hl=> ?_⟩
     rcases Nat.lt_or_ge i j with hij|hij
     ·exact h3 j (by omega) hl
     ·have:j=i:=by omega
      subst this
      exact Int.not_lt.1 hd
theorem Ti(d:Int)(S:List av.T)(hS:S.length≤100)(hat:∀f ∈ S,0≤(f.2.1:Int)∧(f.2.1:Int)≤8192):∃b,kg (S,d,())=some (b,())∧(b=true→jJ d S):=by
 cases S with
 |nil=>
  refine⟨true, ?_,fun _=>trivial⟩
  have e:ac fe (([]:List av.T),d,(1:Int),())=some (.inl ()):=by
   rw[ag]
   rfl
  unfold kg
  simp only[e]
 |cons f r=>
  obtain⟨o,h1,h2⟩:=PJ d (f::r) hS hat r.length 0 (by simp)
  have h1:ac fe (f::r,d,(1:Int),())=some o:=h1
  unfold kg
  simp only[h1]
  rcases h2 with rfl|⟨rfl,h3⟩
  ·exact⟨false,rfl,fun h=>absurd h (by decide)⟩
  ·exact⟨true,rfl,fun _=>Th d _ fun j hj=>h3 j (Nat.zero_le _) hj⟩
def aaq(Y:List Int)(f:av.T):Prop:=∃a:Nat,(f.2.1:Int)=(a:Int)∧(f.2.2.1:Int)=1∧∃h:a<Y.length,((f.1:Int)=3∨((f.1:Int)=4∧(f.2.2.2.1:Int)=Y[a]))
theorem YB(Y W:List Int)(k c v:Int)(n:Nat)(hn:n<Y.length)(hW:W.length≤100):∀m i,i+m=W.length→
  ∃o,ac dG (Y,(k,(n:Int),c,v,()),W,(W.length:Int),(i:Int),())=some o∧(o= .inr (false,())∨(o= .inl ()∧∀j,i≤j→(h:j<W.length)→W[j]=Y[n]∧(k=4→W[j]=v)))
 |0,i,hi=>by
  have e:i=W.length:=by omega
  refine⟨.inl (), ?_,.inr ⟨rfl,fun j h1 h2=>by omega⟩⟩
  rw[ag,e]
  simp only[dG,bp]
 |m+1,i,hi=>by
  have h:i<W.length:=by omega
  cases h1:W[i] != Y[n]with
  |true=>
   refine⟨.inr (false,()), ?_,.inl rfl⟩
   rw[ag]
   simp only[dG,a7 h,am h,am hn,ab,h1]
  |false=>
   have e1:W[i]=Y[n]:=by simpa using h1
   obtain⟨o,g1,g2⟩:=YB Y W k c v n hn hW m (i+1) (by omega)
   have fin:(k=4→W[i]=v)→(o= .inr (false,())∨(o= .inl ()∧∀j,i≤j→(h:j<W.length)→W[j]=Y[n]∧(k=4→W[j]=v))):=fun e2=>by
    rcases g2 with g2|⟨g2,g3⟩
    ·exact .inl g2
    ·refine .inr ⟨g2,fun j hj hl=> ?_⟩
     rcases Nat.lt_or_ge i j with hij|hij
     ·exact g3 j (by omega) hl
     ·have:j=i:=by omega
      subst this
      exact⟨e1,e2⟩
   cases h4:k==(4:Int)with
   |true=>
    cases h5:W[i] != v with
    |true=>
     refine⟨.inr (false,()), ?_,.inl rfl⟩
     rw[ag]
     simp only[dG,a7 h,am h,am hn,ab,h1,h4,h5]
    |false=>
     refine⟨o, ?_,fin fun _=>by simpa using h5⟩
     rw[ag]
     simp only[dG,a7 h,am h,am hn,ab,h1,h4,h5,aG h (show W.length≤1099511627776 by omega)]
     exact g1
   |false=>
    refine⟨o, ?_,fin fun e=>by rw[e]at h4;exact absurd h4 (by decide)⟩
    rw[ag]
    simp only[dG,a7 h,am h,am hn,ab,h1,h4,aG h (show W.length≤1099511627776 by omega)]
    exact g1
theorem ada(f:av.T):∃b,ya (f,())=some (b,())∧(b=true→((f.1:Int)=3∨(f.1:Int)=4)∧(f.2.2.1:Int)=1):=by
 unfold ya
 simp only
 cases h3:f.1==(3:Int)with
 |true=>exact⟨_,rfl,fun h=>⟨.inl (by simpa using h3),by simpa using h⟩⟩
 |false=>
  cases h4:f.1==(4:Int)with
  |true=>exact⟨_,rfl,fun h=>⟨.inr (by simpa using h4),by simpa using h⟩⟩
  |false=>exact⟨_,rfl,fun h=>absurd h (by decide)⟩
theorem adb(Y:List Int)(f:av.T)(hY:Y.length≤8192):∃b,oN (Y,f,())=some (b,())∧(b=true→aaq Y f):=by
 obtain⟨b1,e1,h1⟩:=ada f
 obtain⟨(k:Int),(a:Int),(c:Int),(v:Int),⟨⟩⟩:=f
 have hw:IntKind.i64.wrap ((Y.length:Int)-3)=(Y.length:Int)-3:=by rw[wrap_i64]<;>omega
 have e0:ya ((k,a,c,v,()),())=some (b1,()):=e1
 unfold oN
 simp only[e0,rG,hw]
 cases b1 with
 |false=>exact⟨_,rfl,fun h=>absurd h (by decide)⟩
 |true=>
  cases hin:aP a 2 ((Y.length:Int)-3)with
  |false=>exact⟨_,rfl,fun h=>absurd h (by decide)⟩
  |true=>
   obtain⟨i0,i1⟩:=aY.1 hin
   obtain⟨n,rfl⟩:∃n:Nat,a=(n:Int):=⟨a.toNat,by omega⟩
   have hn:n<Y.length:=by omega
   have w1:IntKind.i64.wrap ((n:Int)-2)=((n-2:Nat):Int):=by rw[wrap_i64]<;>omega
   have w2:IntKind.i64.wrap ((n:Int)+3)=((n+3:Nat):Int):=by rw[wrap_i64]<;>omega
   have hb:aH Y.length (some (.dat (.int .i64) ((n-2:Nat):Int))) (some (.dat (.int .i64) ((n+3:Nat):Int)))=some (n-2,n+3):=uj (by omega) (by omega)
   have hlen:(List.drop (n-2) (List.take (n+3) Y)).length=5:=by simp;omega
   obtain⟨o,g1,g2⟩:=YB Y (List.drop (n-2) (List.take (n+3) Y)) k c v n hn (by omega) 5 0 (by omega)
   have g1:ac dG (Y,(k,(n:Int),c,v,()),List.drop (n-2) (List.take (n+3) Y),((List.drop (n-2) (List.take (n+3) Y)).length:Int),(0:Int),())=some o:=g1
   obtain⟨hk,hc⟩:=h1 rfl
   simp only[Bool.not_true,w1,w2,hb,ab,g1]
   rcases g2 with rfl|⟨rfl,g3⟩
   ·exact⟨_,rfl,fun h=>absurd h (by decide)⟩
   ·obtain⟨q1,q2⟩:=g3 0 (Nat.le_refl _) (by omega)
    refine⟨_,rfl,fun _=>⟨n,rfl,hc,hn, ?_⟩⟩
    rcases hk with hk|hk
    ·exact .inl hk
    ·have q2:=q2 hk
     exact .inr ⟨hk,by rw[←q1,q2]⟩
def uu:List Int→List av.T→Prop
 |_,[]=>True
 |Y,f::r=>aaq Y f∧uu (co Y f) r
theorem Tj(S:List av.T)(hS:S.length≤100)(hf:∀f ∈ S,dK f=true):∀k i (Y:List Int),i+k=S.length→Y.length≤8192→
  ∃o,ac eU (Y,S,S,(S.length:Int),(i:Int),())=some o∧(o= .inr ((0:Int),())∨(o= .inl (S,())∧uu Y (S.drop i)))
 |0,i,Y,hi,hY=>by
  have e:i=S.length:=by omega
  subst e
  refine⟨.inl (S,()), ?_,.inr ⟨rfl,by rw[List.drop_length];exact trivial⟩⟩
  rw[ag]
  simp only[eU,bp]
 |k+1,i,Y,hi,hY=>by
  have h:i<S.length:=by omega
  obtain⟨b,e1,h1⟩:=adb Y S[i] hY
  have e2:=MN Y hY S[i] (hf S[i] (List.getElem_mem h))
  have hlen:=ur Y hY S[i]
  have e1:oN (Y,(S[i].1,S[i].2.1,S[i].2.2.1,S[i].2.2.2.1,()),())=some (b,()):=e1
  have e2:jE (Y,(S[i].1,S[i].2.1,S[i].2.2.1,S[i].2.2.2.1,()),())=some (co Y S[i],()):=e2
  cases b with
  |false=>
   refine⟨.inr ((0:Int),()), ?_,.inl rfl⟩
   rw[ag]
   simp only[eU,a7 h,am h,ab,e1,Bool.not_false]
  |true=>
   obtain⟨o,g1,g2⟩:=Tj S hS hf k (i+1) (co Y S[i]) (by omega) hlen
   refine⟨o, ?_, ?_⟩
   ·rw[ag]
    simp only[eU,a7 h,am h,ab,e1,e2,Bool.not_true,aG h (show S.length≤1099511627776 by omega)]
    exact g1
   ·rcases g2 with g2|⟨g2,g3⟩
    ·exact .inl g2
    ·refine .inr ⟨g2, ?_⟩
     rw[List.drop_eq_getElem_cons h]
     exact⟨h1 rfl,g3⟩
theorem CY {f:av.T}(h:dK f=true):0≤(f.2.1:Int)∧(f.2.1:Int)≤8192:=by
 obtain⟨(k:Int),(a:Int),(c:Int),(v:Int),⟨⟩⟩:=f
 obtain⟨_,⟨n,hn,hn2⟩,_⟩:=tn h
 show 0≤a∧a≤8192
 omega
theorem YC(X:List Int)(S:List av.T)(hX:bR X=true)(hs:dp S=true):∃b,oO (X,S,())=some (b,())∧(b=true→(jJ 6 S∧∀f ∈ S,(f.1:Int)=1)∨(uu X S∧jJ 160 S)):=by
 obtain⟨hl,hf⟩:=rM hs
 have hXl:=eu hX
 have b1:=GH X (by omega)
 have b2:=Pu S (by omega)
 obtain⟨q6,e6,h6⟩:=Ti 6 S (by omega) (fun f hm=>CY (hf f hm))
 obtain⟨q160,e160,h160⟩:=Ti 160 S (by omega) (fun f hm=>CY (hf f hm))
 have ec:=BE S (by omega) zV (fun f=>f.1 != (1:Int)) (fun i h=>rfl)
 obtain⟨o,eo,ho⟩:=Tj S (by omega) hf S.length 0 X (by omega) hXl
 have eo:ac eU (X,S,S,(S.length:Int),(0:Int),())=some o:=eo
 have hz:((0:Int)==0)=true:=rfl
 have code:rD (X,S,())=some ((0:Int),()):=by
  unfold rD
  simp only[b1,hX,b2,hs,Bool.not_true]
 have tail:∃n:Int,(match ac eU (X,S,S,(S.length:Int),(0:Int),())with
   |none=>none
   |some (.inl v9)=>match kg (v9.1,(160:Int),())with
    |none=>none
    |some v11=>match(!v11.1)with
     |true=>some ((0:Int),())
     |false=>some ((2:Int),())
   |some (.inr v10)=>some (v10.1,()):Option (Int×Unit))=some (n,())∧(n>0→uu X S∧jJ 160 S):=by
  rw[eo]
  rcases ho with rfl|⟨rfl,h3⟩
  ·exact⟨0,rfl,fun h=>absurd h (by decide)⟩
  ·simp only[e160]
   cases q160 with
   |false=>exact⟨0,rfl,fun h=>absurd h (by decide)⟩
   |true=>exact⟨2,rfl,fun _=>⟨h3,h160 rfl⟩⟩
 have bound:∃n:Int,zp (X,S,())=some (n,())∧(n>0→(jJ 6 S∧∀f ∈ S,(f.1:Int)=1)∨(uu X S∧jJ 160 S)):=by
  obtain⟨n,en,hn⟩:=tail
  unfold zp
  simp only[e6,ec]
  cases q6 with
  |false=>exact⟨n,en,fun h=>.inr (hn h)⟩
  |true=>
   cases ha:S.any (fun f=>f.1 != (1:Int))with
   |true=>exact⟨n,en,fun h=>.inr (hn h)⟩
   |false=>
    refine⟨1,rfl,fun _=>.inl ⟨h6 rfl,fun f hm=> ?_⟩⟩
    have:=List.any_eq_false.1 ha f hm
    simpa using this
 obtain⟨n,en,hn⟩:=bound
 refine⟨decide (n>0), ?_,fun h=>hn (by simpa using h)⟩
 unfold oO
 simp only[code,hz,en]
theorem sX.flip {B A:Nat}{L y:List Int}{fl:Int→Int}(h:sX B A L y fl)(a:Nat)(hz:∀i:Int,(a:Int)-5≤i→fl i=0):sX B A L (ja iH y a (a+1)) (fun i=>fl i+if i=(a:Int)then 1 else 0) where
 len:=by rw[yq];exact h.len
 f0:=fun i=>by
  have:=h.f0 i
  show(0:Int)≤fl i+if i=(a:Int)then 1 else 0
  split<;>omega
 neg:=fun i hi=>by
  show fl i+(if i=(a:Int)then(1:Int)else 0)=0
  rw[if_neg (by omega),h.neg i hi]
  rfl
 f6:=fun i=>by
  have h6:=h.f6 i
  show fl i+(if i=(a:Int)then(1:Int)else 0)+(fl (i+1)+(if i+1=(a:Int)then(1:Int)else 0))+(fl (i+2)+(if i+2=(a:Int)then(1:Int)else 0))+(fl (i+3)+(if i+3=(a:Int)then(1:Int)else 0))+(fl (i+4)+(if i+4=(a:Int)then(1:Int)else 0))+(fl (i+5)+(if i+5=(a:Int)then(1:Int)else 0))≤1
  by_cases hr:i≤(a:Int)∧(a:Int)≤i+5
  ·rw[hz i (by omega),hz (i+1) (by omega),hz (i+2) (by omega),hz (i+3) (by omega),hz (i+4) (by omega),hz (i+5) (by omega)]
   repeat' split
   all_goals omega
  ·rw[if_neg (by omega),if_neg (by omega),if_neg (by omega),if_neg (by omega),if_neg (by omega),if_neg (by omega)]
   omega
 at_:=fun i hi=>by
  have fb:∀j:Int,0≤fl j∧fl j≤1:=fun j=>by
   have:=h.f6 j
   have:=h.f0 j
   have:=h.f0 (j+1)
   have:=h.f0 (j+2)
   have:=h.f0 (j+3)
   have:=h.f0 (j+4)
   have:=h.f0 (j+5)
   omega
  have h01:∀(j:Nat) (hj:j<y.length),y[j]=0∨y[j]=1:=fun j hj=>by
   have:=fb j
   rcases h.at_ j hj with⟨_,q⟩|⟨_,q⟩<;>omega
  have hy:i<y.length:=by rw[yq]at hi;exact hi
  have hv:=ZY h01 a i hi
  have hc:=h.at_ i hy
  show(_∧(ja iH y a (a+1))[i]=1-(fl i+if(i:Int)=(a:Int)then 1 else 0))∨(_∧(ja iH y a (a+1))[i]=fl i+if(i:Int)=(a:Int)then 1 else 0)
  rw[hv]
  by_cases hia:i=a
  ·subst hia
   have z:=hz (i:Int) (by omega)
   rw[if_pos rfl,if_pos rfl,z]
   rcases hc with⟨p,q⟩|⟨p,q⟩
   ·exact .inl ⟨p,by rw[q,z];rfl⟩
   ·exact .inr ⟨p,by rw[q,z];rfl⟩
  ·rw[if_neg hia,if_neg (by omega),Int.add_zero]
   exact hc
theorem M0 {B A:Nat}{L:List Int}:∀(S:List av.T) (y:List Int) (fl:Int→Int) (b:Int),sX B A L y fl→(∀i,b<i→fl i=0)→(∀f ∈ S,(f.1:Int)=1∧dK f=true)→(∀f r,S=f::r→b+6≤(f.2.1:Int))→jJ 6 S→∃fl',sX B A L (dL y S) fl'
 | [],y,fl,b,h,_,_,_,_=>⟨fl,h⟩
 |f::r,y,fl,b,h,hb,hS,hh,hp=>by
  obtain⟨h1,h2⟩:=hS f (List.mem_cons_self ..)
  obtain⟨a0,_⟩:=CY h2
  have hf:=hh f r rfl
  obtain⟨(k:Int),(a:Int),(c:Int),(v:Int),⟨⟩⟩:=f
  have h1:k=1:=h1
  have a0:0≤a:=a0
  have hf:b+6≤a:=hf
  obtain⟨n,rfl⟩:∃n:Nat,a=(n:Int):=⟨a.toNat,by omega⟩
  have e:co y (k,(n:Int),c,v,())=ja iH y n (n+1):=by
   unfold co
   rw[h1]
   exact if_pos rfl
  have hn:=h.flip n (fun i hi=>hb i (by omega))
  rw[←e]at hn
  exact M0 r (co y (k,(n:Int),c,v,())) _ (n:Int) hn (fun i hi=>by
   show fl i+(if i=(n:Int)then(1:Int)else 0)=0
   rw[hb i (by omega),if_neg (by omega)]
   rfl) (fun f hm=>hS f (List.mem_cons_of_mem _ hm)) (fun f' r' er=>by
   subst er
   exact(fun(x z:Int) (h:6≤z-x)=>(show x+6≤z by omega)) (n:Int) _ hp.1) (by
   cases r with
   |nil=>trivial
   |cons g r'=>exact hp.2)
theorem WJ {m:an.T}{st:ai.T}{f:aB.T}(h:cu m=true)(hs:ig m st f=true)(S:List av.T)(hS:∀f ∈ S,(f.1:Int)=1∧dK f=true)(hp:jJ 6 S):fP m st (dL (aZ (bV m st f)) S)=((3:Int),f,()):=by
 rw[yp]
 obtain⟨fl',hn⟩:=M0 S _ (fun _=>0) (-6) (MX 8 ((dW m st).2.2.2.1.toNat-(19+10*(bJ f m.1.toNat st).length)) (bJ f m.1.toNat st) (wK h (wJ hs))) (fun _ _=>rfl) hS (fun g r e=>by
  exact(fun(x:Int) (h:0≤x)=>(show(-6:Int)+6≤x by omega)) _ (CY (hS g (by rw[e];exact List.mem_cons_self ..)).2).1) hp
 exact PI h hs hn
structure jK (c y:List Int) (q:Nat→Nat):Prop where
 zero:q 0=0
 len:q c.length=y.length
 cell:∀i (hi:i<c.length) (k:Nat),q i≤k→k<q (i+1)→y[k]? =some c[i]
 near:∀i m,m≤10→i+m≤c.length→q i+8*m≤q (i+m)+1∧q (i+m)≤q i+8*m+1
theorem jK.mono {c y:List Int}{q:Nat→Nat}(h:jK c y q)(i:Nat):∀m,i+m≤c.length→q i≤q (i+m)
 |0,_=>Nat.le_refl _
 |m+1,hm=>by
  have h1:=h.mono i m (by omega)
  have h2:=h.near (i+m) 1 (by omega) (by omega)
  rw[show i+(m+1)=i+m+1 from by omega]
  omega
theorem jK.le {c y:List Int}{q:Nat→Nat}(h:jK c y q){i j:Nat}(hij:i≤j)(hj:j≤c.length):q i≤q j:=by
 have:=h.mono i (j-i) (by omega)
 rw[show i+(j-i)=j from by omega]at this
 exact this
theorem jK.find {c y:List Int}{q:Nat→Nat}(h:jK c y q){k:Nat}:∀n,n≤c.length→k<q n→∃j,j<n∧q j≤k∧k<q (j+1)
 |0,_,hk=>by rw[h.zero]at hk;omega
 |n+1,hn,hk=>by
  rcases Nat.lt_or_ge k (q n)with h1|h1
  ·obtain⟨j,a,b,d⟩:=h.find n (by omega) h1
   exact⟨j,by omega,b,d⟩
  ·exact⟨n,by omega,h1,hk⟩
theorem WK(c:List Int):jK c (aZ c) (fun i=>8*i) where
 zero:=rfl
 len:=(kA c).symm
 cell:=fun i hi k h1 h2=>by
  have h1:8*i≤k:=h1
  have h2:k<8*(i+1):=h2
  have:=CW c k (by omega)
  have e:k / 8=i:=by omega
  simp only[e]at this
  exact this
 near:=fun i m _ _=>by
  show 8*i+8*m≤8*(i+m)+1∧8*(i+m)≤8*i+8*m+1
  omega
theorem Z0(y:List Int)(a k:Nat)(ha:a<y.length):(y.take a++y.drop (a+1))[k]? =if k<a then y[k]? else y[k+1]? :=by
 rw[List.getElem?_append]
 have hl:(y.take a).length=a:=by rw[List.length_take];omega
 rw[hl]
 by_cases h:k<a
 ·rw[if_pos h,if_pos h,List.getElem?_take,if_pos h]
 ·rw[if_neg h,if_neg h,List.getElem?_drop]
  congr 1
  omega
theorem WL(y:List Int)(a k:Nat)(v:Int)(ha:a<y.length):(y.take a++ [v]++y.drop a)[k]? =if k<a then y[k]? else if k=a then some v else y[k-1]? :=by
 rw[List.append_assoc,List.getElem?_append]
 have hl:(y.take a).length=a:=by rw[List.length_take];omega
 rw[hl]
 by_cases h:k<a
 ·rw[if_pos h,if_pos h,List.getElem?_take,if_pos h]
 ·rw[if_neg h,if_neg h,List.singleton_append]
  by_cases h2:k=a
  ·subst h2
   rw[if_pos rfl,Nat.sub_self]
   rfl
  ·rw[if_neg h2]
   obtain⟨d,hd⟩:∃d,k-a=d+1:=⟨k-a-1,by omega⟩
   rw[hd,List.getElem?_cons_succ,List.getElem?_drop]
   congr 1
   omega
theorem jK.drop {c y:List Int}{q:Nat→Nat}(h:jK c y q){a j:Nat}(hj:j<c.length)(h1:q j≤a)(h2:a<q (j+1))(hn:∀i m,m≤10→i≤j→j<i+m→i+m≤c.length→q (i+m)=q i+8*m):
  jK c (y.take a++y.drop (a+1)) (fun k=>if k≤j then q k else q k-1):=by
 have ha:a<y.length:=by
  have:=h.le (show j+1≤c.length by omega) (Nat.le_refl _)
  rw[h.len]at this
  omega
 have pos:∀k,j<k→k≤c.length→a<q k:=fun k hk hkl=>Nat.lt_of_lt_of_le h2 (h.le (by omega) hkl)
 refine⟨?_, ?_, ?_, ?_⟩
 ·show(if 0≤j then q 0 else q 0-1)=0
  rw[if_pos (Nat.zero_le _)]
  exact h.zero
 ·show(if c.length≤j then q c.length else q c.length-1)=_
  rw[if_neg (by omega),h.len]
  simp
  omega
 ·intro i hi k k1 k2
  have k1:(if i≤j then q i else q i-1)≤k:=k1
  have k2:k<(if i+1≤j then q (i+1)else q (i+1)-1):=k2
  rw[Z0 y a k ha]
  rcases Nat.lt_trichotomy i j with hij|hij|hij
  ·rw[if_pos (by omega)]at k1 k2
   have:=h.le (show i+1≤j by omega) (by omega)
   rw[if_pos (by omega)]
   exact h.cell i hi k k1 k2
  ·subst hij
   rw[if_pos (Nat.le_refl _)]at k1
   rw[if_neg (by omega)]at k2
   split
   ·exact h.cell i hi k k1 (by omega)
   ·exact h.cell i hi (k+1) (by omega) (by omega)
  ·rw[if_neg (by omega)]at k1 k2
   have p1:=pos i hij (by omega)
   have p2:=pos (i+1) (by omega) (by omega)
   rw[if_neg (by omega)]
   exact h.cell i hi (k+1) (by omega) (by omega)
 ·intro i m hm him
  show(if i≤j then q i else q i-1)+8*m≤(if i+m≤j then q (i+m)else q (i+m)-1)+1∧(if i+m≤j then q (i+m)else q (i+m)-1)≤(if i≤j then q i else q i-1)+8*m+1
  have hnr:=h.near i m hm him
  by_cases h3:i≤j
  ·rw[if_pos h3]
   by_cases h4:i+m≤j
   ·rw[if_pos h4]
    exact hnr
   ·rw[if_neg h4]
    have:=hn i m hm h3 (by omega) him
    omega
  ·rw[if_neg h3,if_neg (by omega)]
   have p1:=pos i (by omega) (by omega)
   have p2:=pos (i+m) (by omega) him
   omega
theorem jK.insert {c y:List Int}{q:Nat→Nat}(h:jK c y q){a j:Nat}{v:Int}(hj:j<c.length)(h1:q j≤a)(h2:a<q (j+1))(hv:v=c[j])(hn:∀i m,m≤10→i≤j→j<i+m→i+m≤c.length→q (i+m)=q i+8*m):
  jK c (y.take a++ [v]++y.drop a) (fun k=>if k≤j then q k else q k+1):=by
 have ha:a<y.length:=by
  have:=h.le (show j+1≤c.length by omega) (Nat.le_refl _)
  rw[h.len]at this
  omega
 have pos:∀k,j<k→k≤c.length→a<q k:=fun k hk hkl=>Nat.lt_of_lt_of_le h2 (h.le (by omega) hkl)
 refine⟨?_, ?_, ?_, ?_⟩
 ·show(if 0≤j then q 0 else q 0+1)=0
  rw[if_pos (Nat.zero_le _)]
  exact h.zero
 ·show(if c.length≤j then q c.length else q c.length+1)=_
  rw[if_neg (by omega),h.len]
  simp
  omega
 ·intro i hi k k1 k2
  have k1:(if i≤j then q i else q i+1)≤k:=k1
  have k2:k<(if i+1≤j then q (i+1)else q (i+1)+1):=k2
  rw[WL y a k v ha]
  rcases Nat.lt_trichotomy i j with hij|hij|hij
  ·rw[if_pos (by omega)]at k1 k2
   have:=h.le (show i+1≤j by omega) (by omega)
   rw[if_pos (by omega)]
   exact h.cell i hi k k1 k2
  ·subst hij
   rw[if_pos (Nat.le_refl _)]at k1
   rw[if_neg (by omega)]at k2
   split
   ·exact h.cell i hi k k1 (by omega)
   ·split
    ·rw[hv]
    ·exact h.cell i hi (k-1) (by omega) (by omega)
  ·rw[if_neg (by omega)]at k1 k2
   have p1:=pos i hij (by omega)
   rw[if_neg (by omega),if_neg (by omega)]
   exact h.cell i hi (k-1) (by omega) (by omega)
 ·intro i m hm him
  show(if i≤j then q i else q i+1)+8*m≤(if i+m≤j then q (i+m)else q (i+m)+1)+1∧(if i+m≤j then q (i+m)else q (i+m)+1)≤(if i≤j then q i else q i+1)+8*m+1
  have hnr:=h.near i m hm him
  by_cases h3:i≤j
  ·rw[if_pos h3]
   by_cases h4:i+m≤j
   ·rw[if_pos h4]
    exact hnr
   ·rw[if_neg h4]
    have:=hn i m hm h3 (by omega) him
    omega
  ·rw[if_neg h3,if_neg (by omega)]
   omega
theorem PL {q:Nat→Nat}{t N:Nat}(ht:∀k,t≤k→k<N→q (k+1)=q k+8)(i:Nat)(hi:t≤i):∀m,i+m≤N→q (i+m)=q i+8*m
 |0,_=>rfl
 |m+1,hm=>by
  have:=PL ht i hi m (by omega)
  have h2:=ht (i+m) (by omega) (by omega)
  rw[show i+(m+1)=i+m+1 from by omega]
  omega
theorem jK.slips {c:List Int}:∀(S:List av.T) (y:List Int) (q:Nat→Nat) (t:Nat),jK c y q→(∀k,t≤k→k<c.length→q (k+1)=q k+8)→(t=0∨∃b:Nat,1≤t∧t≤c.length∧q (t-1)≤b∧∀f r,S=f::r→(b:Int)+160≤(f.2.1:Int))→
  uu y S→jJ 160 S→y.length+S.length≤8192→∃q',jK c (dL y S) q'
 | [],y,q,t,h,_,_,_,_,_=>⟨q,h⟩
 |f::r,y,q,t,h,ht,hb,hs,hp,hl=>by
  obtain⟨⟨a,ea,el,ha,hk⟩,hs2⟩:=hs
  obtain⟨j,hj,j1,j2⟩:=h.find c.length (Nat.le_refl _) (by rw[h.len];exact ha)
  have htj:t≤j-9:=by
   rcases hb with hb|⟨b,t1,t2,hq,hb⟩
   ·omega
   ·have:=hb f r rfl
    rw[ea]at this
    rcases Nat.lt_or_ge (j-9) t with hlt|hge
    ·exfalso
     rcases Nat.lt_or_ge (j+1) t with h3|h3
     ·have:=h.le (show j+1≤t-1 by omega) (by omega)
      omega
     ·have hm:=(h.near (t-1) (j+1-(t-1)) (by omega) (by omega)).2
      rw[show t-1+(j+1-(t-1))=j+1 from by omega]at hm
      omega
    ·exact hge
  have hn:∀i m,m≤10→i≤j→j<i+m→i+m≤c.length→q (i+m)=q i+8*m:=fun i m hm hi hjm him=>PL ht i (by omega) m him
  have hpr:jJ 160 r∧∀g s,r=g::s→(a:Int)+160≤(g.2.1:Int):=by
   cases r with
   |nil=>exact⟨trivial,fun g s e=>by cases e⟩
   |cons g s=>
    refine⟨hp.2,fun g' s' e=> ?_⟩
    cases e
    have:=hp.1
    rw[ea]at this
    omega
  have pos:∀k,j<k→k≤c.length→a<q k:=fun k hk hkl=>Nat.lt_of_lt_of_le j2 (h.le (by omega) hkl)
  obtain⟨(k:Int),(a':Int),(d:Int),(v:Int),⟨⟩⟩:=f
  have ea:a'=(a:Int):=ea
  have el:d=1:=el
  subst ea el
  have hyl:(co y (k,(a:Int),(1:Int),v,())).length+r.length≤8192∧∃q',jK c (co y (k,(a:Int),(1:Int),v,())) q'∧(∀i,j+1≤i→i<c.length→q' (i+1)=q' i+8)∧q' j=q j:=by
   rcases hk with hk|⟨hk,hv⟩
   ·have hk:k=3:=hk
    have e:co y (k,(a:Int),(1:Int),v,())=y.take a++y.drop (a+1):=by
     unfold co
     rw[hk,if_neg (show ¬(3:Int)=1 by decide),if_neg (show ¬(3:Int)=2 by decide),if_pos (show(3:Int)=3 from rfl)]
     show y.take (min a y.length)++y.drop (min (a+1) y.length)=_
     rw[show min a y.length=a from by omega,show min (a+1) y.length=a+1 from by omega]
    rw[e]
    refine⟨by simp at hl ⊢;omega,_,h.drop hj j1 j2 hn,fun i hi hil=> ?_,if_pos (Nat.le_refl _)⟩
    show(if i+1≤j then q (i+1)else q (i+1)-1)=(if i≤j then q i else q i-1)+8
    rw[if_neg (by omega),if_neg (by omega),ht i (by omega) hil]
    have:=pos i (by omega) (by omega)
    omega
   ·have hk:k=4:=hk
    have hv:v=y[a]:=hv
    have hcj:v=c[j]:=by
     have:=h.cell j hj a j1 j2
     rw[List.getElem?_eq_getElem ha]at this
     rw[hv]
     exact Option.some.inj this
    have e:co y (k,(a:Int),(1:Int),v,())=y.take a++ [v]++y.drop a:=by
     rw[hk]
     have:=Yd y a 1 v
     have this:co y ((4:Int),(a:Int),(1:Int),v,())=_:=this
     rw[this,if_pos (by omega)]
     show(y.take a++ [v]++y.drop a).take 8192=_
     exact List.take_of_length_le (by simp at hl ⊢;omega)
    rw[e]
    refine⟨by simp at hl ⊢;omega,_,h.insert hj j1 j2 hcj hn,fun i hi hil=> ?_,if_pos (Nat.le_refl _)⟩
    show(if i+1≤j then q (i+1)else q (i+1)+1)=(if i≤j then q i else q i+1)+8
    rw[if_neg (by omega),if_neg (by omega),ht i (by omega) hil]
  obtain⟨hl2,q',hq1,hq2,hq3⟩:=hyl
  exact jK.slips r _ q' (j+1) hq1 hq2 (.inr ⟨a,by omega,by omega,by rw[Nat.add_sub_cancel,hq3];exact j1,hpr.2⟩) hs2 hpr.1 hl2
theorem abv {y:List Int}{k:Nat}{v:Int}(h:y[k]? =some v):cR y (k:Int)=v:=by
 unfold cR
 rw[if_neg (by omega),Int.toNat_natCast,List.getD_eq_getElem?_getD,h]
 rfl
theorem jK.signal {B A:Nat}{L y:List Int}{q:Nat→Nat}(h:jK (eS B A L) y q)(hb:∀v ∈ L,0≤v∧v≤255):gM y (10+10*L.length) (ji L) (fun j=>q (B+j)) (fun _=>0):=by
 have hl:=rR B A L
 have val:∀(k i:Nat) (hk:k<(eS B A L).length),q k≤i→i<q (k+1)→cR y (i:Int)=if k<B then 1 else ji L (k-B):=fun k i hk h1 h2=>by
  rw[abv (h.cell k hk i h1 h2),CX]
 have line:∀(j:Nat) (i:Int),j≤10+10*L.length→(q (B+j):Int)≤i→i<y.length→(j<10+10*L.length→i<(q (B+(j+1)):Int))→cR y i=ji L j:=fun j i hj h1 h2 h3=>by
  obtain⟨n,rfl⟩:∃n:Nat,i=n:=⟨i.toNat,by omega⟩
  rcases Nat.lt_or_ge j (10+10*L.length)with hjm|hjm
  ·have:=h3 hjm
   rw[val (B+j) n (by omega) (by omega) (by rw[Nat.add_assoc];omega),if_neg (by omega),Nat.add_sub_cancel_left]
  ·obtain⟨k,k0,k1,k2⟩:=h.find (eS B A L).length (Nat.le_refl _) (show n<q (eS B A L).length by rw[h.len];omega)
   have hk:B+j≤k:=by
    rcases Nat.lt_or_ge k (B+j)with hlt|hge
    ·have:=h.le (show k+1≤B+j by omega) (by omega)
     omega
    ·exact hge
   rw[val k n k0 k1 k2,if_neg (by omega),wH L _ (by omega),wH L j hjm]
 refine⟨Kz hb,(rQ L).high,fun _=>Int.le_refl 0,fun _=>(show(0:Int)+0+0+0+0+0≤1 by decide), ?_, ?_, ?_, ?_, ?_, ?_⟩
 ·intro i hi
  by_cases h0:i<0
  ·unfold cR
   rw[if_pos h0]
   rfl
  ·obtain⟨n,rfl⟩:∃n:Nat,i=n:=⟨i.toNat,by omega⟩
   have hi:(n:Int)<(q (B+0):Int):=hi
   obtain⟨k,k0,k1,k2⟩:=h.find (k:=n) (B+0) (by omega) (by omega)
   rw[val k n (by omega) k1 k2,if_pos (by omega)]
   rfl
 ·intro j hj hc i h1 h2 h3
  rw[line j i hj h1 h2 h3,hc]
  rfl
 ·intro j hj hc i h1 h2 h3
  rw[line j i hj h1 h2 h3,hc]
 ·intro j hj
  have:=(h.near (B+j) 1 (by omega) (by omega)).1
  show q (B+j)+7≤q (B+(j+1))
  rw[←Nat.add_assoc]
  omega
 ·have h1:=(h.near (B+(10+10*L.length)) 1 (by omega) (by omega)).1
  have h2:=h.le (show B+(10+10*L.length)+1≤(eS B A L).length by omega) (Nat.le_refl _)
  rw[h.len]at h2
  show q (B+(10+10*L.length))+3≤y.length
  omega
 ·intro j m hm hjm
  have:=h.near (B+j) m hm (by omega)
  show q (B+j)+8*m≤q (B+(j+m))+1∧q (B+(j+m))≤q (B+j)+8*m+1
  rw[←Nat.add_assoc]
  exact this
theorem jK.decoded {B A:Nat}{L y:List Int}{q:Nat→Nat}(h:jK (eS B A L) y q)(hb:∀v ∈ L,0≤v∧v≤255):cG y=(L,(0:Int),()):=by
 have:=(h.signal hb).decoded (rQ L)
 rw[MW hb]at this
 exact this
theorem WM {m:an.T}{st:ai.T}{f:aB.T}(h:cu m=true)(hs:ig m st f=true)(hl:(aZ (bV m st f)).length≤8100)(S:List av.T)(hS:S.length≤30)(hq:uu (aZ (bV m st f)) S)(hp:jJ 160 S):fP m st (dL (aZ (bV m st f)) S)=((3:Int),f,()):=by
 obtain⟨q',hL⟩:=jK.slips S (aZ (bV m st f)) (fun i=>8*i) 0 (WK (bV m st f)) (fun k _ _=>by show 8*(k+1)=8*k+8;omega) (.inl rfl) hq hp (by omega)
 rw[yp]at hL ⊢
 unfold fP
 rw[hL.decoded (wK h (wJ hs)),if_pos rfl]
 exact MY h hs
theorem Tk {m:an.T}{st:ai.T}{f:aB.T}(h:cu m=true)(hs:ig m st f=true)(hl:(aZ (bV m st f)).length≤8100)(S:List av.T)(hS:dp S=true)(hq:(jJ 6 S∧∀f ∈ S,(f.1:Int)=1)∨(uu (aZ (bV m st f)) S∧jJ 160 S)):fP m st (dL (aZ (bV m st f)) S)=((3:Int),f,()):=by
 obtain⟨l1,l2⟩:=rM hS
 rcases hq with⟨q1,q2⟩|⟨q1,q2⟩
 ·exact WJ h hs S (fun g hg=>⟨q2 g hg,l2 g hg⟩) q1
 ·exact WM h hs hl S (by omega) q1 q2
end Go.Proofs.YtkgcbbkodalfmaaGreatDoor
