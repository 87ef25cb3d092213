import Derived.Test.YtkgcbbkodalfmaaGreatDoorQ1
namespace Go.Proofs.YtkgcbbkodalfmaaGreatDoor
open Go.RowKit
set_option linter.unusedVariables false
set_option linter.unusedSimpArgs false
theorem Ws(x):rz x=some (aS x.1 0 31,()):=by
 unfold rz
 simp only[i9]
theorem Ri(x):kN x=some (aS x.1 0 31,()):=by
 unfold kN
 simp only[kS]
end Go.Proofs.YtkgcbbkodalfmaaGreatDoor
namespace Go.Proofs.YtkgcbbkodalfmaaGreatDoor
open Go.RowKit
set_option linter.unusedVariables false
set_option linter.unusedSimpArgs false
theorem Wt {α:Type}(p:α→Bool):∀l:List α,(∀x ∈ l.dropWhile p,p x=true)→l.dropWhile p= []
 | [],_=>rfl
 |a::l,h=>by
  by_cases ha:p a=true
  ·rw[List.dropWhile_cons_of_pos ha]at h ⊢
   exact Wt p l h
  ·rw[List.dropWhile_cons_of_neg ha]at h
   exact absurd (h a (by simp)) ha
theorem K5 {α:Type}(p:α→Bool):∀l:List α,l.dropWhile p= []↔∀x ∈ l,p x=true
 | []=>by simp
 |a::l=>by
  by_cases ha:p a=true
  ·rw[List.dropWhile_cons_of_pos ha,K5 p l]
   simp[ha]
  ·rw[List.dropWhile_cons_of_neg ha]
   simp[ha]
theorem XC(s cs:List UInt8):(Lib.trimS s cs== [])=s.all (fun b=>cs.contains b):=by
 have e:Lib.trimS s cs= []↔∀b ∈ s,cs.contains b=true:=by
  unfold Lib.trimS Lib.trimLeftS Lib.trimRightS
  constructor
  ·intro h
   have h1:=(K5 _ _).1 h
   have h2:=Wt (fun b=>cs.contains b) s.reverse (fun x hx=>h1 x (by simpa using hx))
   have h3:=(K5 _ _).1 h2
   exact fun b hb=>h3 b (by simpa using hb)
  ·intro h
   have:s.reverse.dropWhile (fun b=>cs.contains b)= []:=(K5 _ _).2 (fun b hb=>h b (by simpa using hb))
   rw[this]
   rfl
 by_cases h:Lib.trimS s cs= []
 ·rw[h,List.all_eq_true.2 (e.1 h)];rfl
 ·have h2:¬(s.all (fun b=>cs.contains b)=true):=fun h3=>h (e.2 (List.all_eq_true.1 h3))
  have h3:(Lib.trimS s cs== [])=false:=by simpa using h
  rw[h3]
  simpa using h2
def xd(b:UInt8):Bool:=if(b.toNat:Int)<97 then(if(b.toNat:Int)<48 then false else if(b.toNat:Int)>57 then false else true)else if(b.toNat:Int)>122 then(if(b.toNat:Int)<48 then false else if(b.toNat:Int)>57 then false else true)else true
def K6:List UInt8:=[97,98,99,100,101,102,103,104,105,106,107,108,109,110,111,112,113,114,115,116,117,118,119,120,121,122,48,49,50,51,52,53,54,55,56,57]
theorem YF(b:UInt8):K6.contains b=xd b:=by
 have h:∀n:Fin 256,K6.contains (UInt8.ofNat n.1)=xd (UInt8.ofNat n.1):=by decide+kernel
 have:=h ⟨b.toNat,b.toNat_lt⟩
 simpa using this
def K7(s:List UInt8):Bool:=s.all xd&&(decide ((s.length:Int)≥1)&&decide ((s.length:Int)≤6))
theorem ZI(s:List UInt8)(hs:s.length≤1099511627776):ww (s,())=some (K7 s,()):=by
 have e:=i8 (B:=ic) s (fun i=>(s,(i:Int),())) xd (.inl (s,())) (.inr (false,())) (by simp only[ic,be]) (fun i h=>by
  simp only[ic,a7 h,aG h hs,ar h,aa]
  generalize s[i]=b
  unfold xd
  by_cases h1:(b.toNat:Int)<97<;>by_cases h2:(b.toNat:Int)>122<;>by_cases h3:(b.toNat:Int)<48<;>by_cases h4:(b.toNat:Int)>57<;>simp[h1,h2,h3,h4])
 have e':ag ic (s,(0:Int),())=_:=e
 unfold ww K7
 simp only[e']
 rcases Bool.eq_false_or_eq_true (s.all xd)with h|h<;>simp only[h,Bool.true_and,Bool.false_and,if_true]
 ·rcases Bool.eq_false_or_eq_true (decide ((s.length:Int)≥1))with h1|h1<;>simp only[h1,Bool.true_and,Bool.false_and]
 ·rfl
def ue(v:ak.T):Bool:=aS v.1 0 31&&(K7 v.2.1&&aS v.2.2.1 0 1000)
theorem US(x)(h:x.1.2.1.length≤1099511627776):pF x=some (ue x.1,()):=by
 have hn:=ZI x.1.2.1 h
 unfold pF ue
 simp only[Ws,hn,i9]
 rcases Bool.eq_false_or_eq_true (aS x.1.1 0 31)with h1|h1<;>rcases Bool.eq_false_or_eq_true (K7 x.1.2.1)with h2|h2<;>simp only[h1,h2]<;>rfl
theorem UT(x):l7 x=some (ue x.1,()):=by
 unfold l7 ue K7
 simp only[Ri,kS]
 rcases Bool.eq_false_or_eq_true (decide ((x.1.2.1.length:Int)≥1))with h1|h1<;>simp only[h1,Bool.true_and,Bool.false_and,Bool.and_false]
 rcases Bool.eq_false_or_eq_true (decide ((x.1.2.1.length:Int)≤6))with h2|h2<;>simp only[h2,Bool.true_and,Bool.false_and,Bool.and_false,Bool.and_true]
 have h6:x.1.2.1.length≤1048576:=by
  have:=of_decide_eq_true h2
  omega
 have ht:uR (x.1.2.1,([97,98,99,100,101,102,103,104,105,106,107,108,109,110,111,112,113,114,115,116,117,118,119,120,121,122,48,49,50,51,52,53,54,55,56,57]:List UInt8),())=some (Lib.trimS x.1.2.1 K6,()):=by
  show aa (Ji x.1.2.1 K6) (fun s=>some (s,()))=_
  unfold Ji
  rw[if_pos ⟨h6,by decide,by decide⟩]
  rfl
 have hc:x.1.2.1.all (fun b=>K6.contains b)=x.1.2.1.all xd:=by
  congr 1
  funext b
  exact YF b
 simp only[ht,XC,hc]
 rcases Bool.eq_false_or_eq_true (x.1.2.1.all xd)with h3|h3<;>rcases Bool.eq_false_or_eq_true (aS x.1.1 0 31)with h4|h4<;>simp only[h3,h4]<;>rfl
def r6(l:List ak.T)(i:Nat):Bool:=match l[i]? with
 |none=>false
 |some v=>ue v&&((match i with
  |0=>true
  |k+1=>match l[k]? with
   |none=>false
   |some u=> !decide (v.1≤u.1))&& !(l.take i).any (fun u=>u.2.1==v.2.1))
def f3(l:List ak.T):Bool:=aS (l.length:Int) 1 32&&(List.range l.length).all (r6 l)
theorem YG(l:List ak.T)(hl:l.length≤1099511627776)(i:Nat)(hi:i<l.length):ag cZ (l,(i:Int),(0:Int),())=some (if(l.take i).any (fun u=>u.2.1==l[i].2.1)then .inr (false,())else .inl (l,(i:Int),())):=by
 have e:=i8 (B:=cZ) (l.take i) (fun j=>(l,(i:Int),(j:Int),())) (fun u=> !(u.2.1==l[i].2.1)) (.inl (l,(i:Int),())) (.inr (false,())) (by
  rw[List.length_take,Nat.min_eq_left (Nat.le_of_lt hi)]
  simp only[cZ,be]) (fun j hj=>by
  have hj':j<i:=by rw[List.length_take]at hj;omega
  have hjl:j<l.length:=by omega
  have hg:(l.take i)[j]=l[j]:=by simp
  rw[hg]
  simp only[cZ,a7 hj',aG hjl hl,ar hjl,ar hi,aa]
  rcases Bool.eq_false_or_eq_true (l[j].2.1==l[i].2.1)with h1|h1<;>simp only[h1]<;>rfl)
 have e':ag cZ (l,(i:Int),(0:Int),())=_:=e
 rw[e',zj]
 simp only[Bool.not_not]
 cases (l.take i).any (fun u=>u.2.1==l[i].2.1)<;>rfl
theorem zp {i:Nat}(h:i+1≤1099511627776):IntKind.i64.wrap (((i+1:Nat):Int)-1)=(i:Int):=by rw[wrap_i64]<;>omega
theorem Ff(i:Nat):decide (((i+1:Nat):Int)>0)=true:=decide_eq_true (by omega)
theorem YH(l:List ak.T)(hl:l.length≤1099511627776)(hn:∀v ∈ l,v.2.1.length≤1099511627776):nW (l,())=some (f3 l,()):=by
 have e:=ge (B:=eJ) l.length (fun i=>(l,(i:Int),())) (r6 l) (.inl ()) (.inr (false,())) (by simp only[eJ,be]) (fun i h=>by
  have hv:=US (l[i],()) (hn _ (List.getElem_mem h))
  have hc:=YG l hl i h
  simp only[eJ,a7 h,aG h hl,ar h,aa,hv,r6,List.getElem?_eq_getElem h]
  rcases Bool.eq_false_or_eq_true (ue l[i])with h1|h1<;>simp only[h1,Bool.not_true,Bool.not_false,Bool.true_and,Bool.false_and]
  ·cases i with
   |zero=>
    have z:decide (((0:Nat):Int)>0)=false:=rfl
    simp only[z,hc,Bool.true_and]
    rfl
   |succ k=>
    have hk:k<l.length:=by omega
    simp only[Ff,zp (show k+1≤1099511627776 by omega),ar hk,List.getElem?_eq_getElem hk]
    rcases Bool.eq_false_or_eq_true (decide (l[k+1].1≤l[k].1))with h2|h2<;>simp only[h2,Bool.not_true,Bool.not_false,Bool.true_and,Bool.false_and]
    ·rfl
    ·simp only[hc]
     cases (l.take (k+1)).any (fun u=>u.2.1==l[k+1].2.1)
     ·show some (Sum.inl (l,IntKind.i64.wrap (((k+1:Nat):Int)+1),()))=some (.inl (l,((k+1+1:Nat):Int),()))
      rw[aG h hl]
     ·rfl
  ·rfl)
 have e':ag eJ (l,(0:Int),())=_:=e
 unfold nW f3
 simp only[i9,e']
 rcases Bool.eq_false_or_eq_true (aS (l.length:Int) 1 32)with h1|h1<;>simp only[h1]<;>rcases Bool.eq_false_or_eq_true ((List.range l.length).all (r6 l))with h2|h2<;>simp only[h2]<;>rfl
theorem YI(l:List ak.T)(hl:l.length≤1099511627776):nZ (l,())=some (f3 l,()):=by
 have e:=ge (B:=eO) l.length (fun i=>(l,l,(l.length:Int),(i:Int),())) (r6 l) (.inl (l,())) (.inr (false,())) (by simp only[eO,be]) (fun i h=>by
  have hv:l7 ((l[i].1,l[i].2.1,l[i].2.2.1,l[i].2.2.2.1,()),())=some (ue l[i],()):=UT (l[i],())
  have hb:aL l.length none (some (.dat (.int .i64) (i:Int)))=some (0,i):=by
   simp only[aL,jy,iQ]
   rw[if_pos ⟨by omega,by omega,by omega⟩]
   simp
  have hc:=FX (l.take i) (by rw[List.length_take];omega) (fun z=>jC (z.1,(l[i].1,l[i].2.1,l[i].2.2.1,l[i].2.2.2.1,()),())) (fun u=>u.2.1==l[i].2.1) (fun j hj=>rfl)
  have hc:cK (List.drop 0 (List.take i l),(fun z=>jC (z.1,(l[i].1,l[i].2.1,l[i].2.2.1,l[i].2.2.2.1,()),())),())=_:=hc
  simp only[eO,a7 h,aG h hl,ar h,aa,hv,hb,hc,r6,List.getElem?_eq_getElem h]
  rcases Bool.eq_false_or_eq_true (ue l[i])with h1|h1<;>simp only[h1,Bool.not_true,Bool.not_false,Bool.true_and,Bool.false_and]
  ·cases i with
   |zero=>rfl
   |succ k=>
    have hk:k<l.length:=by omega
    have hge:decide (l[k].1≥l[k+1].1)=decide (l[k+1].1≤l[k].1):=rfl
    simp only[Ff,zp (show k+1≤1099511627776 by omega),ar hk,List.getElem?_eq_getElem hk,hge]
    rcases Bool.eq_false_or_eq_true (decide (l[k+1].1≤l[k].1))with h2|h2<;>simp only[h2,Bool.not_true,Bool.not_false,Bool.true_and,Bool.false_and]
    ·rfl
    ·cases (l.take (k+1)).any (fun u=>u.2.1==l[k+1].2.1)
     ·rfl
     ·rfl
  ·rfl)
 have e':ag eO (l,l,(l.length:Int),(0:Int),())=_:=e
 unfold nZ f3 aS
 simp only[e']
 rcases Bool.eq_false_or_eq_true ((List.range l.length).all (r6 l))with h2|h2<;>simp only[h2,if_true,Bool.and_true,Bool.and_false]
 ·rcases Bool.eq_false_or_eq_true (decide ((l.length:Int)≥1))with h1|h1<;>simp only[h1]<;>rfl
 ·rfl
end Go.Proofs.YtkgcbbkodalfmaaGreatDoor
namespace Go.Proofs.YtkgcbbkodalfmaaGreatDoor
open Go.RowKit
set_option linter.unusedVariables false
set_option linter.unusedSimpArgs false
def r7(l:List Int)(n:Nat)(i:Nat):Bool:=match l[i]? with
 |none=>false
 |some v=>aS v 0 ((n:Int)-1)&&(match i with
  |0=>true
  |k+1=>match l[k]? with
   |none=>false
   |some u=> !decide (v≤u))
def nQ(l:List Int)(n:Nat):Bool:=(List.range l.length).all (r7 l n)
theorem YJ(l:List Int)(n:Nat)(hl:l.length≤1099511627776)(hn:n≤1099511627776):tQ (l,(n:Int),())=some (nQ l n,()):=by
 have hw:IntKind.i64.wrap ((n:Int)-1)=(n:Int)-1:=by rw[wrap_i64]<;>omega
 have e:=ge (B:=gq) l.length (fun i=>(l,(n:Int),(i:Int),())) (r7 l n) (.inl ()) (.inr (false,())) (by simp only[gq,be]) (fun i h=>by
  simp only[gq,a7 h,aG h hl,ar h,aa,i9,hw,r7,List.getElem?_eq_getElem h]
  rcases Bool.eq_false_or_eq_true (aS l[i] 0 ((n:Int)-1))with h1|h1<;>simp only[h1,Bool.not_true,Bool.not_false,Bool.true_and,Bool.false_and]
  ·cases i with
   |zero=>rfl
   |succ k=>
    have hk:k<l.length:=by omega
    simp only[Ff,zp (show k+1≤1099511627776 by omega),ar hk,List.getElem?_eq_getElem hk]
    rcases Bool.eq_false_or_eq_true (decide (l[k+1]≤l[k]))with h2|h2<;>simp only[h2]<;>rfl
  ·rfl)
 have e':ag gq (l,(n:Int),(0:Int),())=_:=e
 unfold tQ nQ
 simp only[e']
 rcases Bool.eq_false_or_eq_true ((List.range l.length).all (r7 l n))with h2|h2<;>simp only[h2]<;>rfl
theorem YK(l:List Int)(n:Nat)(hl:l.length≤1099511627776)(hn:n≤1099511627776):tR (l,(n:Int),())=some (nQ l n,()):=by
 have e:=ge (B:=gt) l.length (fun i=>(l,(n:Int),l,(l.length:Int),(i:Int),())) (r7 l n) (.inl ()) (.inr (false,())) (by simp only[gt,be]) (fun i h=>by
  have hin:aS l[i] 0 ((n:Int)-1)=(!decide (l[i]<0)&& !decide (l[i]≥(n:Int))):=by
   unfold aS
   by_cases h1:l[i]<0<;>by_cases h2:l[i]≥(n:Int)<;>simp[h1,h2]<;>omega
  simp only[gt,a7 h,aG h hl,ar h,aa,r7,List.getElem?_eq_getElem h,hin]
  rcases Bool.eq_false_or_eq_true (decide (l[i]<0))with h1|h1<;>simp only[h1,Bool.not_true,Bool.not_false,Bool.true_and,Bool.false_and]
  ·rfl
  ·rcases Bool.eq_false_or_eq_true (decide (l[i]≥(n:Int)))with h3|h3<;>simp only[h3,Bool.not_true,Bool.not_false,Bool.true_and,Bool.false_and]
   ·rfl
   ·cases i with
    |zero=>rfl
    |succ k=>
     have hk:k<l.length:=by omega
     have hge:decide (l[k]≥l[k+1])=decide (l[k+1]≤l[k]):=rfl
     simp only[Ff,zp (show k+1≤1099511627776 by omega),ar hk,List.getElem?_eq_getElem hk,hge]
     rcases Bool.eq_false_or_eq_true (decide (l[k+1]≤l[k]))with h2|h2<;>simp only[h2]<;>rfl)
 have e':ag gt (l,(n:Int),l,(l.length:Int),(0:Int),())=_:=e
 unfold tR nQ
 simp only[e']
 rcases Bool.eq_false_or_eq_true ((List.range l.length).all (r7 l n))with h2|h2<;>simp only[h2]<;>rfl
theorem Wu(l:List Int)(v:Int)(hl:l.length≤1099511627776):ou (l,v,())=some (l.any (fun u=>u==v),()):=by
 have e:=kR (B:=iX) l (fun i=>(l,v,(i:Int),())) (fun u=>u==v) (.inl ()) (fun _=>.inr (true,())) (by simp only[iX,be]) (fun i h=>by
  simp only[iX,a7 h,aG h hl,ar h,aa]
  rcases Bool.eq_false_or_eq_true (l[i]==v)with h1|h1<;>simp only[h1]<;>rfl)
 have e':ag iX (l,v,(0:Int),())=_:=e
 unfold ou
 rw[←fm (fun u=>u==v) 0 l]
 simp only[e']
 cases bv (fun u=>u==v) 0 l<;>rfl
theorem G1(l:List Int)(v:Int)(hl:l.length≤1099511627776):fE (l,v,())=some (l.any (fun u=>u==v),()):=by
 have e:=kR (B:=cS) l (fun i=>(l,v,(l.length:Int),(i:Int),())) (fun u=>u==v) (.inl ()) (fun j=>.inr ((j:Int),())) (by simp only[cS,be]) (fun i h=>by
  have hc:(v==l[i])=(l[i]==v):=by
   by_cases h:v=l[i]
   ·rw[h]
   ·have h1:(v==l[i])=false:=by simpa using h
    have h2:(l[i]==v)=false:=by simpa using fun e:l[i]=v=>h e.symm
    rw[h1,h2]
  simp only[cS,a7 h,aG h hl,ar h,aa,hc]
  rcases Bool.eq_false_or_eq_true (l[i]==v)with h1|h1<;>simp only[h1]<;>rfl)
 have e':ag cS (l,v,(l.length:Int),(0:Int),())=_:=e
 unfold fE l8
 rw[←fm (fun u=>u==v) 0 l]
 simp only[e']
 cases bv (fun u=>u==v) 0 l with
 |none=>rfl
 |some j=>
  have:decide ((j:Int)≥0)=true:=decide_eq_true (by omega)
  simp only[this,Option.isSome]
def qj(l:List al.T)(i:Nat):Bool:=match l[i]? with
 |none=>false
 |some v=>aS v.1 1 8&&(aS v.2.1 1 16&&(nQ v.2.2.1 l.length&& !v.2.2.1.any (fun u=>u==(i:Int))))
def eH(l:List al.T):Bool:=aS (l.length:Int) 1 16&&(List.range l.length).all (qj l)
theorem YL(l:List al.T)(hl:l.length≤1099511627776)(hn:∀v ∈ l,v.2.2.1.length≤1099511627776):nX (l,())=some (eH l,()):=by
 have e:=ge (B:=eK) l.length (fun i=>(l,(i:Int),())) (qj l) (.inl ()) (.inr (false,())) (by simp only[eK,be]) (fun i h=>by
  have h1:=YJ l[i].2.2.1 l.length (hn _ (List.getElem_mem h)) hl
  have h2:=Wu l[i].2.2.1 (i:Int) (hn _ (List.getElem_mem h))
  simp only[eK,a7 h,aG h hl,ar h,aa,i9,h1,h2,qj,List.getElem?_eq_getElem h]
  rcases Bool.eq_false_or_eq_true (aS l[i].1 1 8)with g1|g1<;>simp only[g1,Bool.not_true,Bool.not_false,Bool.true_and,Bool.false_and]
  ·rcases Bool.eq_false_or_eq_true (aS l[i].2.1 1 16)with g2|g2<;>simp only[g2,Bool.not_true,Bool.not_false,Bool.true_and,Bool.false_and]
   ·rcases Bool.eq_false_or_eq_true (nQ l[i].2.2.1 l.length)with g3|g3<;>simp only[g3,Bool.not_true,Bool.not_false,Bool.true_and,Bool.false_and]
    ·rcases Bool.eq_false_or_eq_true (l[i].2.2.1.any (fun u=>u==(i:Int)))with g4|g4<;>simp only[g4]<;>rfl
    ·rfl
   ·rfl
  ·rfl)
 have e':ag eK (l,(0:Int),())=_:=e
 unfold nX eH
 simp only[i9,e']
 rcases Bool.eq_false_or_eq_true (aS (l.length:Int) 1 16)with h1|h1<;>simp only[h1]<;>rcases Bool.eq_false_or_eq_true ((List.range l.length).all (qj l))with h2|h2<;>simp only[h2]<;>rfl
theorem TO(l:List al.T)(hl:l.length≤1099511627776)(hn:∀v ∈ l,v.2.2.1.length≤1099511627776):ld (l,())=some (eH l,()):=by
 have e:=ge (B:=eP) l.length (fun i=>(l,l,(l.length:Int),(i:Int),())) (qj l) (.inl (l,())) (.inr (false,())) (by simp only[eP,be]) (fun i h=>by
  have h1:=YK l[i].2.2.1 l.length (hn _ (List.getElem_mem h)) hl
  have h2:=G1 l[i].2.2.1 (i:Int) (hn _ (List.getElem_mem h))
  simp only[eP,a7 h,aG h hl,ar h,aa,kS,h1,h2,qj,List.getElem?_eq_getElem h]
  rcases Bool.eq_false_or_eq_true (aS l[i].1 1 8)with g1|g1<;>simp only[g1,Bool.not_true,Bool.not_false,Bool.true_and,Bool.false_and]
  ·rcases Bool.eq_false_or_eq_true (aS l[i].2.1 1 16)with g2|g2<;>simp only[g2,Bool.not_true,Bool.not_false,Bool.true_and,Bool.false_and]
   ·rcases Bool.eq_false_or_eq_true (nQ l[i].2.2.1 l.length)with g3|g3<;>simp only[g3,Bool.not_true,Bool.not_false,Bool.true_and,Bool.false_and]
    ·rcases Bool.eq_false_or_eq_true (l[i].2.2.1.any (fun u=>u==(i:Int)))with g4|g4<;>simp only[g4]<;>rfl
    ·rfl
   ·rfl
  ·rfl)
 have e':ag eP (l,l,(l.length:Int),(0:Int),())=_:=e
 unfold ld eH aS
 simp only[e']
 rcases Bool.eq_false_or_eq_true ((List.range l.length).all (qj l))with h2|h2<;>simp only[h2,if_true,Bool.and_true,Bool.and_false]
 ·rcases Bool.eq_false_or_eq_true (decide ((l.length:Int)≥1))with h1|h1<;>simp only[h1]<;>rfl
 ·rfl
end Go.Proofs.YtkgcbbkodalfmaaGreatDoor
namespace Go.Proofs.YtkgcbbkodalfmaaGreatDoor
open Go.RowKit
set_option linter.unusedVariables false
set_option linter.unusedSimpArgs false
def kT(k n:Int):Int:=1+(if k != 0 then 8 else 0)+(if g9 k then 1+n else 0)
theorem YM(k n:Int)(h0:0≤n)(h1:n≤1000):tS (k,n,())=some (kT k n,()):=by
 have w1:IntKind.i64.wrap ((1:Int)+8)=9:=by decide
 have w2:IntKind.i64.wrap ((1:Int)+n)=1+n:=by rw[wrap_i64]<;>omega
 have w3:IntKind.i64.wrap (9+(1+n))=1+8+(1+n):=by rw[wrap_i64]<;>omega
 have w4:IntKind.i64.wrap (1+(1+n))=1+0+(1+n):=by rw[wrap_i64]<;>omega
 unfold tS kT
 simp only[ez,K3,w1,w2,w3,w4]
 rcases Bool.eq_false_or_eq_true (k != (0:Int))with h|h<;>rcases Bool.eq_false_or_eq_true (g9 k)with h2|h2<;>simp only[h,h2]<;>rfl
theorem YN(k n:Int)(h0:0≤n)(h1:n≤1000):jq (k,n,())=some (kT k n,()):=by
 have w1:IntKind.i64.wrap ((1:Int)+8)=9:=by decide
 have w2:IntKind.i64.wrap ((9:Int)+1)=10:=by decide
 have w5:IntKind.i64.wrap ((1:Int)+1)=2:=by decide
 have w3:IntKind.i64.wrap (10+n)=1+8+(1+n):=by rw[wrap_i64]<;>omega
 have w4:IntKind.i64.wrap (2+n)=1+0+(1+n):=by rw[wrap_i64]<;>omega
 unfold jq kT
 simp only[dL,K4,w1,w2,w3,w4,w5]
 rcases Bool.eq_false_or_eq_true (k != (0:Int))with h|h<;>rcases Bool.eq_false_or_eq_true (g9 k)with h2|h2<;>simp only[h,h2]<;>rfl
def vI(k n:Int):Int:=11+10*(kT k n+3)
theorem AA(k n:Int)(h0:0≤n)(h1:n≤1000):1≤kT k n∧kT k n≤1010:=by
 unfold kT
 split<;>split<;>omega
theorem TP(b:Int)(h:1≤b∧b≤1010):IntKind.i64.wrap (11+IntKind.i64.wrap (10*IntKind.i64.wrap (b+3)))=11+10*(b+3):=by
 rw[wrap_i64 (n:=b+3) (by omega) (by omega),wrap_i64 (n:=10*(b+3)) (by omega) (by omega),wrap_i64 (by omega) (by omega)]
theorem YO(k n:Int)(h0:0≤n)(h1:n≤1000):lf (k,n,())=some (vI k n,()):=by
 unfold lf vI
 simp only[YM k n h0 h1,TP _ (AA k n h0 h1)]
theorem YP(k n:Int)(h0:0≤n)(h1:n≤1000):dM (k,n,())=some (vI k n,()):=by
 unfold dM vI
 simp only[YN k n h0 h1,TP _ (AA k n h0 h1)]
theorem vJ {k n:Int}(h:jc k n=true):0≤n∧n≤1000:=by
 unfold jc at h
 split at h
 ·have:=aR.1 h;omega
 ·split at h
  ·have:=aR.1 h;omega
  ·have:n=0:=by simpa using h
   omega
def kU(d:bf.T):Bool:=aS d.1 0 31&&(aS d.2.1 0 3&&(jc d.2.1 d.2.2.1&&(!((d.2.1==(3:Int))&&d.2.2.2.2.1)&&aS d.2.2.2.1 (IntKind.i64.wrap (vI d.2.1 d.2.2.1+20)) 1000)))
theorem Rj(x):ex x=some (kU x.1,()):=by
 obtain⟨⟨(a:Int),(k:Int),(n:Int),(t:Int),(c:Bool),u⟩,u'⟩:=x
 unfold ex kU
 simp only[Ws,Wh,Wj,i9]
 rcases Bool.eq_false_or_eq_true (aS a 0 31)with h1|h1<;>simp only[h1,Bool.not_true,Bool.not_false,Bool.true_and,Bool.false_and]
 rcases Bool.eq_false_or_eq_true (aS k 0 3)with h2|h2<;>simp only[h2,Bool.not_true,Bool.not_false,Bool.true_and,Bool.false_and]
 rcases Bool.eq_false_or_eq_true (jc k n)with h3|h3<;>simp only[h3,Bool.not_true,Bool.not_false,Bool.true_and,Bool.false_and]
 have hn:=vJ h3
 simp only[YP k n hn.1 hn.2]
 rcases Bool.eq_false_or_eq_true (k==(3:Int))with h4|h4<;>cases c<;>simp only[h4]<;>rfl
theorem Wv(x):fF x=some (kU x.1,()):=by
 obtain⟨⟨(a:Int),(k:Int),(n:Int),(t:Int),(c:Bool),u⟩,u'⟩:=x
 unfold fF kU
 simp only[Ri,Wi,Wk,kS]
 rcases Bool.eq_false_or_eq_true (aS a 0 31)with h1|h1<;>simp only[h1,Bool.not_true,Bool.not_false,Bool.true_and,Bool.false_and]
 rcases Bool.eq_false_or_eq_true (aS k 0 3)with h2|h2<;>simp only[h2,Bool.not_true,Bool.not_false,Bool.true_and,Bool.false_and]
 rcases Bool.eq_false_or_eq_true (jc k n)with h3|h3<;>simp only[h3,Bool.not_true,Bool.not_false,Bool.true_and,Bool.false_and]
 have hn:=vJ h3
 simp only[YO k n hn.1 hn.2]
 rcases Bool.eq_false_or_eq_true (k==(3:Int))with h4|h4<;>cases c<;>simp only[h4]<;>rfl
def lH(v:aj.T):Bool:=aS v.1 0 15&&(aS v.2.1 0 7&&(aS v.2.2.1 0 15&&kU v.2.2.2.1))
theorem ZJ(x):Fa x=some (lH x.1,()):=by
 have hd:ex ((x.1.2.2.2.1.1,x.1.2.2.2.1.2.1,x.1.2.2.2.1.2.2.1,x.1.2.2.2.1.2.2.2.1,x.1.2.2.2.1.2.2.2.2.1,()),())=some (kU x.1.2.2.2.1,()):=Rj (x.1.2.2.2.1,())
 unfold Fa lH
 simp only[i9,hd]
 rcases Bool.eq_false_or_eq_true (aS x.1.1 0 15)with h1|h1<;>rcases Bool.eq_false_or_eq_true (aS x.1.2.1 0 7)with h2|h2<;>rcases Bool.eq_false_or_eq_true (aS x.1.2.2.1 0 15)with h3|h3<;>simp only[h1,h2,h3]<;>rfl
theorem ZK(x):mb x=some (lH x.1,()):=by
 have hd:fF ((x.1.2.2.2.1.1,x.1.2.2.2.1.2.1,x.1.2.2.2.1.2.2.1,x.1.2.2.2.1.2.2.2.1,x.1.2.2.2.1.2.2.2.2.1,()),())=some (kU x.1.2.2.2.1,()):=Wv (x.1.2.2.2.1,())
 unfold mb lH
 simp only[kS,hd]
 rcases Bool.eq_false_or_eq_true (aS x.1.1 0 15)with h1|h1<;>rcases Bool.eq_false_or_eq_true (aS x.1.2.1 0 7)with h2|h2<;>rcases Bool.eq_false_or_eq_true (aS x.1.2.2.1 0 15)with h3|h3<;>simp only[h1,h2,h3]<;>rfl
def qN(a b:Int):Int:=if a<b then -1 else if a>b then 1 else 0
def nt(u v:aj.T):Int:=if u.1=v.1 then(if u.2.1=v.2.1 then qN u.2.2.1 v.2.2.1 else qN u.2.1 v.2.1)else qN u.1 v.1
theorem aat(x):oY x=some (qN x.1 x.2.1,()):=by
 obtain⟨(a:Int),(b:Int),u⟩:=x
 unfold oY qN
 by_cases h1:a<b
 ·simp only[decide_eq_true h1,if_pos h1]
 ·by_cases h2:a>b
  ·simp only[decide_eq_false h1,decide_eq_true h2,if_neg h1,if_pos h2]
  ·simp only[decide_eq_false h1,decide_eq_false h2,if_neg h1,if_neg h2]
theorem Ww(x):iK x=some (nt x.1 x.2.1,()):=by
 obtain⟨u,v,w⟩:=x
 unfold iK nt
 simp only[aat]
 by_cases h1:u.1=v.1
 ·have g1:(u.1 != v.1)=false:=by rw[h1];exact m4 _
  simp only[g1,if_pos h1]
  by_cases h2:u.2.1=v.2.1
  ·have g2:(u.2.1 != v.2.1)=false:=by rw[h2];exact m4 _
   simp only[g2,if_pos h2]
  ·have g2:(u.2.1 != v.2.1)=true:=by simpa using h2
   simp only[g2,if_neg h2]
 ·have g1:(u.1 != v.1)=true:=by simpa using h1
  simp only[g1,if_neg h1]
theorem IG(l m:List Int)(i:Nat)(hl:i<l.length)(hm:i<m.length)(h3:i<3):ck (l,m,(i:Int),())=if l[i]<m[i]then some (.inr (.inr ((-1:Int),())))else if l[i]>m[i]then some (.inr (.inr ((1:Int),())))else some (.inl (l,m,((i+1:Nat):Int),())):=by
 have hd:decide ((i:Int)<3)=true:=decide_eq_true (by omega)
 simp only[ck,hd,ar hl,ar hm,aa,Int.toNat_natCast,List.getElem?_eq_getElem hl,List.getElem?_eq_getElem hm,aG h3 (by omega)]
 by_cases h1:l[i]<m[i]
 ·simp only[if_pos h1,decide_eq_true h1]
 ·by_cases h2:l[i]>m[i]
  ·simp only[if_neg h1,if_pos h2,decide_eq_false h1,decide_eq_true h2]
  ·simp only[if_neg h1,if_neg h2,decide_eq_false h1,decide_eq_false h2]
theorem ZL(x):mL x=some (nt x.1 x.2.1,()):=by
 obtain⟨⟨(a:Int),(b:Int),(c:Int),d⟩,⟨(a':Int),(b':Int),(c':Int),d'⟩,w⟩:=x
 have e0:=IG [a,b,c] [a',b',c'] 0 (by simp) (by simp) (by omega)
 have e1:=IG [a,b,c] [a',b',c'] 1 (by simp) (by simp) (by omega)
 have e2:=IG [a,b,c] [a',b',c'] 2 (by simp) (by simp) (by omega)
 have e3:ck ([a,b,c],[a',b',c'],((3:Nat):Int),())=some (.inr (.inl ())):=rfl
 have e0:ck ([a,b,c],[a',b',c'],(0:Int),())=if a<a' then some (.inr (.inr ((-1:Int),())))else if a>a' then some (.inr (.inr ((1:Int),())))else some (.inl ([a,b,c],[a',b',c'],((1:Nat):Int),())):=e0
 have e1:ck ([a,b,c],[a',b',c'],((1:Nat):Int),())=if b<b' then some (.inr (.inr ((-1:Int),())))else if b>b' then some (.inr (.inr ((1:Int),())))else some (.inl ([a,b,c],[a',b',c'],((2:Nat):Int),())):=e1
 have e2:ck ([a,b,c],[a',b',c'],((2:Nat):Int),())=if c<c' then some (.inr (.inr ((-1:Int),())))else if c>c' then some (.inr (.inr ((1:Int),())))else some (.inl ([a,b,c],[a',b',c'],((3:Nat):Int),())):=e2
 have hL:ag ck ([a,b,c],[a',b',c'],(0:Int),())=some (if nt (a,b,c,d) (a',b',c',d')=0 then .inl ()else .inr (nt (a,b,c,d) (a',b',c',d'),())):=by
  unfold nt qN
  rw[am,e0]
  by_cases h1:a<a'
  ·simp[h1,Int.ne_of_lt h1]
  ·by_cases h2:a>a'
   ·have:¬a=a':=by omega
    simp[h1,h2,this]
   ·have:a=a':=by omega
    simp only[if_neg h1,if_neg h2,if_pos this]
    rw[am,e1]
    by_cases h1:b<b'
    ·simp[h1,Int.ne_of_lt h1]
    ·by_cases h2:b>b'
     ·have:¬b=b':=by omega
      simp[h1,h2,this]
     ·have:b=b':=by omega
      simp only[if_neg h1,if_neg h2,if_pos this]
      rw[am,e2]
      by_cases h1:c<c'
      ·simp[h1]
      ·by_cases h2:c>c'
       ·simp[h1,h2]
       ·simp only[if_neg h1,if_neg h2]
        rw[am,e3]
        simp
 unfold mL
 simp only[hL,bM]
 by_cases h:nt (a,b,c,d) (a',b',c',d')=0
 ·simp only[h,if_true]
 ·simp only[if_neg h]
def qk(l:List aj.T)(i:Nat):Bool:=match l[i]? with
 |none=>false
 |some v=>lH v&&(match i with
  |0=>true
  |k+1=>match l[k]? with
   |none=>false
   |some u=> !decide (nt u v≥0))
def co(l:List aj.T):Bool:= !decide ((l.length:Int)>120)&&(List.range l.length).all (qk l)
theorem YQ(l:List aj.T)(hl:l.length≤1099511627776):nY (l,())=some (co l,()):=by
 have e:=ge (B:=eL) l.length (fun i=>(l,(i:Int),())) (qk l) (.inl ()) (.inr (false,())) (by simp only[eL,be]) (fun i h=>by
  simp only[eL,a7 h,aG h hl,ar h,aa,ZJ,qk,List.getElem?_eq_getElem h]
  rcases Bool.eq_false_or_eq_true (lH l[i])with h1|h1<;>simp only[h1,Bool.not_true,Bool.not_false,Bool.true_and,Bool.false_and]
  ·cases i with
   |zero=>rfl
   |succ k=>
    have hk:k<l.length:=by omega
    simp only[Ff,zp (show k+1≤1099511627776 by omega),ar hk,List.getElem?_eq_getElem hk,ZL]
    rcases Bool.eq_false_or_eq_true (decide (nt l[k] l[k+1]≥0))with h2|h2<;>simp only[h2]<;>rfl
  ·rfl)
 have e':ag eL (l,(0:Int),())=_:=e
 unfold nY co
 simp only[e']
 rcases Bool.eq_false_or_eq_true (decide ((l.length:Int)>120))with h1|h1<;>simp only[h1]<;>rcases Bool.eq_false_or_eq_true ((List.range l.length).all (qk l))with h2|h2<;>simp only[h2]<;>rfl
theorem YR(l:List aj.T)(hl:l.length≤1099511627776):n6 (l,())=some (co l,()):=by
 have e:=ge (B:=eR) l.length (fun i=>(l,l,(l.length:Int),(i:Int),())) (qk l) (.inl (l,())) (.inr (false,())) (by simp only[eR,be]) (fun i h=>by
  have hv:mb ((l[i].1,l[i].2.1,l[i].2.2.1,(l[i].2.2.2.1.1,l[i].2.2.2.1.2.1,l[i].2.2.2.1.2.2.1,l[i].2.2.2.1.2.2.2.1,l[i].2.2.2.1.2.2.2.2.1,()),()),())=some (lH l[i],()):=ZK (l[i],())
  simp only[eR,a7 h,aG h hl,ar h,aa,hv,qk,List.getElem?_eq_getElem h]
  rcases Bool.eq_false_or_eq_true (lH l[i])with h1|h1<;>simp only[h1,Bool.not_true,Bool.not_false,Bool.true_and,Bool.false_and]
  ·cases i with
   |zero=>rfl
   |succ k=>
    have hk:k<l.length:=by omega
    have hc:iK (l[k],(l[k+1].1,l[k+1].2.1,l[k+1].2.2.1,(l[k+1].2.2.2.1.1,l[k+1].2.2.2.1.2.1,l[k+1].2.2.2.1.2.2.1,l[k+1].2.2.2.1.2.2.2.1,l[k+1].2.2.2.1.2.2.2.2.1,()),()),())=some (nt l[k] l[k+1],()):=Ww (l[k],l[k+1],())
    simp only[Ff,zp (show k+1≤1099511627776 by omega),ar hk,List.getElem?_eq_getElem hk,hc]
    rcases Bool.eq_false_or_eq_true (decide (nt l[k] l[k+1]≥0))with h2|h2<;>simp only[h2]<;>rfl
  ·rfl)
 have e':ag eR (l,l,(l.length:Int),(0:Int),())=_:=e
 have hn:decide ((l.length:Int)≤120)= !decide ((l.length:Int)>120):=by
  by_cases h:(l.length:Int)≤120
  ·rw[decide_eq_true h,decide_eq_false (by omega)];rfl
  ·rw[decide_eq_false h,decide_eq_true (by omega)];rfl
 unfold n6 co
 simp only[e']
 rcases Bool.eq_false_or_eq_true ((List.range l.length).all (qk l))with h2|h2<;>simp only[h2,if_true,Bool.and_true,Bool.and_false,hn]
 rfl
end Go.Proofs.YtkgcbbkodalfmaaGreatDoor
namespace Go.Proofs.YtkgcbbkodalfmaaGreatDoor
open Go.RowKit
set_option linter.unusedVariables false
set_option linter.unusedSimpArgs false
def f4(i r s:Int):Int:=(i*8+r)*16+s
def cY(v:aj.T):Int:=f4 v.1 v.2.1 v.2.2.1
def Rk(v:aj.T):Prop:=(0≤v.1∧v.1≤15)∧(0≤v.2.1∧v.2.1≤7)∧(0≤v.2.2.1∧v.2.2.1≤15)
theorem qO {v:aj.T}(h:lH v=true):Rk v:=by
 unfold lH at h
 simp only[Bool.and_eq_true,aR]at h
 exact⟨h.1,h.2.1,h.2.2.1⟩
def XD(a b c a' b' c':Int):Int:=if a=a' then(if b=b' then qN c c' else qN b b')else qN a a'
theorem Rl(a b:Int):(a<b∧qN a b= -1)∨(a=b∧qN a b=0)∨(b<a∧qN a b=1):=by
 unfold qN
 by_cases h1:a<b
 ·exact .inl ⟨h1,if_pos h1⟩
 ·by_cases h2:a>b
  ·exact .inr (.inr ⟨h2,by rw[if_neg h1,if_pos h2]⟩)
  ·exact .inr (.inl ⟨by omega,by rw[if_neg h1,if_neg h2]⟩)
theorem TQ(a b c a' b' c':Int)(hb:0≤b∧b≤7)(hc:0≤c∧c≤15)(hb':0≤b'∧b'≤7)(hc':0≤c'∧c'≤15):
  (XD a b c a' b' c'=0↔f4 a b c=f4 a' b' c')∧(¬XD a b c a' b' c'≥0→f4 a b c<f4 a' b' c'):=by
 unfold XD f4
 by_cases h1:a=a'
 ·rw[if_pos h1]
  by_cases h2:b=b'
  ·rw[if_pos h2]
   rcases Rl c c' with⟨h,e⟩|⟨h,e⟩|⟨h,e⟩<;>rw[e]<;>omega
  ·rw[if_neg h2]
   rcases Rl b b' with⟨h,e⟩|⟨h,e⟩|⟨h,e⟩<;>rw[e]<;>omega
 ·rw[if_neg h1]
  rcases Rl a a' with⟨h,e⟩|⟨h,e⟩|⟨h,e⟩<;>rw[e]<;>omega
theorem XE {u v:aj.T}(hu:Rk u)(hv:Rk v):nt u v=0↔cY u=cY v:=
 (TQ u.1 u.2.1 u.2.2.1 v.1 v.2.1 v.2.2.1 hu.2.1 hu.2.2 hv.2.1 hv.2.2).1
theorem ZM {u v:aj.T}(hu:Rk u)(hv:Rk v)(h:¬nt u v≥0):cY u<cY v:=
 (TQ u.1 u.2.1 u.2.2.1 v.1 v.2.1 v.2.2.1 hu.2.1 hu.2.2 hv.2.1 hv.2.2).2 h
theorem gW {l:List aj.T}(h:co l=true):∀v ∈ l,lH v=true:=by
 intro v hv
 unfold co at h
 rw[Bool.and_eq_true,List.all_eq_true]at h
 obtain⟨i,hi,rfl⟩:=List.getElem_of_mem hv
 have:=h.2 i (by simpa using hi)
 unfold qk at this
 simp only[List.getElem?_eq_getElem hi,Bool.and_eq_true]at this
 exact this.1
theorem gk {l:List aj.T}(h:co l=true):l.length≤120:=by
 unfold co at h
 rw[Bool.and_eq_true]at h
 have:=h.1
 simp at this
 omega
theorem K8 {l:List aj.T}(h:co l=true)(k:Nat)(hk:k+1<l.length):cY l[k]<cY l[k+1]:=by
 have hm:=gW h
 unfold co at h
 rw[Bool.and_eq_true,List.all_eq_true]at h
 have:=h.2 (k+1) (by simpa using hk)
 unfold qk at this
 simp only[List.getElem?_eq_getElem hk,List.getElem?_eq_getElem (show k<l.length by omega),Bool.and_eq_true]at this
 refine ZM (qO (hm _ (List.getElem_mem _))) (qO (hm _ (List.getElem_mem _))) ?_
 simpa using this.2
theorem Rm {l:List aj.T}(h:co l=true):∀(d i:Nat) (hd:i+d+1<l.length),cY l[i]<cY l[i+d+1]
 |0,i,hd=>K8 h i hd
 |d+1,i,hd=>Int.lt_trans (Rm h d i (by omega)) (K8 h (i+d+1) hd)
theorem Rn {l:List aj.T}(h:co l=true):(l.map cY).Pairwise (· < ·):=by
 rw[List.pairwise_iff_getElem]
 intro i j hi hj hij
 rw[List.length_map]at hi hj
 obtain⟨d,rfl⟩:∃d,j=i+d+1:=⟨j-i-1,by omega⟩
 rw[List.getElem_map,List.getElem_map]
 exact Rm h d i hj
def jd(i R S:Nat):List Int:=(List.range R).flatMap fun(r:Nat)=>(List.range S).map fun(s:Nat)=>f4 (i:Int) (r:Int) (s:Int)
def iA:Nat→List al.T→List Int
 |_,[]=>[]
 |i,m::ms=>jd i m.1.toNat m.2.1.toNat++iA (i+1) ms
theorem MP(i S:Nat)(hS:0<S):∀R,jd i R S=(List.range (R*S)).map fun(q:Nat)=>f4 (i:Int) ((q / S:Nat):Int) ((q % S:Nat):Int)
 |0=>by simp[jd]
 |R+1=>by
  have ih:=MP i S hS R
  unfold jd at ih ⊢
  rw[List.range_succ,List.flatMap_append,ih,Nat.add_mul,Nat.one_mul,List.range_add,List.map_append,List.map_map]
  congr 1
  rw[List.flatMap_cons,List.flatMap_nil,List.append_nil]
  apply List.map_congr_left
  intro s hs
  have hs:s<S:=by simpa using hs
  have h1:(R*S+s) / S=R:=by rw[Nat.mul_comm,Nat.mul_add_div hS,Nat.div_eq_of_lt hs,Nat.add_zero]
  have h2:(R*S+s) % S=s:=by rw[Nat.mul_comm,Nat.mul_add_mod,Nat.mod_eq_of_lt hs]
  simp only[Function.comp,h1,h2]
theorem AB(i R S:Nat)(hS:0<S):(jd i R S).length=R*S:=by rw[MP i S hS,List.length_map,List.length_range]
theorem TR {i R S:Nat}(hR:R≤8)(hS:S≤16):∀k ∈ jd i R S,(i:Int)*128≤k∧k<((i:Int)+1)*128:=by
 intro k hk
 simp only[jd,List.mem_flatMap,List.mem_map,List.mem_range]at hk
 obtain⟨r,hr,s,hs,rfl⟩:=hk
 unfold f4
 omega
theorem S5 {i R S:Nat}(hS:S≤16):(jd i R S).Pairwise (· < ·):=by
 unfold jd
 rw[List.pairwise_flatMap]
 constructor
 ·intro r hr
  rw[List.pairwise_map]
  exact List.Pairwise.imp (fun {a b} h=>by unfold f4;omega) List.pairwise_lt_range
 ·refine List.Pairwise.imp (fun {a b} h x hx y hy=> ?_) List.pairwise_lt_range
  simp only[List.mem_map,List.mem_range]at hx hy
  obtain⟨s,hs,rfl⟩:=hx
  obtain⟨t,ht,rfl⟩:=hy
  unfold f4
  omega
def K9(m:al.T):Prop:=(1≤m.1∧m.1≤8)∧(1≤m.2.1∧m.2.1≤16)
theorem my {m:al.T}(h:K9 m):(1≤m.1.toNat∧m.1.toNat≤8)∧(1≤m.2.1.toNat∧m.2.1.toNat≤16)∧(m.1=((m.1.toNat:Nat):Int)∧m.2.1=((m.2.1.toNat:Nat):Int)):=by
 obtain⟨(a:Int),(b:Int),c⟩:=m
 obtain⟨⟨h1,h2⟩,h3,h4⟩:=h
 have h1:(1:Int)≤a:=h1
 have h2:a≤(8:Int):=h2
 have h3:(1:Int)≤b:=h3
 have h4:b≤(16:Int):=h4
 exact⟨⟨by show 1≤a.toNat;omega,by show a.toNat≤8;omega⟩,⟨by show 1≤b.toNat;omega,by show b.toNat≤16;omega⟩,(Int.toNat_of_nonneg (show(0:Int)≤a by omega)).symm,(Int.toNat_of_nonneg (show(0:Int)≤b by omega)).symm⟩
theorem TS:∀(ms:List al.T) (i:Nat),(∀m ∈ ms,K9 m)→∀k ∈ iA i ms,(i:Int)*128≤k
 | [],i,_,k,hk=>by simp[iA]at hk
 |m::ms,i,h,k,hk=>by
  simp only[iA,List.mem_append]at hk
  have hm:=my (h m (by simp))
  rcases hk with hk|hk
  ·exact(TR (by omega) (by omega) k hk).1
  ·have:=TS ms (i+1) (fun m hm=>h m (by simp[hm])) k hk
   omega
theorem G2:∀(ms:List al.T) (i:Nat),(∀m ∈ ms,K9 m)→(iA i ms).Pairwise (· < ·)
 | [],i,_=>List.Pairwise.nil
 |m::ms,i,h=>by
  have hm:=my (h m (by simp))
  simp only[iA]
  rw[List.pairwise_append]
  refine⟨S5 (by omega),G2 ms (i+1) (fun m hm=>h m (by simp[hm])),fun a ha b hb=> ?_⟩
  have h1:=TR (R:=m.1.toNat) (S:=m.2.1.toNat) (by omega) (by omega) a ha
  have h2:=TS ms (i+1) (fun m hm=>h m (by simp[hm])) b hb
  omega
theorem Ro:∀(K E:List Int),K.Pairwise (· < ·)→E.Pairwise (· < ·)→(∀x ∈ E,x ∈ K)→E.length≤K.length∧(E.length=K.length→K=E)
 | [],[],_,_,_=>⟨Nat.le_refl _,fun _=>rfl⟩
 | [],e::E,_,_,h=>absurd (h e (by simp)) (by simp)
 |k::K,[],_,_,_=>⟨by simp,fun h=>by simp at h⟩
 |k::K,e::E,hK,hE,h=>by
  rw[List.pairwise_cons]at hK hE
  by_cases he:e=k
  ·subst he
   have:=Ro K E hK.2 hE.2 (fun x hx=>by
    have h1:=h x (by simp[hx])
    have h2:=hE.1 x hx
    rw[List.mem_cons]at h1
    rcases h1 with h1|h1
    ·omega
    ·exact h1)
   refine⟨by simp;exact this.1,fun hl=> ?_⟩
   rw[this.2 (by simpa using hl)]
  ·have hek:k<e:=by
    have h1:=h e (by simp)
    rw[List.mem_cons]at h1
    rcases h1 with h1|h1
    ·exact absurd h1 he
    ·exact hK.1 e h1
   have:=Ro K (e::E) hK.2 (List.pairwise_cons.2 hE) (fun x hx=>by
    have h1:=h x hx
    rw[List.mem_cons]at h1
    rcases h1 with h1|h1
    ·rw[List.mem_cons]at hx
     rcases hx with hx|hx
     ·omega
     ·have:=hE.1 x hx
      omega
    ·exact h1)
   refine⟨by simp at this ⊢;omega,fun hl=> ?_⟩
   have h1:=this.1
   simp at h1 hl
   omega
theorem YS(K E:List Int)(hK:K.Pairwise (· < ·))(hE:E.Pairwise (· < ·)):decide (K=E)=(E.all (fun x=>decide (x ∈ K))&&decide (E.length=K.length)):=by
 by_cases h:K=E
 ·subst h
  rw[decide_eq_true rfl,decide_eq_true rfl]
  simp
 ·rw[decide_eq_false h]
  by_cases h1:E.all (fun x=>decide (x ∈ K))=true
  ·have h2:∀x ∈ E,x ∈ K:=fun x hx=>by
    have:=List.all_eq_true.1 h1 x hx
    simpa using this
   have h3:=(Ro K E hK hE h2).2
   have h4:¬E.length=K.length:=fun e=>h (h3 e)
   rw[decide_eq_false h4,Bool.and_false]
  ·rw[Bool.eq_false_iff.2 h1,Bool.false_and]
end Go.Proofs.YtkgcbbkodalfmaaGreatDoor
namespace Go.Proofs.YtkgcbbkodalfmaaGreatDoor
open Go.RowKit
set_option linter.unusedVariables false
set_option linter.unusedSimpArgs false
theorem dw {l:List al.T}(h:eH l=true):l.length≤16∧∀m ∈ l,K9 m:=by
 unfold eH at h
 rw[Bool.and_eq_true,List.all_eq_true]at h
 refine⟨by have:=(aR.1 h.1).2;omega,fun m hm=> ?_⟩
 obtain⟨i,hi,rfl⟩:=List.getElem_of_mem hm
 have:=h.2 i (by simpa using hi)
 unfold qj at this
 simp only[List.getElem?_eq_getElem hi,Bool.and_eq_true,aR]at this
 exact⟨this.1,this.2.1⟩
def jn(a b c:Int)(v:aj.T):Bool:=(v.1==a)&&((v.2.1==b)&&(v.2.2.1==c))
def re(l:List aj.T)(a b c:Int):Int:=match bv (jn a b c) 0 l with
 |none=>-1
 |some j=>(j:Int)
theorem TT(l:List aj.T)(a b c:Int)(hl:l.length≤1099511627776):rD (l,a,b,c,())=some (re l a b c,()):=by
 have e:=kR (B:=ie) l (fun i=>(l,a,b,c,(i:Int),())) (jn a b c) (.inl ()) (fun j=>.inr ((j:Int),())) (by simp only[ie,be]) (fun i h=>by
  simp only[ie,a7 h,aG h hl,ar h,aa,jn]
  rcases Bool.eq_false_or_eq_true (l[i].1==a)with h1|h1<;>rcases Bool.eq_false_or_eq_true (l[i].2.1==b)with h2|h2<;>rcases Bool.eq_false_or_eq_true (l[i].2.2.1==c)with h3|h3<;>simp only[h1,h2,h3]<;>rfl)
 have e':ag ie (l,a,b,c,(0:Int),())=_:=e
 unfold rD re
 simp only[e']
 cases bv (jn a b c) 0 l<;>rfl
theorem TU(l:List aj.T)(a b c:Int)(hl:l.length≤1099511627776):mQ (l,a,b,c,())=some (re l a b c,()):=by
 have e:=zk l hl (fun z=>pO (z.1,a,b,c,())) (jn a b c) (fun i h=>by
  unfold pO jn
  rcases Bool.eq_false_or_eq_true (l[i].1==a)with h1|h1<;>rcases Bool.eq_false_or_eq_true (l[i].2.1==b)with h2|h2<;>rcases Bool.eq_false_or_eq_true (l[i].2.2.1==c)with h3|h3<;>simp only[h1,h2,h3]<;>rfl)
 unfold mQ re
 simp only[e]
 cases bv (jn a b c) 0 l<;>rfl
theorem Fg {a b c:Int}{v:aj.T}(hv:Rk v)(hb:0≤b∧b≤7)(hc:0≤c∧c≤15):jn a b c v=true↔cY v=f4 a b c:=by
 obtain⟨(a':Int),(b':Int),(c':Int),d⟩:=v
 have h2:0≤b'∧b'≤7:=hv.2.1
 have h3:0≤c'∧c'≤15:=hv.2.2
 unfold jn cY f4
 simp only[Bool.and_eq_true,beq_iff_eq]
 constructor
 ·rintro ⟨h1,h2,h3⟩
  have h1:a'=a:=h1
  have h2:b'=b:=h2
  have h3:c'=c:=h3
  rw[h1,h2,h3]
 ·intro h
  have h1:a'=a:=by omega
  have h2:b'=b:=by omega
  have h3:c'=c:=by omega
  exact⟨h1,h2,h3⟩
theorem Rp {l:List aj.T}(hl:∀v ∈ l,Rk v){a b c:Int}(hb:0≤b∧b≤7)(hc:0≤c∧c≤15):decide (re l a b c<0)= !decide (f4 a b c ∈ l.map cY):=by
 have h:=fm (jn a b c) 0 l
 have e:l.any (jn a b c)=decide (f4 a b c ∈ l.map cY):=by
  by_cases hm:f4 a b c ∈ l.map cY
  ·rw[decide_eq_true hm,List.any_eq_true]
   obtain⟨v,hv,e⟩:=List.mem_map.1 hm
   exact⟨v,hv,(Fg (hl v hv) hb hc).2 e⟩
  ·rw[decide_eq_false hm,Bool.eq_false_iff]
   intro h
   obtain⟨v,hv,e⟩:=List.any_eq_true.1 h
   exact hm (List.mem_map.2 ⟨v,hv,(Fg (hl v hv) hb hc).1 e⟩)
 rw[←e,←h]
 unfold re
 cases bv (jn a b c) 0 l with
 |none=>rfl
 |some j=>simp
def UU(o:(Ty.pair (.box ac) (.pair (.int .i64) .unit)).T ⊕ (Ty.pair .bool .unit).T):Bool:=match o with
 | .inl v=>v.2.1==(v.1.2.2.2.1.length:Int)
 | .inr v=>v.1
theorem aau(m:ac.T)(hs:co m.2.2.2.1=true)(i R S:Nat)(hi:i≤15)(hR:R≤8)(hS:1≤S∧S≤16)(sw:List Int)(ms:List al.T)(N:Int):
  ∀(n k j:Nat),k+n=R*S→j≤m.2.2.2.1.length→ag dZ (m,(j:Int),(i:Int),((R:Int),(S:Int),sw,()),ms,N,(i:Int),((R*S:Nat):Int),(k:Int),())=some (if((m.2.2.2.1.map cY).drop j).take n=(List.range' k n).map (fun(q:Nat)=>f4 (i:Int) ((q / S:Nat):Int) ((q % S:Nat):Int))then .inl (m,((j+n:Nat):Int),ms,N,(i:Int),())else .inr (false,())):=by
 have hRS:R*S≤128:=Nat.le_trans (Nat.mul_le_mul hR hS.2) (by omega)
 have hlen:=gk hs
 have hmem:=gW hs
 intro n
 induction n with
 |zero=>
  intro k j hk hj
  have hk:k=R*S:=by omega
  subst hk
  rw[am]
  simp only[dZ,be]
  simp
 |succ n ih=>
  intro k j hk hj
  have hkT:k<R*S:=by omega
  have hS0:¬((S:Int)=0):=by omega
  have d1:IntKind.i64.wrap (Int.tdiv (k:Int) (S:Int))=((k / S:Nat):Int):=by
   rw[Int.tdiv_eq_ediv_of_nonneg (by omega),←Int.natCast_ediv]
   have:k / S≤k:=Nat.div_le_self _ _
   generalize k / S=q at this ⊢
   rw[wrap_i64]<;>omega
  have d2:Int.tmod (k:Int) (S:Int)=((k % S:Nat):Int):=by
   rw[Int.tmod_eq_emod_of_nonneg (by omega),←Int.natCast_emod]
  have hq1:k / S<R:=(Nat.div_lt_iff_lt_mul (by omega)).2 (by omega)
  have hq2:k % S<S:=Nat.mod_lt _ (by omega)
  have q7:k / S≤7:=Nat.le_of_lt_succ (Nat.lt_of_lt_of_le hq1 hR)
  have q15:k % S≤15:=Nat.le_of_lt_succ (Nat.lt_of_lt_of_le hq2 hS.2)
  by_cases hjl:j=m.2.2.2.1.length
  ·subst hjl
   have e1:((m.2.2.2.1.length:Int)==(m.2.2.2.1.length:Int))=true:=by simp
   rw[am]
   simp only[dZ,a7 hkT,e1]
   rw[if_neg]
   rw[List.drop_of_length_le (by simp)]
   simp[List.range'_succ]
  ·have hjl:j<m.2.2.2.1.length:=by omega
   have e1:((j:Int)==(m.2.2.2.1.length:Int))=false:=by rw[beq_eq_false_iff_ne];omega
   have hin:=qO (hmem _ (List.getElem_mem hjl))
   have hz:=XE (u:=m.2.2.2.1[j]) (v:=((i:Int),((k / S:Nat):Int),((k % S:Nat):Int),((0:Int),(0:Int),(0:Int),(0:Int),false,()),())) hin ⟨⟨by show(0:Int)≤(i:Int);omega,by show(i:Int)≤15;omega⟩,⟨Int.natCast_nonneg (k / S),Int.ofNat_le.2 q7⟩,Int.natCast_nonneg (k % S),Int.ofNat_le.2 q15⟩
   have hK:(m.2.2.2.1.map cY).drop j=cY m.2.2.2.1[j]::(m.2.2.2.1.map cY).drop (j+1):=by
    rw[List.drop_eq_getElem_cons (by simpa using hjl),List.getElem_map]
   have hkey:cY ((i:Int),((k / S:Nat):Int),((k % S:Nat):Int),((0:Int),(0:Int),(0:Int),(0:Int),false,()),())=f4 (i:Int) ((k / S:Nat):Int) ((k % S:Nat):Int):=rfl
   rw[hkey]at hz
   have hih:=ih (k+1) (j+1) (by omega) (by omega)
   rw[hK,List.take_succ_cons,List.range'_succ,List.map_cons,am]
   simp only[dZ,a7 hkT,e1,ar hjl,aa,hS0,if_false,d1,d2,Ww,aG hkT (by omega),aG hjl (by omega)]
   by_cases hc:nt m.2.2.2.1[j] ((i:Int),((k / S:Nat):Int),((k % S:Nat):Int),((0:Int),(0:Int),(0:Int),(0:Int),false,()),())=0
   ·have g:(nt m.2.2.2.1[j] ((i:Int),((k / S:Nat):Int),((k % S:Nat):Int),((0:Int),(0:Int),(0:Int),(0:Int),false,()),()) != 0)=false:=by rw[hc];rfl
    have g2:=hz.1 hc
    simp only[g,g2,List.cons.injEq,true_and]
    have ha:j+1+n=j+(n+1):=by omega
    rw[ha]at hih
    exact hih
   ·have g:(nt m.2.2.2.1[j] ((i:Int),((k / S:Nat):Int),((k % S:Nat):Int),((0:Int),(0:Int),(0:Int),(0:Int),false,()),()) != 0)=true:=by simpa using hc
    have g2:¬cY m.2.2.2.1[j]=f4 (i:Int) ((k / S:Nat):Int) ((k % S:Nat):Int):=fun e=>hc (hz.2 e)
    simp only[g,List.cons.injEq,g2,false_and,if_false]
theorem ZN(m:ac.T)(hs:co m.2.2.2.1=true)(hm:eH m.2.2.1=true):
  ∀(n i j:Nat),i+n=m.2.2.1.length→j≤m.2.2.2.1.length→∃o,ag dq (m,(j:Int),m.2.2.1,(m.2.2.1.length:Int),(i:Int),())=some o∧UU o=decide ((m.2.2.2.1.map cY).drop j=iA i (m.2.2.1.drop i)):=by
 obtain⟨hl16,hg⟩:=dw hm
 have hlen:=gk hs
 intro n
 induction n with
 |zero=>
  intro i j hi hj
  have hi:i=m.2.2.1.length:=by omega
  subst hi
  refine⟨.inl (m,(j:Int),()), ?_, ?_⟩
  ·rw[am]
   simp only[dq,be]
  ·rw[List.drop_length]
   show((j:Int)==(m.2.2.2.1.length:Int))=decide ((m.2.2.2.1.map cY).drop j= [])
   have:(m.2.2.2.1.map cY).drop j= []↔j=m.2.2.2.1.length:=by
    rw[List.drop_eq_nil_iff,List.length_map]
    omega
   by_cases h:j=m.2.2.2.1.length
   ·rw[decide_eq_true (this.2 h),h];simp
   ·rw[decide_eq_false (fun e=>h (this.1 e)),beq_eq_false_iff_ne];omega
 |succ n ih=>
  intro i j hi hj
  have hil:i<m.2.2.1.length:=by omega
  have hgi:=my (hg _ (List.getElem_mem hil))
  obtain⟨R,hR⟩:∃R,R=m.2.2.1[i].1.toNat:=⟨_,rfl⟩
  obtain⟨S,hS⟩:∃S,S=m.2.2.1[i].2.1.toNat:=⟨_,rfl⟩
  rw[←hR,←hS]at hgi
  have hRS:R*S≤128:=Nat.le_trans (Nat.mul_le_mul hgi.1.2 hgi.2.1.2) (by omega)
  have hw:IntKind.i64.wrap ((R:Int)*(S:Int))=((R*S:Nat):Int):=by
   rw[←Int.natCast_mul,wrap_i64]<;>omega
  have h0:=aau m hs i R S (by omega) hgi.1.2 hgi.2.1 m.2.2.1[i].2.2.1 m.2.2.1 (m.2.2.1.length:Int) (R*S) 0 j (by omega) hj
  rw[←List.range_eq_range',←MP i S (by omega) R]at h0
  have hE:iA i (m.2.2.1.drop i)=jd i R S++iA (i+1) (m.2.2.1.drop (i+1)):=by
   rw[List.drop_eq_getElem_cons hil,hR,hS]
   rfl
  have hstep:ag dq (m,(j:Int),m.2.2.1,(m.2.2.1.length:Int),(i:Int),())=if((m.2.2.2.1.map cY).drop j).take (R*S)=jd i R S then ag dq (m,((j+R*S:Nat):Int),m.2.2.1,(m.2.2.1.length:Int),((i+1:Nat):Int),())else some (.inr (false,())):=by
   have h0':ag dZ (m,(j:Int),(i:Int),((R:Int),(S:Int),m.2.2.1[i].2.2.1,()),m.2.2.1,(m.2.2.1.length:Int),(i:Int),((R*S:Nat):Int),(0:Int),())=_:=h0
   rw[am]
   simp only[dq,a7 hil,ar hil,aa,hgi.2.2.1,hgi.2.2.2,hw]
   rw[h0']
   by_cases hc:((m.2.2.2.1.map cY).drop j).take (R*S)=jd i R S
   ·simp only[if_pos hc,aG hil (show m.2.2.1.length≤1099511627776 by omega)]
   ·simp only[if_neg hc]
  rw[hstep]
  by_cases hc:((m.2.2.2.1.map cY).drop j).take (R*S)=jd i R S
  ·have hj2:j+R*S≤m.2.2.2.1.length:=by
    have:=congrArg List.length hc
    rw[AB i R S (by omega),List.length_take,List.length_drop,List.length_map]at this
    have h1:1≤R*S:=Nat.mul_pos hgi.1.1 hgi.2.1.1
    omega
   obtain⟨o,ho1,ho2⟩:=ih (i+1) (j+R*S) (by omega) hj2
   refine⟨o,by rw[if_pos hc];exact ho1, ?_⟩
   rw[ho2,hE,decide_eq_decide]
   have e:(m.2.2.2.1.map cY).drop j=jd i R S++(m.2.2.2.1.map cY).drop (j+R*S):=by
    rw[←hc,←List.drop_drop]
    exact(List.take_append_drop _ _).symm
   rw[e]
   exact(List.append_right_inj _).symm
  ·refine⟨.inr (false,()),by rw[if_neg hc], ?_⟩
   show false=_
   rw[hE,eq_comm,decide_eq_false_iff_not]
   intro e
   apply hc
   rw[e,List.take_append_of_le_length (by rw[AB i R S (by omega)];exact Nat.le_refl _),List.take_of_length_le (by rw[AB i R S (by omega)];exact Nat.le_refl _)]
noncomputable def d9(m:ac.T):Bool:=decide (m.2.2.2.1.map cY=iA 0 m.2.2.1)
theorem UV(m:ac.T)(hs:co m.2.2.2.1=true)(hm:eH m.2.2.1=true):mc (m,())=some (d9 m,()):=by
 obtain⟨o,h1,h2⟩:=ZN m hs hm m.2.2.1.length 0 0 (by omega) (by omega)
 have h1:ag dq ((m.1,m.2.1,m.2.2.1,m.2.2.2.1,()),(0:Int),m.2.2.1,(m.2.2.1.length:Int),(0:Int),())=some o:=h1
 have h2:UU o=d9 m:=h2
 rw[←h2]
 unfold mc
 simp only[h1]
 cases o<;>rfl
end Go.Proofs.YtkgcbbkodalfmaaGreatDoor
namespace Go.Proofs.YtkgcbbkodalfmaaGreatDoor
open Go.RowKit
set_option linter.unusedVariables false
set_option linter.unusedSimpArgs false
def G3(K:List Int)(k:Int):Bool:=decide (k ∈ K)
theorem YT(K:List Int)(i R S:Nat):(jd i R S).all (G3 K)=(List.range' 0 R).all (fun(r:Nat)=>(List.range' 0 S).all (fun(s:Nat)=>G3 K (f4 (i:Int) (r:Int) (s:Int)))):=by
 unfold jd
 rw[List.all_flatMap,List.range_eq_range']
 congr 1
 funext r
 rw[List.all_map,List.range_eq_range']
 rfl
theorem ZO(m:ac.T)(hs:co m.2.2.2.1=true)(i r S:Nat)(hil:i<m.2.2.1.length)(hr:r≤7)(hS:S≤16)(hm:m.2.2.1[i].2.1=(S:Int)):
  ∀(n s c:Nat),s+n=S→c+n≤1000100→ag eM (m,(c:Int),(i:Int),(r:Int),(s:Int),())=some (if(List.range' s n).all (fun(s:Nat)=>G3 (m.2.2.2.1.map cY) (f4 (i:Int) (r:Int) (s:Int)))=true then .inl (m,((c+n:Nat):Int),(i:Int),(r:Int),())else .inr (false,())):=by
 have hlen:=gk hs
 have hmem:=gW hs
 intro n
 induction n with
 |zero=>
  intro s c h hc
  have h:s=S:=by omega
  subst h
  rw[am]
  simp only[eM,ar hil,aa,hm,be]
  simp
 |succ n ih=>
  intro s c h hc
  have hsS:s<S:=by omega
  have hf:=TT m.2.2.2.1 (i:Int) (r:Int) (s:Int) (by omega)
  have hn:=Rp (fun v hv=>qO (hmem v hv)) (a:=(i:Int)) (b:=(r:Int)) (c:=(s:Int)) ⟨by omega,by omega⟩ ⟨by omega,by omega⟩
  have hih:=ih (s+1) (c+1) (by omega) (by omega)
  have hw:IntKind.i64.wrap ((c:Int)+1)=((c+1:Nat):Int):=by rw[wrap_i64]<;>omega
  rw[List.range'_succ,List.all_cons,am]
  simp only[eM,ar hil,aa,hm,a7 hsS,hf,hn,hw,aG hsS (show S≤1099511627776 by omega)]
  have hp:G3 (m.2.2.2.1.map cY) (f4 (i:Int) (r:Int) (s:Int))=decide (f4 (i:Int) (r:Int) (s:Int) ∈ m.2.2.2.1.map cY):=rfl
  rw[hp]
  rcases Bool.eq_false_or_eq_true (decide (f4 (i:Int) (r:Int) (s:Int) ∈ m.2.2.2.1.map cY))with g|g<;>simp only[g,Bool.not_true,Bool.not_false,Bool.true_and,Bool.false_and]
  ·have ha:c+1+n=c+(n+1):=by omega
   rw[ha]at hih
   exact hih
  ·rfl
theorem ZP(m:ac.T)(hs:co m.2.2.2.1=true)(i R S:Nat)(hil:i<m.2.2.1.length)(hR:R≤8)(hS:S≤16)(hm1:m.2.2.1[i].1=(R:Int))(hm:m.2.2.1[i].2.1=(S:Int)):
  ∀(n r c:Nat),r+n=R→c+n*16≤1000000→ag eN (m,(c:Int),(i:Int),(r:Int),())=some (if(List.range' r n).all (fun(r:Nat)=>(List.range' 0 S).all (fun(s:Nat)=>G3 (m.2.2.2.1.map cY) (f4 (i:Int) (r:Int) (s:Int))))=true then .inl (m,((c+n*S:Nat):Int),(i:Int),())else .inr (false,())):=by
 intro n
 induction n with
 |zero=>
  intro r c h hc
  have h:r=R:=by omega
  subst h
  rw[am]
  simp only[eN,ar hil,aa,hm1,be]
  simp
 |succ n ih=>
  intro r c h hc
  have hrR:r<R:=by omega
  have h9:=ZO m hs i r S hil (by omega) hS hm S 0 c (by omega) (by omega)
  have h9':ag eM ((m.1,m.2.1,m.2.2.1,m.2.2.2.1,()),(c:Int),(i:Int),(r:Int),(0:Int),())=_:=h9
  have hnS:n*S≤n*16:=Nat.mul_le_mul_left n hS
  have hih:=ih (r+1) (c+S) (by omega) (by rw[Nat.add_mul]at hc;omega)
  rw[List.range'_succ,List.all_cons,am]
  simp only[eN,ar hil,aa,hm1,a7 hrR]
  rw[h9']
  rcases Bool.eq_false_or_eq_true ((List.range' 0 S).all (fun(s:Nat)=>G3 (m.2.2.2.1.map cY) (f4 (i:Int) (r:Int) (s:Int))))with g|g<;>simp only[g,Bool.true_and,Bool.false_and,if_true,aG hrR (show R≤1099511627776 by omega)]
  ·have ha:c+S+n*S=c+(n+1)*S:=by rw[Nat.add_mul];omega
   rw[ha]at hih
   exact hih
  ·rfl
theorem ZQ(m:ac.T)(hs:co m.2.2.2.1=true)(hm:eH m.2.2.1=true):
  ∀(n i c:Nat),i+n=m.2.2.1.length→c≤128*i→∃o,ag c7 (m,(c:Int),(i:Int),())=some o∧UU o=((iA i (m.2.2.1.drop i)).all (G3 (m.2.2.2.1.map cY))&&decide (c+(iA i (m.2.2.1.drop i)).length=m.2.2.2.1.length)):=by
 obtain⟨hl16,hg⟩:=dw hm
 have hlen:=gk hs
 intro n
 induction n with
 |zero=>
  intro i c hi hc
  have hi:i=m.2.2.1.length:=by omega
  subst hi
  refine⟨.inl (m,(c:Int),()), ?_, ?_⟩
  ·rw[am]
   simp only[c7,be]
  ·rw[List.drop_length]
   show((c:Int)==(m.2.2.2.1.length:Int))=(true&&decide (c+0=m.2.2.2.1.length))
   rw[Bool.true_and,Nat.add_zero]
   by_cases h:c=m.2.2.2.1.length
   ·rw[decide_eq_true h,h];simp
   ·rw[decide_eq_false h,beq_eq_false_iff_ne];omega
 |succ n ih=>
  intro i c hi hc
  have hil:i<m.2.2.1.length:=by omega
  have hgi:=my (hg _ (List.getElem_mem hil))
  obtain⟨R,hR⟩:∃R,R=m.2.2.1[i].1.toNat:=⟨_,rfl⟩
  obtain⟨S,hS⟩:∃S,S=m.2.2.1[i].2.1.toNat:=⟨_,rfl⟩
  rw[←hR,←hS]at hgi
  have hRS:R*S≤128:=Nat.le_trans (Nat.mul_le_mul hgi.1.2 hgi.2.1.2) (by omega)
  have h6:=ZP m hs i R S hil hgi.1.2 hgi.2.1.2 hgi.2.2.1 hgi.2.2.2 R 0 c (by omega) (by omega)
  have h6':ag eN ((m.1,m.2.1,m.2.2.1,m.2.2.2.1,()),(c:Int),(i:Int),(0:Int),())=_:=h6
  rw[←YT]at h6'
  have hE:iA i (m.2.2.1.drop i)=jd i R S++iA (i+1) (m.2.2.1.drop (i+1)):=by
   rw[List.drop_eq_getElem_cons hil,hR,hS]
   rfl
  have hstep:ag c7 (m,(c:Int),(i:Int),())=if(jd i R S).all (G3 (m.2.2.2.1.map cY))=true then ag c7 (m,((c+R*S:Nat):Int),((i+1:Nat):Int),())else some (.inr (false,())):=by
   rw[am]
   simp only[c7,a7 hil]
   rw[h6']
   by_cases hc:(jd i R S).all (G3 (m.2.2.2.1.map cY))=true
   ·simp only[if_pos hc,aG hil (show m.2.2.1.length≤1099511627776 by omega)]
   ·simp only[if_neg hc]
  rw[hstep,hE,List.all_append,List.length_append,AB i R S (by omega)]
  by_cases hq:(jd i R S).all (G3 (m.2.2.2.1.map cY))=true
  ·obtain⟨o,ho1,ho2⟩:=ih (i+1) (c+R*S) (by omega) (by omega)
   refine⟨o,by rw[if_pos hq];exact ho1, ?_⟩
   rw[ho2,hq,Bool.true_and,Nat.add_assoc]
  ·refine⟨.inr (false,()),by rw[if_neg hq], ?_⟩
   rw[Bool.eq_false_iff.2 hq,Bool.false_and,Bool.false_and]
   rfl
theorem UW(m:ac.T)(hs:co m.2.2.2.1=true)(hm:eH m.2.2.1=true):kZ (m,())=some (d9 m,()):=by
 obtain⟨o,h1,h2⟩:=ZQ m hs hm m.2.2.1.length 0 0 (by omega) (by omega)
 have h1:ag c7 ((m.1,m.2.1,m.2.2.1,m.2.2.2.1,()),(0:Int),(0:Int),())=some o:=h1
 have h3:d9 m=UU o:=by
  rw[h2]
  unfold d9
  rw[YS _ _ (Rn hs) (G2 _ 0 (dw hm).2),Nat.zero_add,List.length_map]
  rfl
 rw[h3]
 unfold kZ
 simp only[h1]
 cases o<;>rfl
end Go.Proofs.YtkgcbbkodalfmaaGreatDoor
namespace Go.Proofs.YtkgcbbkodalfmaaGreatDoor
open Go.RowKit
set_option linter.unusedVariables false
set_option linter.unusedSimpArgs false
theorem mz {S X O T:Type}{B:X→Option (X ⊕ O)}(l:List T)(e:S→Nat→X)(g:S→T→S)(fin:S→O)(P:S→Prop)(hP:∀s,∀v ∈ l,P s→P (g s v))(hend:∀s,P s→B (e s l.length)=some (.inr (fin s)))
  (hstep:∀s i (h:i<l.length),P s→B (e s i)=some (.inl (e (g s l[i]) (i+1)))):∀(n i:Nat) (s:S),i+n=l.length→P s→ag B (e s i)=some (fin ((l.drop i).foldl g s))
 |0,i,s,hi,hs=>by
  have hi:i=l.length:=by omega
  subst hi
  rw[am,hend s hs,List.drop_length]
  rfl
 |n+1,i,s,hi,hs=>by
  have h:i<l.length:=by omega
  rw[am,hstep s i h hs,List.drop_eq_getElem_cons h]
  exact mz l e g fin P hP hend hstep n (i+1) _ (by omega) (hP s _ (List.getElem_mem h) hs)
theorem pf {S T:Type}{g:S→T→S}{P:S→Prop}:∀(l:List T) (s:S),(∀s,∀v ∈ l,P s→P (g s v))→P s→P (l.foldl g s)
 | [],s,_,h=>h
 |v::l,s,hP,h=>pf l _ (fun s u hu=>hP s u (by simp[hu])) (hP s v (by simp) h)
theorem Rq(a b:Nat)(ha:a<9223372036854775808)(hb:b<9223372036854775808):bits .or .i64 (a:Int) (b:Int)=((a|||b:Nat):Int):=by
 have hx:a|||b<2^63:=Nat.or_lt_two_pow (by omega) (by omega)
 have h1:(BitVec.ofInt 64 (a:Int)).toNat=a:=by
  rw[BitVec.ofInt_natCast,BitVec.toNat_ofNat];exact Nat.mod_eq_of_lt (by omega)
 have h2:(BitVec.ofInt 64 (b:Int)).toNat=b:=by
  rw[BitVec.ofInt_natCast,BitVec.toNat_ofNat];exact Nat.mod_eq_of_lt (by omega)
 show IntKind.i64.wrap ((BitVec.ofInt 64 (a:Int)|||BitVec.ofInt 64 (b:Int)).toNat:Int)=_
 rw[BitVec.toNat_or,h1,h2,wrap_i64]<;>omega
theorem G4(a b:Nat)(ha:a<9223372036854775808)(hb:b<9223372036854775808):(bits .andNot .i64 (a:Int) (b:Int)==0)=decide (a&&& b=a):=by
 have h1:BitVec.ofInt 64 (a:Int)=BitVec.ofNat 64 a:=BitVec.ofInt_natCast ..
 have h2:BitVec.ofInt 64 (b:Int)=BitVec.ofNat 64 b:=BitVec.ofInt_natCast ..
 have e:bits .andNot .i64 (a:Int) (b:Int)=IntKind.i64.wrap ((BitVec.ofNat 64 a&&& ~~~ BitVec.ofNat 64 b).toNat:Int):=by
  rw[←h1,←h2];rfl
 have ha':(BitVec.ofNat 64 a).toNat=a:=by rw[BitVec.toNat_ofNat];exact Nat.mod_eq_of_lt (by omega)
 have hle:(BitVec.ofNat 64 a&&& ~~~ BitVec.ofNat 64 b).toNat≤a:=by
  rw[BitVec.toNat_and,ha']
  exact Nat.and_le_left
 have hz:(BitVec.ofNat 64 a&&& ~~~ BitVec.ofNat 64 b).toNat=0↔a&&& b=a:=by
  constructor
  ·intro h
   have h0:BitVec.ofNat 64 a&&& ~~~ BitVec.ofNat 64 b=0#64:=BitVec.eq_of_toNat_eq (by rw[h];rfl)
   apply Nat.eq_of_testBit_eq
   intro i
   rw[Nat.testBit_and]
   by_cases hi:i<64
   ·have:=congrArg (fun z:BitVec 64=>z.getLsbD i) h0
    simp only[BitVec.getLsbD_and,BitVec.getLsbD_not,BitVec.getLsbD_ofNat,BitVec.getLsbD_zero,hi,decide_true,Bool.true_and]at this
    cases h5:a.testBit i<;>cases h6:b.testBit i<;>simp[h5,h6]at this ⊢
   ·have:a.testBit i=false:=Nat.testBit_lt_two_pow (Nat.lt_of_lt_of_le ha (Nat.le_trans (by decide:9223372036854775808≤2^64) (Nat.pow_le_pow_right (by omega) (by omega))))
    rw[this];rfl
  ·intro h
   have h0:BitVec.ofNat 64 a&&& ~~~ BitVec.ofNat 64 b=0#64:=by
    apply BitVec.eq_of_getLsbD_eq
    intro i hi
    have:=congrArg (fun z:Nat=>z.testBit i) h
    simp only[Nat.testBit_and]at this
    simp only[BitVec.getLsbD_and,BitVec.getLsbD_not,BitVec.getLsbD_ofNat,BitVec.getLsbD_zero,hi,decide_true,Bool.true_and]
    cases h5:a.testBit i<;>cases h6:b.testBit i<;>simp[h5,h6]at this ⊢
   rw[h0];rfl
 rw[e,wrap_i64 (by omega) (by omega)]
 by_cases h:a&&& b=a
 ·rw[decide_eq_true h,hz.2 h];rfl
 ·rw[decide_eq_false h,beq_eq_false_iff_ne]
  intro h2
  exact h (hz.1 (by omega))
theorem xe(k:Nat)(hk:k<32):IntKind.i64.wrap ((1:Int)*2^min (k:Int).toNat IntKind.i64.bits)=((2^k:Nat):Int):=by
 have h:min (k:Int).toNat IntKind.i64.bits=k:=vE (by omega)
 have hp:2^k<2^32:=Nat.pow_lt_pow_right (by omega) hk
 have e:(2:Int)^k=((2^k:Nat):Int):=by norm_cast
 rw[h,Int.one_mul,e]
 generalize (2:Nat)^k=p at hp ⊢
 rw[wrap_i64]<;>omega
theorem La(k:Nat)(hk:k<32):IntKind.i64.wrap ((1:Int)*2^min k IntKind.i64.bits)=((2^k:Nat):Int):=xe k hk
theorem Rr(z:Int)(h0:0≤z)(h1:z≤31):∃k:Nat,k<32∧z=(k:Int):=⟨z.toNat,by omega,by omega⟩
theorem Fh(v k:Nat)(hv:v<4294967296)(hk:k<32):v|||2^k<4294967296:=
 Nat.or_lt_two_pow (n:=32) (by omega) (Nat.pow_lt_pow_right (by omega) hk)
def mA(v k:Nat):Bool:=(v / 2^k) % 2==1
theorem vK(v k:Nat):mA v k=v.testBit k:=by
 unfold mA
 rw[Nat.testBit_eq_decide_div_mod_eq,Bool.eq_iff_iff]
 simp
theorem UX(v k:Nat)(hv:v<4294967296)(hk:k<32):iV ((v:Int),(k:Int),true,())=some (((v|||2^k:Nat):Int),()):=by
 have hh:=Pa v k hv hk
 have hu:IntKind.u64.wrap (k:Int)=(k:Int):=KX (by omega)
 have hn:¬((k:Int)<0):=by omega
 have hp:2^k<2^32:=Nat.pow_lt_pow_right (by omega) hk
 have hx:=ur v (2^k) (by omega) (by omega)
 unfold iV
 simp only[hh,hu,hn,if_false,xe k hk,hx]
 have hb:(v / 2^k % 2==1)=v.testBit k:=vK v k
 rw[hb]
 cases h:v.testBit k with
 |true=>
  have:v|||2^k=v:=by
   apply Nat.eq_of_testBit_eq
   intro i
   rw[Nat.testBit_or,Nat.testBit_two_pow]
   by_cases hi:k=i
   ·subst hi;simp[h]
   ·simp[hi]
  rw[this]
  rfl
 |false=>
  have:v|||2^k=v^^^2^k:=by
   apply Nat.eq_of_testBit_eq
   intro i
   rw[Nat.testBit_or,Nat.testBit_xor,Nat.testBit_two_pow]
   by_cases hi:k=i
   ·subst hi;simp[h]
   ·simp[hi]
  rw[this]
  rfl
theorem ZR(v k:Nat)(hv:v<4294967296)(hk:k<32):O9 ((v:Int),(k:Int),())=some (mA v k,()):=by
 have hb:=Wn v k (by omega)
 unfold bt at hb
 have hn:¬((k:Int)<0):=by omega
 unfold O9 mA
 simp only[hn,if_false,vE (show k≤64 by omega),hb]
 generalize v / 2^k=z
 have:(((z % 2:Nat):Int)==1)=(z % 2==1):=by
  rw[Bool.eq_iff_iff]
  simp
  omega
 rw[this]
def oG(v:Nat)(n:ak.T):Nat:=if n.2.2.2.1=true then v else v|||2^n.1.toNat
def cG(l:List ak.T):Nat:=l.foldl oG 0
theorem IH {l:List ak.T}(h:f3 l=true):l.length≤32∧∀n ∈ l,∃k:Nat,k<32∧n.1=(k:Int):=by
 unfold f3 at h
 rw[Bool.and_eq_true,List.all_eq_true]at h
 refine⟨by have:=(aR.1 h.1).2;omega,fun n hn=> ?_⟩
 obtain⟨i,hi,rfl⟩:=List.getElem_of_mem hn
 have:=h.2 i (by simpa using hi)
 unfold r6 ue at this
 simp only[List.getElem?_eq_getElem hi,Bool.and_eq_true,aR]at this
 obtain⟨⟨⟨h1,h2⟩,_⟩,_⟩:=this
 exact Rr _ h1 h2
theorem MQ {l:List ak.T}(h:f3 l=true):∀s,∀n ∈ l,s<4294967296→oG s n<4294967296:=by
 intro s n hn hs
 obtain⟨k,hk,e⟩:=(IH h).2 n hn
 unfold oG
 split
 ·exact hs
 ·rw[e];exact Fh s k hs hk
theorem zq {l:List ak.T}(h:f3 l=true):cG l<4294967296:=pf (P:=fun s=>s<4294967296) l 0 (MQ h) (by omega)
theorem UY(l:List ak.T)(h:f3 l=true):iJ (l,())=some ((cG l:Int),()):=by
 have hid:=IH h
 have e:=mz (B:=dY) l (fun(s:Nat) i=>((s:Int),l,(l.length:Int),(i:Int),())) oG (fun s=>.inl ((s:Int),())) (fun s=>s<4294967296) (MQ h) (fun s _=>by simp only[dY,be]) (fun s i hi hs=>by
  obtain⟨k,hk,e⟩:=hid.2 _ (List.getElem_mem hi)
  have hn:¬((k:Int)<0):=by omega
  have hp:2^k<2^32:=Nat.pow_lt_pow_right (by omega) hk
  have ho:=Rq s (2^k) (by omega) (by omega)
  simp only[dY,a7 hi,aG hi (show l.length≤1099511627776 by omega),ar hi,aa,e,hn,if_false,La k hk,ho,oG,Int.toNat_natCast]
  cases l[i].2.2.2.1<;>rfl) l.length 0 0 (by omega) (by omega)
 have e':ag dY ((0:Int),l,(l.length:Int),(0:Int),())=_:=e
 unfold iJ
 simp only[e',List.drop_zero]
 rfl
theorem Pb(l:List ak.T)(h:f3 l=true):cM (l,())=some ((cG l:Int),()):=by
 have hid:=IH h
 have e:=mz (B:=cN) l (fun(s:Nat) i=>(l,(s:Int),(i:Int),())) oG (fun s=>.inl ((s:Int),())) (fun s=>s<4294967296) (MQ h) (fun s _=>by simp only[cN,be]) (fun s i hi hs=>by
  obtain⟨k,hk,e⟩:=hid.2 _ (List.getElem_mem hi)
  have ho:=UX s k hs hk
  simp only[cN,a7 hi,aG hi (show l.length≤1099511627776 by omega),ar hi,aa,e,ho,oG,Int.toNat_natCast]
  cases l[i].2.2.2.1<;>rfl) l.length 0 0 (by omega) (by omega)
 have e':ag cN (l,(0:Int),(0:Int),())=_:=e
 unfold cM
 simp only[e',List.drop_zero]
 rfl
theorem r8 {v:aj.T}(h:lH v=true):∃k:Nat,k<32∧v.2.2.2.1.1=(k:Int):=by
 unfold lH kU at h
 simp only[Bool.and_eq_true,aR]at h
 obtain⟨h1,h2⟩:=h.2.2.2.1
 exact Rr _ h1 h2
def lI(m:ac.T):Bool:=m.2.2.2.1.all (fun v=>mA (cG m.2.1) v.2.2.2.1.1.toNat)
theorem ZS(m:ac.T)(hn:f3 m.2.1=true)(hs:co m.2.2.2.1=true):lZ (m,())=some (lI m,()):=by
 have hlen:=gk hs
 have e:=i8 (B:=fu) m.2.2.2.1 (fun i=>(m,(cG m.2.1:Int),(i:Int),())) (fun v=>mA (cG m.2.1) v.2.2.2.1.1.toNat) (.inl ()) (.inr (false,())) (by simp only[fu,be]) (fun i h=>by
  obtain⟨k,hk,e⟩:=r8 (gW hs _ (List.getElem_mem h))
  have hh:lU ((cG m.2.1:Int),(k:Int),())=some (mA (cG m.2.1) k,()):=Pa (cG m.2.1) k (zq hn) hk
  simp only[fu,a7 h,aG h (show m.2.2.2.1.length≤1099511627776 by omega),ar h,aa,e,hh,Int.toNat_natCast]
  cases mA (cG m.2.1) k<;>rfl)
 have e':ag fu ((m.1,m.2.1,m.2.2.1,m.2.2.2.1,()),(cG m.2.1:Int),(0:Int),())=_:=e
 unfold lZ lI
 simp only[Pb m.2.1 hn,e']
 cases m.2.2.2.1.all (fun v=>mA (cG m.2.1) v.2.2.2.1.1.toNat)<;>rfl
theorem ZT(m:ac.T)(hn:f3 m.2.1=true)(hs:co m.2.2.2.1=true):cd (m.2.2.2.1,(fun z=>mO (z.1,(m.1,m.2.1,m.2.2.1,m.2.2.2.1,()),())),())=some (!lI m,()):=by
 have hlen:=gk hs
 rw[tB m.2.2.2.1 (by omega) _ (fun v=> !mA (cG m.2.1) v.2.2.2.1.1.toNat) (fun i h=>by
  obtain⟨k,hk,e⟩:=r8 (gW hs _ (List.getElem_mem h))
  have hh:=ZR (cG m.2.1) k (zq hn) hk
  unfold mO
  simp only[UY m.2.1 hn,e,hh,Int.toNat_natCast])]
 unfold lI
 rw[zj,Bool.not_not]
end Go.Proofs.YtkgcbbkodalfmaaGreatDoor
namespace Go.Proofs.YtkgcbbkodalfmaaGreatDoor
open Go.RowKit
set_option linter.unusedVariables false
set_option linter.unusedSimpArgs false
theorem AC {S X O T:Type}{B:X→Option (X ⊕ O)}(l:List T)(e:S→Nat→X)(g:S→T→S)(fin:S→O)(P:Nat→S→Prop)(hP:∀i (h:i<l.length) s,P i s→P (i+1) (g s l[i]))(hend:∀s,B (e s l.length)=some (.inr (fin s)))
  (hstep:∀s i (h:i<l.length),P i s→B (e s i)=some (.inl (e (g s l[i]) (i+1)))):∀(n i:Nat) (s:S),i+n=l.length→P i s→ag B (e s i)=some (fin ((l.drop i).foldl g s))
 |0,i,s,hi,hs=>by
  have hi:i=l.length:=by omega
  subst hi
  rw[am,hend s,List.drop_length]
  rfl
 |n+1,i,s,hi,hs=>by
  have h:i<l.length:=by omega
  rw[am,hstep s i h hs,List.drop_eq_getElem_cons h]
  exact AC l e g fin P hP hend hstep n (i+1) _ (by omega) (hP i h s hs)
theorem xV {α:Type}(q:α→Bool):∀(l:List α) (i j:Nat),bv q i l=some j→∃(n:Nat) (h:n<l.length),j=i+n∧q l[n]=true
 | [],_,_,h=>by cases h
 |v::r,i,j,h=>by
  unfold bv at h
  cases hq:q v with
  |true=>
   rw[hq]at h
   cases h
   exact⟨0,by simp,by omega,hq⟩
  |false=>
   rw[hq]at h
   obtain⟨n,hn,e,h2⟩:=xV q r (i+1) j h
   exact⟨n+1,by simpa using hn,by omega,by simpa using h2⟩
def AD(v:aj.T):Int:=v.2.2.2.1.2.2.2.1
def Fi(u v:aj.T):Bool:=(u.1==v.1)&&(u.2.2.1==v.2.2.1)
def m6(u v:aj.T):Bool:= !Fi u v||(AD u==AD v)
def Fj(l:List aj.T)(i:Nat):Bool:=match l[i]? with
 |none=>false
 |some v=>(l.take i).all (m6 v)
def EH(l:List aj.T):Bool:=(List.range l.length).all (Fj l)
theorem aav(m:ac.T)(hl:m.2.2.2.1.length≤1099511627776):kh (m,())=some (EH m.2.2.2.1,()):=by
 have inner:∀i (h:i<m.2.2.2.1.length),ag dW (m,(i:Int),(0:Int),())=some (if(m.2.2.2.1.take i).all (m6 m.2.2.2.1[i])then .inl (m,(i:Int),())else .inr (false,())):=fun i h=>by
  have e:=i8 (B:=dW) (m.2.2.2.1.take i) (fun j=>(m,(i:Int),(j:Int),())) (m6 m.2.2.2.1[i]) (.inl (m,(i:Int),())) (.inr (false,())) (by
   rw[List.length_take,Nat.min_eq_left (Nat.le_of_lt h)]
   simp only[dW,be]) (fun j hj=>by
   have hj':j<i:=by rw[List.length_take]at hj;omega
   have hjl:j<m.2.2.2.1.length:=by omega
   have hg:(m.2.2.2.1.take i)[j]=m.2.2.2.1[j]:=by simp
   rw[hg]
   simp only[dW,a7 hj',aG hjl hl,ar hjl,ar h,aa,eC,m6,Fi,AD]
   generalize m.2.2.2.1[i]=u
   generalize m.2.2.2.1[j]=v
   rcases Bool.eq_false_or_eq_true (u.1==v.1)with h1|h1<;>simp only[h1,Bool.true_and,Bool.false_and,Bool.not_false,Bool.true_or,if_true]
   rcases Bool.eq_false_or_eq_true (u.2.2.1==v.2.2.1)with h2|h2<;>simp only[h2,Bool.not_true,Bool.not_false,Bool.true_or,Bool.false_or,if_true]
   have hne:(u.2.2.2.1.2.2.2.1 != v.2.2.2.1.2.2.2.1)= !(u.2.2.2.1.2.2.2.1==v.2.2.2.1.2.2.2.1):=rfl
   rw[hne]
   cases (u.2.2.2.1.2.2.2.1==v.2.2.2.1.2.2.2.1)<;>rfl)
  exact e
 have e:=ge (B:=dX) m.2.2.2.1.length (fun i=>(m,(i:Int),())) (Fj m.2.2.2.1) (.inl ()) (.inr (false,())) (by simp only[dX,be]) (fun i h=>by
  simp only[dX,a7 h,aG h hl,inner i h,Fj,List.getElem?_eq_getElem h]
  cases (m.2.2.2.1.take i).all (m6 m.2.2.2.1[i])
  ·rfl
  ·show some (Sum.inl (m,IntKind.i64.wrap ((i:Int)+1),()))=some (.inl (m,((i+1:Nat):Int),()))
   rw[aG h hl])
 have e':ag dX ((m.1,m.2.1,m.2.2.1,m.2.2.2.1,()),(0:Int),())=_:=e
 unfold kh EH
 simp only[e']
 cases (List.range m.2.2.2.1.length).all (Fj m.2.2.2.1)<;>rfl
theorem NJ:∀(ms:List al.T) (i:Nat),(∀m ∈ ms,K9 m)→∀k ∈ iA i ms,∃a r s:Nat,k=f4 (a:Int) (r:Int) (s:Int)∧r≤7∧s≤15∧f4 (a:Int) 0 (s:Int) ∈ iA i ms
 | [],i,_,k,hk=>by simp[iA]at hk
 |m::ms,i,h,k,hk=>by
  simp only[iA,List.mem_append]at hk ⊢
  rcases hk with hk|hk
  ·have hm:=my (h m (by simp))
   simp only[jd,List.mem_flatMap,List.mem_map,List.mem_range]at hk
   obtain⟨r,hr,s,hs,rfl⟩:=hk
   refine⟨i,r,s,rfl,by omega,by omega,.inl ?_⟩
   simp only[jd,List.mem_flatMap,List.mem_map,List.mem_range]
   exact⟨0,by omega,s,hs,rfl⟩
  ·obtain⟨a,r,s,e,h1,h2,h3⟩:=NJ ms (i+1) (fun m hm=>h m (by simp[hm])) k hk
   exact⟨a,r,s,e,h1,h2,.inr h3⟩
theorem Rs(m:ac.T)(hs:co m.2.2.2.1=true)(hm:eH m.2.2.1=true)(hc:d9 m=true):∀v ∈ m.2.2.2.1,∃(j:Nat) (h:j<m.2.2.2.1.length),bv (jn v.1 0 v.2.2.1) 0 m.2.2.2.1=some j∧jn v.1 0 v.2.2.1 m.2.2.2.1[j]=true:=by
 intro v hv
 have hmem:=gW hs
 have hvk:=qO (hmem v hv)
 have hK:m.2.2.2.1.map cY=iA 0 m.2.2.1:=by
  unfold d9 at hc
  exact of_decide_eq_true hc
 have h1:cY v ∈ iA 0 m.2.2.1:=by rw[←hK];exact List.mem_map.2 ⟨v,hv,rfl⟩
 obtain⟨a,r,s,e,hr,hs',h2⟩:=NJ _ 0 (dw hm).2 _ h1
 rw[←hK]at h2
 obtain⟨u,hu,e2⟩:=List.mem_map.1 h2
 have huk:=qO (hmem u hu)
 have hv0:jn (a:Int) (r:Int) (s:Int) v=true:=(Fg hvk ⟨by omega,by omega⟩ ⟨by omega,by omega⟩).2 e
 have hu0:jn (a:Int) 0 (s:Int) u=true:=(Fg huk ⟨by omega,by omega⟩ ⟨by omega,by omega⟩).2 e2
 have hva:v.1=(a:Int)∧v.2.2.1=(s:Int):=by
  unfold jn at hv0
  simp only[Bool.and_eq_true,beq_iff_eq]at hv0
  exact⟨hv0.1,hv0.2.2⟩
 have hx:m.2.2.2.1.any (jn v.1 0 v.2.2.1)=true:=List.any_eq_true.2 ⟨u,hu,by rw[hva.1,hva.2];exact hu0⟩
 rw[←fm (jn v.1 0 v.2.2.1) 0 m.2.2.2.1]at hx
 obtain⟨j,hj⟩:=Option.isSome_iff_exists.1 hx
 obtain⟨n,hn,e3,h4⟩:=xV _ _ _ _ hj
 have:j=n:=by omega
 subst this
 exact⟨j,hn,hj,h4⟩
def oH(l:List aj.T)(v:aj.T):Bool:=match bv (jn v.1 0 v.2.2.1) 0 l with
 |none=>false
 |some j=>match l[j]? with
  |none=>false
  |some u=>AD v==AD u
theorem XF(m:ac.T)(hs:co m.2.2.2.1=true)(hm:eH m.2.2.1=true)(hc:d9 m=true):pP (m,())=some (m.2.2.2.1.all (oH m.2.2.2.1),()):=by
 have hlen:=gk hs
 have e:=i8 (B:=gu) m.2.2.2.1 (fun i=>(m,m.2.2.2.1,(m.2.2.2.1.length:Int),(i:Int),())) (oH m.2.2.2.1) (.inl ()) (.inr (false,())) (by simp only[gu,be]) (fun i h=>by
  obtain⟨j,hj,h1,h2⟩:=Rs m hs hm hc _ (List.getElem_mem h)
  have hf:mQ (m.2.2.2.1,m.2.2.2.1[i].1,(0:Int),m.2.2.2.1[i].2.2.1,())=some ((j:Int),()):=by
   rw[TU _ _ _ _ (by omega)]
   unfold re
   rw[h1]
  simp only[gu,a7 h,aG h (show m.2.2.2.1.length≤1099511627776 by omega),ar h,aa,hf,ar hj,eC,bM,oH,h1,List.getElem?_eq_getElem hj,AD]
  have hne:(m.2.2.2.1[i].2.2.2.1.2.2.2.1 != m.2.2.2.1[j].2.2.2.1.2.2.2.1)= !(m.2.2.2.1[i].2.2.2.1.2.2.2.1==m.2.2.2.1[j].2.2.2.1.2.2.2.1):=rfl
  rw[hne]
  cases (m.2.2.2.1[i].2.2.2.1.2.2.2.1==m.2.2.2.1[j].2.2.2.1.2.2.2.1)<;>rfl)
 have e':ag gu ((m.1,m.2.1,m.2.2.1,m.2.2.2.1,()),m.2.2.2.1,(m.2.2.2.1.length:Int),(0:Int),())=_:=e
 unfold pP
 simp only[e']
 cases m.2.2.2.1.all (oH m.2.2.2.1)<;>rfl
theorem XG {u v:aj.T}(h:m6 u v=true):m6 v u=true:=by
 unfold m6 Fi at h ⊢
 simp only[Bool.or_eq_true,Bool.not_eq_true',Bool.and_eq_false_iff,beq_iff_eq,beq_eq_false_iff_ne]at h ⊢
 rcases h with(h|h)|h
 ·exact .inl (.inl fun e=>h e.symm)
 ·exact .inl (.inr fun e=>h e.symm)
 ·exact .inr h.symm
theorem YU {l:List aj.T}:EH l=true↔∀u ∈ l,∀v ∈ l,m6 u v=true:=by
 unfold EH
 rw[List.all_eq_true]
 constructor
 ·intro h
  have key:∀i j (hi:i<l.length) (hj:j<i),m6 l[i] l[j]=true:=fun i j hi hj=>by
   have:=h i (by simpa using hi)
   unfold Fj at this
   simp only[List.getElem?_eq_getElem hi,List.all_eq_true]at this
   exact this _ (List.mem_take_iff_getElem.2 ⟨j,by omega,rfl⟩)
  intro u hu v hv
  obtain⟨i,hi,rfl⟩:=List.getElem_of_mem hu
  obtain⟨j,hj,rfl⟩:=List.getElem_of_mem hv
  rcases Nat.lt_trichotomy i j with h1|h1|h1
  ·exact XG (key j i hj h1)
  ·subst h1
   unfold m6
   simp
  ·exact key i j hi h1
 ·intro h i hi
  have hi:i<l.length:=by simpa using hi
  unfold Fj
  simp only[List.getElem?_eq_getElem hi,List.all_eq_true]
  exact fun v hv=>h _ (List.getElem_mem hi) v (List.mem_of_mem_take hv)
theorem UZ(m:ac.T)(hs:co m.2.2.2.1=true)(hm:eH m.2.2.1=true)(hc:d9 m=true):m.2.2.2.1.all (oH m.2.2.2.1)=EH m.2.2.2.1:=by
 have hf:=Rs m hs hm hc
 rw[Bool.eq_iff_iff,YU,List.all_eq_true]
 constructor
 ·intro h u hu v hv
  unfold m6
  cases hsm:Fi u v with
  |false=>rfl
  |true=>
   unfold Fi at hsm
   simp only[Bool.and_eq_true,beq_iff_eq]at hsm
   obtain⟨j,hj,h1,h2⟩:=hf u hu
   have hu':=h u hu
   have hv':=h v hv
   unfold oH at hu' hv'
   rw[←hsm.1,←hsm.2]at hv'
   simp only[h1,List.getElem?_eq_getElem hj,beq_iff_eq]at hu' hv'
   rw[hu',hv']
   simp
 ·intro h v hv
  obtain⟨j,hj,h1,h2⟩:=hf v hv
  unfold oH
  simp only[h1,List.getElem?_eq_getElem hj]
  have h3:=h v hv _ (List.getElem_mem hj)
  unfold jn at h2
  simp only[Bool.and_eq_true,beq_iff_eq]at h2
  unfold m6 Fi at h3
  rw[h2.1,h2.2.2]at h3
  simpa using h3
def XH(k:Int)(a:Int)(v:aj.T):Int:=if(v.1==k)=true then IntKind.i64.wrap (a+AD v)else a
def MS(l:List aj.T)(k:Int):Int:=l.foldl (XH k) 0
theorem aaw(m:ac.T)(k:Int)(hl:m.2.2.2.1.length≤1099511627776):pG (m,k,())=some (MS m.2.2.2.1 k,()):=by
 have e:=AC (B:=gr) m.2.2.2.1 (fun(s:Int) i=>(k,m,s,(i:Int),())) (XH k) (fun s=>.inl (s,())) (fun _ _=>True) (fun _ _ _ _=>trivial) (fun s=>by simp only[gr,be]) (fun s i h _=>by
  simp only[gr,a7 h,aG h hl,ar h,aa,XH,AD]
  cases (m.2.2.2.1[i].1==k)<;>rfl) m.2.2.2.1.length 0 0 (by omega) trivial
 have e':ag gr (k,(m.1,m.2.1,m.2.2.1,m.2.2.2.1,()),(0:Int),(0:Int),())=_:=e
 unfold pG
 simp only[e']
 rfl
theorem aax(m:ac.T)(k:Int)(hl:m.2.2.2.1.length≤1000):∃l,nF (m,k,())=some (l,())∧mR (l,())=some (MS m.2.2.2.1 k,()):=by
 have e:=AC (B:=fU) m.2.2.2.1 (fun(s:List aj.T) i=>(k,s,m.2.2.2.1,(m.2.2.2.1.length:Int),(i:Int),())) (fun s v=>if(v.1==k)=true then s++ [v]else s) (fun s=>.inl (s,())) (fun i s=>s.length≤i) (fun i h s hs=>by
  show List.length (if _ then _ else _)≤_
  split
  ·simp;omega
  ·omega) (fun s=>by simp only[fU,be]) (fun s i h hs=>by
  simp only[fU,a7 h,aG h (show m.2.2.2.1.length≤1099511627776 by omega),ar h,aa]
  cases (m.2.2.2.1[i].1==k)
  ·rfl
  ·simp only
   rw[aD (by simp;omega)]
   rfl) m.2.2.2.1.length 0 [] (by omega) (by simp)
 have e':ag fU (k,([]:List aj.T),m.2.2.2.1,(m.2.2.2.1.length:Int),(0:Int),())=_:=e
 have hflt:∀(l acc:List aj.T),l.foldl (fun s v=>if(v.1==k)=true then s++ [v]else s) acc=acc++l.filter (fun v=>v.1==k):=by
  intro l
  induction l with
  |nil=>intro acc;simp
  |cons v l ih=>
   intro acc
   rw[List.foldl_cons,ih,List.filter_cons]
   split<;>simp
 refine⟨m.2.2.2.1.filter (fun v=>v.1==k), ?_, ?_⟩
 ·unfold nF
  simp only[e',List.drop_zero,hflt,List.nil_append]
 ·have hle:=List.length_filter_le (fun v:aj.T=>v.1==k) m.2.2.2.1
  generalize hq:m.2.2.2.1.filter (fun v=>v.1==k)=q at hle
  have e2:=AC (B:=d4) q (fun(s:Int) i=>(s,q,(q.length:Int),(i:Int),())) (fun s v=>IntKind.i64.wrap (s+AD v)) (fun s=>.inl (s,())) (fun _ _=>True) (fun _ _ _ _=>trivial) (fun s=>by simp only[d4,be]) (fun s i h _=>by
   simp only[d4,a7 h,aG h (show q.length≤1099511627776 by omega),ar h,aa]
   rfl) q.length 0 0 (by omega) trivial
  have e2':ag d4 ((0:Int),q,(q.length:Int),(0:Int),())=_:=e2
  unfold mR MS
  simp only[e2',List.drop_zero]
  rw[←hq,List.foldl_filter]
  rfl
def lx(l:List aj.T)(k:Nat):Bool:= !decide (MS l (k:Int)>32000)
theorem YV(m:ac.T)(hl:m.2.2.2.1.length≤1000)(hn:m.2.2.1.length≤1000):rM (m,())=some ((List.range m.2.2.1.length).all (lx m.2.2.2.1),()):=by
 have e:=ge (B:=ij) m.2.2.1.length (fun i=>(m,(m.2.2.1.length:Int),(i:Int),())) (lx m.2.2.2.1) (.inl ()) (.inr (false,())) (by simp only[ij,be]) (fun i h=>by
  obtain⟨l,h1,h2⟩:=aax m (i:Int) hl
  have h1:nF ((m.1,m.2.1,m.2.2.1,m.2.2.2.1,()),(i:Int),())=some (l,()):=h1
  simp only[ij,a7 h,aG h (show m.2.2.1.length≤1099511627776 by omega),h1,h2,lx]
  rcases Bool.eq_false_or_eq_true (decide (MS m.2.2.2.1 (i:Int)>32000))with g|g<;>simp only[g]<;>rfl)
 have e':ag ij ((m.1,m.2.1,m.2.2.1,m.2.2.2.1,()),(m.2.2.1.length:Int),(0:Int),())=_:=e
 unfold rM
 simp only[e']
 cases (List.range m.2.2.1.length).all (lx m.2.2.2.1)<;>rfl
theorem YW(m:ac.T)(hl:m.2.2.2.1.length≤1000)(hn:m.2.2.1.length≤1000):ag dI (m,(0:Int),())=some (if(List.range m.2.2.1.length).all (lx m.2.2.2.1)=true then .inl (m,())else .inr ((8:Int),())):=
 ge (B:=dI) m.2.2.1.length (fun i=>(m,(i:Int),())) (lx m.2.2.2.1) (.inl (m,())) (.inr ((8:Int),())) (by simp only[dI,be]) (fun i h=>by
  have h1:pG ((m.1,m.2.1,m.2.2.1,m.2.2.2.1,()),(i:Int),())=_:=aaw m (i:Int) (by omega)
  simp only[dI,a7 h,aG h (show m.2.2.1.length≤1099511627776 by omega),h1,lx]
  rcases Bool.eq_false_or_eq_true (decide (MS m.2.2.2.1 (i:Int)>32000))with g|g<;>simp only[g]<;>rfl)
def rf(v:aj.T):Bool:=if(v.2.2.2.1.2.1==(3:Int))=true then v.1 != (0:Int)else false
theorem ZU(l:List aj.T)(hl:l.length≤1000):cd (l,mP,())=some (l.any rf,()):=
 tB l (by omega) _ rf (fun i h=>by
  unfold mP rf
  cases (l[i].2.2.2.1.2.1==(3:Int))<;>rfl)
theorem ZV(m:ac.T)(hl:m.2.2.2.1.length≤1000):ag c8 (m,(0:Int),())=some (if m.2.2.2.1.any rf=true then .inr ((10:Int),())else .inl ()):=by
 have e:=i8 (B:=c8) m.2.2.2.1 (fun i=>(m,(i:Int),())) (fun v=> !rf v) (.inl ()) (.inr ((10:Int),())) (by simp only[c8,be]) (fun i h=>by
  simp only[c8,a7 h,aG h (show m.2.2.2.1.length≤1099511627776 by omega),ar h,aa,rf]
  rcases Bool.eq_false_or_eq_true (m.2.2.2.1[i].2.2.2.1.2.1==(3:Int))with g|g<;>simp only[g]
  ·rcases Bool.eq_false_or_eq_true (m.2.2.2.1[i].1 != (0:Int))with g2|g2<;>simp only[g2]<;>rfl
  ·rfl)
 have e':ag c8 (m,(0:Int),())=_:=e
 rw[e',zj]
 simp only[Bool.not_not]
 cases m.2.2.2.1.any rf<;>rfl
end Go.Proofs.YtkgcbbkodalfmaaGreatDoor
namespace Go.Proofs.YtkgcbbkodalfmaaGreatDoor
open Go.RowKit
set_option linter.unusedVariables false
set_option linter.unusedSimpArgs false
def EI(i r:Int)(s:Nat)(v:aj.T):Nat:=if(v.1==i)=true then(if(v.2.1==r)=true then s|||2^v.2.2.2.1.1.toNat else s)else s
def qP(l:List aj.T)(i r:Int):Nat:=l.foldl (EI i r) 0
theorem MU {l:List aj.T}(h:co l=true)(i r:Int):∀s,∀v ∈ l,s<4294967296→EI i r s v<4294967296:=by
 intro s v hv hs
 obtain⟨k,hk,e⟩:=r8 (gW h v hv)
 unfold EI
 split
 ·split
  ·rw[e];exact Fh s k hs hk
  ·exact hs
 ·exact hs
theorem YX {l:List aj.T}(h:co l=true)(i r:Int):qP l i r<4294967296:=pf (P:=fun s=>s<4294967296) l 0 (MU h i r) (by omega)
theorem YY(m:ac.T)(hd:lI m=true)(i r:Int):∀k,(qP m.2.2.2.1 i r).testBit k=true→(cG m.2.1).testBit k=true:=by
 unfold lI at hd
 rw[List.all_eq_true]at hd
 refine pf (P:=fun s=>∀k,Nat.testBit s k=true→(cG m.2.1).testBit k=true) m.2.2.2.1 0 ?_ (by simp)
 intro s v hv hs k hk
 unfold EI at hk
 have hv':=hd v hv
 rw[vK]at hv'
 split at hk
 ·split at hk
  ·rw[Nat.testBit_or,Nat.testBit_two_pow,Bool.or_eq_true]at hk
   rcases hk with hk|hk
   ·exact hs k hk
   ·have:=of_decide_eq_true hk
    rw[←this]
    exact hv'
  ·exact hs k hk
 ·exact hs k hk
theorem ZW(m:ac.T)(hd:lI m=true)(i r:Int):decide (cG m.2.1&&& qP m.2.2.2.1 i r=cG m.2.1)=decide (qP m.2.2.2.1 i r=cG m.2.1):=by
 have hs:=YY m hd i r
 rw[decide_eq_decide]
 constructor
 ·intro h
  apply Nat.eq_of_testBit_eq
  intro k
  have:=congrArg (fun z:Nat=>z.testBit k) h
  simp only[Nat.testBit_and]at this
  cases h1:(qP m.2.2.2.1 i r).testBit k with
  |true=>rw[hs k h1]
  |false=>
   rw[h1,Bool.and_false]at this
   exact this
 ·intro h
  rw[h,Nat.and_self]
theorem aay(m:ac.T)(hs:co m.2.2.2.1=true)(a i r:Int):ag dp (m,a,i,r,(0:Int),(0:Int),())=some (.inl (m,a,i,r,(qP m.2.2.2.1 i r:Int),())):=by
 have hlen:=gk hs
 have e:=mz (B:=dp) m.2.2.2.1 (fun(s:Nat) j=>(m,a,i,r,(s:Int),(j:Int),())) (EI i r) (fun s=>.inl (m,a,i,r,(s:Int),())) (fun s=>s<4294967296) (MU hs i r) (fun s _=>by simp only[dp,be]) (fun s j hj hv=>by
  obtain⟨k,hk,e⟩:=r8 (gW hs _ (List.getElem_mem hj))
  have ho:=UX s k hv hk
  simp only[dp,a7 hj,aG hj (show m.2.2.2.1.length≤1099511627776 by omega),ar hj,aa,e,ho,EI,Int.toNat_natCast]
  rcases Bool.eq_false_or_eq_true (m.2.2.2.1[j].1==i)with g|g<;>simp only[g]
  ·rcases Bool.eq_false_or_eq_true (m.2.2.2.1[j].2.1==r)with g2|g2<;>simp only[g2]<;>rfl
  ·rfl) m.2.2.2.1.length 0 0 (by omega) (by omega)
 have e':ag dp (m,a,i,r,(0:Int),(0:Int),())=_:=e
 rw[e',List.drop_zero]
 rfl
theorem aaz(m:ac.T)(hs:co m.2.2.2.1=true)(i r:Int)(ms:List al.T)(n i2 R r2:Int):ag fj (m,i,r,(0:Int),ms,n,i2,R,r2,m.2.2.2.1,(m.2.2.2.1.length:Int),(0:Int),())=some (.inl (m,i,(qP m.2.2.2.1 i r:Int),ms,n,i2,R,r2,())):=by
 have hlen:=gk hs
 have e:=mz (B:=fj) m.2.2.2.1 (fun(s:Nat) j=>(m,i,r,(s:Int),ms,n,i2,R,r2,m.2.2.2.1,(m.2.2.2.1.length:Int),(j:Int),())) (EI i r) (fun s=>.inl (m,i,(s:Int),ms,n,i2,R,r2,())) (fun s=>s<4294967296) (MU hs i r) (fun s _=>by simp only[fj,be]) (fun s j hj hv=>by
  obtain⟨k,hk,e⟩:=r8 (gW hs _ (List.getElem_mem hj))
  have hn:¬((k:Int)<0):=by omega
  have hp:2^k<2^32:=Nat.pow_lt_pow_right (by omega) hk
  have ho:=Rq s (2^k) (by omega) (by omega)
  simp only[fj,a7 hj,aG hj (show m.2.2.2.1.length≤1099511627776 by omega),ar hj,aa,e,hn,if_false,La k hk,ho,EI,Int.toNat_natCast]
  rcases Bool.eq_false_or_eq_true (m.2.2.2.1[j].1==i)with g|g<;>simp only[g]
  ·rcases Bool.eq_false_or_eq_true (m.2.2.2.1[j].2.1==r)with g2|g2<;>simp only[g2]<;>rfl
  ·rfl) m.2.2.2.1.length 0 0 (by omega) (by omega)
 have e':ag fj (m,i,r,(0:Int),ms,n,i2,R,r2,m.2.2.2.1,(m.2.2.2.1.length:Int),(0:Int),())=_:=e
 rw[e',List.drop_zero]
 rfl
def m7(m:ac.T)(i:Nat)(r:Nat):Bool:=decide (qP m.2.2.2.1 (i:Int) (r:Int)=cG m.2.1)
def oI(m:ac.T)(i:Nat):Bool:=match m.2.2.1[i]? with
 |none=>false
 |some v=>(List.range v.1.toNat).all (m7 m i)
def qQ(m:ac.T):Bool:=(List.range m.2.2.1.length).all (oI m)
theorem ZX(a b:Nat):((a:Int) != (b:Int))= !decide (a=b):=by
 by_cases h:a=b
 ·subst h;simp
 ·rw[decide_eq_false h]
  simp
  omega
theorem XI(m:ac.T)(hn:f3 m.2.1=true)(hm:eH m.2.2.1=true)(hs:co m.2.2.2.1=true):nC (m,())=some (qQ m,()):=by
 obtain⟨hl16,hg⟩:=dw hm
 have inner:∀i (hi:i<m.2.2.1.length),ag eZ (m,(cG m.2.1:Int),(i:Int),(0:Int),())=some (if(List.range m.2.2.1[i].1.toNat).all (m7 m i)=true then .inl (m,(cG m.2.1:Int),(i:Int),())else .inr (false,())):=fun i hi=>by
  have hgi:=my (hg _ (List.getElem_mem hi))
  have e:=ge (B:=eZ) m.2.2.1[i].1.toNat (fun r=>(m,(cG m.2.1:Int),(i:Int),(r:Int),())) (m7 m i) (.inl (m,(cG m.2.1:Int),(i:Int),())) (.inr (false,())) (by
   simp only[eZ,ar hi,aa]
   have:decide ((m.2.2.1[i].1.toNat:Int)<m.2.2.1[i].1)=false:=by rw[←hgi.2.2.1];exact decide_eq_false (Int.lt_irrefl _)
   rw[this]) (fun r hr=>by
   have hlt:decide ((r:Int)<m.2.2.1[i].1)=true:=by rw[hgi.2.2.1];exact a7 hr
   have hv:ag dp ((m.1,m.2.1,m.2.2.1,m.2.2.2.1,()),(cG m.2.1:Int),(i:Int),(r:Int),(0:Int),(0:Int),())=_:=aay m hs (cG m.2.1:Int) (i:Int) (r:Int)
   simp only[eZ,ar hi,aa,hlt,hv,ZX,m7,aG hr (show m.2.2.1[i].1.toNat≤1099511627776 by have:=hgi.1.2;omega)]
   rcases Bool.eq_false_or_eq_true (decide (qP m.2.2.2.1 (i:Int) (r:Int)=cG m.2.1))with g|g<;>simp only[g]<;>rfl)
  exact e
 have e:=ge (B:=fT) m.2.2.1.length (fun i=>(m,(cG m.2.1:Int),(i:Int),())) (oI m) (.inl ()) (.inr (false,())) (by simp only[fT,be]) (fun i hi=>by
  have h6:ag eZ ((m.1,m.2.1,m.2.2.1,m.2.2.2.1,()),(cG m.2.1:Int),(i:Int),(0:Int),())=_:=inner i hi
  simp only[fT,a7 hi,h6,oI,List.getElem?_eq_getElem hi]
  rcases Bool.eq_false_or_eq_true ((List.range m.2.2.1[i].1.toNat).all (m7 m i))with g|g<;>simp only[g,if_true,aG hi (show m.2.2.1.length≤1099511627776 by omega)]<;>rfl)
 have e':ag fT ((m.1,m.2.1,m.2.2.1,m.2.2.2.1,()),(cG m.2.1:Int),(0:Int),())=_:=e
 unfold nC qQ
 simp only[Pb m.2.1 hn,e']
 cases (List.range m.2.2.1.length).all (oI m)<;>rfl
theorem XJ(m:ac.T)(hn:f3 m.2.1=true)(hm:eH m.2.2.1=true)(hs:co m.2.2.2.1=true)(hd:lI m=true):rN (m,())=some (qQ m,()):=by
 obtain⟨hl16,hg⟩:=dw hm
 have inner:∀i (hi:i<m.2.2.1.length),ag gh (m,(i:Int),m.2.2.1,(m.2.2.1.length:Int),(i:Int),m.2.2.1[i].1,(0:Int),())=some (if(List.range m.2.2.1[i].1.toNat).all (m7 m i)=true then .inl (m,m.2.2.1,(m.2.2.1.length:Int),(i:Int),())else .inr (false,())):=fun i hi=>by
  have hgi:=my (hg _ (List.getElem_mem hi))
  have e:=ge (B:=gh) m.2.2.1[i].1.toNat (fun r=>(m,(i:Int),m.2.2.1,(m.2.2.1.length:Int),(i:Int),m.2.2.1[i].1,(r:Int),())) (m7 m i) (.inl (m,m.2.2.1,(m.2.2.1.length:Int),(i:Int),())) (.inr (false,())) (by
   have:decide ((m.2.2.1[i].1.toNat:Int)<m.2.2.1[i].1)=false:=by rw[←hgi.2.2.1];exact decide_eq_false (Int.lt_irrefl _)
   simp only[gh,this]) (fun r hr=>by
   have hlt:decide ((r:Int)<m.2.2.1[i].1)=true:=by rw[hgi.2.2.1];exact a7 hr
   have hv:ag fj ((m.1,m.2.1,m.2.2.1,m.2.2.2.1,()),(i:Int),(r:Int),(0:Int),m.2.2.1,(m.2.2.1.length:Int),(i:Int),m.2.2.1[i].1,(r:Int),m.2.2.2.1,(m.2.2.2.1.length:Int),(0:Int),())=_:=aaz m hs (i:Int) (r:Int) m.2.2.1 (m.2.2.1.length:Int) (i:Int) m.2.2.1[i].1 (r:Int)
   have hz:=G4 (cG m.2.1) (qP m.2.2.2.1 (i:Int) (r:Int)) (by have:=zq hn;omega) (by have:=YX hs (i:Int) (r:Int);omega)
   rw[ZW m hd]at hz
   have hz':(bits BinOp.andNot .i64 (cG m.2.1:Int) (qP m.2.2.2.1 (i:Int) (r:Int):Int) != 0)= !decide (qP m.2.2.2.1 (i:Int) (r:Int)=cG m.2.1):=by rw[←hz];rfl
   simp only[gh,hlt,hv,UY m.2.1 hn,hz',m7,aG hr (show m.2.2.1[i].1.toNat≤1099511627776 by have:=hgi.1.2;omega)]
   rcases Bool.eq_false_or_eq_true (decide (qP m.2.2.2.1 (i:Int) (r:Int)=cG m.2.1))with g|g<;>simp only[g]<;>rfl)
  exact e
 have e:=ge (B:=ik) m.2.2.1.length (fun i=>(m,m.2.2.1,(m.2.2.1.length:Int),(i:Int),())) (oI m) (.inl ()) (.inr (false,())) (by simp only[ik,be]) (fun i hi=>by
  have h6:ag gh ((m.1,m.2.1,m.2.2.1,m.2.2.2.1,()),(i:Int),m.2.2.1,(m.2.2.1.length:Int),(i:Int),m.2.2.1[i].1,(0:Int),())=_:=inner i hi
  simp only[ik,a7 hi,ar hi,aa,h6,oI,List.getElem?_eq_getElem hi]
  rcases Bool.eq_false_or_eq_true ((List.range m.2.2.1[i].1.toNat).all (m7 m i))with g|g<;>simp only[g,if_true,aG hi (show m.2.2.1.length≤1099511627776 by omega)]<;>rfl)
 have e':ag ik ((m.1,m.2.1,m.2.2.1,m.2.2.2.1,()),m.2.2.1,(m.2.2.1.length:Int),(0:Int),())=_:=e
 unfold rN qQ
 simp only[e']
 cases (List.range m.2.2.1.length).all (oI m)<;>rfl
def bU(m:ac.T):Prop:=m.2.1.length≤1099511627776∧(∀v ∈ m.2.1,v.2.1.length≤1099511627776)∧m.2.2.1.length≤1099511627776∧(∀v ∈ m.2.2.1,v.2.2.1.length≤1099511627776)∧m.2.2.2.1.length≤1099511627776
noncomputable def vL(m:ac.T):Int:=
 if aS m.1 1 16777215=false then 1 else if f3 m.2.1=false then 2 else if eH m.2.2.1=false then 3 else if co m.2.2.2.1=false then 4 else
 if d9 m=false then 5 else if lI m=false then 6 else if EH m.2.2.2.1=false then 7 else if(List.range m.2.2.1.length).all (lx m.2.2.2.1)=false then 8 else
 if qQ m=false then 9 else if m.2.2.2.1.any rf=true then 10 else 0
theorem YZ(m:ac.T)(hz:bU m):l0 (m,())=some (vL m,()):=by
 unfold l0 vL
 simp only[i9,YH m.2.1 hz.1 hz.2.1,YL m.2.2.1 hz.2.2.1 hz.2.2.2.1,YQ m.2.2.2.1 hz.2.2.2.2]
 rcases Bool.eq_false_or_eq_true (aS m.1 1 16777215)with h1|h1<;>simp only[h1,Bool.not_true,Bool.not_false,if_true,if_false,Bool.true_eq_false]
 rcases Bool.eq_false_or_eq_true (f3 m.2.1)with h2|h2<;>simp only[h2,Bool.not_true,Bool.not_false,if_true,if_false,Bool.true_eq_false]
 rcases Bool.eq_false_or_eq_true (eH m.2.2.1)with h3|h3<;>simp only[h3,Bool.not_true,Bool.not_false,if_true,if_false,Bool.true_eq_false]
 rcases Bool.eq_false_or_eq_true (co m.2.2.2.1)with h4|h4<;>simp only[h4,Bool.not_true,Bool.not_false,if_true,if_false,Bool.true_eq_false]
 have hl:=gk h4
 have hn:=(dw h3).1
 have f5:kZ ((m.1,m.2.1,m.2.2.1,m.2.2.2.1,()),())=_:=UW m h4 h3
 have f6:lZ ((m.1,m.2.1,m.2.2.1,m.2.2.2.1,()),())=_:=ZS m h2 h4
 have f7:kh ((m.1,m.2.1,m.2.2.1,m.2.2.2.1,()),())=_:=aav m hz.2.2.2.2
 have f8:ag dI ((m.1,m.2.1,m.2.2.1,m.2.2.2.1,()),(0:Int),())=_:=YW m (by omega) (by omega)
 have f9:nC ((m.1,m.2.1,m.2.2.1,m.2.2.2.1,()),())=_:=XI m h2 h3 h4
 have f10:ag c8 ((m.1,m.2.1,m.2.2.1,m.2.2.2.1,()),(0:Int),())=_:=ZV m (by omega)
 simp only[f5,f6,f7,f8]
 rcases Bool.eq_false_or_eq_true (d9 m)with h5|h5<;>simp only[h5,Bool.not_true,Bool.not_false,if_true,if_false,Bool.true_eq_false]
 rcases Bool.eq_false_or_eq_true (lI m)with h6|h6<;>simp only[h6,Bool.not_true,Bool.not_false,if_true,if_false,Bool.true_eq_false]
 rcases Bool.eq_false_or_eq_true (EH m.2.2.2.1)with h7|h7<;>simp only[h7,Bool.not_true,Bool.not_false,if_true,if_false,Bool.true_eq_false]
 rcases Bool.eq_false_or_eq_true ((List.range m.2.2.1.length).all (lx m.2.2.2.1))with h8|h8<;>simp only[h8,Bool.not_true,Bool.not_false,if_true,if_false,Bool.true_eq_false,Bool.false_eq_true,f9,f10]
 rcases Bool.eq_false_or_eq_true (qQ m)with h9|h9<;>simp only[h9,Bool.not_true,Bool.not_false,if_true,if_false,Bool.true_eq_false]
 rcases Bool.eq_false_or_eq_true (m.2.2.2.1.any rf)with h10|h10<;>simp only[h10,if_true,if_false,Bool.false_eq_true]
theorem Y0(m:ac.T)(hz:bU m):me (m,())=some (vL m,()):=by
 unfold me vL
 simp only[kS,YI m.2.1 hz.1,TO m.2.2.1 hz.2.2.1 hz.2.2.2.1,YR m.2.2.2.1 hz.2.2.2.2]
 rcases Bool.eq_false_or_eq_true (aS m.1 1 16777215)with h1|h1<;>simp only[h1,Bool.not_true,Bool.not_false,if_true,if_false,Bool.true_eq_false]
 rcases Bool.eq_false_or_eq_true (f3 m.2.1)with h2|h2<;>simp only[h2,Bool.not_true,Bool.not_false,if_true,if_false,Bool.true_eq_false]
 rcases Bool.eq_false_or_eq_true (eH m.2.2.1)with h3|h3<;>simp only[h3,Bool.not_true,Bool.not_false,if_true,if_false,Bool.true_eq_false]
 rcases Bool.eq_false_or_eq_true (co m.2.2.2.1)with h4|h4<;>simp only[h4,Bool.not_true,Bool.not_false,if_true,if_false,Bool.true_eq_false]
 have hl:=gk h4
 have hn:=(dw h3).1
 have f5:mc ((m.1,m.2.1,m.2.2.1,m.2.2.2.1,()),())=_:=UV m h4 h3
 have f6:=ZT m h2 h4
 have f8:rM ((m.1,m.2.1,m.2.2.1,m.2.2.2.1,()),())=_:=YV m (by omega) (by omega)
 have f10:=ZU m.2.2.2.1 (by omega)
 simp only[f5]
 rcases Bool.eq_false_or_eq_true (d9 m)with h5|h5<;>simp only[h5,Bool.not_true,Bool.not_false,if_true,if_false,Bool.true_eq_false]
 have f7:pP ((m.1,m.2.1,m.2.2.1,m.2.2.2.1,()),())=_:=XF m h4 h3 h5
 rw[UZ m h4 h3 h5]at f7
 simp only[f6,f7,f8]
 rcases Bool.eq_false_or_eq_true (lI m)with h6|h6<;>simp only[h6,Bool.not_true,Bool.not_false,if_true,if_false,Bool.true_eq_false]
 have f9:rN ((m.1,m.2.1,m.2.2.1,m.2.2.2.1,()),())=_:=XJ m h2 h3 h4 h6
 simp only[f9,f10]
 rcases Bool.eq_false_or_eq_true (EH m.2.2.2.1)with h7|h7<;>simp only[h7,Bool.not_true,Bool.not_false,if_true,if_false,Bool.true_eq_false]
 rcases Bool.eq_false_or_eq_true ((List.range m.2.2.1.length).all (lx m.2.2.2.1))with h8|h8<;>simp only[h8,Bool.not_true,Bool.not_false,if_true,if_false,Bool.true_eq_false]
 rcases Bool.eq_false_or_eq_true (qQ m)with h9|h9<;>simp only[h9,Bool.not_true,Bool.not_false,if_true,if_false,Bool.true_eq_false]
 rcases Bool.eq_false_or_eq_true (m.2.2.2.1.any rf)with h10|h10<;>simp only[h10,if_true,if_false,Bool.false_eq_true]
noncomputable def a8(m:ac.T):Bool:=vL m==0
theorem Wx(m:ac.T)(hz:bU m):l5 (m,())=some (a8 m,()):=by
 have h:l0 ((m.1,m.2.1,m.2.2.1,m.2.2.2.1,()),())=_:=YZ m hz
 unfold l5 a8
 simp only[h]
theorem Rt(m:ac.T)(hz:bU m):kO (m,())=some (a8 m,()):=by
 have h:me ((m.1,m.2.1,m.2.2.1,m.2.2.2.1,()),())=_:=Y0 m hz
 unfold kO a8
 simp only[h]
theorem fo {m:ac.T}(h:a8 m=true):(1≤m.1∧m.1≤16777215)∧f3 m.2.1=true∧eH m.2.2.1=true∧co m.2.2.2.1=true∧d9 m=true:=by
 unfold a8 vL at h
 rcases Bool.eq_false_or_eq_true (aS m.1 1 16777215)with h1|h1
 ·rcases Bool.eq_false_or_eq_true (f3 m.2.1)with h2|h2
  ·rcases Bool.eq_false_or_eq_true (eH m.2.2.1)with h3|h3
   ·rcases Bool.eq_false_or_eq_true (co m.2.2.2.1)with h4|h4
    ·rcases Bool.eq_false_or_eq_true (d9 m)with h5|h5
     ·exact⟨aR.1 h1,h2,h3,h4,h5⟩
     ·simp[h1,h2,h3,h4,h5]at h
    ·simp[h1,h2,h3,h4]at h
   ·simp[h1,h2,h3]at h
  ·simp[h1,h2]at h
 ·simp[h1]at h
end Go.Proofs.YtkgcbbkodalfmaaGreatDoor
namespace Go.Proofs.YtkgcbbkodalfmaaGreatDoor
open Go.RowKit
set_option linter.unusedVariables false
set_option linter.unusedSimpArgs false
noncomputable def aC(m:ac.T)(st:ab.T):Bool:=br st&&(match m.2.2.1[st.2.1.toNat]? with
 |none=>false
 |some v=>decide (st.2.2.1<v.1)&&(decide (st.2.2.2.1<v.2.1)&&decide (st.2.2.2.2.1.toNat&&& cG m.2.1=st.2.2.2.2.1.toNat)))
theorem vM {st:ab.T}(h:br st=true):∃a b c d:Nat,st.2.1=(a:Int)∧st.2.2.1=(b:Int)∧st.2.2.2.1=(c:Int)∧st.2.2.2.2.1=(d:Int)∧a≤15∧b≤15∧c≤255∧d≤4294967295:=by
 unfold br at h
 simp only[Bool.and_eq_true,aR]at h
 obtain⟨⟨⟨⟨h1,h2⟩,h3⟩,h4⟩,h5⟩:=h
 have key:∀(z:Int) (n:Nat),0≤z→z≤(n:Int)→∃k:Nat,z=(k:Int)∧k≤n:=fun z n h0 h1=>⟨z.toNat,by omega,by omega⟩
 obtain⟨a,ea,ha⟩:=key _ 15 h2.1 h2.2
 obtain⟨b,eb,hb⟩:=key _ 15 h3.1 h3.2
 obtain⟨c,ec,hc⟩:=key _ 255 h4.1 h4.2
 obtain⟨d,ed,hd⟩:=key _ 4294967295 h5.1 h5.2
 exact⟨a,b,c,d,ea,eb,ec,ed,ha,hb,hc,hd⟩
theorem aaA(m:ac.T)(st:ab.T)(h:a8 m=true):mp (m,st,())=some (aC m st,()):=by
 obtain⟨_,hn,hm,hs,_⟩:=fo h
 have hl16:=(dw hm).1
 have hst:iH ((st.1,st.2.1,st.2.2.1,st.2.2.2.1,st.2.2.2.2.1,()),())=some (br st,()):=ML (st,())
 unfold mp aC D6
 simp only[hst,i9,Pb m.2.1 hn]
 rcases Bool.eq_false_or_eq_true (br st)with h1|h1<;>simp only[h1,Bool.not_true,Bool.not_false,Bool.true_and,Bool.false_and]
 obtain⟨a,b,c,d,ea,eb,ec,ed,ha,hb,hc,hd⟩:=vM h1
 rw[ea,eb,ec,ed]
 have hw:IntKind.i64.wrap ((m.2.2.1.length:Int)-1)=(m.2.2.1.length:Int)-1:=by rw[wrap_i64]<;>omega
 have hand:=up d (cG m.2.1) (by omega) (by have:=zq hn;omega)
 have hbe:(((d&&& cG m.2.1:Nat):Int)==(d:Int))=decide (d&&& cG m.2.1=d):=by
  by_cases h:d&&& cG m.2.1=d
  ·rw[decide_eq_true h,h];simp
  ·rw[decide_eq_false h,beq_eq_false_iff_ne];omega
 simp only[hw,hand,hbe,Int.toNat_natCast]
 by_cases hal:a<m.2.2.1.length
 ·have hin:aS (a:Int) 0 ((m.2.2.1.length:Int)-1)=true:=aR.2 ⟨by omega,by omega⟩
  simp only[hin,Bool.not_true,ar hal,aa,List.getElem?_eq_getElem hal]
  have n1:decide ((b:Int)≥m.2.2.1[a].1)= !decide ((b:Int)<m.2.2.1[a].1):=by
   by_cases g:(b:Int)<m.2.2.1[a].1
   ·rw[decide_eq_true g,decide_eq_false (Int.not_le.2 g)];rfl
   ·rw[decide_eq_false g,decide_eq_true (Int.not_lt.1 g)];rfl
  have n2:decide ((c:Int)≥m.2.2.1[a].2.1)= !decide ((c:Int)<m.2.2.1[a].2.1):=by
   by_cases g:(c:Int)<m.2.2.1[a].2.1
   ·rw[decide_eq_true g,decide_eq_false (Int.not_le.2 g)];rfl
   ·rw[decide_eq_false g,decide_eq_true (Int.not_lt.1 g)];rfl
  simp only[n1,n2]
  rcases Bool.eq_false_or_eq_true (decide ((b:Int)<m.2.2.1[a].1))with g1|g1<;>simp only[g1,Bool.not_true,Bool.not_false,Bool.true_and,Bool.false_and]
  rcases Bool.eq_false_or_eq_true (decide ((c:Int)<m.2.2.1[a].2.1))with g2|g2<;>simp only[g2,Bool.not_true,Bool.not_false,Bool.true_and,Bool.false_and]
 ·have hin:aS (a:Int) 0 ((m.2.2.1.length:Int)-1)=false:=by
   rw[Bool.eq_false_iff]
   intro g
   have:=aR.1 g
   omega
  simp only[hin,Bool.not_false,List.getElem?_eq_none (Nat.not_lt.1 hal)]
theorem U0(m:ac.T)(st:ab.T)(h:a8 m=true):mf (m,st,())=some (aC m st,()):=by
 obtain⟨_,hn,hm,hs,_⟩:=fo h
 have hst:dl ((st.1,st.2.1,st.2.2.1,st.2.2.2.1,st.2.2.2.2.1,()),())=some (br st,()):=uq (st,())
 unfold mf aC
 simp only[hst,UY m.2.1 hn]
 rcases Bool.eq_false_or_eq_true (br st)with h1|h1<;>simp only[h1,Bool.not_true,Bool.not_false,Bool.true_and,Bool.false_and]
 obtain⟨a,b,c,d,ea,eb,ec,ed,ha,hb,hc,hd⟩:=vM h1
 rw[ea,eb,ec,ed]
 have hz:=G4 d (cG m.2.1) (by omega) (by have:=zq hn;omega)
 simp only[hz,Int.toNat_natCast]
 by_cases hal:a<m.2.2.1.length
 ·have hin:decide ((a:Int)≥(m.2.2.1.length:Int))=false:=decide_eq_false (by omega)
  simp only[hin,ar hal,aa,List.getElem?_eq_getElem hal]
  rcases Bool.eq_false_or_eq_true (decide ((b:Int)<m.2.2.1[a].1))with g1|g1<;>simp only[g1,Bool.true_and,Bool.false_and]
  rcases Bool.eq_false_or_eq_true (decide ((c:Int)<m.2.2.1[a].2.1))with g2|g2<;>simp only[g2,Bool.true_and,Bool.false_and]
 ·have hin:decide ((a:Int)≥(m.2.2.1.length:Int))=true:=decide_eq_true (by omega)
  simp only[hin,List.getElem?_eq_none (Nat.not_lt.1 hal)]
theorem Ru:∀(ms:List al.T) (i j:Nat) (h:j<ms.length) (r s:Nat),r<ms[j].1.toNat→s<ms[j].2.1.toNat→f4 ((i+j:Nat):Int) (r:Int) (s:Int) ∈ iA i ms
 |m::ms,i,0,h,r,s,hr,hs=>by
  simp only[iA,List.mem_append]
  left
  simp only[jd,List.mem_flatMap,List.mem_map,List.mem_range]
  exact⟨r,hr,s,hs,rfl⟩
 |m::ms,i,j+1,h,r,s,hr,hs=>by
  simp only[iA,List.mem_append]
  right
  have:=Ru ms (i+1) j (by simpa using h) r s hr hs
  have e:i+1+j=i+(j+1):=by omega
  rw[e]at this
  exact this
theorem TV(m:ac.T)(st:ab.T)(h:a8 m=true)(hb:aC m st=true):∃(j:Nat) (hj:j<m.2.2.2.1.length),re m.2.2.2.1 st.2.1 st.2.2.1 st.2.2.2.1=(j:Int):=by
 obtain⟨_,hn,hm,hs,hc⟩:=fo h
 have hg:=(dw hm).2
 unfold aC at hb
 rw[Bool.and_eq_true]at hb
 obtain⟨a,b,c,d,ea,eb,ec,ed,ha,hb',hc',hd⟩:=vM hb.1
 have hb2:=hb.2
 rw[ea,eb,ec,ed]at hb2
 rw[ea,eb,ec]
 rw[Int.toNat_natCast]at hb2
 by_cases hal:a<m.2.2.1.length
 ·simp only[List.getElem?_eq_getElem hal,Bool.and_eq_true,decide_eq_true_eq]at hb2
  have hgi:=my (hg _ (List.getElem_mem hal))
  obtain⟨h1,h2,_⟩:=hb2
  rw[hgi.2.2.1]at h1
  rw[hgi.2.2.2]at h2
  have h1:b<m.2.2.1[a].1.toNat:=Int.ofNat_lt.1 h1
  have h2:c<m.2.2.1[a].2.1.toNat:=Int.ofNat_lt.1 h2
  have hk:=Ru m.2.2.1 0 a hal b c h1 h2
  rw[Nat.zero_add]at hk
  have hK:m.2.2.2.1.map cY=iA 0 m.2.2.1:=by
   unfold d9 at hc
   exact of_decide_eq_true hc
  rw[←hK]at hk
  have hq:=Rp (l:=m.2.2.2.1) (fun v hv=>qO (gW hs v hv)) (a:=(a:Int)) (b:=(b:Int)) (c:=(c:Int)) ⟨by omega,by have:=hgi.1.2;omega⟩ ⟨by omega,by have:=hgi.2.1.2;omega⟩
  rw[decide_eq_true hk]at hq
  unfold re at hq ⊢
  cases hf:bv (jn (a:Int) (b:Int) (c:Int)) 0 m.2.2.2.1 with
  |none=>rw[hf]at hq;cases hq
  |some j=>
   obtain⟨n,hn,e,_⟩:=xV _ _ _ _ hf
   have:j=n:=by omega
   subst this
   exact⟨j,hn,rfl⟩
 ·simp only[List.getElem?_eq_none (Nat.not_lt.1 hal)]at hb2
  cases hb2
def bL(m:ac.T)(st:ab.T):bf.T:=match m.2.2.2.1[(re m.2.2.2.1 st.2.1 st.2.2.1 st.2.2.2.1).toNat]? with
 |none=>((0:Int),(0:Int),(0:Int),(0:Int),false,())
 |some v=>v.2.2.2.1
theorem dF(m:ac.T)(st:ab.T)(h:a8 m=true)(hb:aC m st=true):cJ (m,st,())=some (bL m st,())∧az (m,st,())=some (bL m st,())∧kU (bL m st)=true:=by
 obtain⟨_,hn,hm,hs,hc⟩:=fo h
 have hlen:=gk hs
 obtain⟨j,hj,e⟩:=TV m st h hb
 have h1:=TT m.2.2.2.1 st.2.1 st.2.2.1 st.2.2.2.1 (by omega)
 have h2:=TU m.2.2.2.1 st.2.1 st.2.2.1 st.2.2.2.1 (by omega)
 have h3:=gW hs _ (List.getElem_mem hj)
 unfold cJ az bL
 simp only[h1,h2,e,ar hj,aa,Int.toNat_natCast,List.getElem?_eq_getElem hj]
 refine⟨trivial,trivial, ?_⟩
 unfold lH at h3
 simp only[Bool.and_eq_true]at h3
 exact h3.2.2.2
def ji(d:bf.T)(f:aU.T):Bool:=(f.1==d.2.1)&&(((f.2.2.2.1.length:Int)==d.2.2.1)&&((f.2.1==(0:Int))||d.2.2.2.2.1))
theorem TW(x):vk x=some (ji x.1 x.2.1,()):=by
 unfold vk ji
 rcases Bool.eq_false_or_eq_true (x.2.1.1==x.1.2.1)with h1|h1<;>simp only[h1,Bool.true_and,Bool.false_and]
 rcases Bool.eq_false_or_eq_true ((x.2.1.2.2.2.1.length:Int)==x.1.2.2.1)with h2|h2<;>simp only[h2,Bool.true_and,Bool.false_and]
 rcases Bool.eq_false_or_eq_true (x.2.1.2.1==(0:Int))with h3|h3<;>simp only[h3,Bool.true_or,Bool.false_or]
theorem TX(d:bf.T)(f:aU.T)(hd:kU d=true)(hf:bK f=true)(hl:f.2.2.2.1.length≤1099511627776):du (d,f,())=some (ji d f,()):=by
 have h1:ex ((d.1,d.2.1,d.2.2.1,d.2.2.2.1,d.2.2.2.2.1,()),())=some (true,()):=by
  rw[←hd];exact Rj (d,())
 have h2:cL ((f.1,f.2.1,(f.2.2.1.1,f.2.2.1.2.1,f.2.2.1.2.2.1,f.2.2.1.2.2.2.1,f.2.2.1.2.2.2.2.1,()),f.2.2.2.1,()),())=some (true,()):=by
  rw[←hf];exact MM (f,()) hl
 unfold du ji
 simp only[h1,h2]
 rcases Bool.eq_false_or_eq_true (f.1==d.2.1)with h1|h1<;>simp only[h1,Bool.true_and,Bool.false_and]
 rcases Bool.eq_false_or_eq_true ((f.2.2.2.1.length:Int)==d.2.2.1)with h2|h2<;>simp only[h2,Bool.true_and,Bool.false_and]
 rcases Bool.eq_false_or_eq_true d.2.2.2.2.1 with h3|h3<;>simp only[h3,Bool.or_true,Bool.or_false]
theorem EJ {l:List Int}(h:(cB l).2=true):bK (cB l).1=true:=by
 cases l with
 |nil=>cases h
 |cons b r=>
  have fin:∀st q,(vH (b::r) b st q).2=true→bK (vH (b::r) b st q).1=true:=fun st q h=>by
   unfold vH at h ⊢
   split at h
   ·split at h
    ·cases h
    ·simp only[xb,Bool.and_eq_true]at h
     exact h.1
   ·simp only[xb,Bool.and_eq_true]at h
    exact h.1
  simp only[cB]at h ⊢
  split at h
  ·split at h
   ·cases h
   ·exact fin _ _ h
  ·exact fin _ _ h
theorem r9 {f:aU.T}(h:bK f=true):f.2.2.2.1.length≤32:=by
 unfold bK at h
 simp only[Bool.and_eq_true]at h
 have hd:=h.2.2.1
 unfold jc at hd
 split at hd
 ·have:=aR.1 hd;omega
 ·split at hd
  ·have:=aR.1 hd;omega
  ·have:(f.2.2.2.1.length:Int)=0:=by simpa using hd
   omega
theorem MV {l:List Int}{r:Nat}{st:ab.T}(h:gJ l r st=true):(cB (av l)).2=true:=by
 unfold gJ at h
 split at h
 ·cases h
 ·simp only[Bool.and_eq_true]at h
  exact h.2.2.1
noncomputable def vN(m:ac.T)(st:ab.T)(l:List Int):aB.T:=match gJ l m.1.toNat st&&ji (bL m st) (cB (av l)).1 with
 |true=>((3:Int),(cB (av l)).1,())
 |false=>((2:Int),eE,())
theorem zr {m:ac.T}(h:a8 m=true):∃r:Nat,m.1=(r:Int)∧r<16777216:=by
 obtain⟨⟨h1,h2⟩,_⟩:=fo h
 have key:∀z:Int,1≤z→z≤16777215→∃r:Nat,z=(r:Int)∧r<16777216:=fun z a b=>⟨z.toNat,by omega,by omega⟩
 exact key m.1 h1 h2
theorem XK(m:ac.T)(st:ab.T)(l:List Int)(h:a8 m=true)(hb:aC m st=true)(hl:l.length≤10000)(hv:∀v ∈ l,0≤v∧v≤255):∃c:Int,yM (m,st,l,())=some (vN m st l,c,()):=by
 obtain⟨r,er,hr⟩:=zr h
 have hst:br st=true:=by unfold aC at hb;rw[Bool.and_eq_true]at hb;exact hb.1
 obtain⟨c,hc,ho⟩:=ZH l r st hl hv hr hst
 obtain⟨_,hd,_⟩:=dF m st h hb
 have ho':nJ (l,(r:Int),(st.1,st.2.1,st.2.2.1,st.2.2.2.1,st.2.2.2.2.1,()),())=_:=ho
 have hd':az ((m.1,m.2.1,m.2.2.1,m.2.2.2.1,()),(st.1,st.2.1,st.2.2.1,st.2.2.2.1,st.2.2.2.2.1,()),())=_:=hd
 unfold yM vN
 rw[er]at hd'
 simp only[er,ho',hd',TW,Int.toNat_natCast]
 rcases Bool.eq_false_or_eq_true (gJ l r st)with h1|h1
 ·simp only[h1,if_true,Bool.true_and]
  have hz:((0:Int)==0)=true:=rfl
  have hfe:ji (bL m st) ((cB (av l)).1.1,(cB (av l)).1.2.1,((cB (av l)).1.2.2.1.1,(cB (av l)).1.2.2.1.2.1,(cB (av l)).1.2.2.1.2.2.1,(cB (av l)).1.2.2.1.2.2.2.1,(cB (av l)).1.2.2.1.2.2.2.2.1,()),(cB (av l)).1.2.2.2.1,())=ji (bL m st) (cB (av l)).1:=rfl
  simp only[hz,hfe]
  rcases Bool.eq_false_or_eq_true (ji (bL m st) (cB (av l)).1)with h2|h2
  ·exact⟨0,by simp only[h2];rfl⟩
  ·exact⟨5,by simp only[h2];rfl⟩
 ·have hz:(c==0)=false:=by simpa using hc
  have hz2:(c != 0)=true:=by simpa using hc
  simp only[h1,Bool.false_eq_true,if_false,Bool.false_and,hz,hz2]
  exact⟨c,rfl⟩
theorem XL(m:ac.T)(st:ab.T)(l:List Int)(h:a8 m=true)(hb:aC m st=true)(hl:l.length≤10000)(hv:∀v ∈ l,0≤v∧v≤255):∃c:Int,qd (m,st,l,())=some (vN m st l,c,()):=by
 obtain⟨r,er,hr⟩:=zr h
 have hst:br st=true:=by unfold aC at hb;rw[Bool.and_eq_true]at hb;exact hb.1
 obtain⟨c,hc,ho⟩:=ZG l r st hl hv hr hst
 obtain⟨hd,_,hdc⟩:=dF m st h hb
 have ho':pc (l,(r:Int),(st.1,st.2.1,st.2.2.1,st.2.2.2.1,st.2.2.2.2.1,()),())=_:=ho
 have hd':cJ ((m.1,m.2.1,m.2.2.1,m.2.2.2.1,()),(st.1,st.2.1,st.2.2.1,st.2.2.2.1,st.2.2.2.2.1,()),())=_:=hd
 unfold qd vN
 rw[er]at hd'
 simp only[er,ho',hd',Int.toNat_natCast]
 rcases Bool.eq_false_or_eq_true (gJ l r st)with h1|h1
 ·have hz:((0:Int)==0)=true:=rfl
  have hfr:=EJ (MV h1)
  have hfe:du (bL m st,((cB (av l)).1.1,(cB (av l)).1.2.1,((cB (av l)).1.2.2.1.1,(cB (av l)).1.2.2.1.2.1,(cB (av l)).1.2.2.1.2.2.1,(cB (av l)).1.2.2.1.2.2.2.1,(cB (av l)).1.2.2.1.2.2.2.2.1,()),(cB (av l)).1.2.2.2.1,()),())=some (ji (bL m st) (cB (av l)).1,()):=TX _ _ hdc hfr (Nat.le_trans (r9 hfr) (by omega))
  simp only[h1,if_true,Bool.true_and,hz,hfe]
  rcases Bool.eq_false_or_eq_true (ji (bL m st) (cB (av l)).1)with h2|h2
  ·exact⟨0,by simp only[h2];rfl⟩
  ·exact⟨5,by simp only[h2];rfl⟩
 ·have hz:(c==0)=false:=by simpa using hc
  have hz2:(c != 0)=true:=by simpa using hc
  simp only[h1,Bool.false_eq_true,if_false,Bool.false_and,hz,hz2]
  exact⟨c,rfl⟩
noncomputable def gK(m:ac.T)(st:ab.T)(l:List Int):aB.T:=if(cX l).2.1=0 then vN m st (cX l).1 else if(cX l).2.1=4 then((0:Int),eE,())else((1:Int),eE,())
theorem ZY(m:ac.T)(st:ab.T)(l:List Int)(h:a8 m=true)(hb:aC m st=true)(hl:bT l=true):∃c:Int,rV (m,st,l,())=some (gK m st l,c,()):=by
 obtain⟨h1,h2⟩:=KW (df hl)
 obtain⟨c,hj⟩:=XK m st (cX l).1 h hb (by omega) h2
 have hj':yM ((m.1,m.2.1,m.2.2.1,m.2.2.2.1,()),(st.1,st.2.1,st.2.2.1,st.2.2.2.1,st.2.2.2.2.1,()),(cX l).1,())=_:=hj
 unfold rV gK
 simp only[Wd hl,hj']
 by_cases h0:(cX l).2.1=0
 ·have g:((cX l).2.1==0)=true:=by rw[h0];rfl
  simp only[g,if_pos h0]
  exact⟨c,rfl⟩
 ·have g:((cX l).2.1==0)=false:=by simpa using h0
  simp only[g,if_neg h0]
  by_cases h4:(cX l).2.1=4
  ·have g4:((cX l).2.1==4)=true:=by rw[h4];rfl
   simp only[g4,if_pos h4]
   exact⟨_,rfl⟩
  ·have g4:((cX l).2.1==4)=false:=by simpa using h4
   simp only[g4,if_neg h4]
   exact⟨_,rfl⟩
theorem Wy(m:ac.T)(st:ab.T)(l:List Int)(h:a8 m=true)(hb:aC m st=true)(hl:bT l=true):∃c:Int,fZ (m,st,l,())=some (gK m st l,c,()):=by
 obtain⟨h1,h2⟩:=KW (df hl)
 obtain⟨c,hj⟩:=XL m st (cX l).1 h hb (by omega) h2
 have hj':qd ((m.1,m.2.1,m.2.2.1,m.2.2.2.1,()),(st.1,st.2.1,st.2.2.1,st.2.2.2.1,st.2.2.2.2.1,()),(cX l).1,())=_:=hj
 unfold fZ gK
 simp only[Xz hl,hj']
 by_cases h0:(cX l).2.1=0
 ·have g:((cX l).2.1==0)=true:=by rw[h0];rfl
  simp only[g,if_pos h0]
  exact⟨c,rfl⟩
 ·have g:((cX l).2.1==0)=false:=by simpa using h0
  simp only[g,if_neg h0]
  by_cases h4:(cX l).2.1=4
  ·have g4:((cX l).2.1==4)=true:=by rw[h4];rfl
   simp only[g4,if_pos h4]
   exact⟨_,rfl⟩
  ·have g4:((cX l).2.1==4)=false:=by simpa using h4
   simp only[g4,if_neg h4]
   exact⟨_,rfl⟩
noncomputable def hZ(m:ac.T)(st:ab.T)(l:List Int):aB.T×Int×Unit:=match a8 m with
 |false=>(((0:Int),eE,()),(1:Int),())
 |true=>match aC m st with
  |false=>(((0:Int),eE,()),(2:Int),())
  |true=>match bT l with
   |false=>(((0:Int),eE,()),(2:Int),())
   |true=>(gK m st l,(0:Int),())
theorem NK(m:ac.T)(st:ab.T)(l:List Int)(hz:bU m)(hl:l.length≤1099511627776):fv (m,st,l,())=some (hZ m st l):=by
 have hM:kO ((m.1,m.2.1,m.2.2.1,m.2.2.2.1,()),())=_:=Rt m hz
 unfold fv sD dr hZ
 simp only[KU l hl,hM]
 rcases Bool.eq_false_or_eq_true (a8 m)with h1|h1<;>simp only[h1,Bool.not_true,Bool.not_false]
 ·have hB:mf ((m.1,m.2.1,m.2.2.1,m.2.2.2.1,()),(st.1,st.2.1,st.2.2.1,st.2.2.2.1,st.2.2.2.2.1,()),())=_:=U0 m st h1
  simp only[hB]
  rcases Bool.eq_false_or_eq_true (aC m st)with h2|h2<;>simp only[h2,Bool.not_true,Bool.not_false]
  ·rcases Bool.eq_false_or_eq_true (bT l)with h3|h3<;>simp only[h3,Bool.not_true,Bool.not_false]
   ·obtain⟨c,hr⟩:=ZY m st l h1 h2 h3
    have hr':rV ((m.1,m.2.1,m.2.2.1,m.2.2.2.1,()),(st.1,st.2.1,st.2.2.1,st.2.2.2.1,st.2.2.2.2.1,()),l,())=_:=hr
    simp only[hr']
    rfl
   ·rfl
  ·rfl
 ·rfl
end Go.Proofs.YtkgcbbkodalfmaaGreatDoor
namespace Go.Proofs.YtkgcbbkodalfmaaGreatDoor
open Go.RowKit
set_option linter.unusedVariables false
set_option linter.unusedSimpArgs false
abbrev U1(v:aB.T):List Int:=v.2.1.2.2.2.1
theorem G5(x y:ab.T):dy ab x y=true↔x=y:=by
 obtain⟨(a:Int),(b:Int),(c:Int),(d:Int),(e:Int),⟨⟩⟩:=x
 obtain⟨(a':Int),(b':Int),(c':Int),(d':Int),(e':Int),⟨⟩⟩:=y
 have h:dy ab (a,b,c,d,e,()) (a',b',c',d',e',())=((a==a')&&((b==b')&&((c==c')&&((d==d')&&((e==e')&&true))))):=rfl
 rw[h]
 simp only[Bool.and_eq_true,beq_iff_eq,and_true]
 constructor
 ·rintro ⟨rfl,rfl,rfl,rfl,rfl⟩;rfl
 ·intro h
  cases h
  exact⟨rfl,rfl,rfl,rfl,rfl⟩
theorem Cb(x y:aU.T):cp x y=true↔x=y:=by
 obtain⟨(a:Int),(b:Int),c,(d:List Int),⟨⟩⟩:=x
 obtain⟨(a':Int),(b':Int),c',(d':List Int),⟨⟩⟩:=y
 have h:cp (a,b,c,d,()) (a',b',c',d',())=((a==a')&&((b==b')&&(dy ab c c'&&decide (d=d')))):=rfl
 rw[h]
 simp only[Bool.and_eq_true,beq_iff_eq,G5,decide_eq_true_eq]
 constructor
 ·rintro ⟨rfl,rfl,rfl,rfl⟩;rfl
 ·intro h
  cases h
  exact⟨rfl,rfl,rfl,rfl⟩
def fp(s:Int):aB.T:=(s,eE,())
theorem jx {v:aB.T}(h:d8 v=true):(∃f,v=((3:Int),f,())∧bK f=true)∨(∃s:Int,v=fp s∧0≤s∧s≤4∧s≠3):=by
 obtain⟨(s:Int),f,⟨⟩⟩:=v
 have h:(if s==(3:Int)then bK f else aS s 0 4&&cp f eE)=true:=h
 by_cases hs:s=3
 ·subst hs
  exact .inl ⟨f,rfl,by simpa using h⟩
 ·have hb:(s==(3:Int))=false:=by simp[hs]
  rw[hb]at h
  simp only[Bool.false_eq_true,if_false,Bool.and_eq_true,Cb]at h
  obtain⟨h1,rfl⟩:=h
  have:=aR.1 h1
  exact .inr ⟨s,rfl,this.1,this.2,hs⟩
theorem Fk {s:Int}(h0:0≤s)(h4:s≤4)(h3:s≠3):d8 (fp s)=true:=by
 have e:d8 (fp s)=if s==(3:Int)then bK eE else aS s 0 4&&cp eE eE:=rfl
 have hb:(s==(3:Int))=false:=by simp[h3]
 rw[e,hb,(Cb eE eE).2 rfl,aR.2 ⟨h0,h4⟩]
 rfl
noncomputable def jE(a b:aB.T):aB.T:=if(a.1==(3:Int))&&((b.1==(3:Int))&&cp a.2.1 b.2.1)then a else if((a.1==(3:Int))&&(b.1==(3:Int)))||((a.1==(4:Int))||(b.1==(4:Int)))then fp 4 else if a.1==(3:Int)then a else if b.1==(3:Int)then b else fp (if b.1>a.1 then b.1 else a.1)
noncomputable def vO(a b:aB.T):aB.T:=if(a.1==(3:Int))&&f0 a b then a else if((a.1==(3:Int))&&(b.1==(3:Int)))||((a.1==(4:Int))||(b.1==(4:Int)))then fp 4 else if decide (a.1≥b.1)then a else b
theorem Y1(a b:aB.T)(h:(U1 a).length≤1099511627776):kQ (a,b,())=some (jE a b,()):=by
 have hs:rY (a.2.1,b.2.1,())=some (cp a.2.1 b.2.1,()):=SZ _ h
 obtain⟨(s:Int),⟨(k:Int),(r:Int),⟨(t1:Int),(t2:Int),(t3:Int),(t4:Int),(t5:Int),⟨⟩⟩,(d:List Int),⟨⟩⟩,⟨⟩⟩:=a
 obtain⟨(s':Int),⟨(k':Int),(r':Int),⟨(u1:Int),(u2:Int),(u3:Int),(u4:Int),(u5:Int),⟨⟩⟩,(d':List Int),⟨⟩⟩,⟨⟩⟩:=b
 unfold kQ jE
 simp only at hs ⊢
 rw[hs]
 rcases Bool.eq_false_or_eq_true (s==(3:Int))with h1|h1<;>rcases Bool.eq_false_or_eq_true (s'==(3:Int))with h2|h2<;>rcases Bool.eq_false_or_eq_true (s==(4:Int))with h3|h3<;>rcases Bool.eq_false_or_eq_true (s'==(4:Int))with h4|h4<;>(try (rcases Bool.eq_false_or_eq_true (cp (k,r,(t1,t2,t3,t4,t5,()),d,()) (k',r',(u1,u2,u3,u4,u5,()),d',()))with h5|h5))<;>simp only[h1,h2,h3,h4,h5]<;>rfl
theorem U2(a b:aB.T)(h:(U1 a).length≤1099511627776):Fb (a,b,())=some (vO a b,()):=by
 have hs:li (a,b,())=some (f0 a b,()):=O0 _ h
 obtain⟨(s:Int),⟨(k:Int),(r:Int),⟨(t1:Int),(t2:Int),(t3:Int),(t4:Int),(t5:Int),⟨⟩⟩,(d:List Int),⟨⟩⟩,⟨⟩⟩:=a
 obtain⟨(s':Int),⟨(k':Int),(r':Int),⟨(u1:Int),(u2:Int),(u3:Int),(u4:Int),(u5:Int),⟨⟩⟩,(d':List Int),⟨⟩⟩,⟨⟩⟩:=b
 unfold Fb vO
 simp only at hs ⊢
 rw[hs]
 generalize f0 (s,(k,r,(t1,t2,t3,t4,t5,()),d,()),()) (s',(k',r',(u1,u2,u3,u4,u5,()),d',()),())=q
 rcases Bool.eq_false_or_eq_true (s==(3:Int))with h1|h1<;>rcases Bool.eq_false_or_eq_true (s'==(3:Int))with h2|h2<;>rcases Bool.eq_false_or_eq_true (s==(4:Int))with h3|h3<;>rcases Bool.eq_false_or_eq_true (s'==(4:Int))with h4|h4<;>rcases Bool.eq_false_or_eq_true (decide (s≥s'))with h6|h6<;>cases q<;>simp only[h1,h2,h3,h4,h6]<;>rfl
theorem U3 {a b:aB.T}(ha:d8 a=true)(hb:d8 b=true):vO a b=jE a b:=by
 rcases jx ha with⟨f,rfl,hf⟩|⟨s,rfl,h0,h4,h3⟩<;>rcases jx hb with⟨g,rfl,hg⟩|⟨s',rfl,h0',h4',h3'⟩
 ·have e:f0 ((3:Int),f,()) ((3:Int),g,())=cp f g:=by
   show(((3:Int)==3)&&cp f g)=_
   simp
  unfold vO jE
  rw[e]
  cases cp f g<;>rfl
 ·have e:f0 ((3:Int),f,()) (fp s')=false:=by
   show(((3:Int)==s')&&cp f eE)=_
   have:((3:Int)==s')=false:=by simp;omega
   rw[this];rfl
  have e3:(s'==(3:Int))=false:=by simp[h3']
  unfold vO jE
  rw[e]
  show(if((3:Int)==3&&false)=true then _ else if(((3:Int)==3&&s'==(3:Int))||((3:Int)==4||s'==(4:Int)))=true then fp 4 else if decide ((3:Int)≥s')=true then _ else fp s')=(if((3:Int)==3&&(s'==(3:Int)&&cp f eE))=true then _ else if(((3:Int)==3&&s'==(3:Int))||((3:Int)==4||s'==(4:Int)))=true then fp 4 else if((3:Int)==3)=true then _ else if(s'==(3:Int))=true then _ else _)
  rw[e3]
  rcases Bool.eq_false_or_eq_true (s'==(4:Int))with h|h
  ·rw[h];rfl
  ·have:s'≠4:=by simpa using h
   have hd:decide ((3:Int)≥s')=true:=by simp;omega
   rw[h,hd];rfl
 ·have e3:(s==(3:Int))=false:=by simp[h3]
  unfold vO jE
  show(if(s==(3:Int)&&f0 (fp s) ((3:Int),g,()))=true then _ else if((s==(3:Int)&&(3:Int)==(3:Int))||(s==(4:Int)||(3:Int)==(4:Int)))=true then fp 4 else if decide (s≥(3:Int))=true then _ else _)=(if(s==(3:Int)&&((3:Int)==(3:Int)&&cp eE g))=true then _ else if((s==(3:Int)&&(3:Int)==(3:Int))||(s==(4:Int)||(3:Int)==(4:Int)))=true then fp 4 else if(s==(3:Int))=true then _ else if((3:Int)==(3:Int))=true then _ else _)
  rw[e3]
  rcases Bool.eq_false_or_eq_true (s==(4:Int))with h|h
  ·rw[h];rfl
  ·have:s≠4:=by simpa using h
   have hd:decide (s≥(3:Int))=false:=by simp;omega
   rw[h,hd];rfl
 ·have e3:(s==(3:Int))=false:=by simp[h3]
  have e3':(s'==(3:Int))=false:=by simp[h3']
  unfold vO jE
  show(if(s==(3:Int)&&f0 (fp s) (fp s'))=true then _ else if((s==(3:Int)&&s'==(3:Int))||(s==(4:Int)||s'==(4:Int)))=true then fp 4 else if decide (s≥s')=true then fp s else fp s')=(if(s==(3:Int)&&(s'==(3:Int)&&cp eE eE))=true then _ else if((s==(3:Int)&&s'==(3:Int))||(s==(4:Int)||s'==(4:Int)))=true then fp 4 else if(s==(3:Int))=true then fp s else if(s'==(3:Int))=true then fp s' else fp (if s'>s then s' else s))
  rw[e3,e3']
  simp only[Bool.false_and,Bool.false_eq_true,if_false,Bool.false_or]
  rcases Bool.eq_false_or_eq_true (s==(4:Int)||s'==(4:Int))with h|h
  ·simp only[h,if_true]
  ·simp only[h,Bool.false_eq_true,if_false]
   by_cases hg:s'>s
   ·have hd:decide (s≥s')=false:=by simp;omega
    simp[hd,hg]
   ·have hd:decide (s≥s')=true:=by simp;omega
    simp[hd,hg]
theorem S6 {a b:aB.T}(ha:d8 a=true)(hb:d8 b=true):d8 (jE a b)=true:=by
 unfold jE
 split
 ·exact ha
 ·split
  ·exact Fk (by omega) (by omega) (by omega)
  ·split
   ·exact ha
   ·split
    ·exact hb
    ·rename_i h1 h2 h3 h4
     rcases jx ha with⟨f,rfl,hf⟩|⟨s,rfl,h0,h4,h3⟩
     ·exact absurd rfl h3
     ·rcases jx hb with⟨g,rfl,hg⟩|⟨s',rfl,h0',h4',h3'⟩
      ·exact absurd rfl h4
      ·show d8 (fp (if s'>s then s' else s))=true
       split
       ·exact Fk (by assumption) (by assumption) (by assumption)
       ·exact Fk (by assumption) (by assumption) (by assumption)
end Go.Proofs.YtkgcbbkodalfmaaGreatDoor
namespace Go.Proofs.YtkgcbbkodalfmaaGreatDoor
open Go.RowKit
set_option linter.unusedVariables false
set_option linter.unusedSimpArgs false
noncomputable def Pc(m:ac.T)(st:ab.T)(l l2:List Int):aB.T×Int×Unit:=match(hZ m st l).2.1 != (0:Int)with
 |true=>(fp 0,(hZ m st l).2.1,())
 |false=>match(hZ m st l2).2.1 != (0:Int)with
  |true=>(fp 0,(hZ m st l2).2.1,())
  |false=>(jE (hZ m st l).1 (hZ m st l2).1,(0:Int),())
theorem NL(m:ac.T)(st:ab.T)(l:List Int):(hZ m st l).1.2.1.2.2.2.1.length≤32:=by
 unfold hZ
 split
 ·exact Nat.zero_le _
 ·split
  ·exact Nat.zero_le _
  ·split
   ·exact Nat.zero_le _
   ·show(gK m st l).2.1.2.2.2.1.length≤32
    unfold gK
    split
    ·unfold vN
     split
     ·rename_i h
      rw[Bool.and_eq_true]at h
      exact r9 (EJ (MV h.1))
     ·exact Nat.zero_le _
    ·split<;>exact Nat.zero_le _
theorem uf(m:ac.T)(st:ab.T)(l:List Int):d8 (hZ m st l).1=true:=by
 have h0:∀s:Int,0≤s→s≤4→s≠3→d8 ((s,eE,()):aB.T)=true:=fun s a b c=>Fk a b c
 unfold hZ
 split
 ·exact h0 0 (by omega) (by omega) (by omega)
 ·split
  ·exact h0 0 (by omega) (by omega) (by omega)
  ·split
   ·exact h0 0 (by omega) (by omega) (by omega)
   ·show d8 (gK m st l)=true
    unfold gK
    split
    ·unfold vN
     split
     ·rename_i h
      rw[Bool.and_eq_true]at h
      exact EJ (MV h.1)
     ·exact h0 2 (by omega) (by omega) (by omega)
    ·split
     ·exact h0 0 (by omega) (by omega) (by omega)
     ·exact h0 1 (by omega) (by omega) (by omega)
theorem ZZ(m:ac.T)(st:ab.T)(l l2:List Int)(hz:bU m)(hl:l.length≤1099511627776)(hl2:l2.length≤1099511627776):jw (m,st,l,l2,())=some (Pc m st l l2):=by
 have h1:fv ((m.1,m.2.1,m.2.2.1,m.2.2.2.1,()),(st.1,st.2.1,st.2.2.1,st.2.2.2.1,st.2.2.2.2.1,()),l,())=_:=NK m st l hz hl
 have h2:fv ((m.1,m.2.1,m.2.2.1,m.2.2.2.1,()),(st.1,st.2.1,st.2.2.1,st.2.2.2.1,st.2.2.2.2.1,()),l2,())=_:=NK m st l2 hz hl2
 have hd1:=NL m st l
 have hv1:=uf m st l
 have hv2:=uf m st l2
 have hm:=U2 (hZ m st l).1 (hZ m st l2).1 (Nat.le_trans hd1 (by omega))
 rw[U3 hv1 hv2]at hm
 unfold jw Pc
 simp only[h1,h2]
 rcases Bool.eq_false_or_eq_true ((hZ m st l).2.1 != (0:Int))with g|g<;>simp only[g]
 ·rfl
 ·rcases Bool.eq_false_or_eq_true ((hZ m st l2).2.1 != (0:Int))with g2|g2<;>simp only[g2]
  ·rfl
  ·generalize hZ m st l=r1 at hm ⊢
   generalize hZ m st l2=r2 at hm ⊢
   obtain⟨⟨(s1:Int),⟨(f1:Int),(q1:Int),⟨(t11:Int),(t12:Int),(t13:Int),(t14:Int),(t15:Int),⟨⟩⟩,(da:List Int),⟨⟩⟩,⟨⟩⟩,(c1:Int),⟨⟩⟩:=r1
   obtain⟨⟨(s2:Int),⟨(f2:Int),(q2:Int),⟨(t21:Int),(t22:Int),(t23:Int),(t24:Int),(t25:Int),⟨⟩⟩,(db:List Int),⟨⟩⟩,⟨⟩⟩,(c2:Int),⟨⟩⟩:=r2
   simp only at hm ⊢
   simp only[hm]
end Go.Proofs.YtkgcbbkodalfmaaGreatDoor
