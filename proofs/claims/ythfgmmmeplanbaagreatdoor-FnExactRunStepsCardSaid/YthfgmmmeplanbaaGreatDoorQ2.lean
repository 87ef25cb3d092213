import Derived.Test.YthfgmmmeplanbaaGreatDoorQ1
namespace Go.Proofs.YthfgmmmeplanbaaGreatDoor
open Go.RowKit
set_option linter.unusedVariables false
set_option linter.unusedSimpArgs false
theorem WQ(x):qG x=some (aN x.1 0 31,()):=by
 unfold qG
 simp only[iU]
theorem WR(x):nH x=some (aN x.1 0 31,()):=by
 unfold nH
 simp only[l0]
end Go.Proofs.YthfgmmmeplanbaaGreatDoor
namespace Go.Proofs.YthfgmmmeplanbaaGreatDoor
open Go.RowKit
set_option linter.unusedVariables false
set_option linter.unusedSimpArgs false
theorem WS {α:Type}(p:α→Bool):∀l:List α,(∀x ∈ l.dropWhile p,p x=true)→l.dropWhile p= []
 | [],_=>rfl
 |a::l,h=>by
  by_cases ha:p a=true
  ·rw[List.dropWhile_cons_of_pos ha]at h ⊢
   exact WS p l h
  ·rw[List.dropWhile_cons_of_neg ha]at h
   exact absurd (h a (by simp)) ha
theorem Lm {α:Type}(p:α→Bool):∀l:List α,l.dropWhile p= []↔∀x ∈ l,p x=true
 | []=>by simp
 |a::l=>by
  by_cases ha:p a=true
  ·rw[List.dropWhile_cons_of_pos ha,Lm p l]
   simp[ha]
  ·rw[List.dropWhile_cons_of_neg ha]
   simp[ha]
theorem XR(s cs:List UInt8):(Lib.trimS s cs== [])=s.all (fun b=>cs.contains b):=by
 have e:Lib.trimS s cs= []↔∀b ∈ s,cs.contains b=true:=by
  unfold Lib.trimS Lib.trimLeftS Lib.trimRightS
  constructor
  ·intro h
   have h1:=(Lm _ _).1 h
   have h2:=WS (fun b=>cs.contains b) s.reverse (fun x hx=>h1 x (by simpa using hx))
   have h3:=(Lm _ _).1 h2
   exact fun b hb=>h3 b (by simpa using hb)
  ·intro h
   have:s.reverse.dropWhile (fun b=>cs.contains b)= []:=(Lm _ _).2 (fun b hb=>h b (by simpa using hb))
   rw[this]
   rfl
 by_cases h:Lib.trimS s cs= []
 ·rw[h,List.all_eq_true.2 (e.1 h)];rfl
 ·have h2:¬(s.all (fun b=>cs.contains b)=true):=fun h3=>h (e.2 (List.all_eq_true.1 h3))
  have h3:(Lib.trimS s cs== [])=false:=by simpa using h
  rw[h3]
  simpa using h2
def wH(b:UInt8):Bool:=if(b.toNat:Int)<97 then(if(b.toNat:Int)<48 then false else if(b.toNat:Int)>57 then false else true)else if(b.toNat:Int)>122 then(if(b.toNat:Int)<48 then false else if(b.toNat:Int)>57 then false else true)else true
def Ln:List UInt8:=[97,98,99,100,101,102,103,104,105,106,107,108,109,110,111,112,113,114,115,116,117,118,119,120,121,122,48,49,50,51,52,53,54,55,56,57]
theorem YQ(b:UInt8):Ln.contains b=wH b:=by
 have h:∀n:Fin 256,Ln.contains (UInt8.ofNat n.1)=wH (UInt8.ofNat n.1):=by decide+kernel
 have:=h ⟨b.toNat,b.toNat_lt⟩
 simpa using this
def Lo(s:List UInt8):Bool:=s.all wH&&(decide ((s.length:Int)≥1)&&decide ((s.length:Int)≤6))
theorem ZV(s:List UInt8)(hs:s.length≤1099511627776):vH (s,())=some (Lo s,()):=by
 have e:=gY (B:=gL) s (fun i=>(s,(i:Int),())) wH (.inl (s,())) (.inr (false,())) (by simp only[gL,aJ]) (fun i h=>by
  simp only[gL,aK h,av h hs,am h,aa]
  generalize s[i]=b
  unfold wH
  by_cases h1:(b.toNat:Int)<97<;>by_cases h2:(b.toNat:Int)>122<;>by_cases h3:(b.toNat:Int)<48<;>by_cases h4:(b.toNat:Int)>57<;>simp[h1,h2,h3,h4])
 have e':ac gL (s,(0:Int),())=_:=e
 unfold vH Lo
 simp only[e']
 rcases Bool.eq_false_or_eq_true (s.all wH)with h|h<;>simp only[h,Bool.true_and,Bool.false_and,if_true]
 ·rcases Bool.eq_false_or_eq_true (decide ((s.length:Int)≥1))with h1|h1<;>simp only[h1,Bool.true_and,Bool.false_and]
 ·rfl
def tj(v:ak.T):Bool:=aN v.1 0 31&&(Lo v.2.1&&aN v.2.2.1 0 1000)
theorem Vj(x)(h:x.1.2.1.length≤1099511627776):oS x=some (tj x.1,()):=by
 have hn:=ZV x.1.2.1 h
 unfold oS tj
 simp only[WQ,hn,iU]
 rcases Bool.eq_false_or_eq_true (aN x.1.1 0 31)with h1|h1<;>rcases Bool.eq_false_or_eq_true (Lo x.1.2.1)with h2|h2<;>simp only[h1,h2]<;>rfl
theorem Vk(x):lH x=some (tj x.1,()):=by
 unfold lH tj Lo
 simp only[WR,l0]
 rcases Bool.eq_false_or_eq_true (decide ((x.1.2.1.length:Int)≥1))with h1|h1<;>simp only[h1,Bool.true_and,Bool.false_and,Bool.and_false]
 rcases Bool.eq_false_or_eq_true (decide ((x.1.2.1.length:Int)≤6))with h2|h2<;>simp only[h2,Bool.true_and,Bool.false_and,Bool.and_false,Bool.and_true]
 have h6:x.1.2.1.length≤1048576:=by
  have:=of_decide_eq_true h2
  omega
 have ht:uD (x.1.2.1,([97,98,99,100,101,102,103,104,105,106,107,108,109,110,111,112,113,114,115,116,117,118,119,120,121,122,48,49,50,51,52,53,54,55,56,57]:List UInt8),())=some (Lib.trimS x.1.2.1 Ln,()):=by
  show aa (Je x.1.2.1 Ln) (fun s=>some (s,()))=_
  unfold Je
  rw[if_pos ⟨h6,by decide,by decide⟩]
  rfl
 have hc:x.1.2.1.all (fun b=>Ln.contains b)=x.1.2.1.all wH:=by
  congr 1
  funext b
  exact YQ b
 simp only[ht,XR,hc]
 rcases Bool.eq_false_or_eq_true (x.1.2.1.all wH)with h3|h3<;>rcases Bool.eq_false_or_eq_true (aN x.1.1 0 31)with h4|h4<;>simp only[h3,h4]<;>rfl
def ro(l:List ak.T)(i:Nat):Bool:=match l[i]? with
 |none=>false
 |some v=>tj v&&((match i with
  |0=>true
  |k+1=>match l[k]? with
   |none=>false
   |some u=> !decide (v.1≤u.1))&& !(l.take i).any (fun u=>u.2.1==v.2.1))
def fA(l:List ak.T):Bool:=aN (l.length:Int) 1 32&&(List.range l.length).all (ro l)
theorem YR(l:List ak.T)(hl:l.length≤1099511627776)(i:Nat)(hi:i<l.length):ac cL (l,(i:Int),(0:Int),())=some (if(l.take i).any (fun u=>u.2.1==l[i].2.1)then .inr (false,())else .inl (l,(i:Int),())):=by
 have e:=gY (B:=cL) (l.take i) (fun j=>(l,(i:Int),(j:Int),())) (fun u=> !(u.2.1==l[i].2.1)) (.inl (l,(i:Int),())) (.inr (false,())) (by
  rw[List.length_take,Nat.min_eq_left (Nat.le_of_lt hi)]
  simp only[cL,aJ]) (fun j hj=>by
  have hj':j<i:=by rw[List.length_take]at hj;omega
  have hjl:j<l.length:=by omega
  have hg:(l.take i)[j]=l[j]:=by simp
  rw[hg]
  simp only[cL,aK hj',av hjl hl,am hjl,am hi,aa]
  rcases Bool.eq_false_or_eq_true (l[j].2.1==l[i].2.1)with h1|h1<;>simp only[h1]<;>rfl)
 have e':ac cL (l,(i:Int),(0:Int),())=_:=e
 rw[e',yX]
 simp only[Bool.not_not]
 cases (l.take i).any (fun u=>u.2.1==l[i].2.1)<;>rfl
theorem y7 {i:Nat}(h:i+1≤1099511627776):IntKind.i64.wrap (((i+1:Nat):Int)-1)=(i:Int):=by rw[wrap_i64]<;>omega
theorem E5(i:Nat):decide (((i+1:Nat):Int)>0)=true:=decide_eq_true (by omega)
theorem YS(l:List ak.T)(hl:l.length≤1099511627776)(hn:∀v ∈ l,v.2.1.length≤1099511627776):nm (l,())=some (fA l,()):=by
 have e:=fM (B:=d8) l.length (fun i=>(l,(i:Int),())) (ro l) (.inl ()) (.inr (false,())) (by simp only[d8,aJ]) (fun i h=>by
  have hv:=Vj (l[i],()) (hn _ (List.getElem_mem h))
  have hc:=YR l hl i h
  simp only[d8,aK h,av h hl,am h,aa,hv,ro,List.getElem?_eq_getElem h]
  rcases Bool.eq_false_or_eq_true (tj l[i])with h1|h1<;>simp only[h1,Bool.not_true,Bool.not_false,Bool.true_and,Bool.false_and]
  ·cases i with
   |zero=>
    have z:decide (((0:Nat):Int)>0)=false:=rfl
    simp only[z,hc,Bool.true_and]
    rfl
   |succ k=>
    have hk:k<l.length:=by omega
    simp only[E5,y7 (show k+1≤1099511627776 by omega),am hk,List.getElem?_eq_getElem hk]
    rcases Bool.eq_false_or_eq_true (decide (l[k+1].1≤l[k].1))with h2|h2<;>simp only[h2,Bool.not_true,Bool.not_false,Bool.true_and,Bool.false_and]
    ·rfl
    ·simp only[hc]
     cases (l.take (k+1)).any (fun u=>u.2.1==l[k+1].2.1)
     ·show some (Sum.inl (l,IntKind.i64.wrap (((k+1:Nat):Int)+1),()))=some (.inl (l,((k+1+1:Nat):Int),()))
      rw[av h hl]
     ·rfl
  ·rfl)
 have e':ac d8 (l,(0:Int),())=_:=e
 unfold nm fA
 simp only[iU,e']
 rcases Bool.eq_false_or_eq_true (aN (l.length:Int) 1 32)with h1|h1<;>simp only[h1]<;>rcases Bool.eq_false_or_eq_true ((List.range l.length).all (ro l))with h2|h2<;>simp only[h2]<;>rfl
theorem YT(l:List ak.T)(hl:l.length≤1099511627776):ns (l,())=some (fA l,()):=by
 have e:=fM (B:=el) l.length (fun i=>(l,l,(l.length:Int),(i:Int),())) (ro l) (.inl (l,())) (.inr (false,())) (by simp only[el,aJ]) (fun i h=>by
  have hv:lH ((l[i].1,l[i].2.1,l[i].2.2.1,l[i].2.2.2.1,()),())=some (tj l[i],()):=Vk (l[i],())
  have hb:aH l.length none (some (.dat (.int .i64) (i:Int)))=some (0,i):=by
   simp only[aH,jv,i9]
   rw[if_pos ⟨by omega,by omega,by omega⟩]
   simp
  have hc:=FY (l.take i) (by rw[List.length_take];omega) (fun z=>jd (z.1,(l[i].1,l[i].2.1,l[i].2.2.1,l[i].2.2.2.1,()),())) (fun u=>u.2.1==l[i].2.1) (fun j hj=>rfl)
  have hc:cq (List.drop 0 (List.take i l),(fun z=>jd (z.1,(l[i].1,l[i].2.1,l[i].2.2.1,l[i].2.2.2.1,()),())),())=_:=hc
  simp only[el,aK h,av h hl,am h,aa,hv,hb,hc,ro,List.getElem?_eq_getElem h]
  rcases Bool.eq_false_or_eq_true (tj l[i])with h1|h1<;>simp only[h1,Bool.not_true,Bool.not_false,Bool.true_and,Bool.false_and]
  ·cases i with
   |zero=>rfl
   |succ k=>
    have hk:k<l.length:=by omega
    have hge:decide (l[k].1≥l[k+1].1)=decide (l[k+1].1≤l[k].1):=rfl
    simp only[E5,y7 (show k+1≤1099511627776 by omega),am hk,List.getElem?_eq_getElem hk,hge]
    rcases Bool.eq_false_or_eq_true (decide (l[k+1].1≤l[k].1))with h2|h2<;>simp only[h2,Bool.not_true,Bool.not_false,Bool.true_and,Bool.false_and]
    ·rfl
    ·cases (l.take (k+1)).any (fun u=>u.2.1==l[k+1].2.1)
     ·rfl
     ·rfl
  ·rfl)
 have e':ac el (l,l,(l.length:Int),(0:Int),())=_:=e
 unfold ns fA aN
 simp only[e']
 rcases Bool.eq_false_or_eq_true ((List.range l.length).all (ro l))with h2|h2<;>simp only[h2,if_true,Bool.and_true,Bool.and_false]
 ·rcases Bool.eq_false_or_eq_true (decide ((l.length:Int)≥1))with h1|h1<;>simp only[h1]<;>rfl
 ·rfl
end Go.Proofs.YthfgmmmeplanbaaGreatDoor
namespace Go.Proofs.YthfgmmmeplanbaaGreatDoor
open Go.RowKit
set_option linter.unusedVariables false
set_option linter.unusedSimpArgs false
def rp(l:List Int)(n:Nat)(i:Nat):Bool:=match l[i]? with
 |none=>false
 |some v=>aN v 0 ((n:Int)-1)&&(match i with
  |0=>true
  |k+1=>match l[k]? with
   |none=>false
   |some u=> !decide (v≤u))
def nh(l:List Int)(n:Nat):Bool:=(List.range l.length).all (rp l n)
theorem YU(l:List Int)(n:Nat)(hl:l.length≤1099511627776)(hn:n≤1099511627776):sR (l,(n:Int),())=some (nh l n,()):=by
 have hw:IntKind.i64.wrap ((n:Int)-1)=(n:Int)-1:=by rw[wrap_i64]<;>omega
 have e:=fM (B:=fX) l.length (fun i=>(l,(n:Int),(i:Int),())) (rp l n) (.inl ()) (.inr (false,())) (by simp only[fX,aJ]) (fun i h=>by
  simp only[fX,aK h,av h hl,am h,aa,iU,hw,rp,List.getElem?_eq_getElem h]
  rcases Bool.eq_false_or_eq_true (aN l[i] 0 ((n:Int)-1))with h1|h1<;>simp only[h1,Bool.not_true,Bool.not_false,Bool.true_and,Bool.false_and]
  ·cases i with
   |zero=>rfl
   |succ k=>
    have hk:k<l.length:=by omega
    simp only[E5,y7 (show k+1≤1099511627776 by omega),am hk,List.getElem?_eq_getElem hk]
    rcases Bool.eq_false_or_eq_true (decide (l[k+1]≤l[k]))with h2|h2<;>simp only[h2]<;>rfl
  ·rfl)
 have e':ac fX (l,(n:Int),(0:Int),())=_:=e
 unfold sR nh
 simp only[e']
 rcases Bool.eq_false_or_eq_true ((List.range l.length).all (rp l n))with h2|h2<;>simp only[h2]<;>rfl
theorem YV(l:List Int)(n:Nat)(hl:l.length≤1099511627776)(hn:n≤1099511627776):sX (l,(n:Int),())=some (nh l n,()):=by
 have e:=fM (B:=gc) l.length (fun i=>(l,(n:Int),l,(l.length:Int),(i:Int),())) (rp l n) (.inl ()) (.inr (false,())) (by simp only[gc,aJ]) (fun i h=>by
  have hin:aN l[i] 0 ((n:Int)-1)=(!decide (l[i]<0)&& !decide (l[i]≥(n:Int))):=by
   unfold aN
   by_cases h1:l[i]<0<;>by_cases h2:l[i]≥(n:Int)<;>simp[h1,h2]<;>omega
  simp only[gc,aK h,av h hl,am h,aa,rp,List.getElem?_eq_getElem h,hin]
  rcases Bool.eq_false_or_eq_true (decide (l[i]<0))with h1|h1<;>simp only[h1,Bool.not_true,Bool.not_false,Bool.true_and,Bool.false_and]
  ·rfl
  ·rcases Bool.eq_false_or_eq_true (decide (l[i]≥(n:Int)))with h3|h3<;>simp only[h3,Bool.not_true,Bool.not_false,Bool.true_and,Bool.false_and]
   ·rfl
   ·cases i with
    |zero=>rfl
    |succ k=>
     have hk:k<l.length:=by omega
     have hge:decide (l[k]≥l[k+1])=decide (l[k+1]≤l[k]):=rfl
     simp only[E5,y7 (show k+1≤1099511627776 by omega),am hk,List.getElem?_eq_getElem hk,hge]
     rcases Bool.eq_false_or_eq_true (decide (l[k+1]≤l[k]))with h2|h2<;>simp only[h2]<;>rfl)
 have e':ac gc (l,(n:Int),l,(l.length:Int),(0:Int),())=_:=e
 unfold sX nh
 simp only[e']
 rcases Bool.eq_false_or_eq_true ((List.range l.length).all (rp l n))with h2|h2<;>simp only[h2]<;>rfl
theorem WT(l:List Int)(v:Int)(hl:l.length≤1099511627776):nG (l,v,())=some (l.any (fun u=>u==v),()):=by
 have e:=lY (B:=iw) l (fun i=>(l,v,(i:Int),())) (fun u=>u==v) (.inl ()) (fun _=>.inr (true,())) (by simp only[iw,aJ]) (fun i h=>by
  simp only[iw,aK h,av h hl,am h,aa]
  rcases Bool.eq_false_or_eq_true (l[i]==v)with h1|h1<;>simp only[h1]<;>rfl)
 have e':ac iw (l,v,(0:Int),())=_:=e
 unfold nG
 rw[←gm (fun u=>u==v) 0 l]
 simp only[e']
 cases bB (fun u=>u==v) 0 l<;>rfl
theorem GQ(l:List Int)(v:Int)(hl:l.length≤1099511627776):eY (l,v,())=some (l.any (fun u=>u==v),()):=by
 have e:=lY (B:=cD) l (fun i=>(l,v,(l.length:Int),(i:Int),())) (fun u=>u==v) (.inl ()) (fun j=>.inr ((j:Int),())) (by simp only[cD,aJ]) (fun i h=>by
  have hc:(v==l[i])=(l[i]==v):=by
   by_cases h:v=l[i]
   ·rw[h]
   ·have h1:(v==l[i])=false:=by simpa using h
    have h2:(l[i]==v)=false:=by simpa using fun e:l[i]=v=>h e.symm
    rw[h1,h2]
  simp only[cD,aK h,av h hl,am h,aa,hc]
  rcases Bool.eq_false_or_eq_true (l[i]==v)with h1|h1<;>simp only[h1]<;>rfl)
 have e':ac cD (l,v,(l.length:Int),(0:Int),())=_:=e
 unfold eY lF
 rw[←gm (fun u=>u==v) 0 l]
 simp only[e']
 cases bB (fun u=>u==v) 0 l with
 |none=>rfl
 |some j=>
  have:decide ((j:Int)≥0)=true:=decide_eq_true (by omega)
  simp only[this,Option.isSome]
def pG(l:List ao.T)(i:Nat):Bool:=match l[i]? with
 |none=>false
 |some v=>aN v.1 1 8&&(aN v.2.1 1 16&&(nh v.2.2.1 l.length&& !v.2.2.1.any (fun u=>u==(i:Int))))
def eH(l:List ao.T):Bool:=aN (l.length:Int) 1 16&&(List.range l.length).all (pG l)
theorem YW(l:List ao.T)(hl:l.length≤1099511627776)(hn:∀v ∈ l,v.2.2.1.length≤1099511627776):nn (l,())=some (eH l,()):=by
 have e:=fM (B:=d9) l.length (fun i=>(l,(i:Int),())) (pG l) (.inl ()) (.inr (false,())) (by simp only[d9,aJ]) (fun i h=>by
  have h1:=YU l[i].2.2.1 l.length (hn _ (List.getElem_mem h)) hl
  have h2:=WT l[i].2.2.1 (i:Int) (hn _ (List.getElem_mem h))
  simp only[d9,aK h,av h hl,am h,aa,iU,h1,h2,pG,List.getElem?_eq_getElem h]
  rcases Bool.eq_false_or_eq_true (aN l[i].1 1 8)with g1|g1<;>simp only[g1,Bool.not_true,Bool.not_false,Bool.true_and,Bool.false_and]
  ·rcases Bool.eq_false_or_eq_true (aN l[i].2.1 1 16)with g2|g2<;>simp only[g2,Bool.not_true,Bool.not_false,Bool.true_and,Bool.false_and]
   ·rcases Bool.eq_false_or_eq_true (nh l[i].2.2.1 l.length)with g3|g3<;>simp only[g3,Bool.not_true,Bool.not_false,Bool.true_and,Bool.false_and]
    ·rcases Bool.eq_false_or_eq_true (l[i].2.2.1.any (fun u=>u==(i:Int)))with g4|g4<;>simp only[g4]<;>rfl
    ·rfl
   ·rfl
  ·rfl)
 have e':ac d9 (l,(0:Int),())=_:=e
 unfold nn eH
 simp only[iU,e']
 rcases Bool.eq_false_or_eq_true (aN (l.length:Int) 1 16)with h1|h1<;>simp only[h1]<;>rcases Bool.eq_false_or_eq_true ((List.range l.length).all (pG l))with h2|h2<;>simp only[h2]<;>rfl
theorem T4(l:List ao.T)(hl:l.length≤1099511627776)(hn:∀v ∈ l,v.2.2.1.length≤1099511627776):kG (l,())=some (eH l,()):=by
 have e:=fM (B:=ej) l.length (fun i=>(l,l,(l.length:Int),(i:Int),())) (pG l) (.inl (l,())) (.inr (false,())) (by simp only[ej,aJ]) (fun i h=>by
  have h1:=YV l[i].2.2.1 l.length (hn _ (List.getElem_mem h)) hl
  have h2:=GQ l[i].2.2.1 (i:Int) (hn _ (List.getElem_mem h))
  simp only[ej,aK h,av h hl,am h,aa,l0,h1,h2,pG,List.getElem?_eq_getElem h]
  rcases Bool.eq_false_or_eq_true (aN l[i].1 1 8)with g1|g1<;>simp only[g1,Bool.not_true,Bool.not_false,Bool.true_and,Bool.false_and]
  ·rcases Bool.eq_false_or_eq_true (aN l[i].2.1 1 16)with g2|g2<;>simp only[g2,Bool.not_true,Bool.not_false,Bool.true_and,Bool.false_and]
   ·rcases Bool.eq_false_or_eq_true (nh l[i].2.2.1 l.length)with g3|g3<;>simp only[g3,Bool.not_true,Bool.not_false,Bool.true_and,Bool.false_and]
    ·rcases Bool.eq_false_or_eq_true (l[i].2.2.1.any (fun u=>u==(i:Int)))with g4|g4<;>simp only[g4]<;>rfl
    ·rfl
   ·rfl
  ·rfl)
 have e':ac ej (l,l,(l.length:Int),(0:Int),())=_:=e
 unfold kG eH aN
 simp only[e']
 rcases Bool.eq_false_or_eq_true ((List.range l.length).all (pG l))with h2|h2<;>simp only[h2,if_true,Bool.and_true,Bool.and_false]
 ·rcases Bool.eq_false_or_eq_true (decide ((l.length:Int)≥1))with h1|h1<;>simp only[h1]<;>rfl
 ·rfl
end Go.Proofs.YthfgmmmeplanbaaGreatDoor
namespace Go.Proofs.YthfgmmmeplanbaaGreatDoor
open Go.RowKit
set_option linter.unusedVariables false
set_option linter.unusedSimpArgs false
def kq(k n:Int):Int:=1+(if k != 0 then 8 else 0)+(if hU k then 1+n else 0)
theorem YX(k n:Int)(h0:0≤n)(h1:n≤1000):sY (k,n,())=some (kq k n,()):=by
 have w1:IntKind.i64.wrap ((1:Int)+8)=9:=by decide
 have w2:IntKind.i64.wrap ((1:Int)+n)=1+n:=by rw[wrap_i64]<;>omega
 have w3:IntKind.i64.wrap (9+(1+n))=1+8+(1+n):=by rw[wrap_i64]<;>omega
 have w4:IntKind.i64.wrap (1+(1+n))=1+0+(1+n):=by rw[wrap_i64]<;>omega
 unfold sY kq
 simp only[dV,Ll,w1,w2,w3,w4]
 rcases Bool.eq_false_or_eq_true (k != (0:Int))with h|h<;>rcases Bool.eq_false_or_eq_true (hU k)with h2|h2<;>simp only[h,h2]<;>rfl
theorem YY(k n:Int)(h0:0≤n)(h1:n≤1000):np (k,n,())=some (kq k n,()):=by
 have w1:IntKind.i64.wrap ((1:Int)+8)=9:=by decide
 have w2:IntKind.i64.wrap ((9:Int)+1)=10:=by decide
 have w5:IntKind.i64.wrap ((1:Int)+1)=2:=by decide
 have w3:IntKind.i64.wrap (10+n)=1+8+(1+n):=by rw[wrap_i64]<;>omega
 have w4:IntKind.i64.wrap (2+n)=1+0+(1+n):=by rw[wrap_i64]<;>omega
 unfold np kq
 simp only[dS,Rp,w1,w2,w3,w4,w5]
 rcases Bool.eq_false_or_eq_true (k != (0:Int))with h|h<;>rcases Bool.eq_false_or_eq_true (hU k)with h2|h2<;>simp only[h,h2]<;>rfl
def vj(k n:Int):Int:=11+10*(kq k n+3)
theorem Ad(k n:Int)(h0:0≤n)(h1:n≤1000):1≤kq k n∧kq k n≤1010:=by
 unfold kq
 split<;>split<;>omega
theorem T5(b:Int)(h:1≤b∧b≤1010):IntKind.i64.wrap (11+IntKind.i64.wrap (10*IntKind.i64.wrap (b+3)))=11+10*(b+3):=by
 rw[wrap_i64 (n:=b+3) (by omega) (by omega),wrap_i64 (n:=10*(b+3)) (by omega) (by omega),wrap_i64 (by omega) (by omega)]
theorem YZ(k n:Int)(h0:0≤n)(h1:n≤1000):kH (k,n,())=some (vj k n,()):=by
 unfold kH vj
 simp only[YX k n h0 h1,T5 _ (Ad k n h0 h1)]
theorem Y0(k n:Int)(h0:0≤n)(h1:n≤1000):oT (k,n,())=some (vj k n,()):=by
 unfold oT vj
 simp only[YY k n h0 h1,T5 _ (Ad k n h0 h1)]
theorem vk {k n:Int}(h:iH k n=true):0≤n∧n≤1000:=by
 unfold iH at h
 split at h
 ·have:=aO.1 h;omega
 ·split at h
  ·have:=aO.1 h;omega
  ·have:n=0:=by simpa using h
   omega
def kr(d:a7.T):Bool:=aN d.1 0 31&&(aN d.2.1 0 3&&(iH d.2.1 d.2.2.1&&(!((d.2.1==(3:Int))&&d.2.2.2.2.1)&&aN d.2.2.2.1 (IntKind.i64.wrap (vj d.2.1 d.2.2.1+20)) 1000)))
theorem Rs(x):dU x=some (kr x.1,()):=by
 obtain⟨⟨(a:Int),(k:Int),(n:Int),(t:Int),(c:Bool),u⟩,u'⟩:=x
 unfold dU kr
 simp only[WQ,WF,WH,iU]
 rcases Bool.eq_false_or_eq_true (aN a 0 31)with h1|h1<;>simp only[h1,Bool.not_true,Bool.not_false,Bool.true_and,Bool.false_and]
 rcases Bool.eq_false_or_eq_true (aN k 0 3)with h2|h2<;>simp only[h2,Bool.not_true,Bool.not_false,Bool.true_and,Bool.false_and]
 rcases Bool.eq_false_or_eq_true (iH k n)with h3|h3<;>simp only[h3,Bool.not_true,Bool.not_false,Bool.true_and,Bool.false_and]
 have hn:=vk h3
 simp only[Y0 k n hn.1 hn.2]
 rcases Bool.eq_false_or_eq_true (k==(3:Int))with h4|h4<;>cases c<;>simp only[h4]<;>rfl
theorem WU(x):eZ x=some (kr x.1,()):=by
 obtain⟨⟨(a:Int),(k:Int),(n:Int),(t:Int),(c:Bool),u⟩,u'⟩:=x
 unfold eZ kr
 simp only[WR,WG,WI,l0]
 rcases Bool.eq_false_or_eq_true (aN a 0 31)with h1|h1<;>simp only[h1,Bool.not_true,Bool.not_false,Bool.true_and,Bool.false_and]
 rcases Bool.eq_false_or_eq_true (aN k 0 3)with h2|h2<;>simp only[h2,Bool.not_true,Bool.not_false,Bool.true_and,Bool.false_and]
 rcases Bool.eq_false_or_eq_true (iH k n)with h3|h3<;>simp only[h3,Bool.not_true,Bool.not_false,Bool.true_and,Bool.false_and]
 have hn:=vk h3
 simp only[YZ k n hn.1 hn.2]
 rcases Bool.eq_false_or_eq_true (k==(3:Int))with h4|h4<;>cases c<;>simp only[h4]<;>rfl
def li(v:ag.T):Bool:=aN v.1 0 15&&(aN v.2.1 0 7&&(aN v.2.2.1 0 15&&kr v.2.2.2.1))
theorem ZW(x):EW x=some (li x.1,()):=by
 have hd:dU ((x.1.2.2.2.1.1,x.1.2.2.2.1.2.1,x.1.2.2.2.1.2.2.1,x.1.2.2.2.1.2.2.2.1,x.1.2.2.2.1.2.2.2.2.1,()),())=some (kr x.1.2.2.2.1,()):=Rs (x.1.2.2.2.1,())
 unfold EW li
 simp only[iU,hd]
 rcases Bool.eq_false_or_eq_true (aN x.1.1 0 15)with h1|h1<;>rcases Bool.eq_false_or_eq_true (aN x.1.2.1 0 7)with h2|h2<;>rcases Bool.eq_false_or_eq_true (aN x.1.2.2.1 0 15)with h3|h3<;>simp only[h1,h2,h3]<;>rfl
theorem ZX(x):lJ x=some (li x.1,()):=by
 have hd:eZ ((x.1.2.2.2.1.1,x.1.2.2.2.1.2.1,x.1.2.2.2.1.2.2.1,x.1.2.2.2.1.2.2.2.1,x.1.2.2.2.1.2.2.2.2.1,()),())=some (kr x.1.2.2.2.1,()):=WU (x.1.2.2.2.1,())
 unfold lJ li
 simp only[l0,hd]
 rcases Bool.eq_false_or_eq_true (aN x.1.1 0 15)with h1|h1<;>rcases Bool.eq_false_or_eq_true (aN x.1.2.1 0 7)with h2|h2<;>rcases Bool.eq_false_or_eq_true (aN x.1.2.2.1 0 15)with h3|h3<;>simp only[h1,h2,h3]<;>rfl
def qe(a b:Int):Int:=if a<b then -1 else if a>b then 1 else 0
def mO(u v:ag.T):Int:=if u.1=v.1 then(if u.2.1=v.2.1 then qe u.2.2.1 v.2.2.1 else qe u.2.1 v.2.1)else qe u.1 v.1
theorem aaD(x):ol x=some (qe x.1 x.2.1,()):=by
 obtain⟨(a:Int),(b:Int),u⟩:=x
 unfold ol qe
 by_cases h1:a<b
 ·simp only[decide_eq_true h1,if_pos h1]
 ·by_cases h2:a>b
  ·simp only[decide_eq_false h1,decide_eq_true h2,if_neg h1,if_pos h2]
  ·simp only[decide_eq_false h1,decide_eq_false h2,if_neg h1,if_neg h2]
theorem WV(x):im x=some (mO x.1 x.2.1,()):=by
 obtain⟨u,v,w⟩:=x
 unfold im mO
 simp only[aaD]
 by_cases h1:u.1=v.1
 ·have g1:(u.1 != v.1)=false:=by rw[h1];exact jf _
  simp only[g1,if_pos h1]
  by_cases h2:u.2.1=v.2.1
  ·have g2:(u.2.1 != v.2.1)=false:=by rw[h2];exact jf _
   simp only[g2,if_pos h2]
  ·have g2:(u.2.1 != v.2.1)=true:=by simpa using h2
   simp only[g2,if_neg h2]
 ·have g1:(u.1 != v.1)=true:=by simpa using h1
  simp only[g1,if_neg h1]
theorem IE(l m:List Int)(i:Nat)(hl:i<l.length)(hm:i<m.length)(h3:i<3):bU (l,m,(i:Int),())=if l[i]<m[i]then some (.inr (.inr ((-1:Int),())))else if l[i]>m[i]then some (.inr (.inr ((1:Int),())))else some (.inl (l,m,((i+1:Nat):Int),())):=by
 have hd:decide ((i:Int)<3)=true:=decide_eq_true (by omega)
 simp only[bU,hd,am hl,am hm,aa,Int.toNat_natCast,List.getElem?_eq_getElem hl,List.getElem?_eq_getElem hm,av h3 (by omega)]
 by_cases h1:l[i]<m[i]
 ·simp only[if_pos h1,decide_eq_true h1]
 ·by_cases h2:l[i]>m[i]
  ·simp only[if_neg h1,if_pos h2,decide_eq_false h1,decide_eq_true h2]
  ·simp only[if_neg h1,if_neg h2,decide_eq_false h1,decide_eq_false h2]
theorem ZY(x):me x=some (mO x.1 x.2.1,()):=by
 obtain⟨⟨(a:Int),(b:Int),(c:Int),d⟩,⟨(a':Int),(b':Int),(c':Int),d'⟩,w⟩:=x
 have e0:=IE [a,b,c] [a',b',c'] 0 (by simp) (by simp) (by omega)
 have e1:=IE [a,b,c] [a',b',c'] 1 (by simp) (by simp) (by omega)
 have e2:=IE [a,b,c] [a',b',c'] 2 (by simp) (by simp) (by omega)
 have e3:bU ([a,b,c],[a',b',c'],((3:Nat):Int),())=some (.inr (.inl ())):=rfl
 have e0:bU ([a,b,c],[a',b',c'],(0:Int),())=if a<a' then some (.inr (.inr ((-1:Int),())))else if a>a' then some (.inr (.inr ((1:Int),())))else some (.inl ([a,b,c],[a',b',c'],((1:Nat):Int),())):=e0
 have e1:bU ([a,b,c],[a',b',c'],((1:Nat):Int),())=if b<b' then some (.inr (.inr ((-1:Int),())))else if b>b' then some (.inr (.inr ((1:Int),())))else some (.inl ([a,b,c],[a',b',c'],((2:Nat):Int),())):=e1
 have e2:bU ([a,b,c],[a',b',c'],((2:Nat):Int),())=if c<c' then some (.inr (.inr ((-1:Int),())))else if c>c' then some (.inr (.inr ((1:Int),())))else some (.inl ([a,b,c],[a',b',c'],((3:Nat):Int),())):=e2
 have hL:ac bU ([a,b,c],[a',b',c'],(0:Int),())=some (if mO (a,b,c,d) (a',b',c',d')=0 then .inl ()else .inr (mO (a,b,c,d) (a',b',c',d'),())):=by
  unfold mO qe
  rw[an,e0]
  by_cases h1:a<a'
  ·simp[h1,Int.ne_of_lt h1]
  ·by_cases h2:a>a'
   ·have:¬a=a':=by omega
    simp[h1,h2,this]
   ·have:a=a':=by omega
    simp only[if_neg h1,if_neg h2,if_pos this]
    rw[an,e1]
    by_cases h1:b<b'
    ·simp[h1,Int.ne_of_lt h1]
    ·by_cases h2:b>b'
     ·have:¬b=b':=by omega
      simp[h1,h2,this]
     ·have:b=b':=by omega
      simp only[if_neg h1,if_neg h2,if_pos this]
      rw[an,e2]
      by_cases h1:c<c'
      ·simp[h1]
      ·by_cases h2:c>c'
       ·simp[h1,h2]
       ·simp only[if_neg h1,if_neg h2]
        rw[an,e3]
        simp
 unfold me
 simp only[hL,cJ]
 by_cases h:mO (a,b,c,d) (a',b',c',d')=0
 ·simp only[h,if_true]
 ·simp only[if_neg h]
def pH(l:List ag.T)(i:Nat):Bool:=match l[i]? with
 |none=>false
 |some v=>li v&&(match i with
  |0=>true
  |k+1=>match l[k]? with
   |none=>false
   |some u=> !decide (mO u v≥0))
def bX(l:List ag.T):Bool:= !decide ((l.length:Int)>120)&&(List.range l.length).all (pH l)
theorem Y1(l:List ag.T)(hl:l.length≤1099511627776):nq (l,())=some (bX l,()):=by
 have e:=fM (B:=ef) l.length (fun i=>(l,(i:Int),())) (pH l) (.inl ()) (.inr (false,())) (by simp only[ef,aJ]) (fun i h=>by
  simp only[ef,aK h,av h hl,am h,aa,ZW,pH,List.getElem?_eq_getElem h]
  rcases Bool.eq_false_or_eq_true (li l[i])with h1|h1<;>simp only[h1,Bool.not_true,Bool.not_false,Bool.true_and,Bool.false_and]
  ·cases i with
   |zero=>rfl
   |succ k=>
    have hk:k<l.length:=by omega
    simp only[E5,y7 (show k+1≤1099511627776 by omega),am hk,List.getElem?_eq_getElem hk,ZY]
    rcases Bool.eq_false_or_eq_true (decide (mO l[k] l[k+1]≥0))with h2|h2<;>simp only[h2]<;>rfl
  ·rfl)
 have e':ac ef (l,(0:Int),())=_:=e
 unfold nq bX
 simp only[e']
 rcases Bool.eq_false_or_eq_true (decide ((l.length:Int)>120))with h1|h1<;>simp only[h1]<;>rcases Bool.eq_false_or_eq_true ((List.range l.length).all (pH l))with h2|h2<;>simp only[h2]<;>rfl
theorem Y2(l:List ag.T)(hl:l.length≤1099511627776):nt (l,())=some (bX l,()):=by
 have e:=fM (B:=eo) l.length (fun i=>(l,l,(l.length:Int),(i:Int),())) (pH l) (.inl (l,())) (.inr (false,())) (by simp only[eo,aJ]) (fun i h=>by
  have hv:lJ ((l[i].1,l[i].2.1,l[i].2.2.1,(l[i].2.2.2.1.1,l[i].2.2.2.1.2.1,l[i].2.2.2.1.2.2.1,l[i].2.2.2.1.2.2.2.1,l[i].2.2.2.1.2.2.2.2.1,()),()),())=some (li l[i],()):=ZX (l[i],())
  simp only[eo,aK h,av h hl,am h,aa,hv,pH,List.getElem?_eq_getElem h]
  rcases Bool.eq_false_or_eq_true (li l[i])with h1|h1<;>simp only[h1,Bool.not_true,Bool.not_false,Bool.true_and,Bool.false_and]
  ·cases i with
   |zero=>rfl
   |succ k=>
    have hk:k<l.length:=by omega
    have hc:im (l[k],(l[k+1].1,l[k+1].2.1,l[k+1].2.2.1,(l[k+1].2.2.2.1.1,l[k+1].2.2.2.1.2.1,l[k+1].2.2.2.1.2.2.1,l[k+1].2.2.2.1.2.2.2.1,l[k+1].2.2.2.1.2.2.2.2.1,()),()),())=some (mO l[k] l[k+1],()):=WV (l[k],l[k+1],())
    simp only[E5,y7 (show k+1≤1099511627776 by omega),am hk,List.getElem?_eq_getElem hk,hc]
    rcases Bool.eq_false_or_eq_true (decide (mO l[k] l[k+1]≥0))with h2|h2<;>simp only[h2]<;>rfl
  ·rfl)
 have e':ac eo (l,l,(l.length:Int),(0:Int),())=_:=e
 have hn:decide ((l.length:Int)≤120)= !decide ((l.length:Int)>120):=by
  by_cases h:(l.length:Int)≤120
  ·rw[decide_eq_true h,decide_eq_false (by omega)];rfl
  ·rw[decide_eq_false h,decide_eq_true (by omega)];rfl
 unfold nt bX
 simp only[e']
 rcases Bool.eq_false_or_eq_true ((List.range l.length).all (pH l))with h2|h2<;>simp only[h2,if_true,Bool.and_true,Bool.and_false,hn]
 rfl
end Go.Proofs.YthfgmmmeplanbaaGreatDoor
namespace Go.Proofs.YthfgmmmeplanbaaGreatDoor
open Go.RowKit
set_option linter.unusedVariables false
set_option linter.unusedSimpArgs false
def fB(i r s:Int):Int:=(i*8+r)*16+s
def cI(v:ag.T):Int:=fB v.1 v.2.1 v.2.2.1
def Rt(v:ag.T):Prop:=(0≤v.1∧v.1≤15)∧(0≤v.2.1∧v.2.1≤7)∧(0≤v.2.2.1∧v.2.2.1≤15)
theorem qf {v:ag.T}(h:li v=true):Rt v:=by
 unfold li at h
 simp only[Bool.and_eq_true,aO]at h
 exact⟨h.1,h.2.1,h.2.2.1⟩
def XS(a b c a' b' c':Int):Int:=if a=a' then(if b=b' then qe c c' else qe b b')else qe a a'
theorem Ru(a b:Int):(a<b∧qe a b= -1)∨(a=b∧qe a b=0)∨(b<a∧qe a b=1):=by
 unfold qe
 by_cases h1:a<b
 ·exact .inl ⟨h1,if_pos h1⟩
 ·by_cases h2:a>b
  ·exact .inr (.inr ⟨h2,by rw[if_neg h1,if_pos h2]⟩)
  ·exact .inr (.inl ⟨by omega,by rw[if_neg h1,if_neg h2]⟩)
theorem T6(a b c a' b' c':Int)(hb:0≤b∧b≤7)(hc:0≤c∧c≤15)(hb':0≤b'∧b'≤7)(hc':0≤c'∧c'≤15):
  (XS a b c a' b' c'=0↔fB a b c=fB a' b' c')∧(¬XS a b c a' b' c'≥0→fB a b c<fB a' b' c'):=by
 unfold XS fB
 by_cases h1:a=a'
 ·rw[if_pos h1]
  by_cases h2:b=b'
  ·rw[if_pos h2]
   rcases Ru c c' with⟨h,e⟩|⟨h,e⟩|⟨h,e⟩<;>rw[e]<;>omega
  ·rw[if_neg h2]
   rcases Ru b b' with⟨h,e⟩|⟨h,e⟩|⟨h,e⟩<;>rw[e]<;>omega
 ·rw[if_neg h1]
  rcases Ru a a' with⟨h,e⟩|⟨h,e⟩|⟨h,e⟩<;>rw[e]<;>omega
theorem XT {u v:ag.T}(hu:Rt u)(hv:Rt v):mO u v=0↔cI u=cI v:=
 (T6 u.1 u.2.1 u.2.2.1 v.1 v.2.1 v.2.2.1 hu.2.1 hu.2.2 hv.2.1 hv.2.2).1
theorem ZZ {u v:ag.T}(hu:Rt u)(hv:Rt v)(h:¬mO u v≥0):cI u<cI v:=
 (T6 u.1 u.2.1 u.2.2.1 v.1 v.2.1 v.2.2.1 hu.2.1 hu.2.2 hv.2.1 hv.2.2).2 h
theorem gC {l:List ag.T}(h:bX l=true):∀v ∈ l,li v=true:=by
 intro v hv
 unfold bX at h
 rw[Bool.and_eq_true,List.all_eq_true]at h
 obtain⟨i,hi,rfl⟩:=List.getElem_of_mem hv
 have:=h.2 i (by simpa using hi)
 unfold pH at this
 simp only[List.getElem?_eq_getElem hi,Bool.and_eq_true]at this
 exact this.1
theorem fQ {l:List ag.T}(h:bX l=true):l.length≤120:=by
 unfold bX at h
 rw[Bool.and_eq_true]at h
 have:=h.1
 simp at this
 omega
theorem Lp {l:List ag.T}(h:bX l=true)(k:Nat)(hk:k+1<l.length):cI l[k]<cI l[k+1]:=by
 have hm:=gC h
 unfold bX at h
 rw[Bool.and_eq_true,List.all_eq_true]at h
 have:=h.2 (k+1) (by simpa using hk)
 unfold pH at this
 simp only[List.getElem?_eq_getElem hk,List.getElem?_eq_getElem (show k<l.length by omega),Bool.and_eq_true]at this
 refine ZZ (qf (hm _ (List.getElem_mem _))) (qf (hm _ (List.getElem_mem _))) ?_
 simpa using this.2
theorem Rv {l:List ag.T}(h:bX l=true):∀(d i:Nat) (hd:i+d+1<l.length),cI l[i]<cI l[i+d+1]
 |0,i,hd=>Lp h i hd
 |d+1,i,hd=>Int.lt_trans (Rv h d i (by omega)) (Lp h (i+d+1) hd)
theorem Rx {l:List ag.T}(h:bX l=true):(l.map cI).Pairwise (· < ·):=by
 rw[List.pairwise_iff_getElem]
 intro i j hi hj hij
 rw[List.length_map]at hi hj
 obtain⟨d,rfl⟩:∃d,j=i+d+1:=⟨j-i-1,by omega⟩
 rw[List.getElem_map,List.getElem_map]
 exact Rv h d i hj
def iI(i R S:Nat):List Int:=(List.range R).flatMap fun(r:Nat)=>(List.range S).map fun(s:Nat)=>fB (i:Int) (r:Int) (s:Int)
def hZ:Nat→List ao.T→List Int
 |_,[]=>[]
 |i,m::ms=>iI i m.1.toNat m.2.1.toNat++hZ (i+1) ms
theorem MZ(i S:Nat)(hS:0<S):∀R,iI i R S=(List.range (R*S)).map fun(q:Nat)=>fB (i:Int) ((q / S:Nat):Int) ((q % S:Nat):Int)
 |0=>by simp[iI]
 |R+1=>by
  have ih:=MZ i S hS R
  unfold iI at ih ⊢
  rw[List.range_succ,List.flatMap_append,ih,Nat.add_mul,Nat.one_mul,List.range_add,List.map_append,List.map_map]
  congr 1
  rw[List.flatMap_cons,List.flatMap_nil,List.append_nil]
  apply List.map_congr_left
  intro s hs
  have hs:s<S:=by simpa using hs
  have h1:(R*S+s) / S=R:=by rw[Nat.mul_comm,Nat.mul_add_div hS,Nat.div_eq_of_lt hs,Nat.add_zero]
  have h2:(R*S+s) % S=s:=by rw[Nat.mul_comm,Nat.mul_add_mod,Nat.mod_eq_of_lt hs]
  simp only[Function.comp,h1,h2]
theorem Ae(i R S:Nat)(hS:0<S):(iI i R S).length=R*S:=by rw[MZ i S hS,List.length_map,List.length_range]
theorem T7 {i R S:Nat}(hR:R≤8)(hS:S≤16):∀k ∈ iI i R S,(i:Int)*128≤k∧k<((i:Int)+1)*128:=by
 intro k hk
 simp only[iI,List.mem_flatMap,List.mem_map,List.mem_range]at hk
 obtain⟨r,hr,s,hs,rfl⟩:=hk
 unfold fB
 omega
theorem Ti {i R S:Nat}(hS:S≤16):(iI i R S).Pairwise (· < ·):=by
 unfold iI
 rw[List.pairwise_flatMap]
 constructor
 ·intro r hr
  rw[List.pairwise_map]
  exact List.Pairwise.imp (fun {a b} h=>by unfold fB;omega) List.pairwise_lt_range
 ·refine List.Pairwise.imp (fun {a b} h x hx y hy=> ?_) List.pairwise_lt_range
  simp only[List.mem_map,List.mem_range]at hx hy
  obtain⟨s,hs,rfl⟩:=hx
  obtain⟨t,ht,rfl⟩:=hy
  unfold fB
  omega
def Lq(m:ao.T):Prop:=(1≤m.1∧m.1≤8)∧(1≤m.2.1∧m.2.1≤16)
theorem l4 {m:ao.T}(h:Lq m):(1≤m.1.toNat∧m.1.toNat≤8)∧(1≤m.2.1.toNat∧m.2.1.toNat≤16)∧(m.1=((m.1.toNat:Nat):Int)∧m.2.1=((m.2.1.toNat:Nat):Int)):=by
 obtain⟨(a:Int),(b:Int),c⟩:=m
 obtain⟨⟨h1,h2⟩,h3,h4⟩:=h
 have h1:(1:Int)≤a:=h1
 have h2:a≤(8:Int):=h2
 have h3:(1:Int)≤b:=h3
 have h4:b≤(16:Int):=h4
 exact⟨⟨by show 1≤a.toNat;omega,by show a.toNat≤8;omega⟩,⟨by show 1≤b.toNat;omega,by show b.toNat≤16;omega⟩,(Int.toNat_of_nonneg (show(0:Int)≤a by omega)).symm,(Int.toNat_of_nonneg (show(0:Int)≤b by omega)).symm⟩
theorem T8:∀(ms:List ao.T) (i:Nat),(∀m ∈ ms,Lq m)→∀k ∈ hZ i ms,(i:Int)*128≤k
 | [],i,_,k,hk=>by simp[hZ]at hk
 |m::ms,i,h,k,hk=>by
  simp only[hZ,List.mem_append]at hk
  have hm:=l4 (h m (by simp))
  rcases hk with hk|hk
  ·exact(T7 (by omega) (by omega) k hk).1
  ·have:=T8 ms (i+1) (fun m hm=>h m (by simp[hm])) k hk
   omega
theorem GR:∀(ms:List ao.T) (i:Nat),(∀m ∈ ms,Lq m)→(hZ i ms).Pairwise (· < ·)
 | [],i,_=>List.Pairwise.nil
 |m::ms,i,h=>by
  have hm:=l4 (h m (by simp))
  simp only[hZ]
  rw[List.pairwise_append]
  refine⟨Ti (by omega),GR ms (i+1) (fun m hm=>h m (by simp[hm])),fun a ha b hb=> ?_⟩
  have h1:=T7 (R:=m.1.toNat) (S:=m.2.1.toNat) (by omega) (by omega) a ha
  have h2:=T8 ms (i+1) (fun m hm=>h m (by simp[hm])) b hb
  omega
theorem Ry:∀(K E:List Int),K.Pairwise (· < ·)→E.Pairwise (· < ·)→(∀x ∈ E,x ∈ K)→E.length≤K.length∧(E.length=K.length→K=E)
 | [],[],_,_,_=>⟨Nat.le_refl _,fun _=>rfl⟩
 | [],e::E,_,_,h=>absurd (h e (by simp)) (by simp)
 |k::K,[],_,_,_=>⟨by simp,fun h=>by simp at h⟩
 |k::K,e::E,hK,hE,h=>by
  rw[List.pairwise_cons]at hK hE
  by_cases he:e=k
  ·subst he
   have:=Ry K E hK.2 hE.2 (fun x hx=>by
    have h1:=h x (by simp[hx])
    have h2:=hE.1 x hx
    rw[List.mem_cons]at h1
    rcases h1 with h1|h1
    ·omega
    ·exact h1)
   refine⟨by simp;exact this.1,fun hl=> ?_⟩
   rw[this.2 (by simpa using hl)]
  ·have hek:k<e:=by
    have h1:=h e (by simp)
    rw[List.mem_cons]at h1
    rcases h1 with h1|h1
    ·exact absurd h1 he
    ·exact hK.1 e h1
   have:=Ry K (e::E) hK.2 (List.pairwise_cons.2 hE) (fun x hx=>by
    have h1:=h x hx
    rw[List.mem_cons]at h1
    rcases h1 with h1|h1
    ·rw[List.mem_cons]at hx
     rcases hx with hx|hx
     ·omega
     ·have:=hE.1 x hx
      omega
    ·exact h1)
   refine⟨by simp at this ⊢;omega,fun hl=> ?_⟩
   have h1:=this.1
   simp at h1 hl
   omega
theorem Y3(K E:List Int)(hK:K.Pairwise (· < ·))(hE:E.Pairwise (· < ·)):decide (K=E)=(E.all (fun x=>decide (x ∈ K))&&decide (E.length=K.length)):=by
 by_cases h:K=E
 ·subst h
  rw[decide_eq_true rfl,decide_eq_true rfl]
  simp
 ·rw[decide_eq_false h]
  by_cases h1:E.all (fun x=>decide (x ∈ K))=true
  ·have h2:∀x ∈ E,x ∈ K:=fun x hx=>by
    have:=List.all_eq_true.1 h1 x hx
    simpa using this
   have h3:=(Ry K E hK hE h2).2
   have h4:¬E.length=K.length:=fun e=>h (h3 e)
   rw[decide_eq_false h4,Bool.and_false]
  ·rw[Bool.eq_false_iff.2 h1,Bool.false_and]
end Go.Proofs.YthfgmmmeplanbaaGreatDoor
namespace Go.Proofs.YthfgmmmeplanbaaGreatDoor
open Go.RowKit
set_option linter.unusedVariables false
set_option linter.unusedSimpArgs false
theorem df {l:List ao.T}(h:eH l=true):l.length≤16∧∀m ∈ l,Lq m:=by
 unfold eH at h
 rw[Bool.and_eq_true,List.all_eq_true]at h
 refine⟨by have:=(aO.1 h.1).2;omega,fun m hm=> ?_⟩
 obtain⟨i,hi,rfl⟩:=List.getElem_of_mem hm
 have:=h.2 i (by simpa using hi)
 unfold pG at this
 simp only[List.getElem?_eq_getElem hi,Bool.and_eq_true,aO]at this
 exact⟨this.1,this.2.1⟩
def iV(a b c:Int)(v:ag.T):Bool:=(v.1==a)&&((v.2.1==b)&&(v.2.2.1==c))
def qw(l:List ag.T)(a b c:Int):Int:=match bB (iV a b c) 0 l with
 |none=>-1
 |some j=>(j:Int)
theorem T9(l:List ag.T)(a b c:Int)(hl:l.length≤1099511627776):qK (l,a,b,c,())=some (qw l a b c,()):=by
 have e:=lY (B:=gM) l (fun i=>(l,a,b,c,(i:Int),())) (iV a b c) (.inl ()) (fun j=>.inr ((j:Int),())) (by simp only[gM,aJ]) (fun i h=>by
  simp only[gM,aK h,av h hl,am h,aa,iV]
  rcases Bool.eq_false_or_eq_true (l[i].1==a)with h1|h1<;>rcases Bool.eq_false_or_eq_true (l[i].2.1==b)with h2|h2<;>rcases Bool.eq_false_or_eq_true (l[i].2.2.1==c)with h3|h3<;>simp only[h1,h2,h3]<;>rfl)
 have e':ac gM (l,a,b,c,(0:Int),())=_:=e
 unfold qK qw
 simp only[e']
 cases bB (iV a b c) 0 l<;>rfl
theorem Ua(l:List ag.T)(a b c:Int)(hl:l.length≤1099511627776):mk (l,a,b,c,())=some (qw l a b c,()):=by
 have e:=yZ l hl (fun z=>pi (z.1,a,b,c,())) (iV a b c) (fun i h=>by
  unfold pi iV
  rcases Bool.eq_false_or_eq_true (l[i].1==a)with h1|h1<;>rcases Bool.eq_false_or_eq_true (l[i].2.1==b)with h2|h2<;>rcases Bool.eq_false_or_eq_true (l[i].2.2.1==c)with h3|h3<;>simp only[h1,h2,h3]<;>rfl)
 unfold mk qw
 simp only[e]
 cases bB (iV a b c) 0 l<;>rfl
theorem E6 {a b c:Int}{v:ag.T}(hv:Rt v)(hb:0≤b∧b≤7)(hc:0≤c∧c≤15):iV a b c v=true↔cI v=fB a b c:=by
 obtain⟨(a':Int),(b':Int),(c':Int),d⟩:=v
 have h2:0≤b'∧b'≤7:=hv.2.1
 have h3:0≤c'∧c'≤15:=hv.2.2
 unfold iV cI fB
 simp only[Bool.and_eq_true,beq_iff_eq]
 constructor
 ·rintro ⟨h1,h2,h3⟩
  have h1:a'=a:=h1
  have h2:b'=b:=h2
  have h3:c'=c:=h3
  rw[h1,h2,h3]
 ·intro h
  have h1:a'=a:=by omega
  have h2:b'=b:=by omega
  have h3:c'=c:=by omega
  exact⟨h1,h2,h3⟩
theorem Rz {l:List ag.T}(hl:∀v ∈ l,Rt v){a b c:Int}(hb:0≤b∧b≤7)(hc:0≤c∧c≤15):decide (qw l a b c<0)= !decide (fB a b c ∈ l.map cI):=by
 have h:=gm (iV a b c) 0 l
 have e:l.any (iV a b c)=decide (fB a b c ∈ l.map cI):=by
  by_cases hm:fB a b c ∈ l.map cI
  ·rw[decide_eq_true hm,List.any_eq_true]
   obtain⟨v,hv,e⟩:=List.mem_map.1 hm
   exact⟨v,hv,(E6 (hl v hv) hb hc).2 e⟩
  ·rw[decide_eq_false hm,Bool.eq_false_iff]
   intro h
   obtain⟨v,hv,e⟩:=List.any_eq_true.1 h
   exact hm (List.mem_map.2 ⟨v,hv,(E6 (hl v hv) hb hc).1 e⟩)
 rw[←e,←h]
 unfold qw
 cases bB (iV a b c) 0 l with
 |none=>rfl
 |some j=>simp
def Vl(o:(Ty.pair (.box ae) (.pair (.int .i64) .unit)).T ⊕ (Ty.pair .bool .unit).T):Bool:=match o with
 | .inl v=>v.2.1==(v.1.2.2.2.1.length:Int)
 | .inr v=>v.1
theorem aaE(m:ae.T)(hs:bX m.2.2.2.1=true)(i R S:Nat)(hi:i≤15)(hR:R≤8)(hS:1≤S∧S≤16)(sw:List Int)(ms:List ao.T)(N:Int):
  ∀(n k j:Nat),k+n=R*S→j≤m.2.2.2.1.length→ac dH (m,(j:Int),(i:Int),((R:Int),(S:Int),sw,()),ms,N,(i:Int),((R*S:Nat):Int),(k:Int),())=some (if((m.2.2.2.1.map cI).drop j).take n=(List.range' k n).map (fun(q:Nat)=>fB (i:Int) ((q / S:Nat):Int) ((q % S:Nat):Int))then .inl (m,((j+n:Nat):Int),ms,N,(i:Int),())else .inr (false,())):=by
 have hRS:R*S≤128:=Nat.le_trans (Nat.mul_le_mul hR hS.2) (by omega)
 have hlen:=fQ hs
 have hmem:=gC hs
 intro n
 induction n with
 |zero=>
  intro k j hk hj
  have hk:k=R*S:=by omega
  subst hk
  rw[an]
  simp only[dH,aJ]
  simp
 |succ n ih=>
  intro k j hk hj
  have hkT:k<R*S:=by omega
  have hS0:¬((S:Int)=0):=by omega
  have d1:IntKind.i64.wrap (Int.tdiv (k:Int) (S:Int))=((k / S:Nat):Int):=by
   rw[Int.tdiv_eq_ediv_of_nonneg (by omega),←Int.natCast_ediv]
   have:k / S≤k:=Nat.div_le_self _ _
   generalize k / S=q at this ⊢
   rw[wrap_i64]<;>omega
  have d2:Int.tmod (k:Int) (S:Int)=((k % S:Nat):Int):=by
   rw[Int.tmod_eq_emod_of_nonneg (by omega),←Int.natCast_emod]
  have hq1:k / S<R:=(Nat.div_lt_iff_lt_mul (by omega)).2 (by omega)
  have hq2:k % S<S:=Nat.mod_lt _ (by omega)
  have q7:k / S≤7:=Nat.le_of_lt_succ (Nat.lt_of_lt_of_le hq1 hR)
  have q15:k % S≤15:=Nat.le_of_lt_succ (Nat.lt_of_lt_of_le hq2 hS.2)
  by_cases hjl:j=m.2.2.2.1.length
  ·subst hjl
   have e1:((m.2.2.2.1.length:Int)==(m.2.2.2.1.length:Int))=true:=by simp
   rw[an]
   simp only[dH,aK hkT,e1]
   rw[if_neg]
   rw[List.drop_of_length_le (by simp)]
   simp[List.range'_succ]
  ·have hjl:j<m.2.2.2.1.length:=by omega
   have e1:((j:Int)==(m.2.2.2.1.length:Int))=false:=by rw[beq_eq_false_iff_ne];omega
   have hin:=qf (hmem _ (List.getElem_mem hjl))
   have hz:=XT (u:=m.2.2.2.1[j]) (v:=((i:Int),((k / S:Nat):Int),((k % S:Nat):Int),((0:Int),(0:Int),(0:Int),(0:Int),false,()),())) hin ⟨⟨by show(0:Int)≤(i:Int);omega,by show(i:Int)≤15;omega⟩,⟨Int.natCast_nonneg (k / S),Int.ofNat_le.2 q7⟩,Int.natCast_nonneg (k % S),Int.ofNat_le.2 q15⟩
   have hK:(m.2.2.2.1.map cI).drop j=cI m.2.2.2.1[j]::(m.2.2.2.1.map cI).drop (j+1):=by
    rw[List.drop_eq_getElem_cons (by simpa using hjl),List.getElem_map]
   have hkey:cI ((i:Int),((k / S:Nat):Int),((k % S:Nat):Int),((0:Int),(0:Int),(0:Int),(0:Int),false,()),())=fB (i:Int) ((k / S:Nat):Int) ((k % S:Nat):Int):=rfl
   rw[hkey]at hz
   have hih:=ih (k+1) (j+1) (by omega) (by omega)
   rw[hK,List.take_succ_cons,List.range'_succ,List.map_cons,an]
   simp only[dH,aK hkT,e1,am hjl,aa,hS0,if_false,d1,d2,WV,av hkT (by omega),av hjl (by omega)]
   by_cases hc:mO m.2.2.2.1[j] ((i:Int),((k / S:Nat):Int),((k % S:Nat):Int),((0:Int),(0:Int),(0:Int),(0:Int),false,()),())=0
   ·have g:(mO m.2.2.2.1[j] ((i:Int),((k / S:Nat):Int),((k % S:Nat):Int),((0:Int),(0:Int),(0:Int),(0:Int),false,()),()) != 0)=false:=by rw[hc];rfl
    have g2:=hz.1 hc
    simp only[g,g2,List.cons.injEq,true_and]
    have ha:j+1+n=j+(n+1):=by omega
    rw[ha]at hih
    exact hih
   ·have g:(mO m.2.2.2.1[j] ((i:Int),((k / S:Nat):Int),((k % S:Nat):Int),((0:Int),(0:Int),(0:Int),(0:Int),false,()),()) != 0)=true:=by simpa using hc
    have g2:¬cI m.2.2.2.1[j]=fB (i:Int) ((k / S:Nat):Int) ((k % S:Nat):Int):=fun e=>hc (hz.2 e)
    simp only[g,List.cons.injEq,g2,false_and,if_false]
theorem Z0(m:ae.T)(hs:bX m.2.2.2.1=true)(hm:eH m.2.2.1=true):
  ∀(n i j:Nat),i+n=m.2.2.1.length→j≤m.2.2.2.1.length→∃o,ac dd (m,(j:Int),m.2.2.1,(m.2.2.1.length:Int),(i:Int),())=some o∧Vl o=decide ((m.2.2.2.1.map cI).drop j=hZ i (m.2.2.1.drop i)):=by
 obtain⟨hl16,hg⟩:=df hm
 have hlen:=fQ hs
 intro n
 induction n with
 |zero=>
  intro i j hi hj
  have hi:i=m.2.2.1.length:=by omega
  subst hi
  refine⟨.inl (m,(j:Int),()), ?_, ?_⟩
  ·rw[an]
   simp only[dd,aJ]
  ·rw[List.drop_length]
   show((j:Int)==(m.2.2.2.1.length:Int))=decide ((m.2.2.2.1.map cI).drop j= [])
   have:(m.2.2.2.1.map cI).drop j= []↔j=m.2.2.2.1.length:=by
    rw[List.drop_eq_nil_iff,List.length_map]
    omega
   by_cases h:j=m.2.2.2.1.length
   ·rw[decide_eq_true (this.2 h),h];simp
   ·rw[decide_eq_false (fun e=>h (this.1 e)),beq_eq_false_iff_ne];omega
 |succ n ih=>
  intro i j hi hj
  have hil:i<m.2.2.1.length:=by omega
  have hgi:=l4 (hg _ (List.getElem_mem hil))
  obtain⟨R,hR⟩:∃R,R=m.2.2.1[i].1.toNat:=⟨_,rfl⟩
  obtain⟨S,hS⟩:∃S,S=m.2.2.1[i].2.1.toNat:=⟨_,rfl⟩
  rw[←hR,←hS]at hgi
  have hRS:R*S≤128:=Nat.le_trans (Nat.mul_le_mul hgi.1.2 hgi.2.1.2) (by omega)
  have hw:IntKind.i64.wrap ((R:Int)*(S:Int))=((R*S:Nat):Int):=by
   rw[←Int.natCast_mul,wrap_i64]<;>omega
  have h0:=aaE m hs i R S (by omega) hgi.1.2 hgi.2.1 m.2.2.1[i].2.2.1 m.2.2.1 (m.2.2.1.length:Int) (R*S) 0 j (by omega) hj
  rw[←List.range_eq_range',←MZ i S (by omega) R]at h0
  have hE:hZ i (m.2.2.1.drop i)=iI i R S++hZ (i+1) (m.2.2.1.drop (i+1)):=by
   rw[List.drop_eq_getElem_cons hil,hR,hS]
   rfl
  have hstep:ac dd (m,(j:Int),m.2.2.1,(m.2.2.1.length:Int),(i:Int),())=if((m.2.2.2.1.map cI).drop j).take (R*S)=iI i R S then ac dd (m,((j+R*S:Nat):Int),m.2.2.1,(m.2.2.1.length:Int),((i+1:Nat):Int),())else some (.inr (false,())):=by
   have h0':ac dH (m,(j:Int),(i:Int),((R:Int),(S:Int),m.2.2.1[i].2.2.1,()),m.2.2.1,(m.2.2.1.length:Int),(i:Int),((R*S:Nat):Int),(0:Int),())=_:=h0
   rw[an]
   simp only[dd,aK hil,am hil,aa,hgi.2.2.1,hgi.2.2.2,hw]
   rw[h0']
   by_cases hc:((m.2.2.2.1.map cI).drop j).take (R*S)=iI i R S
   ·simp only[if_pos hc,av hil (show m.2.2.1.length≤1099511627776 by omega)]
   ·simp only[if_neg hc]
  rw[hstep]
  by_cases hc:((m.2.2.2.1.map cI).drop j).take (R*S)=iI i R S
  ·have hj2:j+R*S≤m.2.2.2.1.length:=by
    have:=congrArg List.length hc
    rw[Ae i R S (by omega),List.length_take,List.length_drop,List.length_map]at this
    have h1:1≤R*S:=Nat.mul_pos hgi.1.1 hgi.2.1.1
    omega
   obtain⟨o,ho1,ho2⟩:=ih (i+1) (j+R*S) (by omega) hj2
   refine⟨o,by rw[if_pos hc];exact ho1, ?_⟩
   rw[ho2,hE,decide_eq_decide]
   have e:(m.2.2.2.1.map cI).drop j=iI i R S++(m.2.2.2.1.map cI).drop (j+R*S):=by
    rw[←hc,←List.drop_drop]
    exact(List.take_append_drop _ _).symm
   rw[e]
   exact(List.append_right_inj _).symm
  ·refine⟨.inr (false,()),by rw[if_neg hc], ?_⟩
   show false=_
   rw[hE,eq_comm,decide_eq_false_iff_not]
   intro e
   apply hc
   rw[e,List.take_append_of_le_length (by rw[Ae i R S (by omega)];exact Nat.le_refl _),List.take_of_length_le (by rw[Ae i R S (by omega)];exact Nat.le_refl _)]
noncomputable def dM(m:ae.T):Bool:=decide (m.2.2.2.1.map cI=hZ 0 m.2.2.1)
theorem Vm(m:ae.T)(hs:bX m.2.2.2.1=true)(hm:eH m.2.2.1=true):lK (m,())=some (dM m,()):=by
 obtain⟨o,h1,h2⟩:=Z0 m hs hm m.2.2.1.length 0 0 (by omega) (by omega)
 have h1:ac dd ((m.1,m.2.1,m.2.2.1,m.2.2.2.1,()),(0:Int),m.2.2.1,(m.2.2.1.length:Int),(0:Int),())=some o:=h1
 have h2:Vl o=dM m:=h2
 rw[←h2]
 unfold lK
 simp only[h1]
 cases o<;>rfl
end Go.Proofs.YthfgmmmeplanbaaGreatDoor
namespace Go.Proofs.YthfgmmmeplanbaaGreatDoor
open Go.RowKit
set_option linter.unusedVariables false
set_option linter.unusedSimpArgs false
def GS(K:List Int)(k:Int):Bool:=decide (k ∈ K)
theorem Y4(K:List Int)(i R S:Nat):(iI i R S).all (GS K)=(List.range' 0 R).all (fun(r:Nat)=>(List.range' 0 S).all (fun(s:Nat)=>GS K (fB (i:Int) (r:Int) (s:Int)))):=by
 unfold iI
 rw[List.all_flatMap,List.range_eq_range']
 congr 1
 funext r
 rw[List.all_map,List.range_eq_range']
 rfl
theorem Z1(m:ae.T)(hs:bX m.2.2.2.1=true)(i r S:Nat)(hil:i<m.2.2.1.length)(hr:r≤7)(hS:S≤16)(hm:m.2.2.1[i].2.1=(S:Int)):
  ∀(n s c:Nat),s+n=S→c+n≤1000100→ac eg (m,(c:Int),(i:Int),(r:Int),(s:Int),())=some (if(List.range' s n).all (fun(s:Nat)=>GS (m.2.2.2.1.map cI) (fB (i:Int) (r:Int) (s:Int)))=true then .inl (m,((c+n:Nat):Int),(i:Int),(r:Int),())else .inr (false,())):=by
 have hlen:=fQ hs
 have hmem:=gC hs
 intro n
 induction n with
 |zero=>
  intro s c h hc
  have h:s=S:=by omega
  subst h
  rw[an]
  simp only[eg,am hil,aa,hm,aJ]
  simp
 |succ n ih=>
  intro s c h hc
  have hsS:s<S:=by omega
  have hf:=T9 m.2.2.2.1 (i:Int) (r:Int) (s:Int) (by omega)
  have hn:=Rz (fun v hv=>qf (hmem v hv)) (a:=(i:Int)) (b:=(r:Int)) (c:=(s:Int)) ⟨by omega,by omega⟩ ⟨by omega,by omega⟩
  have hih:=ih (s+1) (c+1) (by omega) (by omega)
  have hw:IntKind.i64.wrap ((c:Int)+1)=((c+1:Nat):Int):=by rw[wrap_i64]<;>omega
  rw[List.range'_succ,List.all_cons,an]
  simp only[eg,am hil,aa,hm,aK hsS,hf,hn,hw,av hsS (show S≤1099511627776 by omega)]
  have hp:GS (m.2.2.2.1.map cI) (fB (i:Int) (r:Int) (s:Int))=decide (fB (i:Int) (r:Int) (s:Int) ∈ m.2.2.2.1.map cI):=rfl
  rw[hp]
  rcases Bool.eq_false_or_eq_true (decide (fB (i:Int) (r:Int) (s:Int) ∈ m.2.2.2.1.map cI))with g|g<;>simp only[g,Bool.not_true,Bool.not_false,Bool.true_and,Bool.false_and]
  ·have ha:c+1+n=c+(n+1):=by omega
   rw[ha]at hih
   exact hih
  ·rfl
theorem Z2(m:ae.T)(hs:bX m.2.2.2.1=true)(i R S:Nat)(hil:i<m.2.2.1.length)(hR:R≤8)(hS:S≤16)(hm1:m.2.2.1[i].1=(R:Int))(hm:m.2.2.1[i].2.1=(S:Int)):
  ∀(n r c:Nat),r+n=R→c+n*16≤1000000→ac eh (m,(c:Int),(i:Int),(r:Int),())=some (if(List.range' r n).all (fun(r:Nat)=>(List.range' 0 S).all (fun(s:Nat)=>GS (m.2.2.2.1.map cI) (fB (i:Int) (r:Int) (s:Int))))=true then .inl (m,((c+n*S:Nat):Int),(i:Int),())else .inr (false,())):=by
 intro n
 induction n with
 |zero=>
  intro r c h hc
  have h:r=R:=by omega
  subst h
  rw[an]
  simp only[eh,am hil,aa,hm1,aJ]
  simp
 |succ n ih=>
  intro r c h hc
  have hrR:r<R:=by omega
  have h9:=Z1 m hs i r S hil (by omega) hS hm S 0 c (by omega) (by omega)
  have h9':ac eg ((m.1,m.2.1,m.2.2.1,m.2.2.2.1,()),(c:Int),(i:Int),(r:Int),(0:Int),())=_:=h9
  have hnS:n*S≤n*16:=Nat.mul_le_mul_left n hS
  have hih:=ih (r+1) (c+S) (by omega) (by rw[Nat.add_mul]at hc;omega)
  rw[List.range'_succ,List.all_cons,an]
  simp only[eh,am hil,aa,hm1,aK hrR]
  rw[h9']
  rcases Bool.eq_false_or_eq_true ((List.range' 0 S).all (fun(s:Nat)=>GS (m.2.2.2.1.map cI) (fB (i:Int) (r:Int) (s:Int))))with g|g<;>simp only[g,Bool.true_and,Bool.false_and,if_true,av hrR (show R≤1099511627776 by omega)]
  ·have ha:c+S+n*S=c+(n+1)*S:=by rw[Nat.add_mul];omega
   rw[ha]at hih
   exact hih
  ·rfl
theorem Z3(m:ae.T)(hs:bX m.2.2.2.1=true)(hm:eH m.2.2.1=true):
  ∀(n i c:Nat),i+n=m.2.2.1.length→c≤128*i→∃o,ac cM (m,(c:Int),(i:Int),())=some o∧Vl o=((hZ i (m.2.2.1.drop i)).all (GS (m.2.2.2.1.map cI))&&decide (c+(hZ i (m.2.2.1.drop i)).length=m.2.2.2.1.length)):=by
 obtain⟨hl16,hg⟩:=df hm
 have hlen:=fQ hs
 intro n
 induction n with
 |zero=>
  intro i c hi hc
  have hi:i=m.2.2.1.length:=by omega
  subst hi
  refine⟨.inl (m,(c:Int),()), ?_, ?_⟩
  ·rw[an]
   simp only[cM,aJ]
  ·rw[List.drop_length]
   show((c:Int)==(m.2.2.2.1.length:Int))=(true&&decide (c+0=m.2.2.2.1.length))
   rw[Bool.true_and,Nat.add_zero]
   by_cases h:c=m.2.2.2.1.length
   ·rw[decide_eq_true h,h];simp
   ·rw[decide_eq_false h,beq_eq_false_iff_ne];omega
 |succ n ih=>
  intro i c hi hc
  have hil:i<m.2.2.1.length:=by omega
  have hgi:=l4 (hg _ (List.getElem_mem hil))
  obtain⟨R,hR⟩:∃R,R=m.2.2.1[i].1.toNat:=⟨_,rfl⟩
  obtain⟨S,hS⟩:∃S,S=m.2.2.1[i].2.1.toNat:=⟨_,rfl⟩
  rw[←hR,←hS]at hgi
  have hRS:R*S≤128:=Nat.le_trans (Nat.mul_le_mul hgi.1.2 hgi.2.1.2) (by omega)
  have h6:=Z2 m hs i R S hil hgi.1.2 hgi.2.1.2 hgi.2.2.1 hgi.2.2.2 R 0 c (by omega) (by omega)
  have h6':ac eh ((m.1,m.2.1,m.2.2.1,m.2.2.2.1,()),(c:Int),(i:Int),(0:Int),())=_:=h6
  rw[←Y4]at h6'
  have hE:hZ i (m.2.2.1.drop i)=iI i R S++hZ (i+1) (m.2.2.1.drop (i+1)):=by
   rw[List.drop_eq_getElem_cons hil,hR,hS]
   rfl
  have hstep:ac cM (m,(c:Int),(i:Int),())=if(iI i R S).all (GS (m.2.2.2.1.map cI))=true then ac cM (m,((c+R*S:Nat):Int),((i+1:Nat):Int),())else some (.inr (false,())):=by
   rw[an]
   simp only[cM,aK hil]
   rw[h6']
   by_cases hc:(iI i R S).all (GS (m.2.2.2.1.map cI))=true
   ·simp only[if_pos hc,av hil (show m.2.2.1.length≤1099511627776 by omega)]
   ·simp only[if_neg hc]
  rw[hstep,hE,List.all_append,List.length_append,Ae i R S (by omega)]
  by_cases hq:(iI i R S).all (GS (m.2.2.2.1.map cI))=true
  ·obtain⟨o,ho1,ho2⟩:=ih (i+1) (c+R*S) (by omega) (by omega)
   refine⟨o,by rw[if_pos hq];exact ho1, ?_⟩
   rw[ho2,hq,Bool.true_and,Nat.add_assoc]
  ·refine⟨.inr (false,()),by rw[if_neg hq], ?_⟩
   rw[Bool.eq_false_iff.2 hq,Bool.false_and,Bool.false_and]
   rfl
theorem Vn(m:ae.T)(hs:bX m.2.2.2.1=true)(hm:eH m.2.2.1=true):kA (m,())=some (dM m,()):=by
 obtain⟨o,h1,h2⟩:=Z3 m hs hm m.2.2.1.length 0 0 (by omega) (by omega)
 have h1:ac cM ((m.1,m.2.1,m.2.2.1,m.2.2.2.1,()),(0:Int),(0:Int),())=some o:=h1
 have h3:dM m=Vl o:=by
  rw[h2]
  unfold dM
  rw[Y3 _ _ (Rx hs) (GR _ 0 (df hm).2),Nat.zero_add,List.length_map]
  rfl
 rw[h3]
 unfold kA
 simp only[h1]
 cases o<;>rfl
end Go.Proofs.YthfgmmmeplanbaaGreatDoor
namespace Go.Proofs.YthfgmmmeplanbaaGreatDoor
open Go.RowKit
set_option linter.unusedVariables false
set_option linter.unusedSimpArgs false
theorem nR {S X O T:Type}{B:X→Option (X ⊕ O)}(l:List T)(e:S→Nat→X)(g:S→T→S)(fin:S→O)(P:S→Prop)(hP:∀s,∀v ∈ l,P s→P (g s v))(hend:∀s,P s→B (e s l.length)=some (.inr (fin s)))
  (hstep:∀s i (h:i<l.length),P s→B (e s i)=some (.inl (e (g s l[i]) (i+1)))):∀(n i:Nat) (s:S),i+n=l.length→P s→ac B (e s i)=some (fin ((l.drop i).foldl g s))
 |0,i,s,hi,hs=>by
  have hi:i=l.length:=by omega
  subst hi
  rw[an,hend s hs,List.drop_length]
  rfl
 |n+1,i,s,hi,hs=>by
  have h:i<l.length:=by omega
  rw[an,hstep s i h hs,List.drop_eq_getElem_cons h]
  exact nR l e g fin P hP hend hstep n (i+1) _ (by omega) (hP s _ (List.getElem_mem h) hs)
theorem ov {S T:Type}{g:S→T→S}{P:S→Prop}:∀(l:List T) (s:S),(∀s,∀v ∈ l,P s→P (g s v))→P s→P (l.foldl g s)
 | [],s,_,h=>h
 |v::l,s,hP,h=>ov l _ (fun s u hu=>hP s u (by simp[hu])) (hP s v (by simp) h)
theorem RA(a b:Nat)(ha:a<9223372036854775808)(hb:b<9223372036854775808):bits .or .i64 (a:Int) (b:Int)=((a|||b:Nat):Int):=by
 have hx:a|||b<2^63:=Nat.or_lt_two_pow (by omega) (by omega)
 have h1:(BitVec.ofInt 64 (a:Int)).toNat=a:=by
  rw[BitVec.ofInt_natCast,BitVec.toNat_ofNat];exact Nat.mod_eq_of_lt (by omega)
 have h2:(BitVec.ofInt 64 (b:Int)).toNat=b:=by
  rw[BitVec.ofInt_natCast,BitVec.toNat_ofNat];exact Nat.mod_eq_of_lt (by omega)
 show IntKind.i64.wrap ((BitVec.ofInt 64 (a:Int)|||BitVec.ofInt 64 (b:Int)).toNat:Int)=_
 rw[BitVec.toNat_or,h1,h2,wrap_i64]<;>omega
theorem GT(a b:Nat)(ha:a<9223372036854775808)(hb:b<9223372036854775808):(bits .andNot .i64 (a:Int) (b:Int)==0)=decide (a&&& b=a):=by
 have h1:BitVec.ofInt 64 (a:Int)=BitVec.ofNat 64 a:=BitVec.ofInt_natCast ..
 have h2:BitVec.ofInt 64 (b:Int)=BitVec.ofNat 64 b:=BitVec.ofInt_natCast ..
 have e:bits .andNot .i64 (a:Int) (b:Int)=IntKind.i64.wrap ((BitVec.ofNat 64 a&&& ~~~ BitVec.ofNat 64 b).toNat:Int):=by
  rw[←h1,←h2];rfl
 have ha':(BitVec.ofNat 64 a).toNat=a:=by rw[BitVec.toNat_ofNat];exact Nat.mod_eq_of_lt (by omega)
 have hle:(BitVec.ofNat 64 a&&& ~~~ BitVec.ofNat 64 b).toNat≤a:=by
  rw[BitVec.toNat_and,ha']
  exact Nat.and_le_left
 have hz:(BitVec.ofNat 64 a&&& ~~~ BitVec.ofNat 64 b).toNat=0↔a&&& b=a:=by
  constructor
  ·intro h
   have h0:BitVec.ofNat 64 a&&& ~~~ BitVec.ofNat 64 b=0#64:=BitVec.eq_of_toNat_eq (by rw[h];rfl)
   apply Nat.eq_of_testBit_eq
   intro i
   rw[Nat.testBit_and]
   by_cases hi:i<64
   ·have:=congrArg (fun z:BitVec 64=>z.getLsbD i) h0
    simp only[BitVec.getLsbD_and,BitVec.getLsbD_not,BitVec.getLsbD_ofNat,BitVec.getLsbD_zero,hi,decide_true,Bool.true_and]at this
    cases h5:a.testBit i<;>cases h6:b.testBit i<;>simp[h5,h6]at this ⊢
   ·have:a.testBit i=false:=Nat.testBit_lt_two_pow (Nat.lt_of_lt_of_le ha (Nat.le_trans (by decide:9223372036854775808≤2^64) (Nat.pow_le_pow_right (by omega) (by omega))))
    rw[this];rfl
  ·intro h
   have h0:BitVec.ofNat 64 a&&& ~~~ BitVec.ofNat 64 b=0#64:=by
    apply BitVec.eq_of_getLsbD_eq
    intro i hi
    have:=congrArg (fun z:Nat=>z.testBit i) h
    simp only[Nat.testBit_and]at this
    simp only[BitVec.getLsbD_and,BitVec.getLsbD_not,BitVec.getLsbD_ofNat,BitVec.getLsbD_zero,hi,decide_true,Bool.true_and]
    cases h5:a.testBit i<;>cases h6:b.testBit i<;>simp[h5,h6]at this ⊢
   rw[h0];rfl
 rw[e,wrap_i64 (by omega) (by omega)]
 by_cases h:a&&& b=a
 ·rw[decide_eq_true h,hz.2 h];rfl
 ·rw[decide_eq_false h,beq_eq_false_iff_ne]
  intro h2
  exact h (hz.1 (by omega))
theorem wI(k:Nat)(hk:k<32):IntKind.i64.wrap ((1:Int)*2^min (k:Int).toNat IntKind.i64.bits)=((2^k:Nat):Int):=by
 have h:min (k:Int).toNat IntKind.i64.bits=k:=vf (by omega)
 have hp:2^k<2^32:=Nat.pow_lt_pow_right (by omega) hk
 have e:(2:Int)^k=((2^k:Nat):Int):=by norm_cast
 rw[h,Int.one_mul,e]
 generalize (2:Nat)^k=p at hp ⊢
 rw[wrap_i64]<;>omega
theorem Lr(k:Nat)(hk:k<32):IntKind.i64.wrap ((1:Int)*2^min k IntKind.i64.bits)=((2^k:Nat):Int):=wI k hk
theorem WW(z:Int)(h0:0≤z)(h1:z≤31):∃k:Nat,k<32∧z=(k:Int):=⟨z.toNat,by omega,by omega⟩
theorem M0(v k:Nat)(hv:v<4294967296)(hk:k<32):v|||2^k<4294967296:=
 Nat.or_lt_two_pow (n:=32) (by omega) (Nat.pow_lt_pow_right (by omega) hk)
def mP(v k:Nat):Bool:=(v / 2^k) % 2==1
theorem Af(v k:Nat):mP v k=v.testBit k:=by
 unfold mP
 rw[Nat.testBit_eq_decide_div_mod_eq,Bool.eq_iff_iff]
 simp
theorem Ym(v k:Nat)(hv:v<4294967296)(hk:k<32):ix ((v:Int),(k:Int),true,())=some (((v|||2^k:Nat):Int),()):=by
 have hh:=Ph v k hv hk
 have hu:IntKind.u64.wrap (k:Int)=(k:Int):=Lf (by omega)
 have hn:¬((k:Int)<0):=by omega
 have hp:2^k<2^32:=Nat.pow_lt_pow_right (by omega) hk
 have hx:=tA v (2^k) (by omega) (by omega)
 unfold ix
 simp only[hh,hu,hn,if_false,wI k hk,hx]
 have hb:(v / 2^k % 2==1)=v.testBit k:=Af v k
 rw[hb]
 cases h:v.testBit k with
 |true=>
  have:v|||2^k=v:=by
   apply Nat.eq_of_testBit_eq
   intro i
   rw[Nat.testBit_or,Nat.testBit_two_pow]
   by_cases hi:k=i
   ·subst hi;simp[h]
   ·simp[hi]
  rw[this]
  rfl
 |false=>
  have:v|||2^k=v^^^2^k:=by
   apply Nat.eq_of_testBit_eq
   intro i
   rw[Nat.testBit_or,Nat.testBit_xor,Nat.testBit_two_pow]
   by_cases hi:k=i
   ·subst hi;simp[h]
   ·simp[hi]
  rw[this]
  rfl
theorem Z4(v k:Nat)(hv:v<4294967296)(hk:k<32):Pg ((v:Int),(k:Int),())=some (mP v k,()):=by
 have hb:=WM v k (by omega)
 unfold bt at hb
 have hn:¬((k:Int)<0):=by omega
 unfold Pg mP
 simp only[hn,if_false,vf (show k≤64 by omega),hb]
 generalize v / 2^k=z
 have:(((z % 2:Nat):Int)==1)=(z % 2==1):=by
  rw[Bool.eq_iff_iff]
  simp
  omega
 rw[this]
def IG(v:Nat)(n:ak.T):Nat:=if n.2.2.2.1=true then v else v|||2^n.1.toNat
def cB(l:List ak.T):Nat:=l.foldl IG 0
theorem IH {l:List ak.T}(h:fA l=true):l.length≤32∧∀n ∈ l,∃k:Nat,k<32∧n.1=(k:Int):=by
 unfold fA at h
 rw[Bool.and_eq_true,List.all_eq_true]at h
 refine⟨by have:=(aO.1 h.1).2;omega,fun n hn=> ?_⟩
 obtain⟨i,hi,rfl⟩:=List.getElem_of_mem hn
 have:=h.2 i (by simpa using hi)
 unfold ro tj at this
 simp only[List.getElem?_eq_getElem hi,Bool.and_eq_true,aO]at this
 obtain⟨⟨⟨h1,h2⟩,_⟩,_⟩:=this
 exact WW _ h1 h2
theorem M1 {l:List ak.T}(h:fA l=true):∀s,∀n ∈ l,s<4294967296→IG s n<4294967296:=by
 intro s n hn hs
 obtain⟨k,hk,e⟩:=(IH h).2 n hn
 unfold IG
 split
 ·exact hs
 ·rw[e];exact M0 s k hs hk
theorem y8 {l:List ak.T}(h:fA l=true):cB l<4294967296:=ov (P:=fun s=>s<4294967296) l 0 (M1 h) (by omega)
theorem Vo(l:List ak.T)(h:fA l=true):il (l,())=some ((cB l:Int),()):=by
 have hid:=IH h
 have e:=nR (B:=dG) l (fun(s:Nat) i=>((s:Int),l,(l.length:Int),(i:Int),())) IG (fun s=>.inl ((s:Int),())) (fun s=>s<4294967296) (M1 h) (fun s _=>by simp only[dG,aJ]) (fun s i hi hs=>by
  obtain⟨k,hk,e⟩:=hid.2 _ (List.getElem_mem hi)
  have hn:¬((k:Int)<0):=by omega
  have hp:2^k<2^32:=Nat.pow_lt_pow_right (by omega) hk
  have ho:=RA s (2^k) (by omega) (by omega)
  simp only[dG,aK hi,av hi (show l.length≤1099511627776 by omega),am hi,aa,e,hn,if_false,Lr k hk,ho,IG,Int.toNat_natCast]
  cases l[i].2.2.2.1<;>rfl) l.length 0 0 (by omega) (by omega)
 have e':ac dG ((0:Int),l,(l.length:Int),(0:Int),())=_:=e
 unfold il
 simp only[e',List.drop_zero]
 rfl
theorem Vp(l:List ak.T)(h:fA l=true):kQ (l,())=some ((cB l:Int),()):=by
 have hid:=IH h
 have e:=nR (B:=fi) l (fun(s:Nat) i=>(l,(s:Int),(i:Int),())) IG (fun s=>.inl ((s:Int),())) (fun s=>s<4294967296) (M1 h) (fun s _=>by simp only[fi,aJ]) (fun s i hi hs=>by
  obtain⟨k,hk,e⟩:=hid.2 _ (List.getElem_mem hi)
  have ho:=Ym s k hs hk
  simp only[fi,aK hi,av hi (show l.length≤1099511627776 by omega),am hi,aa,e,ho,IG,Int.toNat_natCast]
  cases l[i].2.2.2.1<;>rfl) l.length 0 0 (by omega) (by omega)
 have e':ac fi (l,(0:Int),(0:Int),())=_:=e
 unfold kQ
 simp only[e',List.drop_zero]
 rfl
theorem rq {v:ag.T}(h:li v=true):∃k:Nat,k<32∧v.2.2.2.1.1=(k:Int):=by
 unfold li kr at h
 simp only[Bool.and_eq_true,aO]at h
 obtain⟨h1,h2⟩:=h.2.2.2.1
 exact WW _ h1 h2
def lj(m:ae.T):Bool:=m.2.2.2.1.all (fun v=>mP (cB m.2.1) v.2.2.2.1.1.toNat)
theorem Z5(m:ae.T)(hn:fA m.2.1=true)(hs:bX m.2.2.2.1=true):ly (m,())=some (lj m,()):=by
 have hlen:=fQ hs
 have e:=gY (B:=eP) m.2.2.2.1 (fun i=>(m,(cB m.2.1:Int),(i:Int),())) (fun v=>mP (cB m.2.1) v.2.2.2.1.1.toNat) (.inl ()) (.inr (false,())) (by simp only[eP,aJ]) (fun i h=>by
  obtain⟨k,hk,e⟩:=rq (gC hs _ (List.getElem_mem h))
  have hh:lx ((cB m.2.1:Int),(k:Int),())=some (mP (cB m.2.1) k,()):=Ph (cB m.2.1) k (y8 hn) hk
  simp only[eP,aK h,av h (show m.2.2.2.1.length≤1099511627776 by omega),am h,aa,e,hh,Int.toNat_natCast]
  cases mP (cB m.2.1) k<;>rfl)
 have e':ac eP ((m.1,m.2.1,m.2.2.1,m.2.2.2.1,()),(cB m.2.1:Int),(0:Int),())=_:=e
 unfold ly lj
 simp only[Vp m.2.1 hn,e']
 cases m.2.2.2.1.all (fun v=>mP (cB m.2.1) v.2.2.2.1.1.toNat)<;>rfl
theorem Z6(m:ae.T)(hn:fA m.2.1=true)(hs:bX m.2.2.2.1=true):bP (m.2.2.2.1,(fun z=>mi (z.1,(m.1,m.2.1,m.2.2.1,m.2.2.2.1,()),())),())=some (!lj m,()):=by
 have hlen:=fQ hs
 rw[sG m.2.2.2.1 (by omega) _ (fun v=> !mP (cB m.2.1) v.2.2.2.1.1.toNat) (fun i h=>by
  obtain⟨k,hk,e⟩:=rq (gC hs _ (List.getElem_mem h))
  have hh:=Z4 (cB m.2.1) k (y8 hn) hk
  unfold mi
  simp only[Vo m.2.1 hn,e,hh,Int.toNat_natCast])]
 unfold lj
 rw[yX,Bool.not_not]
end Go.Proofs.YthfgmmmeplanbaaGreatDoor
namespace Go.Proofs.YthfgmmmeplanbaaGreatDoor
open Go.RowKit
set_option linter.unusedVariables false
set_option linter.unusedSimpArgs false
theorem Ag {S X O T:Type}{B:X→Option (X ⊕ O)}(l:List T)(e:S→Nat→X)(g:S→T→S)(fin:S→O)(P:Nat→S→Prop)(hP:∀i (h:i<l.length) s,P i s→P (i+1) (g s l[i]))(hend:∀s,B (e s l.length)=some (.inr (fin s)))
  (hstep:∀s i (h:i<l.length),P i s→B (e s i)=some (.inl (e (g s l[i]) (i+1)))):∀(n i:Nat) (s:S),i+n=l.length→P i s→ac B (e s i)=some (fin ((l.drop i).foldl g s))
 |0,i,s,hi,hs=>by
  have hi:i=l.length:=by omega
  subst hi
  rw[an,hend s,List.drop_length]
  rfl
 |n+1,i,s,hi,hs=>by
  have h:i<l.length:=by omega
  rw[an,hstep s i h hs,List.drop_eq_getElem_cons h]
  exact Ag l e g fin P hP hend hstep n (i+1) _ (by omega) (hP i h s hs)
theorem xn {α:Type}(q:α→Bool):∀(l:List α) (i j:Nat),bB q i l=some j→∃(n:Nat) (h:n<l.length),j=i+n∧q l[n]=true
 | [],_,_,h=>by cases h
 |v::r,i,j,h=>by
  unfold bB at h
  cases hq:q v with
  |true=>
   rw[hq]at h
   cases h
   exact⟨0,by simp,by omega,hq⟩
  |false=>
   rw[hq]at h
   obtain⟨n,hn,e,h2⟩:=xn q r (i+1) j h
   exact⟨n+1,by simpa using hn,by omega,by simpa using h2⟩
def Ah(v:ag.T):Int:=v.2.2.2.1.2.2.2.1
def E7(u v:ag.T):Bool:=(u.1==v.1)&&(u.2.2.1==v.2.2.1)
def mv(u v:ag.T):Bool:= !E7 u v||(Ah u==Ah v)
def E8(l:List ag.T)(i:Nat):Bool:=match l[i]? with
 |none=>false
 |some v=>(l.take i).all (mv v)
def EC(l:List ag.T):Bool:=(List.range l.length).all (E8 l)
theorem aaF(m:ae.T)(hl:m.2.2.2.1.length≤1099511627776):jF (m,())=some (EC m.2.2.2.1,()):=by
 have inner:∀i (h:i<m.2.2.2.1.length),ac dD (m,(i:Int),(0:Int),())=some (if(m.2.2.2.1.take i).all (mv m.2.2.2.1[i])then .inl (m,(i:Int),())else .inr (false,())):=fun i h=>by
  have e:=gY (B:=dD) (m.2.2.2.1.take i) (fun j=>(m,(i:Int),(j:Int),())) (mv m.2.2.2.1[i]) (.inl (m,(i:Int),())) (.inr (false,())) (by
   rw[List.length_take,Nat.min_eq_left (Nat.le_of_lt h)]
   simp only[dD,aJ]) (fun j hj=>by
   have hj':j<i:=by rw[List.length_take]at hj;omega
   have hjl:j<m.2.2.2.1.length:=by omega
   have hg:(m.2.2.2.1.take i)[j]=m.2.2.2.1[j]:=by simp
   rw[hg]
   simp only[dD,aK hj',av hjl hl,am hjl,am h,aa,dZ,mv,E7,Ah]
   generalize m.2.2.2.1[i]=u
   generalize m.2.2.2.1[j]=v
   rcases Bool.eq_false_or_eq_true (u.1==v.1)with h1|h1<;>simp only[h1,Bool.true_and,Bool.false_and,Bool.not_false,Bool.true_or,if_true]
   rcases Bool.eq_false_or_eq_true (u.2.2.1==v.2.2.1)with h2|h2<;>simp only[h2,Bool.not_true,Bool.not_false,Bool.true_or,Bool.false_or,if_true]
   have hne:(u.2.2.2.1.2.2.2.1 != v.2.2.2.1.2.2.2.1)= !(u.2.2.2.1.2.2.2.1==v.2.2.2.1.2.2.2.1):=rfl
   rw[hne]
   cases (u.2.2.2.1.2.2.2.1==v.2.2.2.1.2.2.2.1)<;>rfl)
  exact e
 have e:=fM (B:=dE) m.2.2.2.1.length (fun i=>(m,(i:Int),())) (E8 m.2.2.2.1) (.inl ()) (.inr (false,())) (by simp only[dE,aJ]) (fun i h=>by
  simp only[dE,aK h,av h hl,inner i h,E8,List.getElem?_eq_getElem h]
  cases (m.2.2.2.1.take i).all (mv m.2.2.2.1[i])
  ·rfl
  ·show some (Sum.inl (m,IntKind.i64.wrap ((i:Int)+1),()))=some (.inl (m,((i+1:Nat):Int),()))
   rw[av h hl])
 have e':ac dE ((m.1,m.2.1,m.2.2.1,m.2.2.2.1,()),(0:Int),())=_:=e
 unfold jF EC
 simp only[e']
 cases (List.range m.2.2.2.1.length).all (E8 m.2.2.2.1)<;>rfl
theorem NR:∀(ms:List ao.T) (i:Nat),(∀m ∈ ms,Lq m)→∀k ∈ hZ i ms,∃a r s:Nat,k=fB (a:Int) (r:Int) (s:Int)∧r≤7∧s≤15∧fB (a:Int) 0 (s:Int) ∈ hZ i ms
 | [],i,_,k,hk=>by simp[hZ]at hk
 |m::ms,i,h,k,hk=>by
  simp only[hZ,List.mem_append]at hk ⊢
  rcases hk with hk|hk
  ·have hm:=l4 (h m (by simp))
   simp only[iI,List.mem_flatMap,List.mem_map,List.mem_range]at hk
   obtain⟨r,hr,s,hs,rfl⟩:=hk
   refine⟨i,r,s,rfl,by omega,by omega,.inl ?_⟩
   simp only[iI,List.mem_flatMap,List.mem_map,List.mem_range]
   exact⟨0,by omega,s,hs,rfl⟩
  ·obtain⟨a,r,s,e,h1,h2,h3⟩:=NR ms (i+1) (fun m hm=>h m (by simp[hm])) k hk
   exact⟨a,r,s,e,h1,h2,.inr h3⟩
theorem RB(m:ae.T)(hs:bX m.2.2.2.1=true)(hm:eH m.2.2.1=true)(hc:dM m=true):∀v ∈ m.2.2.2.1,∃(j:Nat) (h:j<m.2.2.2.1.length),bB (iV v.1 0 v.2.2.1) 0 m.2.2.2.1=some j∧iV v.1 0 v.2.2.1 m.2.2.2.1[j]=true:=by
 intro v hv
 have hmem:=gC hs
 have hvk:=qf (hmem v hv)
 have hK:m.2.2.2.1.map cI=hZ 0 m.2.2.1:=by
  unfold dM at hc
  exact of_decide_eq_true hc
 have h1:cI v ∈ hZ 0 m.2.2.1:=by rw[←hK];exact List.mem_map.2 ⟨v,hv,rfl⟩
 obtain⟨a,r,s,e,hr,hs',h2⟩:=NR _ 0 (df hm).2 _ h1
 rw[←hK]at h2
 obtain⟨u,hu,e2⟩:=List.mem_map.1 h2
 have huk:=qf (hmem u hu)
 have hv0:iV (a:Int) (r:Int) (s:Int) v=true:=(E6 hvk ⟨by omega,by omega⟩ ⟨by omega,by omega⟩).2 e
 have hu0:iV (a:Int) 0 (s:Int) u=true:=(E6 huk ⟨by omega,by omega⟩ ⟨by omega,by omega⟩).2 e2
 have hva:v.1=(a:Int)∧v.2.2.1=(s:Int):=by
  unfold iV at hv0
  simp only[Bool.and_eq_true,beq_iff_eq]at hv0
  exact⟨hv0.1,hv0.2.2⟩
 have hx:m.2.2.2.1.any (iV v.1 0 v.2.2.1)=true:=List.any_eq_true.2 ⟨u,hu,by rw[hva.1,hva.2];exact hu0⟩
 rw[←gm (iV v.1 0 v.2.2.1) 0 m.2.2.2.1]at hx
 obtain⟨j,hj⟩:=Option.isSome_iff_exists.1 hx
 obtain⟨n,hn,e3,h4⟩:=xn _ _ _ _ hj
 have:j=n:=by omega
 subst this
 exact⟨j,hn,hj,h4⟩
def nS(l:List ag.T)(v:ag.T):Bool:=match bB (iV v.1 0 v.2.2.1) 0 l with
 |none=>false
 |some j=>match l[j]? with
  |none=>false
  |some u=>Ah v==Ah u
theorem XU(m:ae.T)(hs:bX m.2.2.2.1=true)(hm:eH m.2.2.1=true)(hc:dM m=true):pj (m,())=some (m.2.2.2.1.all (nS m.2.2.2.1),()):=by
 have hlen:=fQ hs
 have e:=gY (B:=gd) m.2.2.2.1 (fun i=>(m,m.2.2.2.1,(m.2.2.2.1.length:Int),(i:Int),())) (nS m.2.2.2.1) (.inl ()) (.inr (false,())) (by simp only[gd,aJ]) (fun i h=>by
  obtain⟨j,hj,h1,h2⟩:=RB m hs hm hc _ (List.getElem_mem h)
  have hf:mk (m.2.2.2.1,m.2.2.2.1[i].1,(0:Int),m.2.2.2.1[i].2.2.1,())=some ((j:Int),()):=by
   rw[Ua _ _ _ _ (by omega)]
   unfold qw
   rw[h1]
  simp only[gd,aK h,av h (show m.2.2.2.1.length≤1099511627776 by omega),am h,aa,hf,am hj,dZ,cJ,nS,h1,List.getElem?_eq_getElem hj,Ah]
  have hne:(m.2.2.2.1[i].2.2.2.1.2.2.2.1 != m.2.2.2.1[j].2.2.2.1.2.2.2.1)= !(m.2.2.2.1[i].2.2.2.1.2.2.2.1==m.2.2.2.1[j].2.2.2.1.2.2.2.1):=rfl
  rw[hne]
  cases (m.2.2.2.1[i].2.2.2.1.2.2.2.1==m.2.2.2.1[j].2.2.2.1.2.2.2.1)<;>rfl)
 have e':ac gd ((m.1,m.2.1,m.2.2.1,m.2.2.2.1,()),m.2.2.2.1,(m.2.2.2.1.length:Int),(0:Int),())=_:=e
 unfold pj
 simp only[e']
 cases m.2.2.2.1.all (nS m.2.2.2.1)<;>rfl
theorem XV {u v:ag.T}(h:mv u v=true):mv v u=true:=by
 unfold mv E7 at h ⊢
 simp only[Bool.or_eq_true,Bool.not_eq_true',Bool.and_eq_false_iff,beq_iff_eq,beq_eq_false_iff_ne]at h ⊢
 rcases h with(h|h)|h
 ·exact .inl (.inl fun e=>h e.symm)
 ·exact .inl (.inr fun e=>h e.symm)
 ·exact .inr h.symm
theorem Y5 {l:List ag.T}:EC l=true↔∀u ∈ l,∀v ∈ l,mv u v=true:=by
 unfold EC
 rw[List.all_eq_true]
 constructor
 ·intro h
  have key:∀i j (hi:i<l.length) (hj:j<i),mv l[i] l[j]=true:=fun i j hi hj=>by
   have:=h i (by simpa using hi)
   unfold E8 at this
   simp only[List.getElem?_eq_getElem hi,List.all_eq_true]at this
   exact this _ (List.mem_take_iff_getElem.2 ⟨j,by omega,rfl⟩)
  intro u hu v hv
  obtain⟨i,hi,rfl⟩:=List.getElem_of_mem hu
  obtain⟨j,hj,rfl⟩:=List.getElem_of_mem hv
  rcases Nat.lt_trichotomy i j with h1|h1|h1
  ·exact XV (key j i hj h1)
  ·subst h1
   unfold mv
   simp
  ·exact key i j hi h1
 ·intro h i hi
  have hi:i<l.length:=by simpa using hi
  unfold E8
  simp only[List.getElem?_eq_getElem hi,List.all_eq_true]
  exact fun v hv=>h _ (List.getElem_mem hi) v (List.mem_of_mem_take hv)
theorem Vq(m:ae.T)(hs:bX m.2.2.2.1=true)(hm:eH m.2.2.1=true)(hc:dM m=true):m.2.2.2.1.all (nS m.2.2.2.1)=EC m.2.2.2.1:=by
 have hf:=RB m hs hm hc
 rw[Bool.eq_iff_iff,Y5,List.all_eq_true]
 constructor
 ·intro h u hu v hv
  unfold mv
  cases hsm:E7 u v with
  |false=>rfl
  |true=>
   unfold E7 at hsm
   simp only[Bool.and_eq_true,beq_iff_eq]at hsm
   obtain⟨j,hj,h1,h2⟩:=hf u hu
   have hu':=h u hu
   have hv':=h v hv
   unfold nS at hu' hv'
   rw[←hsm.1,←hsm.2]at hv'
   simp only[h1,List.getElem?_eq_getElem hj,beq_iff_eq]at hu' hv'
   rw[hu',hv']
   simp
 ·intro h v hv
  obtain⟨j,hj,h1,h2⟩:=hf v hv
  unfold nS
  simp only[h1,List.getElem?_eq_getElem hj]
  have h3:=h v hv _ (List.getElem_mem hj)
  unfold iV at h2
  simp only[Bool.and_eq_true,beq_iff_eq]at h2
  unfold mv E7 at h3
  rw[h2.1,h2.2.2]at h3
  simpa using h3
def XW(k:Int)(a:Int)(v:ag.T):Int:=if(v.1==k)=true then IntKind.i64.wrap (a+Ah v)else a
def M2(l:List ag.T)(k:Int):Int:=l.foldl (XW k) 0
theorem aaG(m:ae.T)(k:Int)(hl:m.2.2.2.1.length≤1099511627776):oU (m,k,())=some (M2 m.2.2.2.1 k,()):=by
 have e:=Ag (B:=fY) m.2.2.2.1 (fun(s:Int) i=>(k,m,s,(i:Int),())) (XW k) (fun s=>.inl (s,())) (fun _ _=>True) (fun _ _ _ _=>trivial) (fun s=>by simp only[fY,aJ]) (fun s i h _=>by
  simp only[fY,aK h,av h hl,am h,aa,XW,Ah]
  cases (m.2.2.2.1[i].1==k)<;>rfl) m.2.2.2.1.length 0 0 (by omega) trivial
 have e':ac fY (k,(m.1,m.2.1,m.2.2.1,m.2.2.2.1,()),(0:Int),(0:Int),())=_:=e
 unfold oU
 simp only[e']
 rfl
theorem aaH(m:ae.T)(k:Int)(hl:m.2.2.2.1.length≤1000):∃l,mZ (m,k,())=some (l,())∧dn (l,())=some (M2 m.2.2.2.1 k,()):=by
 have e:=Ag (B:=fq) m.2.2.2.1 (fun(s:List ag.T) i=>(k,s,m.2.2.2.1,(m.2.2.2.1.length:Int),(i:Int),())) (fun s v=>if(v.1==k)=true then s++ [v]else s) (fun s=>.inl (s,())) (fun i s=>s.length≤i) (fun i h s hs=>by
  show List.length (if _ then _ else _)≤_
  split
  ·simp;omega
  ·omega) (fun s=>by simp only[fq,aJ]) (fun s i h hs=>by
  simp only[fq,aK h,av h (show m.2.2.2.1.length≤1099511627776 by omega),am h,aa]
  cases (m.2.2.2.1[i].1==k)
  ·rfl
  ·simp only
   rw[aF (by simp;omega)]
   rfl) m.2.2.2.1.length 0 [] (by omega) (by simp)
 have e':ac fq (k,([]:List ag.T),m.2.2.2.1,(m.2.2.2.1.length:Int),(0:Int),())=_:=e
 have hflt:∀(l acc:List ag.T),l.foldl (fun s v=>if(v.1==k)=true then s++ [v]else s) acc=acc++l.filter (fun v=>v.1==k):=by
  intro l
  induction l with
  |nil=>intro acc;simp
  |cons v l ih=>
   intro acc
   rw[List.foldl_cons,ih,List.filter_cons]
   split<;>simp
 refine⟨m.2.2.2.1.filter (fun v=>v.1==k), ?_, ?_⟩
 ·unfold mZ
  simp only[e',List.drop_zero,hflt,List.nil_append]
 ·have hle:=List.length_filter_le (fun v:ag.T=>v.1==k) m.2.2.2.1
  generalize hq:m.2.2.2.1.filter (fun v=>v.1==k)=q at hle
  have e2:=Ag (B:=dI) q (fun(s:Int) i=>(s,q,(q.length:Int),(i:Int),())) (fun s v=>IntKind.i64.wrap (s+Ah v)) (fun s=>.inl (s,())) (fun _ _=>True) (fun _ _ _ _=>trivial) (fun s=>by simp only[dI,aJ]) (fun s i h _=>by
   simp only[dI,aK h,av h (show q.length≤1099511627776 by omega),am h,aa]
   rfl) q.length 0 0 (by omega) trivial
  have e2':ac dI ((0:Int),q,(q.length:Int),(0:Int),())=_:=e2
  unfold dn M2
  simp only[e2',List.drop_zero]
  rw[←hq,List.foldl_filter]
  rfl
def kT(l:List ag.T)(k:Nat):Bool:= !decide (M2 l (k:Int)>32000)
theorem Y6(m:ae.T)(hl:m.2.2.2.1.length≤1000)(hn:m.2.2.1.length≤1000):qX (m,())=some ((List.range m.2.2.1.length).all (kT m.2.2.2.1),()):=by
 have e:=fM (B:=gS) m.2.2.1.length (fun i=>(m,(m.2.2.1.length:Int),(i:Int),())) (kT m.2.2.2.1) (.inl ()) (.inr (false,())) (by simp only[gS,aJ]) (fun i h=>by
  obtain⟨l,h1,h2⟩:=aaH m (i:Int) hl
  have h1:mZ ((m.1,m.2.1,m.2.2.1,m.2.2.2.1,()),(i:Int),())=some (l,()):=h1
  simp only[gS,aK h,av h (show m.2.2.1.length≤1099511627776 by omega),h1,h2,kT]
  rcases Bool.eq_false_or_eq_true (decide (M2 m.2.2.2.1 (i:Int)>32000))with g|g<;>simp only[g]<;>rfl)
 have e':ac gS ((m.1,m.2.1,m.2.2.1,m.2.2.2.1,()),(m.2.2.1.length:Int),(0:Int),())=_:=e
 unfold qX
 simp only[e']
 cases (List.range m.2.2.1.length).all (kT m.2.2.2.1)<;>rfl
theorem Y7(m:ae.T)(hl:m.2.2.2.1.length≤1000)(hn:m.2.2.1.length≤1000):ac dm (m,(0:Int),())=some (if(List.range m.2.2.1.length).all (kT m.2.2.2.1)=true then .inl (m,())else .inr ((8:Int),())):=
 fM (B:=dm) m.2.2.1.length (fun i=>(m,(i:Int),())) (kT m.2.2.2.1) (.inl (m,())) (.inr ((8:Int),())) (by simp only[dm,aJ]) (fun i h=>by
  have h1:oU ((m.1,m.2.1,m.2.2.1,m.2.2.2.1,()),(i:Int),())=_:=aaG m (i:Int) (by omega)
  simp only[dm,aK h,av h (show m.2.2.1.length≤1099511627776 by omega),h1,kT]
  rcases Bool.eq_false_or_eq_true (decide (M2 m.2.2.2.1 (i:Int)>32000))with g|g<;>simp only[g]<;>rfl)
def qx(v:ag.T):Bool:=if(v.2.2.2.1.2.1==(3:Int))=true then v.1 != (0:Int)else false
theorem Z7(l:List ag.T)(hl:l.length≤1000):bP (l,mj,())=some (l.any qx,()):=
 sG l (by omega) _ qx (fun i h=>by
  unfold mj qx
  cases (l[i].2.2.2.1.2.1==(3:Int))<;>rfl)
theorem Z8(m:ae.T)(hl:m.2.2.2.1.length≤1000):ac cN (m,(0:Int),())=some (if m.2.2.2.1.any qx=true then .inr ((10:Int),())else .inl ()):=by
 have e:=gY (B:=cN) m.2.2.2.1 (fun i=>(m,(i:Int),())) (fun v=> !qx v) (.inl ()) (.inr ((10:Int),())) (by simp only[cN,aJ]) (fun i h=>by
  simp only[cN,aK h,av h (show m.2.2.2.1.length≤1099511627776 by omega),am h,aa,qx]
  rcases Bool.eq_false_or_eq_true (m.2.2.2.1[i].2.2.2.1.2.1==(3:Int))with g|g<;>simp only[g]
  ·rcases Bool.eq_false_or_eq_true (m.2.2.2.1[i].1 != (0:Int))with g2|g2<;>simp only[g2]<;>rfl
  ·rfl)
 have e':ac cN (m,(0:Int),())=_:=e
 rw[e',yX]
 simp only[Bool.not_not]
 cases m.2.2.2.1.any qx<;>rfl
end Go.Proofs.YthfgmmmeplanbaaGreatDoor
namespace Go.Proofs.YthfgmmmeplanbaaGreatDoor
open Go.RowKit
set_option linter.unusedVariables false
set_option linter.unusedSimpArgs false
def ED(i r:Int)(s:Nat)(v:ag.T):Nat:=if(v.1==i)=true then(if(v.2.1==r)=true then s|||2^v.2.2.2.1.1.toNat else s)else s
def qg(l:List ag.T)(i r:Int):Nat:=l.foldl (ED i r) 0
theorem M3 {l:List ag.T}(h:bX l=true)(i r:Int):∀s,∀v ∈ l,s<4294967296→ED i r s v<4294967296:=by
 intro s v hv hs
 obtain⟨k,hk,e⟩:=rq (gC h v hv)
 unfold ED
 split
 ·split
  ·rw[e];exact M0 s k hs hk
  ·exact hs
 ·exact hs
theorem Y8 {l:List ag.T}(h:bX l=true)(i r:Int):qg l i r<4294967296:=ov (P:=fun s=>s<4294967296) l 0 (M3 h i r) (by omega)
theorem Y9(m:ae.T)(hd:lj m=true)(i r:Int):∀k,(qg m.2.2.2.1 i r).testBit k=true→(cB m.2.1).testBit k=true:=by
 unfold lj at hd
 rw[List.all_eq_true]at hd
 refine ov (P:=fun s=>∀k,Nat.testBit s k=true→(cB m.2.1).testBit k=true) m.2.2.2.1 0 ?_ (by simp)
 intro s v hv hs k hk
 unfold ED at hk
 have hv':=hd v hv
 rw[Af]at hv'
 split at hk
 ·split at hk
  ·rw[Nat.testBit_or,Nat.testBit_two_pow,Bool.or_eq_true]at hk
   rcases hk with hk|hk
   ·exact hs k hk
   ·have:=of_decide_eq_true hk
    rw[←this]
    exact hv'
  ·exact hs k hk
 ·exact hs k hk
theorem Z9(m:ae.T)(hd:lj m=true)(i r:Int):decide (cB m.2.1&&& qg m.2.2.2.1 i r=cB m.2.1)=decide (qg m.2.2.2.1 i r=cB m.2.1):=by
 have hs:=Y9 m hd i r
 rw[decide_eq_decide]
 constructor
 ·intro h
  apply Nat.eq_of_testBit_eq
  intro k
  have:=congrArg (fun z:Nat=>z.testBit k) h
  simp only[Nat.testBit_and]at this
  cases h1:(qg m.2.2.2.1 i r).testBit k with
  |true=>rw[hs k h1]
  |false=>
   rw[h1,Bool.and_false]at this
   exact this
 ·intro h
  rw[h,Nat.and_self]
theorem aaI(m:ae.T)(hs:bX m.2.2.2.1=true)(a i r:Int):ac c7 (m,a,i,r,(0:Int),(0:Int),())=some (.inl (m,a,i,r,(qg m.2.2.2.1 i r:Int),())):=by
 have hlen:=fQ hs
 have e:=nR (B:=c7) m.2.2.2.1 (fun(s:Nat) j=>(m,a,i,r,(s:Int),(j:Int),())) (ED i r) (fun s=>.inl (m,a,i,r,(s:Int),())) (fun s=>s<4294967296) (M3 hs i r) (fun s _=>by simp only[c7,aJ]) (fun s j hj hv=>by
  obtain⟨k,hk,e⟩:=rq (gC hs _ (List.getElem_mem hj))
  have ho:=Ym s k hv hk
  simp only[c7,aK hj,av hj (show m.2.2.2.1.length≤1099511627776 by omega),am hj,aa,e,ho,ED,Int.toNat_natCast]
  rcases Bool.eq_false_or_eq_true (m.2.2.2.1[j].1==i)with g|g<;>simp only[g]
  ·rcases Bool.eq_false_or_eq_true (m.2.2.2.1[j].2.1==r)with g2|g2<;>simp only[g2]<;>rfl
  ·rfl) m.2.2.2.1.length 0 0 (by omega) (by omega)
 have e':ac c7 (m,a,i,r,(0:Int),(0:Int),())=_:=e
 rw[e',List.drop_zero]
 rfl
theorem aaJ(m:ae.T)(hs:bX m.2.2.2.1=true)(i r:Int)(ms:List ao.T)(n i2 R r2:Int):ac eM (m,i,r,(0:Int),ms,n,i2,R,r2,m.2.2.2.1,(m.2.2.2.1.length:Int),(0:Int),())=some (.inl (m,i,(qg m.2.2.2.1 i r:Int),ms,n,i2,R,r2,())):=by
 have hlen:=fQ hs
 have e:=nR (B:=eM) m.2.2.2.1 (fun(s:Nat) j=>(m,i,r,(s:Int),ms,n,i2,R,r2,m.2.2.2.1,(m.2.2.2.1.length:Int),(j:Int),())) (ED i r) (fun s=>.inl (m,i,(s:Int),ms,n,i2,R,r2,())) (fun s=>s<4294967296) (M3 hs i r) (fun s _=>by simp only[eM,aJ]) (fun s j hj hv=>by
  obtain⟨k,hk,e⟩:=rq (gC hs _ (List.getElem_mem hj))
  have hn:¬((k:Int)<0):=by omega
  have hp:2^k<2^32:=Nat.pow_lt_pow_right (by omega) hk
  have ho:=RA s (2^k) (by omega) (by omega)
  simp only[eM,aK hj,av hj (show m.2.2.2.1.length≤1099511627776 by omega),am hj,aa,e,hn,if_false,Lr k hk,ho,ED,Int.toNat_natCast]
  rcases Bool.eq_false_or_eq_true (m.2.2.2.1[j].1==i)with g|g<;>simp only[g]
  ·rcases Bool.eq_false_or_eq_true (m.2.2.2.1[j].2.1==r)with g2|g2<;>simp only[g2]<;>rfl
  ·rfl) m.2.2.2.1.length 0 0 (by omega) (by omega)
 have e':ac eM (m,i,r,(0:Int),ms,n,i2,R,r2,m.2.2.2.1,(m.2.2.2.1.length:Int),(0:Int),())=_:=e
 rw[e',List.drop_zero]
 rfl
def mw(m:ae.T)(i:Nat)(r:Nat):Bool:=decide (qg m.2.2.2.1 (i:Int) (r:Int)=cB m.2.1)
def nT(m:ae.T)(i:Nat):Bool:=match m.2.2.1[i]? with
 |none=>false
 |some v=>(List.range v.1.toNat).all (mw m i)
def qh(m:ae.T):Bool:=(List.range m.2.2.1.length).all (nT m)
theorem aaa(a b:Nat):((a:Int) != (b:Int))= !decide (a=b):=by
 by_cases h:a=b
 ·subst h;simp
 ·rw[decide_eq_false h]
  simp
  omega
theorem XX(m:ae.T)(hn:fA m.2.1=true)(hm:eH m.2.2.1=true)(hs:bX m.2.2.2.1=true):mW (m,())=some (qh m,()):=by
 obtain⟨hl16,hg⟩:=df hm
 have inner:∀i (hi:i<m.2.2.1.length),ac ex (m,(cB m.2.1:Int),(i:Int),(0:Int),())=some (if(List.range m.2.2.1[i].1.toNat).all (mw m i)=true then .inl (m,(cB m.2.1:Int),(i:Int),())else .inr (false,())):=fun i hi=>by
  have hgi:=l4 (hg _ (List.getElem_mem hi))
  have e:=fM (B:=ex) m.2.2.1[i].1.toNat (fun r=>(m,(cB m.2.1:Int),(i:Int),(r:Int),())) (mw m i) (.inl (m,(cB m.2.1:Int),(i:Int),())) (.inr (false,())) (by
   simp only[ex,am hi,aa]
   have:decide ((m.2.2.1[i].1.toNat:Int)<m.2.2.1[i].1)=false:=by rw[←hgi.2.2.1];exact decide_eq_false (Int.lt_irrefl _)
   rw[this]) (fun r hr=>by
   have hlt:decide ((r:Int)<m.2.2.1[i].1)=true:=by rw[hgi.2.2.1];exact aK hr
   have hv:ac c7 ((m.1,m.2.1,m.2.2.1,m.2.2.2.1,()),(cB m.2.1:Int),(i:Int),(r:Int),(0:Int),(0:Int),())=_:=aaI m hs (cB m.2.1:Int) (i:Int) (r:Int)
   simp only[ex,am hi,aa,hlt,hv,aaa,mw,av hr (show m.2.2.1[i].1.toNat≤1099511627776 by have:=hgi.1.2;omega)]
   rcases Bool.eq_false_or_eq_true (decide (qg m.2.2.2.1 (i:Int) (r:Int)=cB m.2.1))with g|g<;>simp only[g]<;>rfl)
  exact e
 have e:=fM (B:=fj) m.2.2.1.length (fun i=>(m,(cB m.2.1:Int),(i:Int),())) (nT m) (.inl ()) (.inr (false,())) (by simp only[fj,aJ]) (fun i hi=>by
  have h6:ac ex ((m.1,m.2.1,m.2.2.1,m.2.2.2.1,()),(cB m.2.1:Int),(i:Int),(0:Int),())=_:=inner i hi
  simp only[fj,aK hi,h6,nT,List.getElem?_eq_getElem hi]
  rcases Bool.eq_false_or_eq_true ((List.range m.2.2.1[i].1.toNat).all (mw m i))with g|g<;>simp only[g,if_true,av hi (show m.2.2.1.length≤1099511627776 by omega)]<;>rfl)
 have e':ac fj ((m.1,m.2.1,m.2.2.1,m.2.2.2.1,()),(cB m.2.1:Int),(0:Int),())=_:=e
 unfold mW qh
 simp only[Vp m.2.1 hn,e']
 cases (List.range m.2.2.1.length).all (nT m)<;>rfl
theorem XY(m:ae.T)(hn:fA m.2.1=true)(hm:eH m.2.2.1=true)(hs:bX m.2.2.2.1=true)(hd:lj m=true):qY (m,())=some (qh m,()):=by
 obtain⟨hl16,hg⟩:=df hm
 have inner:∀i (hi:i<m.2.2.1.length),ac fO (m,(i:Int),m.2.2.1,(m.2.2.1.length:Int),(i:Int),m.2.2.1[i].1,(0:Int),())=some (if(List.range m.2.2.1[i].1.toNat).all (mw m i)=true then .inl (m,m.2.2.1,(m.2.2.1.length:Int),(i:Int),())else .inr (false,())):=fun i hi=>by
  have hgi:=l4 (hg _ (List.getElem_mem hi))
  have e:=fM (B:=fO) m.2.2.1[i].1.toNat (fun r=>(m,(i:Int),m.2.2.1,(m.2.2.1.length:Int),(i:Int),m.2.2.1[i].1,(r:Int),())) (mw m i) (.inl (m,m.2.2.1,(m.2.2.1.length:Int),(i:Int),())) (.inr (false,())) (by
   have:decide ((m.2.2.1[i].1.toNat:Int)<m.2.2.1[i].1)=false:=by rw[←hgi.2.2.1];exact decide_eq_false (Int.lt_irrefl _)
   simp only[fO,this]) (fun r hr=>by
   have hlt:decide ((r:Int)<m.2.2.1[i].1)=true:=by rw[hgi.2.2.1];exact aK hr
   have hv:ac eM ((m.1,m.2.1,m.2.2.1,m.2.2.2.1,()),(i:Int),(r:Int),(0:Int),m.2.2.1,(m.2.2.1.length:Int),(i:Int),m.2.2.1[i].1,(r:Int),m.2.2.2.1,(m.2.2.2.1.length:Int),(0:Int),())=_:=aaJ m hs (i:Int) (r:Int) m.2.2.1 (m.2.2.1.length:Int) (i:Int) m.2.2.1[i].1 (r:Int)
   have hz:=GT (cB m.2.1) (qg m.2.2.2.1 (i:Int) (r:Int)) (by have:=y8 hn;omega) (by have:=Y8 hs (i:Int) (r:Int);omega)
   rw[Z9 m hd]at hz
   have hz':(bits BinOp.andNot .i64 (cB m.2.1:Int) (qg m.2.2.2.1 (i:Int) (r:Int):Int) != 0)= !decide (qg m.2.2.2.1 (i:Int) (r:Int)=cB m.2.1):=by rw[←hz];rfl
   simp only[fO,hlt,hv,Vo m.2.1 hn,hz',mw,av hr (show m.2.2.1[i].1.toNat≤1099511627776 by have:=hgi.1.2;omega)]
   rcases Bool.eq_false_or_eq_true (decide (qg m.2.2.2.1 (i:Int) (r:Int)=cB m.2.1))with g|g<;>simp only[g]<;>rfl)
  exact e
 have e:=fM (B:=gT) m.2.2.1.length (fun i=>(m,m.2.2.1,(m.2.2.1.length:Int),(i:Int),())) (nT m) (.inl ()) (.inr (false,())) (by simp only[gT,aJ]) (fun i hi=>by
  have h6:ac fO ((m.1,m.2.1,m.2.2.1,m.2.2.2.1,()),(i:Int),m.2.2.1,(m.2.2.1.length:Int),(i:Int),m.2.2.1[i].1,(0:Int),())=_:=inner i hi
  simp only[gT,aK hi,am hi,aa,h6,nT,List.getElem?_eq_getElem hi]
  rcases Bool.eq_false_or_eq_true ((List.range m.2.2.1[i].1.toNat).all (mw m i))with g|g<;>simp only[g,if_true,av hi (show m.2.2.1.length≤1099511627776 by omega)]<;>rfl)
 have e':ac gT ((m.1,m.2.1,m.2.2.1,m.2.2.2.1,()),m.2.2.1,(m.2.2.1.length:Int),(0:Int),())=_:=e
 unfold qY qh
 simp only[e']
 cases (List.range m.2.2.1.length).all (nT m)<;>rfl
def bZ(m:ae.T):Prop:=m.2.1.length≤1099511627776∧(∀v ∈ m.2.1,v.2.1.length≤1099511627776)∧m.2.2.1.length≤1099511627776∧(∀v ∈ m.2.2.1,v.2.2.1.length≤1099511627776)∧m.2.2.2.1.length≤1099511627776
noncomputable def vl(m:ae.T):Int:=
 if aN m.1 1 16777215=false then 1 else if fA m.2.1=false then 2 else if eH m.2.2.1=false then 3 else if bX m.2.2.2.1=false then 4 else
 if dM m=false then 5 else if lj m=false then 6 else if EC m.2.2.2.1=false then 7 else if(List.range m.2.2.1.length).all (kT m.2.2.2.1)=false then 8 else
 if qh m=false then 9 else if m.2.2.2.1.any qx=true then 10 else 0
theorem Za(m:ae.T)(hz:bZ m):lz (m,())=some (vl m,()):=by
 unfold lz vl
 simp only[iU,YS m.2.1 hz.1 hz.2.1,YW m.2.2.1 hz.2.2.1 hz.2.2.2.1,Y1 m.2.2.2.1 hz.2.2.2.2]
 rcases Bool.eq_false_or_eq_true (aN m.1 1 16777215)with h1|h1<;>simp only[h1,Bool.not_true,Bool.not_false,if_true,if_false,Bool.true_eq_false]
 rcases Bool.eq_false_or_eq_true (fA m.2.1)with h2|h2<;>simp only[h2,Bool.not_true,Bool.not_false,if_true,if_false,Bool.true_eq_false]
 rcases Bool.eq_false_or_eq_true (eH m.2.2.1)with h3|h3<;>simp only[h3,Bool.not_true,Bool.not_false,if_true,if_false,Bool.true_eq_false]
 rcases Bool.eq_false_or_eq_true (bX m.2.2.2.1)with h4|h4<;>simp only[h4,Bool.not_true,Bool.not_false,if_true,if_false,Bool.true_eq_false]
 have hl:=fQ h4
 have hn:=(df h3).1
 have f5:kA ((m.1,m.2.1,m.2.2.1,m.2.2.2.1,()),())=_:=Vn m h4 h3
 have f6:ly ((m.1,m.2.1,m.2.2.1,m.2.2.2.1,()),())=_:=Z5 m h2 h4
 have f7:jF ((m.1,m.2.1,m.2.2.1,m.2.2.2.1,()),())=_:=aaF m hz.2.2.2.2
 have f8:ac dm ((m.1,m.2.1,m.2.2.1,m.2.2.2.1,()),(0:Int),())=_:=Y7 m (by omega) (by omega)
 have f9:mW ((m.1,m.2.1,m.2.2.1,m.2.2.2.1,()),())=_:=XX m h2 h3 h4
 have f10:ac cN ((m.1,m.2.1,m.2.2.1,m.2.2.2.1,()),(0:Int),())=_:=Z8 m (by omega)
 simp only[f5,f6,f7,f8]
 rcases Bool.eq_false_or_eq_true (dM m)with h5|h5<;>simp only[h5,Bool.not_true,Bool.not_false,if_true,if_false,Bool.true_eq_false]
 rcases Bool.eq_false_or_eq_true (lj m)with h6|h6<;>simp only[h6,Bool.not_true,Bool.not_false,if_true,if_false,Bool.true_eq_false]
 rcases Bool.eq_false_or_eq_true (EC m.2.2.2.1)with h7|h7<;>simp only[h7,Bool.not_true,Bool.not_false,if_true,if_false,Bool.true_eq_false]
 rcases Bool.eq_false_or_eq_true ((List.range m.2.2.1.length).all (kT m.2.2.2.1))with h8|h8<;>simp only[h8,Bool.not_true,Bool.not_false,if_true,if_false,Bool.true_eq_false,Bool.false_eq_true,f9,f10]
 rcases Bool.eq_false_or_eq_true (qh m)with h9|h9<;>simp only[h9,Bool.not_true,Bool.not_false,if_true,if_false,Bool.true_eq_false]
 rcases Bool.eq_false_or_eq_true (m.2.2.2.1.any qx)with h10|h10<;>simp only[h10,if_true,if_false,Bool.false_eq_true]
theorem Zb(m:ae.T)(hz:bZ m):lL (m,())=some (vl m,()):=by
 unfold lL vl
 simp only[l0,YT m.2.1 hz.1,T4 m.2.2.1 hz.2.2.1 hz.2.2.2.1,Y2 m.2.2.2.1 hz.2.2.2.2]
 rcases Bool.eq_false_or_eq_true (aN m.1 1 16777215)with h1|h1<;>simp only[h1,Bool.not_true,Bool.not_false,if_true,if_false,Bool.true_eq_false]
 rcases Bool.eq_false_or_eq_true (fA m.2.1)with h2|h2<;>simp only[h2,Bool.not_true,Bool.not_false,if_true,if_false,Bool.true_eq_false]
 rcases Bool.eq_false_or_eq_true (eH m.2.2.1)with h3|h3<;>simp only[h3,Bool.not_true,Bool.not_false,if_true,if_false,Bool.true_eq_false]
 rcases Bool.eq_false_or_eq_true (bX m.2.2.2.1)with h4|h4<;>simp only[h4,Bool.not_true,Bool.not_false,if_true,if_false,Bool.true_eq_false]
 have hl:=fQ h4
 have hn:=(df h3).1
 have f5:lK ((m.1,m.2.1,m.2.2.1,m.2.2.2.1,()),())=_:=Vm m h4 h3
 have f6:=Z6 m h2 h4
 have f8:qX ((m.1,m.2.1,m.2.2.1,m.2.2.2.1,()),())=_:=Y6 m (by omega) (by omega)
 have f10:=Z7 m.2.2.2.1 (by omega)
 simp only[f5]
 rcases Bool.eq_false_or_eq_true (dM m)with h5|h5<;>simp only[h5,Bool.not_true,Bool.not_false,if_true,if_false,Bool.true_eq_false]
 have f7:pj ((m.1,m.2.1,m.2.2.1,m.2.2.2.1,()),())=_:=XU m h4 h3 h5
 rw[Vq m h4 h3 h5]at f7
 simp only[f6,f7,f8]
 rcases Bool.eq_false_or_eq_true (lj m)with h6|h6<;>simp only[h6,Bool.not_true,Bool.not_false,if_true,if_false,Bool.true_eq_false]
 have f9:qY ((m.1,m.2.1,m.2.2.1,m.2.2.2.1,()),())=_:=XY m h2 h3 h4 h6
 simp only[f9,f10]
 rcases Bool.eq_false_or_eq_true (EC m.2.2.2.1)with h7|h7<;>simp only[h7,Bool.not_true,Bool.not_false,if_true,if_false,Bool.true_eq_false]
 rcases Bool.eq_false_or_eq_true ((List.range m.2.2.1.length).all (kT m.2.2.2.1))with h8|h8<;>simp only[h8,Bool.not_true,Bool.not_false,if_true,if_false,Bool.true_eq_false]
 rcases Bool.eq_false_or_eq_true (qh m)with h9|h9<;>simp only[h9,Bool.not_true,Bool.not_false,if_true,if_false,Bool.true_eq_false]
 rcases Bool.eq_false_or_eq_true (m.2.2.2.1.any qx)with h10|h10<;>simp only[h10,if_true,if_false,Bool.false_eq_true]
noncomputable def aY(m:ae.T):Bool:=vl m==0
theorem aab(m:ae.T)(hz:bZ m):p5 (m,())=some (aY m,()):=by
 have h:lz ((m.1,m.2.1,m.2.2.1,m.2.2.2.1,()),())=_:=Za m hz
 unfold p5 aY
 simp only[h]
theorem RC(m:ae.T)(hz:bZ m):km (m,())=some (aY m,()):=by
 have h:lL ((m.1,m.2.1,m.2.2.1,m.2.2.2.1,()),())=_:=Zb m hz
 unfold km aY
 simp only[h]
theorem fC {m:ae.T}(h:aY m=true):(1≤m.1∧m.1≤16777215)∧fA m.2.1=true∧eH m.2.2.1=true∧bX m.2.2.2.1=true∧dM m=true:=by
 unfold aY vl at h
 rcases Bool.eq_false_or_eq_true (aN m.1 1 16777215)with h1|h1
 ·rcases Bool.eq_false_or_eq_true (fA m.2.1)with h2|h2
  ·rcases Bool.eq_false_or_eq_true (eH m.2.2.1)with h3|h3
   ·rcases Bool.eq_false_or_eq_true (bX m.2.2.2.1)with h4|h4
    ·rcases Bool.eq_false_or_eq_true (dM m)with h5|h5
     ·exact⟨aO.1 h1,h2,h3,h4,h5⟩
     ·simp[h1,h2,h3,h4,h5]at h
    ·simp[h1,h2,h3,h4]at h
   ·simp[h1,h2,h3]at h
  ·simp[h1,h2]at h
 ·simp[h1]at h
end Go.Proofs.YthfgmmmeplanbaaGreatDoor
namespace Go.Proofs.YthfgmmmeplanbaaGreatDoor
open Go.RowKit
set_option linter.unusedVariables false
set_option linter.unusedSimpArgs false
noncomputable def aA(m:ae.T)(st:ab.T):Bool:=bp st&&(match m.2.2.1[st.2.1.toNat]? with
 |none=>false
 |some v=>decide (st.2.2.1<v.1)&&(decide (st.2.2.2.1<v.2.1)&&decide (st.2.2.2.2.1.toNat&&& cB m.2.1=st.2.2.2.2.1.toNat)))
theorem vm {st:ab.T}(h:bp st=true):∃a b c d:Nat,st.2.1=(a:Int)∧st.2.2.1=(b:Int)∧st.2.2.2.1=(c:Int)∧st.2.2.2.2.1=(d:Int)∧a≤15∧b≤15∧c≤255∧d≤4294967295:=by
 unfold bp at h
 simp only[Bool.and_eq_true,aO]at h
 obtain⟨⟨⟨⟨h1,h2⟩,h3⟩,h4⟩,h5⟩:=h
 have key:∀(z:Int) (n:Nat),0≤z→z≤(n:Int)→∃k:Nat,z=(k:Int)∧k≤n:=fun z n h0 h1=>⟨z.toNat,by omega,by omega⟩
 obtain⟨a,ea,ha⟩:=key _ 15 h2.1 h2.2
 obtain⟨b,eb,hb⟩:=key _ 15 h3.1 h3.2
 obtain⟨c,ec,hc⟩:=key _ 255 h4.1 h4.2
 obtain⟨d,ed,hd⟩:=key _ 4294967295 h5.1 h5.2
 exact⟨a,b,c,d,ea,eb,ec,ed,ha,hb,hc,hd⟩
theorem aaK(m:ae.T)(st:ab.T)(h:aY m=true):lA (m,st,())=some (aA m st,()):=by
 obtain⟨_,hn,hm,hs,_⟩:=fC h
 have hl16:=(df hm).1
 have hst:jX ((st.1,st.2.1,st.2.2.1,st.2.2.2.1,st.2.2.2.2.1,()),())=some (bp st,()):=TW (st,())
 unfold lA aA C9
 simp only[hst,iU,Vp m.2.1 hn]
 rcases Bool.eq_false_or_eq_true (bp st)with h1|h1<;>simp only[h1,Bool.not_true,Bool.not_false,Bool.true_and,Bool.false_and]
 obtain⟨a,b,c,d,ea,eb,ec,ed,ha,hb,hc,hd⟩:=vm h1
 rw[ea,eb,ec,ed]
 have hw:IntKind.i64.wrap ((m.2.2.1.length:Int)-1)=(m.2.2.1.length:Int)-1:=by rw[wrap_i64]<;>omega
 have hand:=tz d (cB m.2.1) (by omega) (by have:=y8 hn;omega)
 have hbe:(((d&&& cB m.2.1:Nat):Int)==(d:Int))=decide (d&&& cB m.2.1=d):=by
  by_cases h:d&&& cB m.2.1=d
  ·rw[decide_eq_true h,h];simp
  ·rw[decide_eq_false h,beq_eq_false_iff_ne];omega
 simp only[hw,hand,hbe,Int.toNat_natCast]
 by_cases hal:a<m.2.2.1.length
 ·have hin:aN (a:Int) 0 ((m.2.2.1.length:Int)-1)=true:=aO.2 ⟨by omega,by omega⟩
  simp only[hin,Bool.not_true,am hal,aa,List.getElem?_eq_getElem hal]
  have n1:decide ((b:Int)≥m.2.2.1[a].1)= !decide ((b:Int)<m.2.2.1[a].1):=by
   by_cases g:(b:Int)<m.2.2.1[a].1
   ·rw[decide_eq_true g,decide_eq_false (Int.not_le.2 g)];rfl
   ·rw[decide_eq_false g,decide_eq_true (Int.not_lt.1 g)];rfl
  have n2:decide ((c:Int)≥m.2.2.1[a].2.1)= !decide ((c:Int)<m.2.2.1[a].2.1):=by
   by_cases g:(c:Int)<m.2.2.1[a].2.1
   ·rw[decide_eq_true g,decide_eq_false (Int.not_le.2 g)];rfl
   ·rw[decide_eq_false g,decide_eq_true (Int.not_lt.1 g)];rfl
  simp only[n1,n2]
  rcases Bool.eq_false_or_eq_true (decide ((b:Int)<m.2.2.1[a].1))with g1|g1<;>simp only[g1,Bool.not_true,Bool.not_false,Bool.true_and,Bool.false_and]
  rcases Bool.eq_false_or_eq_true (decide ((c:Int)<m.2.2.1[a].2.1))with g2|g2<;>simp only[g2,Bool.not_true,Bool.not_false,Bool.true_and,Bool.false_and]
 ·have hin:aN (a:Int) 0 ((m.2.2.1.length:Int)-1)=false:=by
   rw[Bool.eq_false_iff]
   intro g
   have:=aO.1 g
   omega
  simp only[hin,Bool.not_false,List.getElem?_eq_none (Nat.not_lt.1 hal)]
theorem Vr(m:ae.T)(st:ab.T)(h:aY m=true):lM (m,st,())=some (aA m st,()):=by
 obtain⟨_,hn,hm,hs,_⟩:=fC h
 have hst:e6 ((st.1,st.2.1,st.2.2.1,st.2.2.2.1,st.2.2.2.2.1,()),())=some (bp st,()):=EZ (st,())
 unfold lM aA
 simp only[hst,Vo m.2.1 hn]
 rcases Bool.eq_false_or_eq_true (bp st)with h1|h1<;>simp only[h1,Bool.not_true,Bool.not_false,Bool.true_and,Bool.false_and]
 obtain⟨a,b,c,d,ea,eb,ec,ed,ha,hb,hc,hd⟩:=vm h1
 rw[ea,eb,ec,ed]
 have hz:=GT d (cB m.2.1) (by omega) (by have:=y8 hn;omega)
 simp only[hz,Int.toNat_natCast]
 by_cases hal:a<m.2.2.1.length
 ·have hin:decide ((a:Int)≥(m.2.2.1.length:Int))=false:=decide_eq_false (by omega)
  simp only[hin,am hal,aa,List.getElem?_eq_getElem hal]
  rcases Bool.eq_false_or_eq_true (decide ((b:Int)<m.2.2.1[a].1))with g1|g1<;>simp only[g1,Bool.true_and,Bool.false_and]
  rcases Bool.eq_false_or_eq_true (decide ((c:Int)<m.2.2.1[a].2.1))with g2|g2<;>simp only[g2,Bool.true_and,Bool.false_and]
 ·have hin:decide ((a:Int)≥(m.2.2.1.length:Int))=true:=decide_eq_true (by omega)
  simp only[hin,List.getElem?_eq_none (Nat.not_lt.1 hal)]
theorem RD:∀(ms:List ao.T) (i j:Nat) (h:j<ms.length) (r s:Nat),r<ms[j].1.toNat→s<ms[j].2.1.toNat→fB ((i+j:Nat):Int) (r:Int) (s:Int) ∈ hZ i ms
 |m::ms,i,0,h,r,s,hr,hs=>by
  simp only[hZ,List.mem_append]
  left
  simp only[iI,List.mem_flatMap,List.mem_map,List.mem_range]
  exact⟨r,hr,s,hs,rfl⟩
 |m::ms,i,j+1,h,r,s,hr,hs=>by
  simp only[hZ,List.mem_append]
  right
  have:=RD ms (i+1) j (by simpa using h) r s hr hs
  have e:i+1+j=i+(j+1):=by omega
  rw[e]at this
  exact this
theorem Ub(m:ae.T)(st:ab.T)(h:aY m=true)(hb:aA m st=true):∃(j:Nat) (hj:j<m.2.2.2.1.length),qw m.2.2.2.1 st.2.1 st.2.2.1 st.2.2.2.1=(j:Int):=by
 obtain⟨_,hn,hm,hs,hc⟩:=fC h
 have hg:=(df hm).2
 unfold aA at hb
 rw[Bool.and_eq_true]at hb
 obtain⟨a,b,c,d,ea,eb,ec,ed,ha,hb',hc',hd⟩:=vm hb.1
 have hb2:=hb.2
 rw[ea,eb,ec,ed]at hb2
 rw[ea,eb,ec]
 rw[Int.toNat_natCast]at hb2
 by_cases hal:a<m.2.2.1.length
 ·simp only[List.getElem?_eq_getElem hal,Bool.and_eq_true,decide_eq_true_eq]at hb2
  have hgi:=l4 (hg _ (List.getElem_mem hal))
  obtain⟨h1,h2,_⟩:=hb2
  rw[hgi.2.2.1]at h1
  rw[hgi.2.2.2]at h2
  have h1:b<m.2.2.1[a].1.toNat:=Int.ofNat_lt.1 h1
  have h2:c<m.2.2.1[a].2.1.toNat:=Int.ofNat_lt.1 h2
  have hk:=RD m.2.2.1 0 a hal b c h1 h2
  rw[Nat.zero_add]at hk
  have hK:m.2.2.2.1.map cI=hZ 0 m.2.2.1:=by
   unfold dM at hc
   exact of_decide_eq_true hc
  rw[←hK]at hk
  have hq:=Rz (l:=m.2.2.2.1) (fun v hv=>qf (gC hs v hv)) (a:=(a:Int)) (b:=(b:Int)) (c:=(c:Int)) ⟨by omega,by have:=hgi.1.2;omega⟩ ⟨by omega,by have:=hgi.2.1.2;omega⟩
  rw[decide_eq_true hk]at hq
  unfold qw at hq ⊢
  cases hf:bB (iV (a:Int) (b:Int) (c:Int)) 0 m.2.2.2.1 with
  |none=>rw[hf]at hq;cases hq
  |some j=>
   obtain⟨n,hn,e,_⟩:=xn _ _ _ _ hf
   have:j=n:=by omega
   subst this
   exact⟨j,hn,rfl⟩
 ·simp only[List.getElem?_eq_none (Nat.not_lt.1 hal)]at hb2
  cases hb2
def bH(m:ae.T)(st:ab.T):a7.T:=match m.2.2.2.1[(qw m.2.2.2.1 st.2.1 st.2.2.1 st.2.2.2.1).toNat]? with
 |none=>((0:Int),(0:Int),(0:Int),(0:Int),false,())
 |some v=>v.2.2.2.1
theorem d5(m:ae.T)(st:ab.T)(h:aY m=true)(hb:aA m st=true):cn (m,st,())=some (bH m st,())∧ay (m,st,())=some (bH m st,())∧kr (bH m st)=true:=by
 obtain⟨_,hn,hm,hs,hc⟩:=fC h
 have hlen:=fQ hs
 obtain⟨j,hj,e⟩:=Ub m st h hb
 have h1:=T9 m.2.2.2.1 st.2.1 st.2.2.1 st.2.2.2.1 (by omega)
 have h2:=Ua m.2.2.2.1 st.2.1 st.2.2.1 st.2.2.2.1 (by omega)
 have h3:=gC hs _ (List.getElem_mem hj)
 unfold cn ay bH
 simp only[h1,h2,e,am hj,aa,Int.toNat_natCast,List.getElem?_eq_getElem hj]
 refine⟨trivial,trivial, ?_⟩
 unfold li at h3
 simp only[Bool.and_eq_true]at h3
 exact h3.2.2.2
def iO(d:a7.T)(f:aL.T):Bool:=(f.1==d.2.1)&&(((f.2.2.2.1.length:Int)==d.2.2.1)&&((f.2.1==(0:Int))||d.2.2.2.2.1))
theorem Uc(x):uV x=some (iO x.1 x.2.1,()):=by
 unfold uV iO
 rcases Bool.eq_false_or_eq_true (x.2.1.1==x.1.2.1)with h1|h1<;>simp only[h1,Bool.true_and,Bool.false_and]
 rcases Bool.eq_false_or_eq_true ((x.2.1.2.2.2.1.length:Int)==x.1.2.2.1)with h2|h2<;>simp only[h2,Bool.true_and,Bool.false_and]
 rcases Bool.eq_false_or_eq_true (x.2.1.2.1==(0:Int))with h3|h3<;>simp only[h3,Bool.true_or,Bool.false_or]
theorem Ud(d:a7.T)(f:aL.T)(hd:kr d=true)(hf:bA f=true)(hl:f.2.2.2.1.length≤1099511627776):c8 (d,f,())=some (iO d f,()):=by
 have h1:dU ((d.1,d.2.1,d.2.2.1,d.2.2.2.1,d.2.2.2.2.1,()),())=some (true,()):=by
  rw[←hd];exact Rs (d,())
 have h2:cu ((f.1,f.2.1,(f.2.2.1.1,f.2.2.1.2.1,f.2.2.1.2.2.1,f.2.2.1.2.2.2.1,f.2.2.1.2.2.2.2.1,()),f.2.2.2.1,()),())=some (true,()):=by
  rw[←hf];exact MW (f,()) hl
 unfold c8 iO
 simp only[h1,h2]
 rcases Bool.eq_false_or_eq_true (f.1==d.2.1)with h1|h1<;>simp only[h1,Bool.true_and,Bool.false_and]
 rcases Bool.eq_false_or_eq_true ((f.2.2.2.1.length:Int)==d.2.2.1)with h2|h2<;>simp only[h2,Bool.true_and,Bool.false_and]
 rcases Bool.eq_false_or_eq_true d.2.2.2.2.1 with h3|h3<;>simp only[h3,Bool.or_true,Bool.or_false]
theorem EE {l:List Int}(h:(cj l).2=true):bA (cj l).1=true:=by
 cases l with
 |nil=>cases h
 |cons b r=>
  have fin:∀st q,(vi (b::r) b st q).2=true→bA (vi (b::r) b st q).1=true:=fun st q h=>by
   unfold vi at h ⊢
   split at h
   ·split at h
    ·cases h
    ·simp only[wG,Bool.and_eq_true]at h
     exact h.1
   ·simp only[wG,Bool.and_eq_true]at h
    exact h.1
  simp only[cj]at h ⊢
  split at h
  ·split at h
   ·cases h
   ·exact fin _ _ h
  ·exact fin _ _ h
theorem rr {f:aL.T}(h:bA f=true):f.2.2.2.1.length≤32:=by
 unfold bA at h
 simp only[Bool.and_eq_true]at h
 have hd:=h.2.2.1
 unfold iH at hd
 split at hd
 ·have:=aO.1 hd;omega
 ·split at hd
  ·have:=aO.1 hd;omega
  ·have:(f.2.2.2.1.length:Int)=0:=by simpa using hd
   omega
theorem M4 {l:List Int}{r:Nat}{st:ab.T}(h:gn l r st=true):(cj (aq l)).2=true:=by
 unfold gn at h
 split at h
 ·cases h
 ·simp only[Bool.and_eq_true]at h
  exact h.2.2.1
noncomputable def vn(m:ae.T)(st:ab.T)(l:List Int):az.T:=match gn l m.1.toNat st&&iO (bH m st) (cj (aq l)).1 with
 |true=>((3:Int),(cj (aq l)).1,())
 |false=>((2:Int),d4,())
theorem y9 {m:ae.T}(h:aY m=true):∃r:Nat,m.1=(r:Int)∧r<16777216:=by
 obtain⟨⟨h1,h2⟩,_⟩:=fC h
 have key:∀z:Int,1≤z→z≤16777215→∃r:Nat,z=(r:Int)∧r<16777216:=fun z a b=>⟨z.toNat,by omega,by omega⟩
 exact key m.1 h1 h2
theorem XZ(m:ae.T)(st:ab.T)(l:List Int)(h:aY m=true)(hb:aA m st=true)(hl:l.length≤10000)(hv:∀v ∈ l,0≤v∧v≤255):∃c:Int,yw (m,st,l,())=some (vn m st l,c,()):=by
 obtain⟨r,er,hr⟩:=y9 h
 have hst:bp st=true:=by unfold aA at hb;rw[Bool.and_eq_true]at hb;exact hb.1
 obtain⟨c,hc,ho⟩:=ZU l r st hl hv hr hst
 obtain⟨_,hd,_⟩:=d5 m st h hb
 have ho':m7 (l,(r:Int),(st.1,st.2.1,st.2.2.1,st.2.2.2.1,st.2.2.2.2.1,()),())=_:=ho
 have hd':ay ((m.1,m.2.1,m.2.2.1,m.2.2.2.1,()),(st.1,st.2.1,st.2.2.1,st.2.2.2.1,st.2.2.2.2.1,()),())=_:=hd
 unfold yw vn
 rw[er]at hd'
 simp only[er,ho',hd',Uc,Int.toNat_natCast]
 rcases Bool.eq_false_or_eq_true (gn l r st)with h1|h1
 ·simp only[h1,if_true,Bool.true_and]
  have hz:((0:Int)==0)=true:=rfl
  have hfe:iO (bH m st) ((cj (aq l)).1.1,(cj (aq l)).1.2.1,((cj (aq l)).1.2.2.1.1,(cj (aq l)).1.2.2.1.2.1,(cj (aq l)).1.2.2.1.2.2.1,(cj (aq l)).1.2.2.1.2.2.2.1,(cj (aq l)).1.2.2.1.2.2.2.2.1,()),(cj (aq l)).1.2.2.2.1,())=iO (bH m st) (cj (aq l)).1:=rfl
  simp only[hz,hfe]
  rcases Bool.eq_false_or_eq_true (iO (bH m st) (cj (aq l)).1)with h2|h2
  ·exact⟨0,by simp only[h2];rfl⟩
  ·exact⟨5,by simp only[h2];rfl⟩
 ·have hz:(c==0)=false:=by simpa using hc
  have hz2:(c != 0)=true:=by simpa using hc
  simp only[h1,Bool.false_eq_true,if_false,Bool.false_and,hz,hz2]
  exact⟨c,rfl⟩
theorem X0(m:ae.T)(st:ab.T)(l:List Int)(h:aY m=true)(hb:aA m st=true)(hl:l.length≤10000)(hv:∀v ∈ l,0≤v∧v≤255):∃c:Int,pc (m,st,l,())=some (vn m st l,c,()):=by
 obtain⟨r,er,hr⟩:=y9 h
 have hst:bp st=true:=by unfold aA at hb;rw[Bool.and_eq_true]at hb;exact hb.1
 obtain⟨c,hc,ho⟩:=ZT l r st hl hv hr hst
 obtain⟨hd,_,hdc⟩:=d5 m st h hb
 have ho':oe (l,(r:Int),(st.1,st.2.1,st.2.2.1,st.2.2.2.1,st.2.2.2.2.1,()),())=_:=ho
 have hd':cn ((m.1,m.2.1,m.2.2.1,m.2.2.2.1,()),(st.1,st.2.1,st.2.2.1,st.2.2.2.1,st.2.2.2.2.1,()),())=_:=hd
 unfold pc vn
 rw[er]at hd'
 simp only[er,ho',hd',Int.toNat_natCast]
 rcases Bool.eq_false_or_eq_true (gn l r st)with h1|h1
 ·have hz:((0:Int)==0)=true:=rfl
  have hfr:=EE (M4 h1)
  have hfe:c8 (bH m st,((cj (aq l)).1.1,(cj (aq l)).1.2.1,((cj (aq l)).1.2.2.1.1,(cj (aq l)).1.2.2.1.2.1,(cj (aq l)).1.2.2.1.2.2.1,(cj (aq l)).1.2.2.1.2.2.2.1,(cj (aq l)).1.2.2.1.2.2.2.2.1,()),(cj (aq l)).1.2.2.2.1,()),())=some (iO (bH m st) (cj (aq l)).1,()):=Ud _ _ hdc hfr (Nat.le_trans (rr hfr) (by omega))
  simp only[h1,if_true,Bool.true_and,hz,hfe]
  rcases Bool.eq_false_or_eq_true (iO (bH m st) (cj (aq l)).1)with h2|h2
  ·exact⟨0,by simp only[h2];rfl⟩
  ·exact⟨5,by simp only[h2];rfl⟩
 ·have hz:(c==0)=false:=by simpa using hc
  have hz2:(c != 0)=true:=by simpa using hc
  simp only[h1,Bool.false_eq_true,if_false,Bool.false_and,hz,hz2]
  exact⟨c,rfl⟩
noncomputable def gp(m:ae.T)(st:ab.T)(l:List Int):az.T:=if(cH l).2.1=0 then vn m st (cH l).1 else if(cH l).2.1=4 then((0:Int),d4,())else((1:Int),d4,())
theorem aac(m:ae.T)(st:ab.T)(l:List Int)(h:aY m=true)(hb:aA m st=true)(hl:bD l=true):∃c:Int,rd (m,st,l,())=some (gp m st l,c,()):=by
 obtain⟨h1,h2⟩:=Ld (cS hl)
 obtain⟨c,hj⟩:=XZ m st (cH l).1 h hb (by omega) h2
 have hj':yw ((m.1,m.2.1,m.2.2.1,m.2.2.2.1,()),(st.1,st.2.1,st.2.2.1,st.2.2.2.1,st.2.2.2.2.1,()),(cH l).1,())=_:=hj
 unfold rd gp
 simp only[WC hl,hj']
 by_cases h0:(cH l).2.1=0
 ·have g:((cH l).2.1==0)=true:=by rw[h0];rfl
  simp only[g,if_pos h0]
  exact⟨c,rfl⟩
 ·have g:((cH l).2.1==0)=false:=by simpa using h0
  simp only[g,if_neg h0]
  by_cases h4:(cH l).2.1=4
  ·have g4:((cH l).2.1==4)=true:=by rw[h4];rfl
   simp only[g4,if_pos h4]
   exact⟨_,rfl⟩
  ·have g4:((cH l).2.1==4)=false:=by simpa using h4
   simp only[g4,if_neg h4]
   exact⟨_,rfl⟩
theorem WX(m:ae.T)(st:ab.T)(l:List Int)(h:aY m=true)(hb:aA m st=true)(hl:bD l=true):∃c:Int,fp (m,st,l,())=some (gp m st l,c,()):=by
 obtain⟨h1,h2⟩:=Ld (cS hl)
 obtain⟨c,hj⟩:=X0 m st (cH l).1 h hb (by omega) h2
 have hj':pc ((m.1,m.2.1,m.2.2.1,m.2.2.2.1,()),(st.1,st.2.1,st.2.2.1,st.2.2.2.1,st.2.2.2.2.1,()),(cH l).1,())=_:=hj
 unfold fp gp
 simp only[XO hl,hj']
 by_cases h0:(cH l).2.1=0
 ·have g:((cH l).2.1==0)=true:=by rw[h0];rfl
  simp only[g,if_pos h0]
  exact⟨c,rfl⟩
 ·have g:((cH l).2.1==0)=false:=by simpa using h0
  simp only[g,if_neg h0]
  by_cases h4:(cH l).2.1=4
  ·have g4:((cH l).2.1==4)=true:=by rw[h4];rfl
   simp only[g4,if_pos h4]
   exact⟨_,rfl⟩
  ·have g4:((cH l).2.1==4)=false:=by simpa using h4
   simp only[g4,if_neg h4]
   exact⟨_,rfl⟩
noncomputable def gK(m:ae.T)(st:ab.T)(l:List Int):az.T×Int×Unit:=match aY m with
 |false=>(((0:Int),d4,()),(1:Int),())
 |true=>match aA m st with
  |false=>(((0:Int),d4,()),(2:Int),())
  |true=>match bD l with
   |false=>(((0:Int),d4,()),(2:Int),())
   |true=>(gp m st l,(0:Int),())
theorem NS(m:ae.T)(st:ab.T)(l:List Int)(hz:bZ m)(hl:l.length≤1099511627776):eT (m,st,l,())=some (gK m st l):=by
 have hM:km ((m.1,m.2.1,m.2.2.1,m.2.2.2.1,()),())=_:=RC m hz
 unfold eT rK dW gK
 simp only[Lb l hl,hM]
 rcases Bool.eq_false_or_eq_true (aY m)with h1|h1<;>simp only[h1,Bool.not_true,Bool.not_false]
 ·have hB:lM ((m.1,m.2.1,m.2.2.1,m.2.2.2.1,()),(st.1,st.2.1,st.2.2.1,st.2.2.2.1,st.2.2.2.2.1,()),())=_:=Vr m st h1
  simp only[hB]
  rcases Bool.eq_false_or_eq_true (aA m st)with h2|h2<;>simp only[h2,Bool.not_true,Bool.not_false]
  ·rcases Bool.eq_false_or_eq_true (bD l)with h3|h3<;>simp only[h3,Bool.not_true,Bool.not_false]
   ·obtain⟨c,hr⟩:=aac m st l h1 h2 h3
    have hr':rd ((m.1,m.2.1,m.2.2.1,m.2.2.2.1,()),(st.1,st.2.1,st.2.2.1,st.2.2.2.1,st.2.2.2.2.1,()),l,())=_:=hr
    simp only[hr']
    rfl
   ·rfl
  ·rfl
 ·rfl
end Go.Proofs.YthfgmmmeplanbaaGreatDoor
namespace Go.Proofs.YthfgmmmeplanbaaGreatDoor
open Go.RowKit
set_option linter.unusedVariables false
set_option linter.unusedSimpArgs false
theorem WY {T:Type}{g:List T×Int×Unit→Option (Int×Unit)}{B:List T×Int×Int×Unit→Option ((List T×Int×Int×Unit) ⊕ ((Int×Unit) ⊕ (Int×Unit)))}
  (hg:∀l n,g (l,n,())=match(decide ((IntKind.i64.wrap (n-(l.length:Int)))<(0:Int)))with
    |true=>some ((-1:Int),())
    |false=>match ac B (l,IntKind.i64.wrap (n-(l.length:Int)),(0:Int),())with
     |none=>none
     |some (.inl v)=>some (v.1,())
     |some (.inr v)=>some (v.1,()))
  (w:T→Nat) (l:List T) (hl:l.length≤maxLen)
  (hend:∀n,B (l,n,(l.length:Int),())=some (.inr (.inl (n,()))))
  (hstep:l.length≤1048576→∀(n:Int) i (h:i<l.length),0≤n→n≤1048576→B (l,n,(i:Int),())=if n-(w l[i]:Int)<0 then some (.inr (.inr ((-1:Int),())))else some (.inl (l,n-(w l[i]:Int),((i+1:Nat):Int),())))
  (n:Int) (h0:0≤n) (h1:n≤1048576):∃y:Int,g (l,n,())=some (y,())∧y≤n∧(0≤y→(l.length:Int)≤n∧∀v ∈ l,(w v:Int)≤n):=by
 have hl':l.length≤9223372036854775807:=hl
 have hw:IntKind.i64.wrap (n-(l.length:Int))=n-l.length:=by rw[wrap_i64]<;>omega
 rw[hg,hw]
 by_cases hc:n-(l.length:Int)<0
 ·rw[decide_eq_true hc]
  exact⟨-1,rfl,by omega,fun h=>absurd h (by decide)⟩
 ·rw[decide_eq_false hc]
  have hl2:l.length≤1048576:=by omega
  have key:∀(k i:Nat) (q:Int),i+k=l.length→0≤q→q≤1048576→∃(y:Int),(ac B (l,q,(i:Int),())=some (.inl (y,()))∨ac B (l,q,(i:Int),())=some (.inr (y,())))∧y≤q∧(0≤y→∀v ∈ l.drop i,(w v:Int)≤q):=by
   intro k
   induction k with
   |zero=>
    intro i q hi _ _
    have hi:i=l.length:=by omega
    subst hi
    refine⟨q,.inl ?_,by omega,fun _ v hv=> ?_⟩
    ·rw[an,hend q]
    ·rw[List.drop_length]at hv;cases hv
   |succ k ih=>
    intro i q hi q0 q1
    have h:i<l.length:=by omega
    rw[an,hstep hl2 q i h q0 q1]
    by_cases hq:q-(w l[i]:Int)<0
    ·rw[if_pos hq]
     exact⟨-1,.inr rfl,by omega,fun h=>absurd h (by decide)⟩
    ·rw[if_neg hq]
     obtain⟨y,e,y1,y2⟩:=ih (i+1) (q-(w l[i]:Int)) (by omega) (by omega) (by omega)
     refine⟨y,e,by omega,fun hy v hv=> ?_⟩
     rw[List.drop_eq_getElem_cons h,List.mem_cons]at hv
     rcases hv with rfl|hv
     ·omega
     ·have:=y2 hy v hv
      omega
  obtain⟨y,e,y1,y2⟩:=key l.length 0 (n-l.length) (by omega) (by omega) (by omega)
  have e:ac B (l,n-(l.length:Int),(0:Int),())=some (.inl (y,()))∨ac B (l,n-(l.length:Int),(0:Int),())=some (.inr (y,())):=e
  refine⟨y, ?_,by omega,fun hy=>⟨by omega,fun v hv=> ?_⟩⟩
  ·rcases e with e|e<;>simp only[e]
  ·have:=y2 hy v (by rw[List.drop_zero];exact hv)
   omega
theorem RE(l:List ak.T)(hl:l.length≤maxLen)(hd:∀v ∈ l,v.2.1.length≤maxLen)(n:Int)(h0:0≤n)(h1:n≤1048576):∃y:Int,nj (l,n,())=some (y,())∧y≤n∧(0≤y→(l.length:Int)≤n∧∀v ∈ l,((v.2.1.length:Nat):Int)≤n):=
 WY (g:=nj) (B:=fE) (fun _ _=>by kernel_rfl) (fun v=>v.2.1.length) l hl (fun n=>by simp only[fE,aJ]) (fun hl2 n i h n0 n1=>by
  have hm:l[i].2.1.length≤9223372036854775807:=hd _ (List.getElem_mem h)
  have hw:IntKind.i64.wrap (n-(l[i].2.1.length:Int))=n-l[i].2.1.length:=by rw[wrap_i64]<;>omega
  simp only[fE,aK h,av h (show l.length≤1099511627776 by omega),am h,aa,tL,hw]
  by_cases hc:n-(l[i].2.1.length:Int)<0
  ·rw[if_pos hc]
   simp only[decide_eq_true hc]
   rfl
  ·rw[if_neg hc]
   simp only[decide_eq_false hc]) n h0 h1
theorem RF(l:List ao.T)(hl:l.length≤maxLen)(hd:∀v ∈ l,v.2.2.1.length≤maxLen)(n:Int)(h0:0≤n)(h1:n≤1048576):∃y:Int,nk (l,n,())=some (y,())∧y≤n∧(0≤y→(l.length:Int)≤n∧∀v ∈ l,((v.2.2.1.length:Nat):Int)≤n):=
 WY (g:=nk) (B:=fF) (fun _ _=>by kernel_rfl) (fun v=>v.2.2.1.length) l hl (fun n=>by simp only[fF,aJ]) (fun hl2 n i h n0 n1=>by
  have hs:=Wt (l[i].2.2.1,n,()) n0 n1 (hd _ (List.getElem_mem h))
  simp only[fF,aK h,av h (show l.length≤1099511627776 by omega),am h,aa,tO,hs]
  by_cases hc:n-(l[i].2.2.1.length:Int)<0
  ·simp only[if_pos hc]
   rfl
  ·simp only[if_neg hc,decide_eq_false hc]) n h0 h1
def za(m:ae.T):Prop:=m.2.1.length≤1048576∧(∀v ∈ m.2.1,v.2.1.length≤1048576)∧m.2.2.1.length≤1048576∧(∀v ∈ m.2.2.1,v.2.2.1.length≤1048576)∧m.2.2.2.1.length≤1048576
theorem qy {m:ae.T}(h:za m):bZ m:=
 ⟨Nat.le_trans h.1 (by omega),fun v hv=>Nat.le_trans (h.2.1 v hv) (by omega),Nat.le_trans h.2.2.1 (by omega),fun v hv=>Nat.le_trans (h.2.2.2.1 v hv) (by omega),Nat.le_trans h.2.2.2.2 (by omega)⟩
theorem Zc(m:ae.T)(hx:Wf ae m):∃y:Int,nC (m,(1048576:Int),())=some (y,())∧(0≤y→za m):=by
 have w1:m.2.1.length≤maxLen:=hx.2.1.1
 have w2:∀v ∈ m.2.1,v.2.1.length≤maxLen:=fun v hv=>(hx.2.1.2 v hv).2.1
 have w3:m.2.2.1.length≤maxLen:=hx.2.2.1.1
 have w4:∀v ∈ m.2.2.1,v.2.2.1.length≤maxLen:=fun v hv=>(hx.2.2.1.2 v hv).2.2.1.1
 have w5:m.2.2.2.1.length≤maxLen:=hx.2.2.2.1.1
 obtain⟨a,ea,a1,a2⟩:=RE m.2.1 w1 w2 1048576 (by omega) (by omega)
 unfold nC
 simp only[ea]
 by_cases ca:a<0
 ·exact⟨-1,by simp only[decide_eq_true ca],fun h=>absurd h (by decide)⟩
 ·obtain⟨b,eb,b1,b2⟩:=RF m.2.2.1 w3 w4 a (by omega) (by omega)
  simp only[decide_eq_false ca,eb]
  by_cases cb:b<0
  ·exact⟨-1,by simp only[decide_eq_true cb],fun h=>absurd h (by decide)⟩
  ·have ec:=Eu (m.2.2.2.1,b,()) (show(0:Int)≤b by omega) (show b≤(1048576:Int) by omega) w5
   simp only[decide_eq_false cb,ec]
   by_cases cc:b-(m.2.2.2.1.length:Int)<0
   ·simp only[if_pos cc]
    exact⟨-1,rfl,fun h=>absurd h (by decide)⟩
   ·simp only[if_neg cc,decide_eq_false cc]
    refine⟨_,rfl,fun _=> ?_⟩
    obtain⟨x1,x2⟩:=a2 (by omega)
    obtain⟨y1,y2⟩:=b2 (by omega)
    refine⟨by omega,fun v hv=> ?_,by omega,fun v hv=> ?_,by omega⟩
    ·have:=x2 v hv;omega
    ·have:=y2 v hv;omega
theorem Tj(x)(h:x.1.2.2.1.length≤1099511627776):oM x=some (x.1,()):=by
 have ht:oL (x.1.2.2.1,())=some (x.1.2.2.1,()):=Wu (x.1.2.2.1,()) h
 unfold oM
 simp only[ht]
theorem RG(x)(hl:x.1.length≤1099511627776)(hd:∀v ∈ x.1,v.2.2.1.length≤1099511627776):kv x=some (x.1,()):=
 Et (g:=kv) (B:=fH) (z:=(((0:Int),(0:Int),[],()):ao.T)) (fun _=>by kernel_rfl) x.1 hl (fun s=>by simp only[fH,aJ]) (fun s i h h'=>by
  have ht:=Tj (x.1[i],()) (hd _ (List.getElem_mem h))
  simp only[fH,aK h,av h hl,am h,aa,am h',Int.toNat_natCast,List.getElem?_eq_getElem h']
  rw[ht])
theorem Ue(m:ae.T)(h:za m):jl (m,())=some (m,()):=by
 have hz:=qy h
 have h1:ku (m.2.1,())=some (m.2.1,()):=Q7 (m.2.1,()) hz.1
 have h2:kv (m.2.2.1,())=some (m.2.2.1,()):=RG (m.2.2.1,()) hz.2.2.1 hz.2.2.2.1
 have h3:kw (m.2.2.2.1,())=some (m.2.2.2.1,()):=Q8 (m.2.2.2.1,()) hz.2.2.2.2
 unfold jl
 simp only[h1,h2,h3]
theorem Tk(x)(h:x.2.1=x.1)(hd:x.1.2.2.1.length≤1099511627776):oP x=some (true,()):=by
 obtain⟨a,b,u⟩:=x
 obtain rfl:b=a:=h
 have h2:oO (b.2.2.1,b.2.2.1,())=some (true,()):=Wv _ rfl hd
 unfold oP
 simp only[h2,jf,Bool.not_true]
theorem RH(x)(h:x.2.1=x.1)(hl:x.1.length≤1099511627776)(hd:∀v ∈ x.1,v.2.2.1.length≤1099511627776):ky x=some (true,()):=by
 obtain⟨l,m,u⟩:=x
 obtain rfl:m=l:=h
 have hl:m.length≤1099511627776:=hl
 exact yY (g:=ky) (B:=fK) (fun _=>by kernel_rfl) m (by simp only[fK,aJ]) (fun i h=>by
  simp only[fK,aK h,aJ,av h hl,am h,aa]
  rw[Tk _ rfl (hd _ (List.getElem_mem h))]
  simp)
theorem Uf(m:ae.T)(h:za m):uc (m,m,())=some (true,()):=by
 have hz:=qy h
 have h1:kx (m.2.1,m.2.1,())=some (true,()):=Q9 _ rfl hz.1
 have h2:ky (m.2.2.1,m.2.2.1,())=some (true,()):=RH _ rfl hz.2.2.1 hz.2.2.2.1
 have h3:kz (m.2.2.2.1,m.2.2.2.1,())=some (true,()):=Ra _ rfl hz.2.2.2.2
 unfold uc
 simp only[h1,h2,h3,jf,Bool.not_true]
theorem ach(x)(h:x.2.1=x.1)(hd:x.1.2.2.2.1.length≤1099511627776):abo x=some (true,()):=by
 obtain⟨a,b,u⟩:=x
 obtain rfl:b=a:=h
 have h1:wv ((b.2.2.1.1,b.2.2.1.2.1,b.2.2.1.2.2.1,b.2.2.1.2.2.2.1,b.2.2.1.2.2.2.2.1,()),(b.2.2.1.1,b.2.2.1.2.1,b.2.2.1.2.2.1,b.2.2.1.2.2.2.1,b.2.2.1.2.2.2.2.1,()),())=some (true,()):=XK _ rfl
 have h2:oO (b.2.2.2.1,b.2.2.2.1,())=some (true,()):=Wv _ rfl hd
 unfold abo
 simp only[h1,h2,jf,Bool.not_true]
theorem ace(v:az.T)(hd:v.2.1.2.2.2.1.length≤1099511627776):abn (v,v,())=some (true,()):=by
 have h1:abo ((v.2.1.1,v.2.1.2.1,(v.2.1.2.2.1.1,v.2.1.2.2.1.2.1,v.2.1.2.2.1.2.2.1,v.2.1.2.2.1.2.2.2.1,v.2.1.2.2.1.2.2.2.2.1,()),v.2.1.2.2.2.1,()),(v.2.1.1,v.2.1.2.1,(v.2.1.2.2.1.1,v.2.1.2.2.1.2.1,v.2.1.2.2.1.2.2.1,v.2.1.2.2.1.2.2.2.1,v.2.1.2.2.1.2.2.2.2.1,()),v.2.1.2.2.2.1,()),())=some (true,()):=ach _ rfl hd
 unfold abn
 simp only[h1,jf,Bool.not_true]
def acT(v:az.T)(d:List Int):az.T:=(v.1,(v.2.1.1,v.2.1.2.1,v.2.1.2.2.1,d,()),())
theorem pI {T O:Type}{B:List T×Int×Int×Unit→Option ((List T×Int×Int×Unit) ⊕ ((List T×Int×Unit) ⊕ O))}(N:Nat)(P:T→Prop)(K:Int)(hK:0≤K)
  (hend:∀s q,s.length=N→B (s,q,(N:Int),())=some (.inr (.inl (s,q,()))))
  (hstep:∀(s:List T) (q:Int) i,i<N→s.length=N→(∀v ∈ s,P v)→0≤q→q≤1000000000000000000→∃(s':List T) (q':Int),B (s,q,(i:Int),())=some (.inl (s',q',((i+1:Nat):Int),()))∧s'.length=N∧(∀v ∈ s',P v)∧q≤q'∧q'≤q+K):
  ∀(n i:Nat) (s:List T) (q:Int),i+n=N→s.length=N→(∀v ∈ s,P v)→0≤q→q+(n:Int)*K≤1000000000000000000→∃(s':List T) (q':Int),ac B (s,q,(i:Int),())=some (.inl (s',q',()))∧q≤q'∧q'≤q+(n:Int)*K
 |0,i,s,q,hi,hs,hp,h0,h1=>by
  have hi:i=N:=by omega
  subst hi
  exact⟨s,q,by rw[an,hend s q hs],by omega,by omega⟩
 |n+1,i,s,q,hi,hs,hp,h0,h1=>by
  have hn:((n+1:Nat):Int)*K=(n:Int)*K+K:=by rw[Int.natCast_add,Int.add_mul];simp
  have hp0:0≤(n:Int)*K:=Int.mul_nonneg (by omega) hK
  rw[hn]at h1 ⊢
  obtain⟨s',q',e,a,b,c,d⟩:=hstep s q i (by omega) hs hp h0 (by omega)
  obtain⟨s2,q2,e2,c2,d2⟩:=pI N P K hK hend hstep n (i+1) s' q' (by omega) a b (by omega) (by omega)
  exact⟨s2,q2,by rw[an,e];exact e2,by omega,by omega⟩
theorem WZ(n:Int)(h0:0≤n)(h1:n≤1152921504606847000):∃t,tc (n,())=some (t,()):=by
 have key:∀(k m:Nat) (s:List UInt8),m<10^k→s.length+k≤1000→m≤1152921504606847000→∃t:List UInt8,ac jS ((m:Int),s,())=some (.inl (t,()))∧t.length≤s.length+k:=by
  intro k
  induction k with
  |zero=>
   intro m s hm _ _
   have:m=0:=by simpa using hm
   subst this
   exact⟨s,by rw[an];rfl,by omega⟩
  |succ k ih=>
   intro m s hm hs hb
   by_cases hz:m=0
   ·subst hz
    exact⟨s,by rw[an];rfl,by omega⟩
   ·have hd:decide ((m:Int)>0)=true:=decide_eq_true (by omega)
    have hw:IntKind.i64.wrap (Int.tdiv (m:Int) 10)=((m / 10:Nat):Int):=by
     rw[Int.tdiv_eq_ediv_of_nonneg (by omega),wrap_i64]<;>omega
    have hm':m / 10<10^k:=by
     rw[Nat.pow_succ]at hm
     omega
    obtain⟨t,e,ht⟩:=ih (m / 10) (List.map (fun n=>UInt8.ofNat (Int.toNat n)) ([(IntKind.u8.wrap (IntKind.i64.wrap ((48:Int)+(Int.tmod (m:Int) (10:Int)))))]:List Int)++s) hm' (by simp;omega) (by omega)
    refine⟨t, ?_,by simp at ht;omega⟩
    rw[an]
    simp only[jS,hd,hw]
    rw[aF (by simp;omega)]
    exact e
 obtain⟨m,rfl⟩:∃m:Nat,n=m:=⟨n.toNat,by omega⟩
 obtain⟨t,e,ht⟩:=key 19 m [] (by omega) (by simp) (by omega)
 unfold tc
 by_cases hc:(m:Int)≤0
 ·exact⟨[109,48],by simp only[decide_eq_true hc]⟩
 ·simp only[decide_eq_false hc,e]
  rw[aF (by simp at ht ⊢;omega)]
  exact⟨_,rfl⟩
theorem Vs(l:List ak.T)(q:Int)(hl:l.length≤1048576)(h0:0≤q)(h1:q≤1000000000000):∃(s':List ak.T) (q':Int),lf (l,q,())=some (q',s',())∧q≤q'∧q'≤q+4194304:=by
 obtain⟨s',q',e,a,b⟩:=pI (B:=dp) l.length (fun _=>True) 4 (by omega) (fun s q hs=>by simp only[dp,hs,aJ]) (fun s q i hi hs _ q0 q1=>by
  have h':i<s.length:=by omega
  have w1:IntKind.i64.wrap (q+1)=q+1:=fx (by omega) (by omega)
  have w2:IntKind.i64.wrap (q+1+1)=q+1+1:=fx (by omega) (by omega)
  have w3:IntKind.i64.wrap (q+1+1+1)=q+1+1+1:=fx (by omega) (by omega)
  have w4:IntKind.i64.wrap (q+1+1+1+1)=q+1+1+1+1:=fx (by omega) (by omega)
  obtain⟨t,ht⟩:=WZ (q+1) (by omega) (by omega)
  have hs':(s.length:Int)=(l.length:Int):=by rw[hs]
  simp only[dp,hs',aK hi,av hi (show l.length≤1099511627776 by omega),am h',aa,w1,ht,Int.toNat_natCast,List.getElem?_eq_getElem h',List.length_set,au,List.getElem?_set,List.set_set,List.getElem?_set_self,Int.natCast_nonneg,if_true,h',w2,w3,w4]
  exact⟨_,_,rfl,by rw[List.length_set];exact hs,fun _ _=>trivial,by omega,by omega⟩) l.length 0 l q (by omega) rfl (fun _ _=>trivial) h0 (by omega)
 have e:ac dp (l,q,(0:Int),())=_:=e
 refine⟨s',q', ?_,a,by omega⟩
 unfold lf
 simp only[e]
theorem Vt(l:List ag.T)(q:Int)(hl:l.length≤1048576)(h0:0≤q)(h1:q≤1000000000000000):∃(s':List ag.T) (q':Int),lh (l,q,())=some (q',s',())∧q≤q'∧q'≤q+8388608:=by
 obtain⟨s',q',e,a,b⟩:=pI (B:=dr) l.length (fun _=>True) 8 (by omega) (fun s q hs=>by simp only[dr,hs,aJ]) (fun s q i hi hs _ q0 q1=>by
  have h':i<s.length:=by omega
  have w1:IntKind.i64.wrap (q+1)=q+1:=fx (by omega) (by omega)
  have w2:IntKind.i64.wrap (q+1+1)=q+1+1:=fx (by omega) (by omega)
  have w3:IntKind.i64.wrap (q+1+1+1)=q+1+1+1:=fx (by omega) (by omega)
  have w4:IntKind.i64.wrap (q+1+1+1+1)=q+1+1+1+1:=fx (by omega) (by omega)
  have w5:IntKind.i64.wrap (q+1+1+1+1+1)=q+1+1+1+1+1:=fx (by omega) (by omega)
  have w6:IntKind.i64.wrap (q+1+1+1+1+1+1)=q+1+1+1+1+1+1:=fx (by omega) (by omega)
  have w7:IntKind.i64.wrap (q+1+1+1+1+1+1+1)=q+1+1+1+1+1+1+1:=fx (by omega) (by omega)
  have w8:IntKind.i64.wrap (q+1+1+1+1+1+1+1+1)=q+1+1+1+1+1+1+1+1:=fx (by omega) (by omega)
  have hs':(s.length:Int)=(l.length:Int):=by rw[hs]
  simp only[dr,hs',aK hi,av hi (show l.length≤1099511627776 by omega),am h',aa,w1,Int.toNat_natCast,List.getElem?_eq_getElem h',List.length_set,au,List.getElem?_set,List.set_set,List.getElem?_set_self,Int.natCast_nonneg,if_true,h',w2,w3,w4,w5,w6,w7,w8]
  exact⟨_,_,rfl,by rw[List.length_set];exact hs,fun _ _=>trivial,by omega,by omega⟩) l.length 0 l q (by omega) rfl (fun _ _=>trivial) h0 (by omega)
 have e:ac dr (l,q,(0:Int),())=_:=e
 refine⟨s',q', ?_,a,by omega⟩
 unfold lh
 simp only[e]
theorem Vu(l:List ao.T)(q:Int)(hl:l.length≤1048576)(hd:∀v ∈ l,v.2.2.1.length≤1048576)(h0:0≤q)(h1:q≤1000000000000):∃(s':List ao.T) (q':Int),lg (l,q,())=some (q',s',())∧q≤q'∧q'≤q+2199023255552:=by
 obtain⟨s',q',e,a,b⟩:=pI (B:=dq) l.length (fun(v:ao.T)=>v.2.2.1.length≤1048576) 2097152 (by omega) (fun s q hs=>by simp only[dq,hs,aJ]) (fun s q i hi hs hp q0 q1=>by
  have h':i<s.length:=by omega
  have w1:IntKind.i64.wrap (q+1)=q+1:=fx (by omega) (by omega)
  have w2:IntKind.i64.wrap (q+1+1)=q+1+1:=fx (by omega) (by omega)
  have hs':(s.length:Int)=(l.length:Int):=by rw[hs]
  have hlen:=hp _ (List.getElem_mem h')
  have hm:lV (s[i].2.2.1,q+1+1,())=_:=Td (s[i].2.2.1,q+1+1,()) (Nat.le_trans hlen (by omega))
  have hq:=XJ s[i].2.2.1 (Nat.le_trans hlen (by omega)) (q+1+1) (by omega) (by omega)
  simp only[dq,hs',aK hi,av hi (show l.length≤1099511627776 by omega),am h',aa,w1,w2,hm,Int.toNat_natCast,List.getElem?_eq_getElem h',List.length_set,au,List.getElem?_set,List.set_set,List.getElem?_set_self,Int.natCast_nonneg,if_true,h']
  refine⟨_,_,rfl,by rw[List.length_set];exact hs,fun v hv=> ?_,by omega,by omega⟩
  rcases List.mem_or_eq_of_mem_set hv with hv|hv
  ·exact hp v hv
  ·rw[hv]
   show(cg qc s[i].2.2.1 (q+1+1)).1.length≤1048576
   rw[lZ]
   exact hlen) l.length 0 l q (by omega) rfl hd h0 (by omega)
 have e:ac dq (l,q,(0:Int),())=_:=e
 refine⟨s',q', ?_,a,by omega⟩
 unfold lg
 simp only[e]
theorem W0(m:ae.T)(h:za m):∃(c:Int) (m':ae.T),td (m,(1:Int),())=some (c,m',())∧0≤c∧c≤100000000000000:=by
 obtain⟨s1,q1,e1,a1,b1⟩:=Vs m.2.1 1 h.1 (by omega) (by omega)
 obtain⟨s2,q2,e2,a2,b2⟩:=Vu m.2.2.1 q1 h.2.2.1 h.2.2.2.1 (by omega) (by omega)
 obtain⟨s3,q3,e3,a3,b3⟩:=Vt m.2.2.2.1 q2 h.2.2.2.2 (by omega) (by omega)
 unfold td
 simp only[e1,e2,e3]
 exact⟨_,_,rfl,by omega,by omega⟩
end Go.Proofs.YthfgmmmeplanbaaGreatDoor
namespace Go.Proofs.YthfgmmmeplanbaaGreatDoor
open Go.RowKit
set_option linter.unusedVariables false
set_option linter.unusedSimpArgs false
abbrev E9(v:az.T):List Int:=v.2.1.2.2.2.1
theorem Tl(x)(h:x.1.2.2.2.1.length≤1099511627776):qO x=some (b8 x.1 x.2.1,()):=by
 have hs:bu (x.1.2.2.2.1,x.2.1.2.2.2.1,())=_:=WE x.1.2.2.2.1 x.2.1.2.2.2.1 h
 have e0:qO x=match(x.1.1==x.2.1.1)with
  |true=>match(x.1.2.1==x.2.1.2.1)with
   |true=>match dC ab x.1.2.2.1 x.2.1.2.2.1 with
    |true=>match bu (x.1.2.2.2.1,x.2.1.2.2.2.1,())with
     |none=>none
     |some v1=>some (v1.1,())
    |false=>some (false,())
   |false=>some (false,())
  |false=>some (false,()):=rfl
 rw[e0,hs]
 unfold b8
 rcases Bool.eq_false_or_eq_true (x.1.1==x.2.1.1)with h1|h1<;>rcases Bool.eq_false_or_eq_true (x.1.2.1==x.2.1.2.1)with h2|h2<;>rcases Bool.eq_false_or_eq_true (dC ab x.1.2.2.1 x.2.1.2.2.1)with h3|h3<;>simp only[h1,h2,h3]<;>rfl
theorem RI(x)(h:x.1.2.2.2.1.length≤1099511627776):m8 x=some (b8 x.1 x.2.1,()):=by
 have hs:bd (x.1.2.2.2.1,x.2.1.2.2.2.1,())=_:=Rk x.1.2.2.2.1 x.2.1.2.2.2.1 h
 have e0:m8 x=match(x.1.1==x.2.1.1)with
  |true=>match(x.1.2.1==x.2.1.2.1)with
   |true=>match dC ab x.1.2.2.1 x.2.1.2.2.1 with
    |true=>match bd (x.1.2.2.2.1,x.2.1.2.2.2.1,())with
     |none=>none
     |some v1=>some (v1.1,())
    |false=>some (false,())
   |false=>some (false,())
  |false=>some (false,()):=rfl
 rw[e0,hs]
 unfold b8
 rcases Bool.eq_false_or_eq_true (x.1.1==x.2.1.1)with h1|h1<;>rcases Bool.eq_false_or_eq_true (x.1.2.1==x.2.1.2.1)with h2|h2<;>rcases Bool.eq_false_or_eq_true (dC ab x.1.2.2.1 x.2.1.2.2.1)with h3|h3<;>simp only[h1,h2,h3]<;>rfl
theorem Pc(x)(h:x.1.2.1.2.2.2.1.length≤1099511627776):kL x=some (fy x.1 x.2.1,()):=by
 have e0:kL x=match(x.1.1==x.2.1.1)with
  |true=>match m8 (x.1.2.1,x.2.1.2.1,())with
   |none=>none
   |some v1=>some (v1.1,())
  |false=>some (false,()):=rfl
 rw[e0,RI (x.1.2.1,x.2.1.2.1,()) h]
 unfold fy
 rcases Bool.eq_false_or_eq_true (x.1.1==x.2.1.1)with h1|h1<;>simp only[h1]<;>rfl
theorem Tm(x y:ab.T):dC ab x y=true↔x=y:=by
 obtain⟨(a:Int),(b:Int),(c:Int),(d:Int),(e:Int),⟨⟩⟩:=x
 obtain⟨(a':Int),(b':Int),(c':Int),(d':Int),(e':Int),⟨⟩⟩:=y
 have h:dC ab (a,b,c,d,e,()) (a',b',c',d',e',())=((a==a')&&((b==b')&&((c==c')&&((d==d')&&((e==e')&&true))))):=rfl
 rw[h]
 simp only[Bool.and_eq_true,beq_iff_eq,and_true]
 constructor
 ·rintro ⟨rfl,rfl,rfl,rfl,rfl⟩;rfl
 ·intro h
  cases h
  exact⟨rfl,rfl,rfl,rfl,rfl⟩
theorem BK(x y:aL.T):b8 x y=true↔x=y:=by
 obtain⟨(a:Int),(b:Int),c,(d:List Int),⟨⟩⟩:=x
 obtain⟨(a':Int),(b':Int),c',(d':List Int),⟨⟩⟩:=y
 have h:b8 (a,b,c,d,()) (a',b',c',d',())=((a==a')&&((b==b')&&(dC ab c c'&&decide (d=d')))):=rfl
 rw[h]
 simp only[Bool.and_eq_true,beq_iff_eq,Tm,decide_eq_true_eq]
 constructor
 ·rintro ⟨rfl,rfl,rfl,rfl⟩;rfl
 ·intro h
  cases h
  exact⟨rfl,rfl,rfl,rfl⟩
def eN(s:Int):az.T:=(s,d4,())
theorem kP {v:az.T}(h:fz v=true):(∃f,v=((3:Int),f,())∧bA f=true)∨(∃s:Int,v=eN s∧0≤s∧s≤4∧s≠3):=by
 obtain⟨(s:Int),f,⟨⟩⟩:=v
 have h:(if s==(3:Int)then bA f else aN s 0 4&&b8 f d4)=true:=h
 by_cases hs:s=3
 ·subst hs
  exact .inl ⟨f,rfl,by simpa using h⟩
 ·have hb:(s==(3:Int))=false:=by simp[hs]
  rw[hb]at h
  simp only[Bool.false_eq_true,if_false,Bool.and_eq_true,BK]at h
  obtain⟨h1,rfl⟩:=h
  have:=aO.1 h1
  exact .inr ⟨s,rfl,this.1,this.2,hs⟩
theorem Fa {s:Int}(h0:0≤s)(h4:s≤4)(h3:s≠3):fz (eN s)=true:=by
 have e:fz (eN s)=if s==(3:Int)then bA d4 else aN s 0 4&&b8 d4 d4:=rfl
 have hb:(s==(3:Int))=false:=by simp[h3]
 rw[e,hb,(BK d4 d4).2 rfl,aO.2 ⟨h0,h4⟩]
 rfl
noncomputable def gZ(a b:az.T):az.T:=if(a.1==(3:Int))&&((b.1==(3:Int))&&b8 a.2.1 b.2.1)then a else if((a.1==(3:Int))&&(b.1==(3:Int)))||((a.1==(4:Int))||(b.1==(4:Int)))then eN 4 else if a.1==(3:Int)then a else if b.1==(3:Int)then b else eN (if b.1>a.1 then b.1 else a.1)
noncomputable def vo(a b:az.T):az.T:=if(a.1==(3:Int))&&fy a b then a else if((a.1==(3:Int))&&(b.1==(3:Int)))||((a.1==(4:Int))||(b.1==(4:Int)))then eN 4 else if decide (a.1≥b.1)then a else b
theorem Zd(a b:az.T)(h:(E9 a).length≤1099511627776):kl (a,b,())=some (gZ a b,()):=by
 have hs:qO (a.2.1,b.2.1,())=some (b8 a.2.1 b.2.1,()):=Tl _ h
 obtain⟨(s:Int),⟨(k:Int),(r:Int),⟨(t1:Int),(t2:Int),(t3:Int),(t4:Int),(t5:Int),⟨⟩⟩,(d:List Int),⟨⟩⟩,⟨⟩⟩:=a
 obtain⟨(s':Int),⟨(k':Int),(r':Int),⟨(u1:Int),(u2:Int),(u3:Int),(u4:Int),(u5:Int),⟨⟩⟩,(d':List Int),⟨⟩⟩,⟨⟩⟩:=b
 unfold kl gZ
 simp only at hs ⊢
 rw[hs]
 rcases Bool.eq_false_or_eq_true (s==(3:Int))with h1|h1<;>rcases Bool.eq_false_or_eq_true (s'==(3:Int))with h2|h2<;>rcases Bool.eq_false_or_eq_true (s==(4:Int))with h3|h3<;>rcases Bool.eq_false_or_eq_true (s'==(4:Int))with h4|h4<;>(try (rcases Bool.eq_false_or_eq_true (b8 (k,r,(t1,t2,t3,t4,t5,()),d,()) (k',r',(u1,u2,u3,u4,u5,()),d',()))with h5|h5))<;>simp only[h1,h2,h3,h4,h5]<;>rfl
theorem Vv(a b:az.T)(h:(E9 a).length≤1099511627776):EX (a,b,())=some (vo a b,()):=by
 have hs:kL (a,b,())=some (fy a b,()):=Pc _ h
 obtain⟨(s:Int),⟨(k:Int),(r:Int),⟨(t1:Int),(t2:Int),(t3:Int),(t4:Int),(t5:Int),⟨⟩⟩,(d:List Int),⟨⟩⟩,⟨⟩⟩:=a
 obtain⟨(s':Int),⟨(k':Int),(r':Int),⟨(u1:Int),(u2:Int),(u3:Int),(u4:Int),(u5:Int),⟨⟩⟩,(d':List Int),⟨⟩⟩,⟨⟩⟩:=b
 unfold EX vo
 simp only at hs ⊢
 rw[hs]
 generalize fy (s,(k,r,(t1,t2,t3,t4,t5,()),d,()),()) (s',(k',r',(u1,u2,u3,u4,u5,()),d',()),())=q
 rcases Bool.eq_false_or_eq_true (s==(3:Int))with h1|h1<;>rcases Bool.eq_false_or_eq_true (s'==(3:Int))with h2|h2<;>rcases Bool.eq_false_or_eq_true (s==(4:Int))with h3|h3<;>rcases Bool.eq_false_or_eq_true (s'==(4:Int))with h4|h4<;>rcases Bool.eq_false_or_eq_true (decide (s≥s'))with h6|h6<;>cases q<;>simp only[h1,h2,h3,h4,h6]<;>rfl
theorem Vw {a b:az.T}(ha:fz a=true)(hb:fz b=true):vo a b=gZ a b:=by
 rcases kP ha with⟨f,rfl,hf⟩|⟨s,rfl,h0,h4,h3⟩<;>rcases kP hb with⟨g,rfl,hg⟩|⟨s',rfl,h0',h4',h3'⟩
 ·have e:fy ((3:Int),f,()) ((3:Int),g,())=b8 f g:=by
   show(((3:Int)==3)&&b8 f g)=_
   simp
  unfold vo gZ
  rw[e]
  cases b8 f g<;>rfl
 ·have e:fy ((3:Int),f,()) (eN s')=false:=by
   show(((3:Int)==s')&&b8 f d4)=_
   have:((3:Int)==s')=false:=by simp;omega
   rw[this];rfl
  have e3:(s'==(3:Int))=false:=by simp[h3']
  unfold vo gZ
  rw[e]
  show(if((3:Int)==3&&false)=true then _ else if(((3:Int)==3&&s'==(3:Int))||((3:Int)==4||s'==(4:Int)))=true then eN 4 else if decide ((3:Int)≥s')=true then _ else eN s')=(if((3:Int)==3&&(s'==(3:Int)&&b8 f d4))=true then _ else if(((3:Int)==3&&s'==(3:Int))||((3:Int)==4||s'==(4:Int)))=true then eN 4 else if((3:Int)==3)=true then _ else if(s'==(3:Int))=true then _ else _)
  rw[e3]
  rcases Bool.eq_false_or_eq_true (s'==(4:Int))with h|h
  ·rw[h];rfl
  ·have:s'≠4:=by simpa using h
   have hd:decide ((3:Int)≥s')=true:=by simp;omega
   rw[h,hd];rfl
 ·have e3:(s==(3:Int))=false:=by simp[h3]
  unfold vo gZ
  show(if(s==(3:Int)&&fy (eN s) ((3:Int),g,()))=true then _ else if((s==(3:Int)&&(3:Int)==(3:Int))||(s==(4:Int)||(3:Int)==(4:Int)))=true then eN 4 else if decide (s≥(3:Int))=true then _ else _)=(if(s==(3:Int)&&((3:Int)==(3:Int)&&b8 d4 g))=true then _ else if((s==(3:Int)&&(3:Int)==(3:Int))||(s==(4:Int)||(3:Int)==(4:Int)))=true then eN 4 else if(s==(3:Int))=true then _ else if((3:Int)==(3:Int))=true then _ else _)
  rw[e3]
  rcases Bool.eq_false_or_eq_true (s==(4:Int))with h|h
  ·rw[h];rfl
  ·have:s≠4:=by simpa using h
   have hd:decide (s≥(3:Int))=false:=by simp;omega
   rw[h,hd];rfl
 ·have e3:(s==(3:Int))=false:=by simp[h3]
  have e3':(s'==(3:Int))=false:=by simp[h3']
  unfold vo gZ
  show(if(s==(3:Int)&&fy (eN s) (eN s'))=true then _ else if((s==(3:Int)&&s'==(3:Int))||(s==(4:Int)||s'==(4:Int)))=true then eN 4 else if decide (s≥s')=true then eN s else eN s')=(if(s==(3:Int)&&(s'==(3:Int)&&b8 d4 d4))=true then _ else if((s==(3:Int)&&s'==(3:Int))||(s==(4:Int)||s'==(4:Int)))=true then eN 4 else if(s==(3:Int))=true then eN s else if(s'==(3:Int))=true then eN s' else eN (if s'>s then s' else s))
  rw[e3,e3']
  simp only[Bool.false_and,Bool.false_eq_true,if_false,Bool.false_or]
  rcases Bool.eq_false_or_eq_true (s==(4:Int)||s'==(4:Int))with h|h
  ·simp only[h,if_true]
  ·simp only[h,Bool.false_eq_true,if_false]
   by_cases hg:s'>s
   ·have hd:decide (s≥s')=false:=by simp;omega
    simp[hd,hg]
   ·have hd:decide (s≥s')=true:=by simp;omega
    simp[hd,hg]
theorem Tn {a b:az.T}(ha:fz a=true)(hb:fz b=true):fz (gZ a b)=true:=by
 unfold gZ
 split
 ·exact ha
 ·split
  ·exact Fa (by omega) (by omega) (by omega)
  ·split
   ·exact ha
   ·split
    ·exact hb
    ·rename_i h1 h2 h3 h4
     rcases kP ha with⟨f,rfl,hf⟩|⟨s,rfl,h0,h4,h3⟩
     ·exact absurd rfl h3
     ·rcases kP hb with⟨g,rfl,hg⟩|⟨s',rfl,h0',h4',h3'⟩
      ·exact absurd rfl h4
      ·show fz (eN (if s'>s then s' else s))=true
       split
       ·exact Fa (by assumption) (by assumption) (by assumption)
       ·exact Fa (by assumption) (by assumption) (by assumption)
theorem Vx {a b:az.T}{n:Nat}(ha:(E9 a).length≤n)(hb:(E9 b).length≤n):(E9 (gZ a b)).length≤n:=by
 unfold gZ
 split
 ·exact ha
 ·split
  ·exact Nat.zero_le _
  ·split
   ·exact ha
   ·split
    ·exact hb
    ·exact Nat.zero_le _
end Go.Proofs.YthfgmmmeplanbaaGreatDoor
namespace Go.Proofs.YthfgmmmeplanbaaGreatDoor
open Go.RowKit
set_option linter.unusedVariables false
set_option linter.unusedSimpArgs false
noncomputable def Fb(m:ae.T)(st:ab.T)(l l2:List Int):az.T×Int×Unit:=match(gK m st l).2.1 != (0:Int)with
 |true=>(eN 0,(gK m st l).2.1,())
 |false=>match(gK m st l2).2.1 != (0:Int)with
  |true=>(eN 0,(gK m st l2).2.1,())
  |false=>(gZ (gK m st l).1 (gK m st l2).1,(0:Int),())
theorem wJ(m:ae.T)(st:ab.T)(l:List Int):(gK m st l).1.2.1.2.2.2.1.length≤32:=by
 unfold gK
 split
 ·exact Nat.zero_le _
 ·split
  ·exact Nat.zero_le _
  ·split
   ·exact Nat.zero_le _
   ·show(gp m st l).2.1.2.2.2.1.length≤32
    unfold gp
    split
    ·unfold vn
     split
     ·rename_i h
      rw[Bool.and_eq_true]at h
      exact rr (EE (M4 h.1))
     ·exact Nat.zero_le _
    ·split<;>exact Nat.zero_le _
theorem tk(m:ae.T)(st:ab.T)(l:List Int):fz (gK m st l).1=true:=by
 have h0:∀s:Int,0≤s→s≤4→s≠3→fz ((s,d4,()):az.T)=true:=fun s a b c=>Fa a b c
 unfold gK
 split
 ·exact h0 0 (by omega) (by omega) (by omega)
 ·split
  ·exact h0 0 (by omega) (by omega) (by omega)
  ·split
   ·exact h0 0 (by omega) (by omega) (by omega)
   ·show fz (gp m st l)=true
    unfold gp
    split
    ·unfold vn
     split
     ·rename_i h
      rw[Bool.and_eq_true]at h
      exact EE (M4 h.1)
     ·exact h0 2 (by omega) (by omega) (by omega)
    ·split
     ·exact h0 0 (by omega) (by omega) (by omega)
     ·exact h0 1 (by omega) (by omega) (by omega)
theorem aad(m:ae.T)(st:ab.T)(l l2:List Int)(hz:bZ m)(hl:l.length≤1099511627776)(hl2:l2.length≤1099511627776):i6 (m,st,l,l2,())=some (Fb m st l l2):=by
 have h1:eT ((m.1,m.2.1,m.2.2.1,m.2.2.2.1,()),(st.1,st.2.1,st.2.2.1,st.2.2.2.1,st.2.2.2.2.1,()),l,())=_:=NS m st l hz hl
 have h2:eT ((m.1,m.2.1,m.2.2.1,m.2.2.2.1,()),(st.1,st.2.1,st.2.2.1,st.2.2.2.1,st.2.2.2.2.1,()),l2,())=_:=NS m st l2 hz hl2
 have hd1:=wJ m st l
 have hv1:=tk m st l
 have hv2:=tk m st l2
 have hm:=Vv (gK m st l).1 (gK m st l2).1 (Nat.le_trans hd1 (by omega))
 rw[Vw hv1 hv2]at hm
 unfold i6 Fb
 simp only[h1,h2]
 rcases Bool.eq_false_or_eq_true ((gK m st l).2.1 != (0:Int))with g|g<;>simp only[g]
 ·rfl
 ·rcases Bool.eq_false_or_eq_true ((gK m st l2).2.1 != (0:Int))with g2|g2<;>simp only[g2]
  ·rfl
  ·generalize gK m st l=r1 at hm ⊢
   generalize gK m st l2=r2 at hm ⊢
   obtain⟨⟨(s1:Int),⟨(f1:Int),(q1:Int),⟨(t11:Int),(t12:Int),(t13:Int),(t14:Int),(t15:Int),⟨⟩⟩,(da:List Int),⟨⟩⟩,⟨⟩⟩,(c1:Int),⟨⟩⟩:=r1
   obtain⟨⟨(s2:Int),⟨(f2:Int),(q2:Int),⟨(t21:Int),(t22:Int),(t23:Int),(t24:Int),(t25:Int),⟨⟩⟩,(db:List Int),⟨⟩⟩,⟨⟩⟩,(c2:Int),⟨⟩⟩:=r2
   simp only at hm ⊢
   simp only[hm]
theorem aaT(m:ae.T)(st:ab.T)(l l2:List Int):(Fb m st l l2).1.2.1.2.2.2.1.length≤32:=by
 unfold Fb
 split
 ·exact Nat.zero_le _
 ·split
  ·exact Nat.zero_le _
  ·exact Vx (wJ m st l) (wJ m st l2)
end Go.Proofs.YthfgmmmeplanbaaGreatDoor
