import Derived.Test.YthfgmmmeplanbaaGreatDoorQ1
namespace Go.Proofs.YthfgmmmeplanbaaGreatDoor
open Go.RowKit
set_option linter.unusedVariables false
set_option linter.unusedSimpArgs false
theorem Ui(x):pQ x=some (aI x.1 0 31,()):=by
 unfold pQ
 simp only[iv]
theorem Uj(x):mU x=some (aI x.1 0 31,()):=by
 unfold mU
 simp only[lp]
end Go.Proofs.YthfgmmmeplanbaaGreatDoor
namespace Go.Proofs.YthfgmmmeplanbaaGreatDoor
open Go.RowKit
set_option linter.unusedVariables false
set_option linter.unusedSimpArgs false
theorem Uk {α:Type}(p:α→Bool):∀l:List α,(∀x ∈ l.dropWhile p,p x=true)→l.dropWhile p= []
 | [],_=>rfl
 |a::l,h=>by
  by_cases ha:p a=true
  ·rw[List.dropWhile_cons_of_pos ha]at h ⊢
   exact Uk p l h
  ·rw[List.dropWhile_cons_of_neg ha]at h
   exact absurd (h a (by simp)) ha
theorem Ji {α:Type}(p:α→Bool):∀l:List α,l.dropWhile p= []↔∀x ∈ l,p x=true
 | []=>by simp
 |a::l=>by
  by_cases ha:p a=true
  ·rw[List.dropWhile_cons_of_pos ha,Ji p l]
   simp[ha]
  ·rw[List.dropWhile_cons_of_neg ha]
   simp[ha]
theorem U8(s cs:List UInt8):(Lib.trimS s cs== [])=s.all (fun b=>cs.contains b):=by
 have e:Lib.trimS s cs= []↔∀b ∈ s,cs.contains b=true:=by
  unfold Lib.trimS Lib.trimLeftS Lib.trimRightS
  constructor
  ·intro h
   have h1:=(Ji _ _).1 h
   have h2:=Uk (fun b=>cs.contains b) s.reverse (fun x hx=>h1 x (by simpa using hx))
   have h3:=(Ji _ _).1 h2
   exact fun b hb=>h3 b (by simpa using hb)
  ·intro h
   have:s.reverse.dropWhile (fun b=>cs.contains b)= []:=(Ji _ _).2 (fun b hb=>h b (by simpa using hb))
   rw[this]
   rfl
 by_cases h:Lib.trimS s cs= []
 ·rw[h,List.all_eq_true.2 (e.1 h)];rfl
 ·have h2:¬(s.all (fun b=>cs.contains b)=true):=fun h3=>h (e.2 (List.all_eq_true.1 h3))
  have h3:(Lib.trimS s cs== [])=false:=by simpa using h
  rw[h3]
  simpa using h2
def vo(b:UInt8):Bool:=if(b.toNat:Int)<97 then(if(b.toNat:Int)<48 then false else if(b.toNat:Int)>57 then false else true)else if(b.toNat:Int)>122 then(if(b.toNat:Int)<48 then false else if(b.toNat:Int)>57 then false else true)else true
def Jj:List UInt8:=[97,98,99,100,101,102,103,104,105,106,107,108,109,110,111,112,113,114,115,116,117,118,119,120,121,122,48,49,50,51,52,53,54,55,56,57]
theorem Wb(b:UInt8):Jj.contains b=vo b:=by
 have h:∀n:Fin 256,Jj.contains (UInt8.ofNat n.1)=vo (UInt8.ofNat n.1):=by decide+kernel
 have:=h ⟨b.toNat,b.toNat_lt⟩
 simpa using this
def Jk(s:List UInt8):Bool:=s.all vo&&(decide ((s.length:Int)≥1)&&decide ((s.length:Int)≤6))
theorem Xl(s:List UInt8)(hs:s.length≤1099511627776):uD (s,())=some (Jk s,()):=by
 have e:=iJ (B:=gr) s (fun i=>(s,(i:Int),())) vo (.inl (s,())) (.inr (false,())) (by simp only[gr,aK]) (fun i h=>by
  simp only[gr,aM h,av h hs,am h,aa]
  generalize s[i]=b
  unfold vo
  by_cases h1:(b.toNat:Int)<97<;>by_cases h2:(b.toNat:Int)>122<;>by_cases h3:(b.toNat:Int)<48<;>by_cases h4:(b.toNat:Int)>57<;>simp[h1,h2,h3,h4])
 have e':ac gr (s,(0:Int),())=_:=e
 unfold uD Jk
 simp only[e']
 rcases Bool.eq_false_or_eq_true (s.all vo)with h|h<;>simp only[h,Bool.true_and,Bool.false_and,if_true]
 ·rcases Bool.eq_false_or_eq_true (decide ((s.length:Int)≥1))with h1|h1<;>simp only[h1,Bool.true_and,Bool.false_and]
 ·rfl
def rZ(v:aj.T):Bool:=aI v.1 0 31&&(Jk v.2.1&&aI v.2.2.1 0 1000)
theorem SO(x)(h:x.1.2.1.length≤1099511627776):nV x=some (rZ x.1,()):=by
 have hn:=Xl x.1.2.1 h
 unfold nV rZ
 simp only[Ui,hn,iv]
 rcases Bool.eq_false_or_eq_true (aI x.1.1 0 31)with h1|h1<;>rcases Bool.eq_false_or_eq_true (Jk x.1.2.1)with h2|h2<;>simp only[h1,h2]<;>rfl
theorem SP(x):kY x=some (rZ x.1,()):=by
 unfold kY rZ Jk
 simp only[Uj,lp]
 rcases Bool.eq_false_or_eq_true (decide ((x.1.2.1.length:Int)≥1))with h1|h1<;>simp only[h1,Bool.true_and,Bool.false_and,Bool.and_false]
 rcases Bool.eq_false_or_eq_true (decide ((x.1.2.1.length:Int)≤6))with h2|h2<;>simp only[h2,Bool.true_and,Bool.false_and,Bool.and_false,Bool.and_true]
 have h6:x.1.2.1.length≤1048576:=by
  have:=of_decide_eq_true h2
  omega
 have ht:tq (x.1.2.1,([97,98,99,100,101,102,103,104,105,106,107,108,109,110,111,112,113,114,115,116,117,118,119,120,121,122,48,49,50,51,52,53,54,55,56,57]:List UInt8),())=some (Lib.trimS x.1.2.1 Jj,()):=by
  show aa (G4 x.1.2.1 Jj) (fun s=>some (s,()))=_
  unfold G4
  rw[if_pos ⟨h6,by decide,by decide⟩]
  rfl
 have hc:x.1.2.1.all (fun b=>Jj.contains b)=x.1.2.1.all vo:=by
  congr 1
  funext b
  exact Wb b
 simp only[ht,U8,hc]
 rcases Bool.eq_false_or_eq_true (x.1.2.1.all vo)with h3|h3<;>rcases Bool.eq_false_or_eq_true (aI x.1.1 0 31)with h4|h4<;>simp only[h3,h4]<;>rfl
def qj(l:List aj.T)(i:Nat):Bool:=match l[i]? with
 |none=>false
 |some v=>rZ v&&((match i with
  |0=>true
  |k+1=>match l[k]? with
   |none=>false
   |some u=> !decide (v.1≤u.1))&& !(l.take i).any (fun u=>u.2.1==v.2.1))
def fi(l:List aj.T):Bool:=aI (l.length:Int) 1 32&&(List.range l.length).all (qj l)
theorem Wc(l:List aj.T)(hl:l.length≤1099511627776)(i:Nat)(hi:i<l.length):ac cH (l,(i:Int),(0:Int),())=some (if(l.take i).any (fun u=>u.2.1==l[i].2.1)then .inr (false,())else .inl (l,(i:Int),())):=by
 have e:=iJ (B:=cH) (l.take i) (fun j=>(l,(i:Int),(j:Int),())) (fun u=> !(u.2.1==l[i].2.1)) (.inl (l,(i:Int),())) (.inr (false,())) (by
  rw[List.length_take,Nat.min_eq_left (Nat.le_of_lt hi)]
  simp only[cH,aK]) (fun j hj=>by
  have hj':j<i:=by rw[List.length_take]at hj;omega
  have hjl:j<l.length:=by omega
  have hg:(l.take i)[j]=l[j]:=by simp
  rw[hg]
  simp only[cH,aM hj',av hjl hl,am hjl,am hi,aa]
  rcases Bool.eq_false_or_eq_true (l[j].2.1==l[i].2.1)with h1|h1<;>simp only[h1]<;>rfl)
 have e':ac cH (l,(i:Int),(0:Int),())=_:=e
 rw[e',xz]
 simp only[Bool.not_not]
 cases (l.take i).any (fun u=>u.2.1==l[i].2.1)<;>rfl
theorem xF {i:Nat}(h:i+1≤1099511627776):IntKind.i64.wrap (((i+1:Nat):Int)-1)=(i:Int):=by rw[wrap_i64]<;>omega
theorem Dh(i:Nat):decide (((i+1:Nat):Int)>0)=true:=decide_eq_true (by omega)
theorem Wd(l:List aj.T)(hl:l.length≤1099511627776)(hn:∀v ∈ l,v.2.1.length≤1099511627776):mC (l,())=some (fi l,()):=by
 have e:=fz (B:=d6) l.length (fun i=>(l,(i:Int),())) (qj l) (.inl ()) (.inr (false,())) (by simp only[d6,aK]) (fun i h=>by
  have hv:=SO (l[i],()) (hn _ (List.getElem_mem h))
  have hc:=Wc l hl i h
  simp only[d6,aM h,av h hl,am h,aa,hv,qj,List.getElem?_eq_getElem h]
  rcases Bool.eq_false_or_eq_true (rZ l[i])with h1|h1<;>simp only[h1,Bool.not_true,Bool.not_false,Bool.true_and,Bool.false_and]
  ·cases i with
   |zero=>
    have z:decide (((0:Nat):Int)>0)=false:=rfl
    simp only[z,hc,Bool.true_and]
    rfl
   |succ k=>
    have hk:k<l.length:=by omega
    simp only[Dh,xF (show k+1≤1099511627776 by omega),am hk,List.getElem?_eq_getElem hk]
    rcases Bool.eq_false_or_eq_true (decide (l[k+1].1≤l[k].1))with h2|h2<;>simp only[h2,Bool.not_true,Bool.not_false,Bool.true_and,Bool.false_and]
    ·rfl
    ·simp only[hc]
     cases (l.take (k+1)).any (fun u=>u.2.1==l[k+1].2.1)
     ·show some (Sum.inl (l,IntKind.i64.wrap (((k+1:Nat):Int)+1),()))=some (.inl (l,((k+1+1:Nat):Int),()))
      rw[av h hl]
     ·rfl
  ·rfl)
 have e':ac d6 (l,(0:Int),())=_:=e
 unfold mC fi
 simp only[iv,e']
 rcases Bool.eq_false_or_eq_true (aI (l.length:Int) 1 32)with h1|h1<;>simp only[h1]<;>rcases Bool.eq_false_or_eq_true ((List.range l.length).all (qj l))with h2|h2<;>simp only[h2]<;>rfl
theorem We(l:List aj.T)(hl:l.length≤1099511627776):mI (l,())=some (fi l,()):=by
 have e:=fz (B:=eh) l.length (fun i=>(l,l,(l.length:Int),(i:Int),())) (qj l) (.inl (l,())) (.inr (false,())) (by simp only[eh,aK]) (fun i h=>by
  have hv:kY ((l[i].1,l[i].2.1,l[i].2.2.1,l[i].2.2.2.1,()),())=some (rZ l[i],()):=SP (l[i],())
  have hb:aC l.length none (some (.dat (.int .i64) (i:Int)))=some (0,i):=by
   simp only[aC,i9,iC]
   rw[if_pos ⟨by omega,by omega,by omega⟩]
   simp
  have hc:=D3 (l.take i) (by rw[List.length_take];omega) (fun z=>iH (z.1,(l[i].1,l[i].2.1,l[i].2.2.1,l[i].2.2.2.1,()),())) (fun u=>u.2.1==l[i].2.1) (fun j hj=>rfl)
  have hc:cn (List.drop 0 (List.take i l),(fun z=>iH (z.1,(l[i].1,l[i].2.1,l[i].2.2.1,l[i].2.2.2.1,()),())),())=_:=hc
  simp only[eh,aM h,av h hl,am h,aa,hv,hb,hc,qj,List.getElem?_eq_getElem h]
  rcases Bool.eq_false_or_eq_true (rZ l[i])with h1|h1<;>simp only[h1,Bool.not_true,Bool.not_false,Bool.true_and,Bool.false_and]
  ·cases i with
   |zero=>rfl
   |succ k=>
    have hk:k<l.length:=by omega
    have hge:decide (l[k].1≥l[k+1].1)=decide (l[k+1].1≤l[k].1):=rfl
    simp only[Dh,xF (show k+1≤1099511627776 by omega),am hk,List.getElem?_eq_getElem hk,hge]
    rcases Bool.eq_false_or_eq_true (decide (l[k+1].1≤l[k].1))with h2|h2<;>simp only[h2,Bool.not_true,Bool.not_false,Bool.true_and,Bool.false_and]
    ·rfl
    ·cases (l.take (k+1)).any (fun u=>u.2.1==l[k+1].2.1)
     ·rfl
     ·rfl
  ·rfl)
 have e':ac eh (l,l,(l.length:Int),(0:Int),())=_:=e
 unfold mI fi aI
 simp only[e']
 rcases Bool.eq_false_or_eq_true ((List.range l.length).all (qj l))with h2|h2<;>simp only[h2,if_true,Bool.and_true,Bool.and_false]
 ·rcases Bool.eq_false_or_eq_true (decide ((l.length:Int)≥1))with h1|h1<;>simp only[h1]<;>rfl
 ·rfl
end Go.Proofs.YthfgmmmeplanbaaGreatDoor
namespace Go.Proofs.YthfgmmmeplanbaaGreatDoor
open Go.RowKit
set_option linter.unusedVariables false
set_option linter.unusedSimpArgs false
def t6(l:List Int)(n:Nat)(i:Nat):Bool:=match l[i]? with
 |none=>false
 |some v=>aI v 0 ((n:Int)-1)&&(match i with
  |0=>true
  |k+1=>match l[k]? with
   |none=>false
   |some u=> !decide (v≤u))
def t7(l:List Int)(n:Nat):Bool:=(List.range l.length).all (t6 l n)
theorem Wg(l:List Int)(n:Nat)(hl:l.length≤1099511627776)(hn:n≤1099511627776):rH (l,(n:Int),())=some (t7 l n,()):=by
 have hw:IntKind.i64.wrap ((n:Int)-1)=(n:Int)-1:=by rw[wrap_i64]<;>omega
 have e:=fz (B:=fM) l.length (fun i=>(l,(n:Int),(i:Int),())) (t6 l n) (.inl ()) (.inr (false,())) (by simp only[fM,aK]) (fun i h=>by
  simp only[fM,aM h,av h hl,am h,aa,iv,hw,t6,List.getElem?_eq_getElem h]
  rcases Bool.eq_false_or_eq_true (aI l[i] 0 ((n:Int)-1))with h1|h1<;>simp only[h1,Bool.not_true,Bool.not_false,Bool.true_and,Bool.false_and]
  ·cases i with
   |zero=>rfl
   |succ k=>
    have hk:k<l.length:=by omega
    simp only[Dh,xF (show k+1≤1099511627776 by omega),am hk,List.getElem?_eq_getElem hk]
    rcases Bool.eq_false_or_eq_true (decide (l[k+1]≤l[k]))with h2|h2<;>simp only[h2]<;>rfl
  ·rfl)
 have e':ac fM (l,(n:Int),(0:Int),())=_:=e
 unfold rH t7
 simp only[e']
 rcases Bool.eq_false_or_eq_true ((List.range l.length).all (t6 l n))with h2|h2<;>simp only[h2]<;>rfl
theorem Wh(l:List Int)(n:Nat)(hl:l.length≤1099511627776)(hn:n≤1099511627776):rM (l,(n:Int),())=some (t7 l n,()):=by
 have e:=fz (B:=fU) l.length (fun i=>(l,(n:Int),l,(l.length:Int),(i:Int),())) (t6 l n) (.inl ()) (.inr (false,())) (by simp only[fU,aK]) (fun i h=>by
  have hin:aI l[i] 0 ((n:Int)-1)=(!decide (l[i]<0)&& !decide (l[i]≥(n:Int))):=by
   unfold aI
   by_cases h1:l[i]<0<;>by_cases h2:l[i]≥(n:Int)<;>simp[h1,h2]<;>omega
  simp only[fU,aM h,av h hl,am h,aa,t6,List.getElem?_eq_getElem h,hin]
  rcases Bool.eq_false_or_eq_true (decide (l[i]<0))with h1|h1<;>simp only[h1,Bool.not_true,Bool.not_false,Bool.true_and,Bool.false_and]
  ·rfl
  ·rcases Bool.eq_false_or_eq_true (decide (l[i]≥(n:Int)))with h3|h3<;>simp only[h3,Bool.not_true,Bool.not_false,Bool.true_and,Bool.false_and]
   ·rfl
   ·cases i with
    |zero=>rfl
    |succ k=>
     have hk:k<l.length:=by omega
     have hge:decide (l[k]≥l[k+1])=decide (l[k+1]≤l[k]):=rfl
     simp only[Dh,xF (show k+1≤1099511627776 by omega),am hk,List.getElem?_eq_getElem hk,hge]
     rcases Bool.eq_false_or_eq_true (decide (l[k+1]≤l[k]))with h2|h2<;>simp only[h2]<;>rfl)
 have e':ac fU (l,(n:Int),l,(l.length:Int),(0:Int),())=_:=e
 unfold rM t7
 simp only[e']
 rcases Bool.eq_false_or_eq_true ((List.range l.length).all (t6 l n))with h2|h2<;>simp only[h2]<;>rfl
theorem Xm(l:List Int)(v:Int)(hl:l.length≤1099511627776):yd (l,v,())=some (l.any (fun u=>u==v),()):=by
 have e:=m6 (B:=g8) l (fun i=>(l,v,(i:Int),())) (fun u=>u==v) (.inl ()) (fun _=>.inr (true,())) (by simp only[g8,aK]) (fun i h=>by
  simp only[g8,aM h,av h hl,am h,aa]
  rcases Bool.eq_false_or_eq_true (l[i]==v)with h1|h1<;>simp only[h1]<;>rfl)
 have e':ac g8 (l,v,(0:Int),())=_:=e
 unfold yd
 rw[←gM (fun u=>u==v) 0 l]
 simp only[e']
 cases bJ (fun u=>u==v) 0 l<;>rfl
theorem QP(l:List Int)(v:Int)(hl:l.length≤1099511627776):gm (l,v,())=some (l.any (fun u=>u==v),()):=by
 have e:=m6 (B:=cA) l (fun i=>(l,v,(l.length:Int),(i:Int),())) (fun u=>u==v) (.inl ()) (fun j=>.inr ((j:Int),())) (by simp only[cA,aK]) (fun i h=>by
  have hc:(v==l[i])=(l[i]==v):=by
   by_cases h:v=l[i]
   ·rw[h]
   ·have h1:(v==l[i])=false:=by simpa using h
    have h2:(l[i]==v)=false:=by simpa using fun e:l[i]=v=>h e.symm
    rw[h1,h2]
  simp only[cA,aM h,av h hl,am h,aa,hc]
  rcases Bool.eq_false_or_eq_true (l[i]==v)with h1|h1<;>simp only[h1]<;>rfl)
 have e':ac cA (l,v,(l.length:Int),(0:Int),())=_:=e
 unfold gm kX
 rw[←gM (fun u=>u==v) 0 l]
 simp only[e']
 cases bJ (fun u=>u==v) 0 l with
 |none=>rfl
 |some j=>
  have:decide ((j:Int)≥0)=true:=decide_eq_true (by omega)
  simp only[this,Option.isSome]
def qk(l:List ao.T)(i:Nat):Bool:=match l[i]? with
 |none=>false
 |some v=>aI v.1 1 8&&(aI v.2.1 1 16&&(t7 v.2.2.1 l.length&& !v.2.2.1.any (fun u=>u==(i:Int))))
def eT(l:List ao.T):Bool:=aI (l.length:Int) 1 16&&(List.range l.length).all (qk l)
theorem Wi(l:List ao.T)(hl:l.length≤1099511627776)(hn:∀v ∈ l,v.2.2.1.length≤1099511627776):mD (l,())=some (eT l,()):=by
 have e:=fz (B:=d7) l.length (fun i=>(l,(i:Int),())) (qk l) (.inl ()) (.inr (false,())) (by simp only[d7,aK]) (fun i h=>by
  have h1:=Wg l[i].2.2.1 l.length (hn _ (List.getElem_mem h)) hl
  have h2:=Xm l[i].2.2.1 (i:Int) (hn _ (List.getElem_mem h))
  simp only[d7,aM h,av h hl,am h,aa,iv,h1,h2,qk,List.getElem?_eq_getElem h]
  rcases Bool.eq_false_or_eq_true (aI l[i].1 1 8)with g1|g1<;>simp only[g1,Bool.not_true,Bool.not_false,Bool.true_and,Bool.false_and]
  ·rcases Bool.eq_false_or_eq_true (aI l[i].2.1 1 16)with g2|g2<;>simp only[g2,Bool.not_true,Bool.not_false,Bool.true_and,Bool.false_and]
   ·rcases Bool.eq_false_or_eq_true (t7 l[i].2.2.1 l.length)with g3|g3<;>simp only[g3,Bool.not_true,Bool.not_false,Bool.true_and,Bool.false_and]
    ·rcases Bool.eq_false_or_eq_true (l[i].2.2.1.any (fun u=>u==(i:Int)))with g4|g4<;>simp only[g4]<;>rfl
    ·rfl
   ·rfl
  ·rfl)
 have e':ac d7 (l,(0:Int),())=_:=e
 unfold mD eT
 simp only[iv,e']
 rcases Bool.eq_false_or_eq_true (aI (l.length:Int) 1 16)with h1|h1<;>simp only[h1]<;>rcases Bool.eq_false_or_eq_true ((List.range l.length).all (qk l))with h2|h2<;>simp only[h2]<;>rfl
theorem Wj(l:List ao.T)(hl:l.length≤1099511627776)(hn:∀v ∈ l,v.2.2.1.length≤1099511627776):mH (l,())=some (eT l,()):=by
 have e:=fz (B:=eg) l.length (fun i=>(l,l,(l.length:Int),(i:Int),())) (qk l) (.inl (l,())) (.inr (false,())) (by simp only[eg,aK]) (fun i h=>by
  have h1:=Wh l[i].2.2.1 l.length (hn _ (List.getElem_mem h)) hl
  have h2:=QP l[i].2.2.1 (i:Int) (hn _ (List.getElem_mem h))
  simp only[eg,aM h,av h hl,am h,aa,lp,h1,h2,qk,List.getElem?_eq_getElem h]
  rcases Bool.eq_false_or_eq_true (aI l[i].1 1 8)with g1|g1<;>simp only[g1,Bool.not_true,Bool.not_false,Bool.true_and,Bool.false_and]
  ·rcases Bool.eq_false_or_eq_true (aI l[i].2.1 1 16)with g2|g2<;>simp only[g2,Bool.not_true,Bool.not_false,Bool.true_and,Bool.false_and]
   ·rcases Bool.eq_false_or_eq_true (t7 l[i].2.2.1 l.length)with g3|g3<;>simp only[g3,Bool.not_true,Bool.not_false,Bool.true_and,Bool.false_and]
    ·rcases Bool.eq_false_or_eq_true (l[i].2.2.1.any (fun u=>u==(i:Int)))with g4|g4<;>simp only[g4]<;>rfl
    ·rfl
   ·rfl
  ·rfl)
 have e':ac eg (l,l,(l.length:Int),(0:Int),())=_:=e
 unfold mH eT aI
 simp only[e']
 rcases Bool.eq_false_or_eq_true ((List.range l.length).all (qk l))with h2|h2<;>simp only[h2,if_true,Bool.and_true,Bool.and_false]
 ·rcases Bool.eq_false_or_eq_true (decide ((l.length:Int)≥1))with h1|h1<;>simp only[h1]<;>rfl
 ·rfl
end Go.Proofs.YthfgmmmeplanbaaGreatDoor
namespace Go.Proofs.YthfgmmmeplanbaaGreatDoor
open Go.RowKit
set_option linter.unusedVariables false
set_option linter.unusedSimpArgs false
def jQ(k n:Int):Int:=1+(if k != 0 then 8 else 0)+(if gO k then 1+n else 0)
theorem Wk(k n:Int)(h0:0≤n)(h1:n≤1000):rN (k,n,())=some (jQ k n,()):=by
 have w1:IntKind.i64.wrap ((1:Int)+8)=9:=by decide
 have w2:IntKind.i64.wrap ((1:Int)+n)=1+n:=by rw[wrap_i64]<;>omega
 have w3:IntKind.i64.wrap (9+(1+n))=1+8+(1+n):=by rw[wrap_i64]<;>omega
 have w4:IntKind.i64.wrap (1+(1+n))=1+0+(1+n):=by rw[wrap_i64]<;>omega
 unfold rN jQ
 simp only[dU,Jh,w1,w2,w3,w4]
 rcases Bool.eq_false_or_eq_true (k != (0:Int))with h|h<;>rcases Bool.eq_false_or_eq_true (gO k)with h2|h2<;>simp only[h,h2]<;>rfl
theorem Wl(k n:Int)(h0:0≤n)(h1:n≤1000):mE (k,n,())=some (jQ k n,()):=by
 have w1:IntKind.i64.wrap ((1:Int)+8)=9:=by decide
 have w2:IntKind.i64.wrap ((9:Int)+1)=10:=by decide
 have w5:IntKind.i64.wrap ((1:Int)+1)=2:=by decide
 have w3:IntKind.i64.wrap (10+n)=1+8+(1+n):=by rw[wrap_i64]<;>omega
 have w4:IntKind.i64.wrap (2+n)=1+0+(1+n):=by rw[wrap_i64]<;>omega
 unfold mE jQ
 simp only[dR,Pd,w1,w2,w3,w4,w5]
 rcases Bool.eq_false_or_eq_true (k != (0:Int))with h|h<;>rcases Bool.eq_false_or_eq_true (gO k)with h2|h2<;>simp only[h,h2]<;>rfl
def t8(k n:Int):Int:=11+10*(jQ k n+3)
theorem yI(k n:Int)(h0:0≤n)(h1:n≤1000):1≤jQ k n∧jQ k n≤1010:=by
 unfold jQ
 split<;>split<;>omega
theorem RH(b:Int)(h:1≤b∧b≤1010):IntKind.i64.wrap (11+IntKind.i64.wrap (10*IntKind.i64.wrap (b+3)))=11+10*(b+3):=by
 rw[wrap_i64 (n:=b+3) (by omega) (by omega),wrap_i64 (n:=10*(b+3)) (by omega) (by omega),wrap_i64 (by omega) (by omega)]
theorem Wm(k n:Int)(h0:0≤n)(h1:n≤1000):ki (k,n,())=some (t8 k n,()):=by
 unfold ki t8
 simp only[Wk k n h0 h1,RH _ (yI k n h0 h1)]
theorem Wn(k n:Int)(h0:0≤n)(h1:n≤1000):nW (k,n,())=some (t8 k n,()):=by
 unfold nW t8
 simp only[Wl k n h0 h1,RH _ (yI k n h0 h1)]
theorem ua {k n:Int}(h:ij k n=true):0≤n∧n≤1000:=by
 unfold ij at h
 split at h
 ·have:=bi.1 h;omega
 ·split at h
  ·have:=bi.1 h;omega
  ·have:n=0:=by simpa using h
   omega
def jR(d:aZ.T):Bool:=aI d.1 0 31&&(aI d.2.1 0 3&&(ij d.2.1 d.2.2.1&&(!((d.2.1==(3:Int))&&d.2.2.2.2.1)&&aI d.2.2.2.1 (IntKind.i64.wrap (t8 d.2.1 d.2.2.1+20)) 1000)))
theorem Pg(x):dS x=some (jR x.1,()):=by
 obtain⟨⟨(a:Int),(k:Int),(n:Int),(t:Int),(c:Bool),u⟩,u'⟩:=x
 unfold dS jR
 simp only[Ui,T7,T9,iv]
 rcases Bool.eq_false_or_eq_true (aI a 0 31)with h1|h1<;>simp only[h1,Bool.not_true,Bool.not_false,Bool.true_and,Bool.false_and]
 rcases Bool.eq_false_or_eq_true (aI k 0 3)with h2|h2<;>simp only[h2,Bool.not_true,Bool.not_false,Bool.true_and,Bool.false_and]
 rcases Bool.eq_false_or_eq_true (ij k n)with h3|h3<;>simp only[h3,Bool.not_true,Bool.not_false,Bool.true_and,Bool.false_and]
 have hn:=ua h3
 simp only[Wn k n hn.1 hn.2]
 rcases Bool.eq_false_or_eq_true (k==(3:Int))with h4|h4<;>cases c<;>simp only[h4]<;>rfl
theorem Ul(x):eM x=some (jR x.1,()):=by
 obtain⟨⟨(a:Int),(k:Int),(n:Int),(t:Int),(c:Bool),u⟩,u'⟩:=x
 unfold eM jR
 simp only[Uj,T8,Ua,lp]
 rcases Bool.eq_false_or_eq_true (aI a 0 31)with h1|h1<;>simp only[h1,Bool.not_true,Bool.not_false,Bool.true_and,Bool.false_and]
 rcases Bool.eq_false_or_eq_true (aI k 0 3)with h2|h2<;>simp only[h2,Bool.not_true,Bool.not_false,Bool.true_and,Bool.false_and]
 rcases Bool.eq_false_or_eq_true (ij k n)with h3|h3<;>simp only[h3,Bool.not_true,Bool.not_false,Bool.true_and,Bool.false_and]
 have hn:=ua h3
 simp only[Wm k n hn.1 hn.2]
 rcases Bool.eq_false_or_eq_true (k==(3:Int))with h4|h4<;>cases c<;>simp only[h4]<;>rfl
def kE(v:ae.T):Bool:=aI v.1 0 15&&(aI v.2.1 0 7&&(aI v.2.2.1 0 15&&jR v.2.2.2.1))
theorem Xn(x):Db x=some (kE x.1,()):=by
 have hd:dS ((x.1.2.2.2.1.1,x.1.2.2.2.1.2.1,x.1.2.2.2.1.2.2.1,x.1.2.2.2.1.2.2.2.1,x.1.2.2.2.1.2.2.2.2.1,()),())=some (jR x.1.2.2.2.1,()):=Pg (x.1.2.2.2.1,())
 unfold Db kE
 simp only[iv,hd]
 rcases Bool.eq_false_or_eq_true (aI x.1.1 0 15)with h1|h1<;>rcases Bool.eq_false_or_eq_true (aI x.1.2.1 0 7)with h2|h2<;>rcases Bool.eq_false_or_eq_true (aI x.1.2.2.1 0 15)with h3|h3<;>simp only[h1,h2,h3]<;>rfl
theorem Xo(x):la x=some (kE x.1,()):=by
 have hd:eM ((x.1.2.2.2.1.1,x.1.2.2.2.1.2.1,x.1.2.2.2.1.2.2.1,x.1.2.2.2.1.2.2.2.1,x.1.2.2.2.1.2.2.2.2.1,()),())=some (jR x.1.2.2.2.1,()):=Ul (x.1.2.2.2.1,())
 unfold la kE
 simp only[lp,hd]
 rcases Bool.eq_false_or_eq_true (aI x.1.1 0 15)with h1|h1<;>rcases Bool.eq_false_or_eq_true (aI x.1.2.1 0 7)with h2|h2<;>rcases Bool.eq_false_or_eq_true (aI x.1.2.2.1 0 15)with h3|h3<;>simp only[h1,h2,h3]<;>rfl
def pj(a b:Int):Int:=if a<b then -1 else if a>b then 1 else 0
def l7(u v:ae.T):Int:=if u.1=v.1 then(if u.2.1=v.2.1 then pj u.2.2.1 v.2.2.1 else pj u.2.1 v.2.1)else pj u.1 v.1
theorem X3(x):nt x=some (pj x.1 x.2.1,()):=by
 obtain⟨(a:Int),(b:Int),u⟩:=x
 unfold nt pj
 by_cases h1:a<b
 ·simp only[decide_eq_true h1,if_pos h1]
 ·by_cases h2:a>b
  ·simp only[decide_eq_false h1,decide_eq_true h2,if_neg h1,if_pos h2]
  ·simp only[decide_eq_false h1,decide_eq_false h2,if_neg h1,if_neg h2]
theorem Um(x):gX x=some (l7 x.1 x.2.1,()):=by
 obtain⟨u,v,w⟩:=x
 unfold gX l7
 simp only[X3]
 by_cases h1:u.1=v.1
 ·have g1:(u.1 != v.1)=false:=by rw[h1];exact gN _
  simp only[g1,if_pos h1]
  by_cases h2:u.2.1=v.2.1
  ·have g2:(u.2.1 != v.2.1)=false:=by rw[h2];exact gN _
   simp only[g2,if_pos h2]
  ·have g2:(u.2.1 != v.2.1)=true:=by simpa using h2
   simp only[g2,if_neg h2]
 ·have g1:(u.1 != v.1)=true:=by simpa using h1
  simp only[g1,if_neg h1]
theorem Gu(l m:List Int)(i:Nat)(hl:i<l.length)(hm:i<m.length)(h3:i<3):bQ (l,m,(i:Int),())=if l[i]<m[i]then some (.inr (.inr ((-1:Int),())))else if l[i]>m[i]then some (.inr (.inr ((1:Int),())))else some (.inl (l,m,((i+1:Nat):Int),())):=by
 have hd:decide ((i:Int)<3)=true:=decide_eq_true (by omega)
 simp only[bQ,hd,am hl,am hm,aa,Int.toNat_natCast,List.getElem?_eq_getElem hl,List.getElem?_eq_getElem hm,av h3 (by omega)]
 by_cases h1:l[i]<m[i]
 ·simp only[if_pos h1,decide_eq_true h1]
 ·by_cases h2:l[i]>m[i]
  ·simp only[if_neg h1,if_pos h2,decide_eq_false h1,decide_eq_true h2]
  ·simp only[if_neg h1,if_neg h2,decide_eq_false h1,decide_eq_false h2]
theorem Xp(x):lB x=some (l7 x.1 x.2.1,()):=by
 obtain⟨⟨(a:Int),(b:Int),(c:Int),d⟩,⟨(a':Int),(b':Int),(c':Int),d'⟩,w⟩:=x
 have e0:=Gu [a,b,c] [a',b',c'] 0 (by simp) (by simp) (by omega)
 have e1:=Gu [a,b,c] [a',b',c'] 1 (by simp) (by simp) (by omega)
 have e2:=Gu [a,b,c] [a',b',c'] 2 (by simp) (by simp) (by omega)
 have e3:bQ ([a,b,c],[a',b',c'],((3:Nat):Int),())=some (.inr (.inl ())):=rfl
 have e0:bQ ([a,b,c],[a',b',c'],(0:Int),())=if a<a' then some (.inr (.inr ((-1:Int),())))else if a>a' then some (.inr (.inr ((1:Int),())))else some (.inl ([a,b,c],[a',b',c'],((1:Nat):Int),())):=e0
 have e1:bQ ([a,b,c],[a',b',c'],((1:Nat):Int),())=if b<b' then some (.inr (.inr ((-1:Int),())))else if b>b' then some (.inr (.inr ((1:Int),())))else some (.inl ([a,b,c],[a',b',c'],((2:Nat):Int),())):=e1
 have e2:bQ ([a,b,c],[a',b',c'],((2:Nat):Int),())=if c<c' then some (.inr (.inr ((-1:Int),())))else if c>c' then some (.inr (.inr ((1:Int),())))else some (.inl ([a,b,c],[a',b',c'],((3:Nat):Int),())):=e2
 have hL:ac bQ ([a,b,c],[a',b',c'],(0:Int),())=some (if l7 (a,b,c,d) (a',b',c',d')=0 then .inl ()else .inr (l7 (a,b,c,d) (a',b',c',d'),())):=by
  unfold l7 pj
  rw[an,e0]
  by_cases h1:a<a'
  ·simp[h1,Int.ne_of_lt h1]
  ·by_cases h2:a>a'
   ·have:¬a=a':=by omega
    simp[h1,h2,this]
   ·have:a=a':=by omega
    simp only[if_neg h1,if_neg h2,if_pos this]
    rw[an,e1]
    by_cases h1:b<b'
    ·simp[h1,Int.ne_of_lt h1]
    ·by_cases h2:b>b'
     ·have:¬b=b':=by omega
      simp[h1,h2,this]
     ·have:b=b':=by omega
      simp only[if_neg h1,if_neg h2,if_pos this]
      rw[an,e2]
      by_cases h1:c<c'
      ·simp[h1]
      ·by_cases h2:c>c'
       ·simp[h1,h2]
       ·simp only[if_neg h1,if_neg h2]
        rw[an,e3]
        simp
 unfold lB
 simp only[hL,cS]
 by_cases h:l7 (a,b,c,d) (a',b',c',d')=0
 ·simp only[h,if_true]
 ·simp only[if_neg h]
def oM(l:List ae.T)(i:Nat):Bool:=match l[i]? with
 |none=>false
 |some v=>kE v&&(match i with
  |0=>true
  |k+1=>match l[k]? with
   |none=>false
   |some u=> !decide (l7 u v≥0))
def bV(l:List ae.T):Bool:= !decide ((l.length:Int)>120)&&(List.range l.length).all (oM l)
theorem Wo(l:List ae.T)(hl:l.length≤1099511627776):mF (l,())=some (bV l,()):=by
 have e:=fz (B:=d8) l.length (fun i=>(l,(i:Int),())) (oM l) (.inl ()) (.inr (false,())) (by simp only[d8,aK]) (fun i h=>by
  simp only[d8,aM h,av h hl,am h,aa,Xn,oM,List.getElem?_eq_getElem h]
  rcases Bool.eq_false_or_eq_true (kE l[i])with h1|h1<;>simp only[h1,Bool.not_true,Bool.not_false,Bool.true_and,Bool.false_and]
  ·cases i with
   |zero=>rfl
   |succ k=>
    have hk:k<l.length:=by omega
    simp only[Dh,xF (show k+1≤1099511627776 by omega),am hk,List.getElem?_eq_getElem hk,Xp]
    rcases Bool.eq_false_or_eq_true (decide (l7 l[k] l[k+1]≥0))with h2|h2<;>simp only[h2]<;>rfl
  ·rfl)
 have e':ac d8 (l,(0:Int),())=_:=e
 unfold mF bV
 simp only[e']
 rcases Bool.eq_false_or_eq_true (decide ((l.length:Int)>120))with h1|h1<;>simp only[h1]<;>rcases Bool.eq_false_or_eq_true ((List.range l.length).all (oM l))with h2|h2<;>simp only[h2]<;>rfl
theorem Wp(l:List ae.T)(hl:l.length≤1099511627776):mJ (l,())=some (bV l,()):=by
 have e:=fz (B:=ei) l.length (fun i=>(l,l,(l.length:Int),(i:Int),())) (oM l) (.inl (l,())) (.inr (false,())) (by simp only[ei,aK]) (fun i h=>by
  have hv:la ((l[i].1,l[i].2.1,l[i].2.2.1,(l[i].2.2.2.1.1,l[i].2.2.2.1.2.1,l[i].2.2.2.1.2.2.1,l[i].2.2.2.1.2.2.2.1,l[i].2.2.2.1.2.2.2.2.1,()),()),())=some (kE l[i],()):=Xo (l[i],())
  simp only[ei,aM h,av h hl,am h,aa,hv,oM,List.getElem?_eq_getElem h]
  rcases Bool.eq_false_or_eq_true (kE l[i])with h1|h1<;>simp only[h1,Bool.not_true,Bool.not_false,Bool.true_and,Bool.false_and]
  ·cases i with
   |zero=>rfl
   |succ k=>
    have hk:k<l.length:=by omega
    have hc:gX (l[k],(l[k+1].1,l[k+1].2.1,l[k+1].2.2.1,(l[k+1].2.2.2.1.1,l[k+1].2.2.2.1.2.1,l[k+1].2.2.2.1.2.2.1,l[k+1].2.2.2.1.2.2.2.1,l[k+1].2.2.2.1.2.2.2.2.1,()),()),())=some (l7 l[k] l[k+1],()):=Um (l[k],l[k+1],())
    simp only[Dh,xF (show k+1≤1099511627776 by omega),am hk,List.getElem?_eq_getElem hk,hc]
    rcases Bool.eq_false_or_eq_true (decide (l7 l[k] l[k+1]≥0))with h2|h2<;>simp only[h2]<;>rfl
  ·rfl)
 have e':ac ei (l,l,(l.length:Int),(0:Int),())=_:=e
 have hn:decide ((l.length:Int)≤120)= !decide ((l.length:Int)>120):=by
  by_cases h:(l.length:Int)≤120
  ·rw[decide_eq_true h,decide_eq_false (by omega)];rfl
  ·rw[decide_eq_false h,decide_eq_true (by omega)];rfl
 unfold mJ bV
 simp only[e']
 rcases Bool.eq_false_or_eq_true ((List.range l.length).all (oM l))with h2|h2<;>simp only[h2,if_true,Bool.and_true,Bool.and_false,hn]
 rfl
end Go.Proofs.YthfgmmmeplanbaaGreatDoor
namespace Go.Proofs.YthfgmmmeplanbaaGreatDoor
open Go.RowKit
set_option linter.unusedVariables false
set_option linter.unusedSimpArgs false
def fj(i r s:Int):Int:=(i*8+r)*16+s
def cF(v:ae.T):Int:=fj v.1 v.2.1 v.2.2.1
def Ph(v:ae.T):Prop:=(0≤v.1∧v.1≤15)∧(0≤v.2.1∧v.2.1≤7)∧(0≤v.2.2.1∧v.2.2.1≤15)
theorem pk {v:ae.T}(h:kE v=true):Ph v:=by
 unfold kE at h
 simp only[Bool.and_eq_true,bi]at h
 exact⟨h.1,h.2.1,h.2.2.1⟩
def U9(a b c a' b' c':Int):Int:=if a=a' then(if b=b' then pj c c' else pj b b')else pj a a'
theorem Pi(a b:Int):(a<b∧pj a b= -1)∨(a=b∧pj a b=0)∨(b<a∧pj a b=1):=by
 unfold pj
 by_cases h1:a<b
 ·exact .inl ⟨h1,if_pos h1⟩
 ·by_cases h2:a>b
  ·exact .inr (.inr ⟨h2,by rw[if_neg h1,if_pos h2]⟩)
  ·exact .inr (.inl ⟨by omega,by rw[if_neg h1,if_neg h2]⟩)
theorem RI(a b c a' b' c':Int)(hb:0≤b∧b≤7)(hc:0≤c∧c≤15)(hb':0≤b'∧b'≤7)(hc':0≤c'∧c'≤15):
  (U9 a b c a' b' c'=0↔fj a b c=fj a' b' c')∧(¬U9 a b c a' b' c'≥0→fj a b c<fj a' b' c'):=by
 unfold U9 fj
 by_cases h1:a=a'
 ·rw[if_pos h1]
  by_cases h2:b=b'
  ·rw[if_pos h2]
   rcases Pi c c' with⟨h,e⟩|⟨h,e⟩|⟨h,e⟩<;>rw[e]<;>omega
  ·rw[if_neg h2]
   rcases Pi b b' with⟨h,e⟩|⟨h,e⟩|⟨h,e⟩<;>rw[e]<;>omega
 ·rw[if_neg h1]
  rcases Pi a a' with⟨h,e⟩|⟨h,e⟩|⟨h,e⟩<;>rw[e]<;>omega
theorem Va {u v:ae.T}(hu:Ph u)(hv:Ph v):l7 u v=0↔cF u=cF v:=
 (RI u.1 u.2.1 u.2.2.1 v.1 v.2.1 v.2.2.1 hu.2.1 hu.2.2 hv.2.1 hv.2.2).1
theorem Xq {u v:ae.T}(hu:Ph u)(hv:Ph v)(h:¬l7 u v≥0):cF u<cF v:=
 (RI u.1 u.2.1 u.2.2.1 v.1 v.2.1 v.2.2.1 hu.2.1 hu.2.2 hv.2.1 hv.2.2).2 h
theorem gj {l:List ae.T}(h:bV l=true):∀v ∈ l,kE v=true:=by
 intro v hv
 unfold bV at h
 rw[Bool.and_eq_true,List.all_eq_true]at h
 obtain⟨i,hi,rfl⟩:=List.getElem_of_mem hv
 have:=h.2 i (by simpa using hi)
 unfold oM at this
 simp only[List.getElem?_eq_getElem hi,Bool.and_eq_true]at this
 exact this.1
theorem fE {l:List ae.T}(h:bV l=true):l.length≤120:=by
 unfold bV at h
 rw[Bool.and_eq_true]at h
 have:=h.1
 simp at this
 omega
theorem Jl {l:List ae.T}(h:bV l=true)(k:Nat)(hk:k+1<l.length):cF l[k]<cF l[k+1]:=by
 have hm:=gj h
 unfold bV at h
 rw[Bool.and_eq_true,List.all_eq_true]at h
 have:=h.2 (k+1) (by simpa using hk)
 unfold oM at this
 simp only[List.getElem?_eq_getElem hk,List.getElem?_eq_getElem (show k<l.length by omega),Bool.and_eq_true]at this
 refine Xq (pk (hm _ (List.getElem_mem _))) (pk (hm _ (List.getElem_mem _))) ?_
 simpa using this.2
theorem Pj {l:List ae.T}(h:bV l=true):∀(d i:Nat) (hd:i+d+1<l.length),cF l[i]<cF l[i+d+1]
 |0,i,hd=>Jl h i hd
 |d+1,i,hd=>Int.lt_trans (Pj h d i (by omega)) (Jl h (i+d+1) hd)
theorem Pk {l:List ae.T}(h:bV l=true):(l.map cF).Pairwise (· < ·):=by
 rw[List.pairwise_iff_getElem]
 intro i j hi hj hij
 rw[List.length_map]at hi hj
 obtain⟨d,rfl⟩:∃d,j=i+d+1:=⟨j-i-1,by omega⟩
 rw[List.getElem_map,List.getElem_map]
 exact Pj h d i hj
def ik(i R S:Nat):List Int:=(List.range R).flatMap fun(r:Nat)=>(List.range S).map fun(s:Nat)=>fj (i:Int) (r:Int) (s:Int)
def gP:Nat→List ao.T→List Int
 |_,[]=>[]
 |i,m::ms=>ik i m.1.toNat m.2.1.toNat++gP (i+1) ms
theorem KV(i S:Nat)(hS:0<S):∀R,ik i R S=(List.range (R*S)).map fun(q:Nat)=>fj (i:Int) ((q / S:Nat):Int) ((q % S:Nat):Int)
 |0=>by simp[ik]
 |R+1=>by
  have ih:=KV i S hS R
  unfold ik at ih ⊢
  rw[List.range_succ,List.flatMap_append,ih,Nat.add_mul,Nat.one_mul,List.range_add,List.map_append,List.map_map]
  congr 1
  rw[List.flatMap_cons,List.flatMap_nil,List.append_nil]
  apply List.map_congr_left
  intro s hs
  have hs:s<S:=by simpa using hs
  have h1:(R*S+s) / S=R:=by rw[Nat.mul_comm,Nat.mul_add_div hS,Nat.div_eq_of_lt hs,Nat.add_zero]
  have h2:(R*S+s) % S=s:=by rw[Nat.mul_comm,Nat.mul_add_mod,Nat.mod_eq_of_lt hs]
  simp only[Function.comp,h1,h2]
theorem yJ(i R S:Nat)(hS:0<S):(ik i R S).length=R*S:=by rw[KV i S hS,List.length_map,List.length_range]
theorem RJ {i R S:Nat}(hR:R≤8)(hS:S≤16):∀k ∈ ik i R S,(i:Int)*128≤k∧k<((i:Int)+1)*128:=by
 intro k hk
 simp only[ik,List.mem_flatMap,List.mem_map,List.mem_range]at hk
 obtain⟨r,hr,s,hs,rfl⟩:=hk
 unfold fj
 omega
theorem QQ {i R S:Nat}(hS:S≤16):(ik i R S).Pairwise (· < ·):=by
 unfold ik
 rw[List.pairwise_flatMap]
 constructor
 ·intro r hr
  rw[List.pairwise_map]
  exact List.Pairwise.imp (fun {a b} h=>by unfold fj;omega) List.pairwise_lt_range
 ·refine List.Pairwise.imp (fun {a b} h x hx y hy=> ?_) List.pairwise_lt_range
  simp only[List.mem_map,List.mem_range]at hx hy
  obtain⟨s,hs,rfl⟩:=hx
  obtain⟨t,ht,rfl⟩:=hy
  unfold fj
  omega
def Jm(m:ao.T):Prop:=(1≤m.1∧m.1≤8)∧(1≤m.2.1∧m.2.1≤16)
theorem lr {m:ao.T}(h:Jm m):(1≤m.1.toNat∧m.1.toNat≤8)∧(1≤m.2.1.toNat∧m.2.1.toNat≤16)∧(m.1=((m.1.toNat:Nat):Int)∧m.2.1=((m.2.1.toNat:Nat):Int)):=by
 obtain⟨(a:Int),(b:Int),c⟩:=m
 obtain⟨⟨h1,h2⟩,h3,h4⟩:=h
 have h1:(1:Int)≤a:=h1
 have h2:a≤(8:Int):=h2
 have h3:(1:Int)≤b:=h3
 have h4:b≤(16:Int):=h4
 exact⟨⟨by show 1≤a.toNat;omega,by show a.toNat≤8;omega⟩,⟨by show 1≤b.toNat;omega,by show b.toNat≤16;omega⟩,(Int.toNat_of_nonneg (show(0:Int)≤a by omega)).symm,(Int.toNat_of_nonneg (show(0:Int)≤b by omega)).symm⟩
theorem RK:∀(ms:List ao.T) (i:Nat),(∀m ∈ ms,Jm m)→∀k ∈ gP i ms,(i:Int)*128≤k
 | [],i,_,k,hk=>by simp[gP]at hk
 |m::ms,i,h,k,hk=>by
  simp only[gP,List.mem_append]at hk
  have hm:=lr (h m (by simp))
  rcases hk with hk|hk
  ·exact(RJ (by omega) (by omega) k hk).1
  ·have:=RK ms (i+1) (fun m hm=>h m (by simp[hm])) k hk
   omega
theorem EO:∀(ms:List ao.T) (i:Nat),(∀m ∈ ms,Jm m)→(gP i ms).Pairwise (· < ·)
 | [],i,_=>List.Pairwise.nil
 |m::ms,i,h=>by
  have hm:=lr (h m (by simp))
  simp only[gP]
  rw[List.pairwise_append]
  refine⟨QQ (by omega),EO ms (i+1) (fun m hm=>h m (by simp[hm])),fun a ha b hb=> ?_⟩
  have h1:=RJ (R:=m.1.toNat) (S:=m.2.1.toNat) (by omega) (by omega) a ha
  have h2:=RK ms (i+1) (fun m hm=>h m (by simp[hm])) b hb
  omega
theorem Pl:∀(K E:List Int),K.Pairwise (· < ·)→E.Pairwise (· < ·)→(∀x ∈ E,x ∈ K)→E.length≤K.length∧(E.length=K.length→K=E)
 | [],[],_,_,_=>⟨Nat.le_refl _,fun _=>rfl⟩
 | [],e::E,_,_,h=>absurd (h e (by simp)) (by simp)
 |k::K,[],_,_,_=>⟨by simp,fun h=>by simp at h⟩
 |k::K,e::E,hK,hE,h=>by
  rw[List.pairwise_cons]at hK hE
  by_cases he:e=k
  ·subst he
   have:=Pl K E hK.2 hE.2 (fun x hx=>by
    have h1:=h x (by simp[hx])
    have h2:=hE.1 x hx
    rw[List.mem_cons]at h1
    rcases h1 with h1|h1
    ·omega
    ·exact h1)
   refine⟨by simp;exact this.1,fun hl=> ?_⟩
   rw[this.2 (by simpa using hl)]
  ·have hek:k<e:=by
    have h1:=h e (by simp)
    rw[List.mem_cons]at h1
    rcases h1 with h1|h1
    ·exact absurd h1 he
    ·exact hK.1 e h1
   have:=Pl K (e::E) hK.2 (List.pairwise_cons.2 hE) (fun x hx=>by
    have h1:=h x hx
    rw[List.mem_cons]at h1
    rcases h1 with h1|h1
    ·rw[List.mem_cons]at hx
     rcases hx with hx|hx
     ·omega
     ·have:=hE.1 x hx
      omega
    ·exact h1)
   refine⟨by simp at this ⊢;omega,fun hl=> ?_⟩
   have h1:=this.1
   simp at h1 hl
   omega
theorem Wq(K E:List Int)(hK:K.Pairwise (· < ·))(hE:E.Pairwise (· < ·)):decide (K=E)=(E.all (fun x=>decide (x ∈ K))&&decide (E.length=K.length)):=by
 by_cases h:K=E
 ·subst h
  rw[decide_eq_true rfl,decide_eq_true rfl]
  simp
 ·rw[decide_eq_false h]
  by_cases h1:E.all (fun x=>decide (x ∈ K))=true
  ·have h2:∀x ∈ E,x ∈ K:=fun x hx=>by
    have:=List.all_eq_true.1 h1 x hx
    simpa using this
   have h3:=(Pl K E hK hE h2).2
   have h4:¬E.length=K.length:=fun e=>h (h3 e)
   rw[decide_eq_false h4,Bool.and_false]
  ·rw[Bool.eq_false_iff.2 h1,Bool.false_and]
end Go.Proofs.YthfgmmmeplanbaaGreatDoor
namespace Go.Proofs.YthfgmmmeplanbaaGreatDoor
open Go.RowKit
set_option linter.unusedVariables false
set_option linter.unusedSimpArgs false
theorem fk {l:List ao.T}(h:eT l=true):l.length≤16∧∀m ∈ l,Jm m:=by
 unfold eT at h
 rw[Bool.and_eq_true,List.all_eq_true]at h
 refine⟨by have:=(bi.1 h.1).2;omega,fun m hm=> ?_⟩
 obtain⟨i,hi,rfl⟩:=List.getElem_of_mem hm
 have:=h.2 i (by simpa using hi)
 unfold qk at this
 simp only[List.getElem?_eq_getElem hi,Bool.and_eq_true,bi]at this
 exact⟨this.1,this.2.1⟩
def iw(a b c:Int)(v:ae.T):Bool:=(v.1==a)&&((v.2.1==b)&&(v.2.2.1==c))
def pC(l:List ae.T)(a b c:Int):Int:=match bJ (iw a b c) 0 l with
 |none=>-1
 |some j=>(j:Int)
theorem RL(l:List ae.T)(a b c:Int)(hl:l.length≤1099511627776):pU (l,a,b,c,())=some (pC l a b c,()):=by
 have e:=m6 (B:=gt) l (fun i=>(l,a,b,c,(i:Int),())) (iw a b c) (.inl ()) (fun j=>.inr ((j:Int),())) (by simp only[gt,aK]) (fun i h=>by
  simp only[gt,aM h,av h hl,am h,aa,iw]
  rcases Bool.eq_false_or_eq_true (l[i].1==a)with h1|h1<;>rcases Bool.eq_false_or_eq_true (l[i].2.1==b)with h2|h2<;>rcases Bool.eq_false_or_eq_true (l[i].2.2.1==c)with h3|h3<;>simp only[h1,h2,h3]<;>rfl)
 have e':ac gt (l,a,b,c,(0:Int),())=_:=e
 unfold pU pC
 simp only[e']
 cases bJ (iw a b c) 0 l<;>rfl
theorem RM(l:List ae.T)(a b c:Int)(hl:l.length≤1099511627776):lH (l,a,b,c,())=some (pC l a b c,()):=by
 have e:=xA l hl (fun z=>ou (z.1,a,b,c,())) (iw a b c) (fun i h=>by
  unfold ou iw
  rcases Bool.eq_false_or_eq_true (l[i].1==a)with h1|h1<;>rcases Bool.eq_false_or_eq_true (l[i].2.1==b)with h2|h2<;>rcases Bool.eq_false_or_eq_true (l[i].2.2.1==c)with h3|h3<;>simp only[h1,h2,h3]<;>rfl)
 unfold lH pC
 simp only[e]
 cases bJ (iw a b c) 0 l<;>rfl
theorem Di {a b c:Int}{v:ae.T}(hv:Ph v)(hb:0≤b∧b≤7)(hc:0≤c∧c≤15):iw a b c v=true↔cF v=fj a b c:=by
 obtain⟨(a':Int),(b':Int),(c':Int),d⟩:=v
 have h2:0≤b'∧b'≤7:=hv.2.1
 have h3:0≤c'∧c'≤15:=hv.2.2
 unfold iw cF fj
 simp only[Bool.and_eq_true,beq_iff_eq]
 constructor
 ·rintro ⟨h1,h2,h3⟩
  have h1:a'=a:=h1
  have h2:b'=b:=h2
  have h3:c'=c:=h3
  rw[h1,h2,h3]
 ·intro h
  have h1:a'=a:=by omega
  have h2:b'=b:=by omega
  have h3:c'=c:=by omega
  exact⟨h1,h2,h3⟩
theorem Pm {l:List ae.T}(hl:∀v ∈ l,Ph v){a b c:Int}(hb:0≤b∧b≤7)(hc:0≤c∧c≤15):decide (pC l a b c<0)= !decide (fj a b c ∈ l.map cF):=by
 have h:=gM (iw a b c) 0 l
 have e:l.any (iw a b c)=decide (fj a b c ∈ l.map cF):=by
  by_cases hm:fj a b c ∈ l.map cF
  ·rw[decide_eq_true hm,List.any_eq_true]
   obtain⟨v,hv,e⟩:=List.mem_map.1 hm
   exact⟨v,hv,(Di (hl v hv) hb hc).2 e⟩
  ·rw[decide_eq_false hm,Bool.eq_false_iff]
   intro h
   obtain⟨v,hv,e⟩:=List.any_eq_true.1 h
   exact hm (List.mem_map.2 ⟨v,hv,(Di (hl v hv) hb hc).1 e⟩)
 rw[←e,←h]
 unfold pC
 cases bJ (iw a b c) 0 l with
 |none=>rfl
 |some j=>simp
def SQ(o:(Ty.pair (.box ag) (.pair (.int .i64) .unit)).T ⊕ (Ty.pair .bool .unit).T):Bool:=match o with
 | .inl v=>v.2.1==(v.1.2.2.2.1.length:Int)
 | .inr v=>v.1
theorem X4(m:ag.T)(hs:bV m.2.2.2.1=true)(i R S:Nat)(hi:i≤15)(hR:R≤8)(hS:1≤S∧S≤16)(sw:List Int)(ms:List ao.T)(N:Int):
  ∀(n k j:Nat),k+n=R*S→j≤m.2.2.2.1.length→ac dF (m,(j:Int),(i:Int),((R:Int),(S:Int),sw,()),ms,N,(i:Int),((R*S:Nat):Int),(k:Int),())=some (if((m.2.2.2.1.map cF).drop j).take n=(List.range' k n).map (fun(q:Nat)=>fj (i:Int) ((q / S:Nat):Int) ((q % S:Nat):Int))then .inl (m,((j+n:Nat):Int),ms,N,(i:Int),())else .inr (false,())):=by
 have hRS:R*S≤128:=Nat.le_trans (Nat.mul_le_mul hR hS.2) (by omega)
 have hlen:=fE hs
 have hmem:=gj hs
 intro n
 induction n with
 |zero=>
  intro k j hk hj
  have hk:k=R*S:=by omega
  subst hk
  rw[an]
  simp only[dF,aK]
  simp
 |succ n ih=>
  intro k j hk hj
  have hkT:k<R*S:=by omega
  have hS0:¬((S:Int)=0):=by omega
  have d1:IntKind.i64.wrap (Int.tdiv (k:Int) (S:Int))=((k / S:Nat):Int):=by
   rw[Int.tdiv_eq_ediv_of_nonneg (by omega),←Int.natCast_ediv]
   have:k / S≤k:=Nat.div_le_self _ _
   generalize k / S=q at this ⊢
   rw[wrap_i64]<;>omega
  have d2:Int.tmod (k:Int) (S:Int)=((k % S:Nat):Int):=by
   rw[Int.tmod_eq_emod_of_nonneg (by omega),←Int.natCast_emod]
  have hq1:k / S<R:=(Nat.div_lt_iff_lt_mul (by omega)).2 (by omega)
  have hq2:k % S<S:=Nat.mod_lt _ (by omega)
  have q7:k / S≤7:=Nat.le_of_lt_succ (Nat.lt_of_lt_of_le hq1 hR)
  have q15:k % S≤15:=Nat.le_of_lt_succ (Nat.lt_of_lt_of_le hq2 hS.2)
  by_cases hjl:j=m.2.2.2.1.length
  ·subst hjl
   have e1:((m.2.2.2.1.length:Int)==(m.2.2.2.1.length:Int))=true:=by simp
   rw[an]
   simp only[dF,aM hkT,e1]
   rw[if_neg]
   rw[List.drop_of_length_le (by simp)]
   simp[List.range'_succ]
  ·have hjl:j<m.2.2.2.1.length:=by omega
   have e1:((j:Int)==(m.2.2.2.1.length:Int))=false:=by rw[beq_eq_false_iff_ne];omega
   have hin:=pk (hmem _ (List.getElem_mem hjl))
   have hz:=Va (u:=m.2.2.2.1[j]) (v:=((i:Int),((k / S:Nat):Int),((k % S:Nat):Int),((0:Int),(0:Int),(0:Int),(0:Int),false,()),())) hin ⟨⟨by show(0:Int)≤(i:Int);omega,by show(i:Int)≤15;omega⟩,⟨Int.natCast_nonneg (k / S),Int.ofNat_le.2 q7⟩,Int.natCast_nonneg (k % S),Int.ofNat_le.2 q15⟩
   have hK:(m.2.2.2.1.map cF).drop j=cF m.2.2.2.1[j]::(m.2.2.2.1.map cF).drop (j+1):=by
    rw[List.drop_eq_getElem_cons (by simpa using hjl),List.getElem_map]
   have hkey:cF ((i:Int),((k / S:Nat):Int),((k % S:Nat):Int),((0:Int),(0:Int),(0:Int),(0:Int),false,()),())=fj (i:Int) ((k / S:Nat):Int) ((k % S:Nat):Int):=rfl
   rw[hkey]at hz
   have hih:=ih (k+1) (j+1) (by omega) (by omega)
   rw[hK,List.take_succ_cons,List.range'_succ,List.map_cons,an]
   simp only[dF,aM hkT,e1,am hjl,aa,hS0,if_false,d1,d2,Um,av hkT (by omega),av hjl (by omega)]
   by_cases hc:l7 m.2.2.2.1[j] ((i:Int),((k / S:Nat):Int),((k % S:Nat):Int),((0:Int),(0:Int),(0:Int),(0:Int),false,()),())=0
   ·have g:(l7 m.2.2.2.1[j] ((i:Int),((k / S:Nat):Int),((k % S:Nat):Int),((0:Int),(0:Int),(0:Int),(0:Int),false,()),()) != 0)=false:=by rw[hc];rfl
    have g2:=hz.1 hc
    simp only[g,g2,List.cons.injEq,true_and]
    have ha:j+1+n=j+(n+1):=by omega
    rw[ha]at hih
    exact hih
   ·have g:(l7 m.2.2.2.1[j] ((i:Int),((k / S:Nat):Int),((k % S:Nat):Int),((0:Int),(0:Int),(0:Int),(0:Int),false,()),()) != 0)=true:=by simpa using hc
    have g2:¬cF m.2.2.2.1[j]=fj (i:Int) ((k / S:Nat):Int) ((k % S:Nat):Int):=fun e=>hc (hz.2 e)
    simp only[g,List.cons.injEq,g2,false_and,if_false]
theorem Xr(m:ag.T)(hs:bV m.2.2.2.1=true)(hm:eT m.2.2.1=true):
  ∀(n i j:Nat),i+n=m.2.2.1.length→j≤m.2.2.2.1.length→∃o,ac cY (m,(j:Int),m.2.2.1,(m.2.2.1.length:Int),(i:Int),())=some o∧SQ o=decide ((m.2.2.2.1.map cF).drop j=gP i (m.2.2.1.drop i)):=by
 obtain⟨hl16,hg⟩:=fk hm
 have hlen:=fE hs
 intro n
 induction n with
 |zero=>
  intro i j hi hj
  have hi:i=m.2.2.1.length:=by omega
  subst hi
  refine⟨.inl (m,(j:Int),()), ?_, ?_⟩
  ·rw[an]
   simp only[cY,aK]
  ·rw[List.drop_length]
   show((j:Int)==(m.2.2.2.1.length:Int))=decide ((m.2.2.2.1.map cF).drop j= [])
   have:(m.2.2.2.1.map cF).drop j= []↔j=m.2.2.2.1.length:=by
    rw[List.drop_eq_nil_iff,List.length_map]
    omega
   by_cases h:j=m.2.2.2.1.length
   ·rw[decide_eq_true (this.2 h),h];simp
   ·rw[decide_eq_false (fun e=>h (this.1 e)),beq_eq_false_iff_ne];omega
 |succ n ih=>
  intro i j hi hj
  have hil:i<m.2.2.1.length:=by omega
  have hgi:=lr (hg _ (List.getElem_mem hil))
  obtain⟨R,hR⟩:∃R,R=m.2.2.1[i].1.toNat:=⟨_,rfl⟩
  obtain⟨S,hS⟩:∃S,S=m.2.2.1[i].2.1.toNat:=⟨_,rfl⟩
  rw[←hR,←hS]at hgi
  have hRS:R*S≤128:=Nat.le_trans (Nat.mul_le_mul hgi.1.2 hgi.2.1.2) (by omega)
  have hw:IntKind.i64.wrap ((R:Int)*(S:Int))=((R*S:Nat):Int):=by
   rw[←Int.natCast_mul,wrap_i64]<;>omega
  have h0:=X4 m hs i R S (by omega) hgi.1.2 hgi.2.1 m.2.2.1[i].2.2.1 m.2.2.1 (m.2.2.1.length:Int) (R*S) 0 j (by omega) hj
  rw[←List.range_eq_range',←KV i S (by omega) R]at h0
  have hE:gP i (m.2.2.1.drop i)=ik i R S++gP (i+1) (m.2.2.1.drop (i+1)):=by
   rw[List.drop_eq_getElem_cons hil,hR,hS]
   rfl
  have hstep:ac cY (m,(j:Int),m.2.2.1,(m.2.2.1.length:Int),(i:Int),())=if((m.2.2.2.1.map cF).drop j).take (R*S)=ik i R S then ac cY (m,((j+R*S:Nat):Int),m.2.2.1,(m.2.2.1.length:Int),((i+1:Nat):Int),())else some (.inr (false,())):=by
   have h0':ac dF (m,(j:Int),(i:Int),((R:Int),(S:Int),m.2.2.1[i].2.2.1,()),m.2.2.1,(m.2.2.1.length:Int),(i:Int),((R*S:Nat):Int),(0:Int),())=_:=h0
   rw[an]
   simp only[cY,aM hil,am hil,aa,hgi.2.2.1,hgi.2.2.2,hw]
   rw[h0']
   by_cases hc:((m.2.2.2.1.map cF).drop j).take (R*S)=ik i R S
   ·simp only[if_pos hc,av hil (show m.2.2.1.length≤1099511627776 by omega)]
   ·simp only[if_neg hc]
  rw[hstep]
  by_cases hc:((m.2.2.2.1.map cF).drop j).take (R*S)=ik i R S
  ·have hj2:j+R*S≤m.2.2.2.1.length:=by
    have:=congrArg List.length hc
    rw[yJ i R S (by omega),List.length_take,List.length_drop,List.length_map]at this
    have h1:1≤R*S:=Nat.mul_pos hgi.1.1 hgi.2.1.1
    omega
   obtain⟨o,ho1,ho2⟩:=ih (i+1) (j+R*S) (by omega) hj2
   refine⟨o,by rw[if_pos hc];exact ho1, ?_⟩
   rw[ho2,hE,decide_eq_decide]
   have e:(m.2.2.2.1.map cF).drop j=ik i R S++(m.2.2.2.1.map cF).drop (j+R*S):=by
    rw[←hc,←List.drop_drop]
    exact(List.take_append_drop _ _).symm
   rw[e]
   exact(List.append_right_inj _).symm
  ·refine⟨.inr (false,()),by rw[if_neg hc], ?_⟩
   show false=_
   rw[hE,eq_comm,decide_eq_false_iff_not]
   intro e
   apply hc
   rw[e,List.take_append_of_le_length (by rw[yJ i R S (by omega)];exact Nat.le_refl _),List.take_of_length_le (by rw[yJ i R S (by omega)];exact Nat.le_refl _)]
noncomputable def dK(m:ag.T):Bool:=decide (m.2.2.2.1.map cF=gP 0 m.2.2.1)
theorem SR(m:ag.T)(hs:bV m.2.2.2.1=true)(hm:eT m.2.2.1=true):lc (m,())=some (dK m,()):=by
 obtain⟨o,h1,h2⟩:=Xr m hs hm m.2.2.1.length 0 0 (by omega) (by omega)
 have h1:ac cY ((m.1,m.2.1,m.2.2.1,m.2.2.2.1,()),(0:Int),m.2.2.1,(m.2.2.1.length:Int),(0:Int),())=some o:=h1
 have h2:SQ o=dK m:=h2
 rw[←h2]
 unfold lc
 simp only[h1]
 cases o<;>rfl
end Go.Proofs.YthfgmmmeplanbaaGreatDoor
namespace Go.Proofs.YthfgmmmeplanbaaGreatDoor
open Go.RowKit
set_option linter.unusedVariables false
set_option linter.unusedSimpArgs false
def EP(K:List Int)(k:Int):Bool:=decide (k ∈ K)
theorem Ws(K:List Int)(i R S:Nat):(ik i R S).all (EP K)=(List.range' 0 R).all (fun(r:Nat)=>(List.range' 0 S).all (fun(s:Nat)=>EP K (fj (i:Int) (r:Int) (s:Int)))):=by
 unfold ik
 rw[List.all_flatMap,List.range_eq_range']
 congr 1
 funext r
 rw[List.all_map,List.range_eq_range']
 rfl
theorem Xs(m:ag.T)(hs:bV m.2.2.2.1=true)(i r S:Nat)(hil:i<m.2.2.1.length)(hr:r≤7)(hS:S≤16)(hm:m.2.2.1[i].2.1=(S:Int)):
  ∀(n s c:Nat),s+n=S→c+n≤1000100→ac d9 (m,(c:Int),(i:Int),(r:Int),(s:Int),())=some (if(List.range' s n).all (fun(s:Nat)=>EP (m.2.2.2.1.map cF) (fj (i:Int) (r:Int) (s:Int)))=true then .inl (m,((c+n:Nat):Int),(i:Int),(r:Int),())else .inr (false,())):=by
 have hlen:=fE hs
 have hmem:=gj hs
 intro n
 induction n with
 |zero=>
  intro s c h hc
  have h:s=S:=by omega
  subst h
  rw[an]
  simp only[d9,am hil,aa,hm,aK]
  simp
 |succ n ih=>
  intro s c h hc
  have hsS:s<S:=by omega
  have hf:=RL m.2.2.2.1 (i:Int) (r:Int) (s:Int) (by omega)
  have hn:=Pm (fun v hv=>pk (hmem v hv)) (a:=(i:Int)) (b:=(r:Int)) (c:=(s:Int)) ⟨by omega,by omega⟩ ⟨by omega,by omega⟩
  have hih:=ih (s+1) (c+1) (by omega) (by omega)
  have hw:IntKind.i64.wrap ((c:Int)+1)=((c+1:Nat):Int):=by rw[wrap_i64]<;>omega
  rw[List.range'_succ,List.all_cons,an]
  simp only[d9,am hil,aa,hm,aM hsS,hf,hn,hw,av hsS (show S≤1099511627776 by omega)]
  have hp:EP (m.2.2.2.1.map cF) (fj (i:Int) (r:Int) (s:Int))=decide (fj (i:Int) (r:Int) (s:Int) ∈ m.2.2.2.1.map cF):=rfl
  rw[hp]
  rcases Bool.eq_false_or_eq_true (decide (fj (i:Int) (r:Int) (s:Int) ∈ m.2.2.2.1.map cF))with g|g<;>simp only[g,Bool.not_true,Bool.not_false,Bool.true_and,Bool.false_and]
  ·have ha:c+1+n=c+(n+1):=by omega
   rw[ha]at hih
   exact hih
  ·rfl
theorem Xt(m:ag.T)(hs:bV m.2.2.2.1=true)(i R S:Nat)(hil:i<m.2.2.1.length)(hR:R≤8)(hS:S≤16)(hm1:m.2.2.1[i].1=(R:Int))(hm:m.2.2.1[i].2.1=(S:Int)):
  ∀(n r c:Nat),r+n=R→c+n*16≤1000000→ac ef (m,(c:Int),(i:Int),(r:Int),())=some (if(List.range' r n).all (fun(r:Nat)=>(List.range' 0 S).all (fun(s:Nat)=>EP (m.2.2.2.1.map cF) (fj (i:Int) (r:Int) (s:Int))))=true then .inl (m,((c+n*S:Nat):Int),(i:Int),())else .inr (false,())):=by
 intro n
 induction n with
 |zero=>
  intro r c h hc
  have h:r=R:=by omega
  subst h
  rw[an]
  simp only[ef,am hil,aa,hm1,aK]
  simp
 |succ n ih=>
  intro r c h hc
  have hrR:r<R:=by omega
  have h9:=Xs m hs i r S hil (by omega) hS hm S 0 c (by omega) (by omega)
  have h9':ac d9 ((m.1,m.2.1,m.2.2.1,m.2.2.2.1,()),(c:Int),(i:Int),(r:Int),(0:Int),())=_:=h9
  have hnS:n*S≤n*16:=Nat.mul_le_mul_left n hS
  have hih:=ih (r+1) (c+S) (by omega) (by rw[Nat.add_mul]at hc;omega)
  rw[List.range'_succ,List.all_cons,an]
  simp only[ef,am hil,aa,hm1,aM hrR]
  rw[h9']
  rcases Bool.eq_false_or_eq_true ((List.range' 0 S).all (fun(s:Nat)=>EP (m.2.2.2.1.map cF) (fj (i:Int) (r:Int) (s:Int))))with g|g<;>simp only[g,Bool.true_and,Bool.false_and,if_true,av hrR (show R≤1099511627776 by omega)]
  ·have ha:c+S+n*S=c+(n+1)*S:=by rw[Nat.add_mul];omega
   rw[ha]at hih
   exact hih
  ·rfl
theorem Xu(m:ag.T)(hs:bV m.2.2.2.1=true)(hm:eT m.2.2.1=true):
  ∀(n i c:Nat),i+n=m.2.2.1.length→c≤128*i→∃o,ac cI (m,(c:Int),(i:Int),())=some o∧SQ o=((gP i (m.2.2.1.drop i)).all (EP (m.2.2.2.1.map cF))&&decide (c+(gP i (m.2.2.1.drop i)).length=m.2.2.2.1.length)):=by
 obtain⟨hl16,hg⟩:=fk hm
 have hlen:=fE hs
 intro n
 induction n with
 |zero=>
  intro i c hi hc
  have hi:i=m.2.2.1.length:=by omega
  subst hi
  refine⟨.inl (m,(c:Int),()), ?_, ?_⟩
  ·rw[an]
   simp only[cI,aK]
  ·rw[List.drop_length]
   show((c:Int)==(m.2.2.2.1.length:Int))=(true&&decide (c+0=m.2.2.2.1.length))
   rw[Bool.true_and,Nat.add_zero]
   by_cases h:c=m.2.2.2.1.length
   ·rw[decide_eq_true h,h];simp
   ·rw[decide_eq_false h,beq_eq_false_iff_ne];omega
 |succ n ih=>
  intro i c hi hc
  have hil:i<m.2.2.1.length:=by omega
  have hgi:=lr (hg _ (List.getElem_mem hil))
  obtain⟨R,hR⟩:∃R,R=m.2.2.1[i].1.toNat:=⟨_,rfl⟩
  obtain⟨S,hS⟩:∃S,S=m.2.2.1[i].2.1.toNat:=⟨_,rfl⟩
  rw[←hR,←hS]at hgi
  have hRS:R*S≤128:=Nat.le_trans (Nat.mul_le_mul hgi.1.2 hgi.2.1.2) (by omega)
  have h6:=Xt m hs i R S hil hgi.1.2 hgi.2.1.2 hgi.2.2.1 hgi.2.2.2 R 0 c (by omega) (by omega)
  have h6':ac ef ((m.1,m.2.1,m.2.2.1,m.2.2.2.1,()),(c:Int),(i:Int),(0:Int),())=_:=h6
  rw[←Ws]at h6'
  have hE:gP i (m.2.2.1.drop i)=ik i R S++gP (i+1) (m.2.2.1.drop (i+1)):=by
   rw[List.drop_eq_getElem_cons hil,hR,hS]
   rfl
  have hstep:ac cI (m,(c:Int),(i:Int),())=if(ik i R S).all (EP (m.2.2.2.1.map cF))=true then ac cI (m,((c+R*S:Nat):Int),((i+1:Nat):Int),())else some (.inr (false,())):=by
   rw[an]
   simp only[cI,aM hil]
   rw[h6']
   by_cases hc:(ik i R S).all (EP (m.2.2.2.1.map cF))=true
   ·simp only[if_pos hc,av hil (show m.2.2.1.length≤1099511627776 by omega)]
   ·simp only[if_neg hc]
  rw[hstep,hE,List.all_append,List.length_append,yJ i R S (by omega)]
  by_cases hq:(ik i R S).all (EP (m.2.2.2.1.map cF))=true
  ·obtain⟨o,ho1,ho2⟩:=ih (i+1) (c+R*S) (by omega) (by omega)
   refine⟨o,by rw[if_pos hq];exact ho1, ?_⟩
   rw[ho2,hq,Bool.true_and,Nat.add_assoc]
  ·refine⟨.inr (false,()),by rw[if_neg hq], ?_⟩
   rw[Bool.eq_false_iff.2 hq,Bool.false_and,Bool.false_and]
   rfl
theorem SS(m:ag.T)(hs:bV m.2.2.2.1=true)(hm:eT m.2.2.1=true):kb (m,())=some (dK m,()):=by
 obtain⟨o,h1,h2⟩:=Xu m hs hm m.2.2.1.length 0 0 (by omega) (by omega)
 have h1:ac cI ((m.1,m.2.1,m.2.2.1,m.2.2.2.1,()),(0:Int),(0:Int),())=some o:=h1
 have h3:dK m=SQ o:=by
  rw[h2]
  unfold dK
  rw[Wq _ _ (Pk hs) (EO _ 0 (fk hm).2),Nat.zero_add,List.length_map]
  rfl
 rw[h3]
 unfold kb
 simp only[h1]
 cases o<;>rfl
end Go.Proofs.YthfgmmmeplanbaaGreatDoor
namespace Go.Proofs.YthfgmmmeplanbaaGreatDoor
open Go.RowKit
set_option linter.unusedVariables false
set_option linter.unusedSimpArgs false
theorem m8 {S X O T:Type}{B:X→Option (X ⊕ O)}(l:List T)(e:S→Nat→X)(g:S→T→S)(fin:S→O)(P:S→Prop)(hP:∀s,∀v ∈ l,P s→P (g s v))(hend:∀s,P s→B (e s l.length)=some (.inr (fin s)))
  (hstep:∀s i (h:i<l.length),P s→B (e s i)=some (.inl (e (g s l[i]) (i+1)))):∀(n i:Nat) (s:S),i+n=l.length→P s→ac B (e s i)=some (fin ((l.drop i).foldl g s))
 |0,i,s,hi,hs=>by
  have hi:i=l.length:=by omega
  subst hi
  rw[an,hend s hs,List.drop_length]
  rfl
 |n+1,i,s,hi,hs=>by
  have h:i<l.length:=by omega
  rw[an,hstep s i h hs,List.drop_eq_getElem_cons h]
  exact m8 l e g fin P hP hend hstep n (i+1) _ (by omega) (hP s _ (List.getElem_mem h) hs)
theorem nz {S T:Type}{g:S→T→S}{P:S→Prop}:∀(l:List T) (s:S),(∀s,∀v ∈ l,P s→P (g s v))→P s→P (l.foldl g s)
 | [],s,_,h=>h
 |v::l,s,hP,h=>nz l _ (fun s u hu=>hP s u (by simp[hu])) (hP s v (by simp) h)
theorem Pn(a b:Nat)(ha:a<9223372036854775808)(hb:b<9223372036854775808):bits .or .i64 (a:Int) (b:Int)=((a|||b:Nat):Int):=by
 have hx:a|||b<2^63:=Nat.or_lt_two_pow (by omega) (by omega)
 have h1:(BitVec.ofInt 64 (a:Int)).toNat=a:=by
  rw[BitVec.ofInt_natCast,BitVec.toNat_ofNat];exact Nat.mod_eq_of_lt (by omega)
 have h2:(BitVec.ofInt 64 (b:Int)).toNat=b:=by
  rw[BitVec.ofInt_natCast,BitVec.toNat_ofNat];exact Nat.mod_eq_of_lt (by omega)
 show IntKind.i64.wrap ((BitVec.ofInt 64 (a:Int)|||BitVec.ofInt 64 (b:Int)).toNat:Int)=_
 rw[BitVec.toNat_or,h1,h2,wrap_i64]<;>omega
theorem ER(a b:Nat)(ha:a<9223372036854775808)(hb:b<9223372036854775808):(bits .andNot .i64 (a:Int) (b:Int)==0)=decide (a&&& b=a):=by
 have h1:BitVec.ofInt 64 (a:Int)=BitVec.ofNat 64 a:=BitVec.ofInt_natCast ..
 have h2:BitVec.ofInt 64 (b:Int)=BitVec.ofNat 64 b:=BitVec.ofInt_natCast ..
 have e:bits .andNot .i64 (a:Int) (b:Int)=IntKind.i64.wrap ((BitVec.ofNat 64 a&&& ~~~ BitVec.ofNat 64 b).toNat:Int):=by
  rw[←h1,←h2];rfl
 have ha':(BitVec.ofNat 64 a).toNat=a:=by rw[BitVec.toNat_ofNat];exact Nat.mod_eq_of_lt (by omega)
 have hle:(BitVec.ofNat 64 a&&& ~~~ BitVec.ofNat 64 b).toNat≤a:=by
  rw[BitVec.toNat_and,ha']
  exact Nat.and_le_left
 have hz:(BitVec.ofNat 64 a&&& ~~~ BitVec.ofNat 64 b).toNat=0↔a&&& b=a:=by
  constructor
  ·intro h
   have h0:BitVec.ofNat 64 a&&& ~~~ BitVec.ofNat 64 b=0#64:=BitVec.eq_of_toNat_eq (by rw[h];rfl)
   apply Nat.eq_of_testBit_eq
   intro i
   rw[Nat.testBit_and]
   by_cases hi:i<64
   ·have:=congrArg (fun z:BitVec 64=>z.getLsbD i) h0
    simp only[BitVec.getLsbD_and,BitVec.getLsbD_not,BitVec.getLsbD_ofNat,BitVec.getLsbD_zero,hi,decide_true,Bool.true_and]at this
    cases h5:a.testBit i<;>cases h6:b.testBit i<;>simp[h5,h6]at this ⊢
   ·have:a.testBit i=false:=Nat.testBit_lt_two_pow (Nat.lt_of_lt_of_le ha (Nat.le_trans (by decide:9223372036854775808≤2^64) (Nat.pow_le_pow_right (by omega) (by omega))))
    rw[this];rfl
  ·intro h
   have h0:BitVec.ofNat 64 a&&& ~~~ BitVec.ofNat 64 b=0#64:=by
    apply BitVec.eq_of_getLsbD_eq
    intro i hi
    have:=congrArg (fun z:Nat=>z.testBit i) h
    simp only[Nat.testBit_and]at this
    simp only[BitVec.getLsbD_and,BitVec.getLsbD_not,BitVec.getLsbD_ofNat,BitVec.getLsbD_zero,hi,decide_true,Bool.true_and]
    cases h5:a.testBit i<;>cases h6:b.testBit i<;>simp[h5,h6]at this ⊢
   rw[h0];rfl
 rw[e,wrap_i64 (by omega) (by omega)]
 by_cases h:a&&& b=a
 ·rw[decide_eq_true h,hz.2 h];rfl
 ·rw[decide_eq_false h,beq_eq_false_iff_ne]
  intro h2
  exact h (hz.1 (by omega))
theorem vp(k:Nat)(hk:k<32):IntKind.i64.wrap ((1:Int)*2^min (k:Int).toNat IntKind.i64.bits)=((2^k:Nat):Int):=by
 have h:min (k:Int).toNat IntKind.i64.bits=k:=tW (by omega)
 have hp:2^k<2^32:=Nat.pow_lt_pow_right (by omega) hk
 have e:(2:Int)^k=((2^k:Nat):Int):=by norm_cast
 rw[h,Int.one_mul,e]
 generalize (2:Nat)^k=p at hp ⊢
 rw[wrap_i64]<;>omega
theorem Jn(k:Nat)(hk:k<32):IntKind.i64.wrap ((1:Int)*2^min k IntKind.i64.bits)=((2^k:Nat):Int):=vp k hk
theorem Un(z:Int)(h0:0≤z)(h1:z≤31):∃k:Nat,k<32∧z=(k:Int):=⟨z.toNat,by omega,by omega⟩
theorem KW(v k:Nat)(hv:v<4294967296)(hk:k<32):v|||2^k<4294967296:=
 Nat.or_lt_two_pow (n:=32) (by omega) (Nat.pow_lt_pow_right (by omega) hk)
def l8(v k:Nat):Bool:=(v / 2^k) % 2==1
theorem Gv(v k:Nat):l8 v k=v.testBit k:=by
 unfold l8
 rw[Nat.testBit_eq_decide_div_mod_eq,Bool.eq_iff_iff]
 simp
theorem VH(v k:Nat)(hv:v<4294967296)(hk:k<32):g9 ((v:Int),(k:Int),true,())=some (((v|||2^k:Nat):Int),()):=by
 have hh:=M4 v k hv hk
 have hu:IntKind.u64.wrap (k:Int)=(k:Int):=Jb (by omega)
 have hn:¬((k:Int)<0):=by omega
 have hp:2^k<2^32:=Nat.pow_lt_pow_right (by omega) hk
 have hx:=r9 v (2^k) (by omega) (by omega)
 unfold g9
 simp only[hh,hu,hn,if_false,vp k hk,hx]
 have hb:(v / 2^k % 2==1)=v.testBit k:=Gv v k
 rw[hb]
 cases h:v.testBit k with
 |true=>
  have:v|||2^k=v:=by
   apply Nat.eq_of_testBit_eq
   intro i
   rw[Nat.testBit_or,Nat.testBit_two_pow]
   by_cases hi:k=i
   ·subst hi;simp[h]
   ·simp[hi]
  rw[this]
  rfl
 |false=>
  have:v|||2^k=v^^^2^k:=by
   apply Nat.eq_of_testBit_eq
   intro i
   rw[Nat.testBit_or,Nat.testBit_xor,Nat.testBit_two_pow]
   by_cases hi:k=i
   ·subst hi;simp[h]
   ·simp[hi]
  rw[this]
  rfl
theorem Xv(v k:Nat)(hv:v<4294967296)(hk:k<32):M3 ((v:Int),(k:Int),())=some (l8 v k,()):=by
 have hb:=Ue v k (by omega)
 unfold bt at hb
 have hn:¬((k:Int)<0):=by omega
 unfold M3 l8
 simp only[hn,if_false,tW (show k≤64 by omega),hb]
 generalize v / 2^k=z
 have:(((z % 2:Nat):Int)==1)=(z % 2==1):=by
  rw[Bool.eq_iff_iff]
  simp
  omega
 rw[this]
def Gw(v:Nat)(n:aj.T):Nat:=if n.2.2.2.1=true then v else v|||2^n.1.toNat
def cR(l:List aj.T):Nat:=l.foldl Gw 0
theorem Gx {l:List aj.T}(h:fi l=true):l.length≤32∧∀n ∈ l,∃k:Nat,k<32∧n.1=(k:Int):=by
 unfold fi at h
 rw[Bool.and_eq_true,List.all_eq_true]at h
 refine⟨by have:=(bi.1 h.1).2;omega,fun n hn=> ?_⟩
 obtain⟨i,hi,rfl⟩:=List.getElem_of_mem hn
 have:=h.2 i (by simpa using hi)
 unfold qj rZ at this
 simp only[List.getElem?_eq_getElem hi,Bool.and_eq_true,bi]at this
 obtain⟨⟨⟨h1,h2⟩,_⟩,_⟩:=this
 exact Un _ h1 h2
theorem KX {l:List aj.T}(h:fi l=true):∀s,∀n ∈ l,s<4294967296→Gw s n<4294967296:=by
 intro s n hn hs
 obtain⟨k,hk,e⟩:=(Gx h).2 n hn
 unfold Gw
 split
 ·exact hs
 ·rw[e];exact KW s k hs hk
theorem xG {l:List aj.T}(h:fi l=true):cR l<4294967296:=nz (P:=fun s=>s<4294967296) l 0 (KX h) (by omega)
theorem ST(l:List aj.T)(h:fi l=true):gW (l,())=some ((cR l:Int),()):=by
 have hid:=Gx h
 have e:=m8 (B:=dE) l (fun(s:Nat) i=>((s:Int),l,(l.length:Int),(i:Int),())) Gw (fun s=>.inl ((s:Int),())) (fun s=>s<4294967296) (KX h) (fun s _=>by simp only[dE,aK]) (fun s i hi hs=>by
  obtain⟨k,hk,e⟩:=hid.2 _ (List.getElem_mem hi)
  have hn:¬((k:Int)<0):=by omega
  have hp:2^k<2^32:=Nat.pow_lt_pow_right (by omega) hk
  have ho:=Pn s (2^k) (by omega) (by omega)
  simp only[dE,aM hi,av hi (show l.length≤1099511627776 by omega),am hi,aa,e,hn,if_false,Jn k hk,ho,Gw,Int.toNat_natCast]
  cases l[i].2.2.2.1<;>rfl) l.length 0 0 (by omega) (by omega)
 have e':ac dE ((0:Int),l,(l.length:Int),(0:Int),())=_:=e
 unfold gW
 simp only[e',List.drop_zero]
 rfl
theorem SU(l:List aj.T)(h:fi l=true):kr (l,())=some ((cR l:Int),()):=by
 have hid:=Gx h
 have e:=m8 (B:=eZ) l (fun(s:Nat) i=>(l,(s:Int),(i:Int),())) Gw (fun s=>.inl ((s:Int),())) (fun s=>s<4294967296) (KX h) (fun s _=>by simp only[eZ,aK]) (fun s i hi hs=>by
  obtain⟨k,hk,e⟩:=hid.2 _ (List.getElem_mem hi)
  have ho:=VH s k hs hk
  simp only[eZ,aM hi,av hi (show l.length≤1099511627776 by omega),am hi,aa,e,ho,Gw,Int.toNat_natCast]
  cases l[i].2.2.2.1<;>rfl) l.length 0 0 (by omega) (by omega)
 have e':ac eZ (l,(0:Int),(0:Int),())=_:=e
 unfold kr
 simp only[e',List.drop_zero]
 rfl
theorem ql {v:ae.T}(h:kE v=true):∃k:Nat,k<32∧v.2.2.2.1.1=(k:Int):=by
 unfold kE jR at h
 simp only[Bool.and_eq_true,bi]at h
 obtain⟨h1,h2⟩:=h.2.2.2.1
 exact Un _ h1 h2
def oN(m:ag.T):Bool:=m.2.2.2.1.all (fun v=>l8 (cR m.2.1) v.2.2.2.1.1.toNat)
theorem Xw(m:ag.T)(hn:fi m.2.1=true)(hs:bV m.2.2.2.1=true):kR (m,())=some (oN m,()):=by
 have hlen:=fE hs
 have e:=iJ (B:=eE) m.2.2.2.1 (fun i=>(m,(cR m.2.1:Int),(i:Int),())) (fun v=>l8 (cR m.2.1) v.2.2.2.1.1.toNat) (.inl ()) (.inr (false,())) (by simp only[eE,aK]) (fun i h=>by
  obtain⟨k,hk,e⟩:=ql (gj hs _ (List.getElem_mem h))
  have hh:kQ ((cR m.2.1:Int),(k:Int),())=some (l8 (cR m.2.1) k,()):=M4 (cR m.2.1) k (xG hn) hk
  simp only[eE,aM h,av h (show m.2.2.2.1.length≤1099511627776 by omega),am h,aa,e,hh,Int.toNat_natCast]
  cases l8 (cR m.2.1) k<;>rfl)
 have e':ac eE ((m.1,m.2.1,m.2.2.1,m.2.2.2.1,()),(cR m.2.1:Int),(0:Int),())=_:=e
 unfold kR oN
 simp only[SU m.2.1 hn,e']
 cases m.2.2.2.1.all (fun v=>l8 (cR m.2.1) v.2.2.2.1.1.toNat)<;>rfl
theorem Xx(m:ag.T)(hn:fi m.2.1=true)(hs:bV m.2.2.2.1=true):bL (m.2.2.2.1,(fun z=>lF (z.1,(m.1,m.2.1,m.2.2.1,m.2.2.2.1,()),())),())=some (!oN m,()):=by
 have hlen:=fE hs
 rw[rr m.2.2.2.1 (by omega) _ (fun v=> !l8 (cR m.2.1) v.2.2.2.1.1.toNat) (fun i h=>by
  obtain⟨k,hk,e⟩:=ql (gj hs _ (List.getElem_mem h))
  have hh:=Xv (cR m.2.1) k (xG hn) hk
  unfold lF
  simp only[ST m.2.1 hn,e,hh,Int.toNat_natCast])]
 unfold oN
 rw[xz,Bool.not_not]
end Go.Proofs.YthfgmmmeplanbaaGreatDoor
namespace Go.Proofs.YthfgmmmeplanbaaGreatDoor
open Go.RowKit
set_option linter.unusedVariables false
set_option linter.unusedSimpArgs false
theorem yK {S X O T:Type}{B:X→Option (X ⊕ O)}(l:List T)(e:S→Nat→X)(g:S→T→S)(fin:S→O)(P:Nat→S→Prop)(hP:∀i (h:i<l.length) s,P i s→P (i+1) (g s l[i]))(hend:∀s,B (e s l.length)=some (.inr (fin s)))
  (hstep:∀s i (h:i<l.length),P i s→B (e s i)=some (.inl (e (g s l[i]) (i+1)))):∀(n i:Nat) (s:S),i+n=l.length→P i s→ac B (e s i)=some (fin ((l.drop i).foldl g s))
 |0,i,s,hi,hs=>by
  have hi:i=l.length:=by omega
  subst hi
  rw[an,hend s,List.drop_length]
  rfl
 |n+1,i,s,hi,hs=>by
  have h:i<l.length:=by omega
  rw[an,hstep s i h hs,List.drop_eq_getElem_cons h]
  exact yK l e g fin P hP hend hstep n (i+1) _ (by omega) (hP i h s hs)
theorem vP {α:Type}(q:α→Bool):∀(l:List α) (i j:Nat),bJ q i l=some j→∃(n:Nat) (h:n<l.length),j=i+n∧q l[n]=true
 | [],_,_,h=>by cases h
 |v::r,i,j,h=>by
  unfold bJ at h
  cases hq:q v with
  |true=>
   rw[hq]at h
   cases h
   exact⟨0,by simp,by omega,hq⟩
  |false=>
   rw[hq]at h
   obtain⟨n,hn,e,h2⟩:=vP q r (i+1) j h
   exact⟨n+1,by simpa using hn,by omega,by simpa using h2⟩
def yL(v:ae.T):Int:=v.2.2.2.1.2.2.2.1
def Dj(u v:ae.T):Bool:=(u.1==v.1)&&(u.2.2.1==v.2.2.1)
def lP(u v:ae.T):Bool:= !Dj u v||(yL u==yL v)
def Dk(l:List ae.T)(i:Nat):Bool:=match l[i]? with
 |none=>false
 |some v=>(l.take i).all (lP v)
def CV(l:List ae.T):Bool:=(List.range l.length).all (Dk l)
theorem X5(m:ag.T)(hl:m.2.2.2.1.length≤1099511627776):jl (m,())=some (CV m.2.2.2.1,()):=by
 have inner:∀i (h:i<m.2.2.2.1.length),ac dB (m,(i:Int),(0:Int),())=some (if(m.2.2.2.1.take i).all (lP m.2.2.2.1[i])then .inl (m,(i:Int),())else .inr (false,())):=fun i h=>by
  have e:=iJ (B:=dB) (m.2.2.2.1.take i) (fun j=>(m,(i:Int),(j:Int),())) (lP m.2.2.2.1[i]) (.inl (m,(i:Int),())) (.inr (false,())) (by
   rw[List.length_take,Nat.min_eq_left (Nat.le_of_lt h)]
   simp only[dB,aK]) (fun j hj=>by
   have hj':j<i:=by rw[List.length_take]at hj;omega
   have hjl:j<m.2.2.2.1.length:=by omega
   have hg:(m.2.2.2.1.take i)[j]=m.2.2.2.1[j]:=by simp
   rw[hg]
   simp only[dB,aM hj',av hjl hl,am hjl,am h,aa,dY,lP,Dj,yL]
   generalize m.2.2.2.1[i]=u
   generalize m.2.2.2.1[j]=v
   rcases Bool.eq_false_or_eq_true (u.1==v.1)with h1|h1<;>simp only[h1,Bool.true_and,Bool.false_and,Bool.not_false,Bool.true_or,if_true]
   rcases Bool.eq_false_or_eq_true (u.2.2.1==v.2.2.1)with h2|h2<;>simp only[h2,Bool.not_true,Bool.not_false,Bool.true_or,Bool.false_or,if_true]
   have hne:(u.2.2.2.1.2.2.2.1 != v.2.2.2.1.2.2.2.1)= !(u.2.2.2.1.2.2.2.1==v.2.2.2.1.2.2.2.1):=rfl
   rw[hne]
   cases (u.2.2.2.1.2.2.2.1==v.2.2.2.1.2.2.2.1)<;>rfl)
  exact e
 have e:=fz (B:=dC) m.2.2.2.1.length (fun i=>(m,(i:Int),())) (Dk m.2.2.2.1) (.inl ()) (.inr (false,())) (by simp only[dC,aK]) (fun i h=>by
  simp only[dC,aM h,av h hl,inner i h,Dk,List.getElem?_eq_getElem h]
  cases (m.2.2.2.1.take i).all (lP m.2.2.2.1[i])
  ·rfl
  ·show some (Sum.inl (m,IntKind.i64.wrap ((i:Int)+1),()))=some (.inl (m,((i+1:Nat):Int),()))
   rw[av h hl])
 have e':ac dC ((m.1,m.2.1,m.2.2.1,m.2.2.2.1,()),(0:Int),())=_:=e
 unfold jl CV
 simp only[e']
 cases (List.range m.2.2.2.1.length).all (Dk m.2.2.2.1)<;>rfl
theorem LL:∀(ms:List ao.T) (i:Nat),(∀m ∈ ms,Jm m)→∀k ∈ gP i ms,∃a r s:Nat,k=fj (a:Int) (r:Int) (s:Int)∧r≤7∧s≤15∧fj (a:Int) 0 (s:Int) ∈ gP i ms
 | [],i,_,k,hk=>by simp[gP]at hk
 |m::ms,i,h,k,hk=>by
  simp only[gP,List.mem_append]at hk ⊢
  rcases hk with hk|hk
  ·have hm:=lr (h m (by simp))
   simp only[ik,List.mem_flatMap,List.mem_map,List.mem_range]at hk
   obtain⟨r,hr,s,hs,rfl⟩:=hk
   refine⟨i,r,s,rfl,by omega,by omega,.inl ?_⟩
   simp only[ik,List.mem_flatMap,List.mem_map,List.mem_range]
   exact⟨0,by omega,s,hs,rfl⟩
  ·obtain⟨a,r,s,e,h1,h2,h3⟩:=LL ms (i+1) (fun m hm=>h m (by simp[hm])) k hk
   exact⟨a,r,s,e,h1,h2,.inr h3⟩
theorem Po(m:ag.T)(hs:bV m.2.2.2.1=true)(hm:eT m.2.2.1=true)(hc:dK m=true):∀v ∈ m.2.2.2.1,∃(j:Nat) (h:j<m.2.2.2.1.length),bJ (iw v.1 0 v.2.2.1) 0 m.2.2.2.1=some j∧iw v.1 0 v.2.2.1 m.2.2.2.1[j]=true:=by
 intro v hv
 have hmem:=gj hs
 have hvk:=pk (hmem v hv)
 have hK:m.2.2.2.1.map cF=gP 0 m.2.2.1:=by
  unfold dK at hc
  exact of_decide_eq_true hc
 have h1:cF v ∈ gP 0 m.2.2.1:=by rw[←hK];exact List.mem_map.2 ⟨v,hv,rfl⟩
 obtain⟨a,r,s,e,hr,hs',h2⟩:=LL _ 0 (fk hm).2 _ h1
 rw[←hK]at h2
 obtain⟨u,hu,e2⟩:=List.mem_map.1 h2
 have huk:=pk (hmem u hu)
 have hv0:iw (a:Int) (r:Int) (s:Int) v=true:=(Di hvk ⟨by omega,by omega⟩ ⟨by omega,by omega⟩).2 e
 have hu0:iw (a:Int) 0 (s:Int) u=true:=(Di huk ⟨by omega,by omega⟩ ⟨by omega,by omega⟩).2 e2
 have hva:v.1=(a:Int)∧v.2.2.1=(s:Int):=by
  unfold iw at hv0
  simp only[Bool.and_eq_true,beq_iff_eq]at hv0
  exact⟨hv0.1,hv0.2.2⟩
 have hx:m.2.2.2.1.any (iw v.1 0 v.2.2.1)=true:=List.any_eq_true.2 ⟨u,hu,by rw[hva.1,hva.2];exact hu0⟩
 rw[←gM (iw v.1 0 v.2.2.1) 0 m.2.2.2.1]at hx
 obtain⟨j,hj⟩:=Option.isSome_iff_exists.1 hx
 obtain⟨n,hn,e3,h4⟩:=vP _ _ _ _ hj
 have:j=n:=by omega
 subst this
 exact⟨j,hn,hj,h4⟩
def m9(l:List ae.T)(v:ae.T):Bool:=match bJ (iw v.1 0 v.2.2.1) 0 l with
 |none=>false
 |some j=>match l[j]? with
  |none=>false
  |some u=>yL v==yL u
theorem Vb(m:ag.T)(hs:bV m.2.2.2.1=true)(hm:eT m.2.2.1=true)(hc:dK m=true):ov (m,())=some (m.2.2.2.1.all (m9 m.2.2.2.1),()):=by
 have hlen:=fE hs
 have e:=iJ (B:=fV) m.2.2.2.1 (fun i=>(m,m.2.2.2.1,(m.2.2.2.1.length:Int),(i:Int),())) (m9 m.2.2.2.1) (.inl ()) (.inr (false,())) (by simp only[fV,aK]) (fun i h=>by
  obtain⟨j,hj,h1,h2⟩:=Po m hs hm hc _ (List.getElem_mem h)
  have hf:lH (m.2.2.2.1,m.2.2.2.1[i].1,(0:Int),m.2.2.2.1[i].2.2.1,())=some ((j:Int),()):=by
   rw[RM _ _ _ _ (by omega)]
   unfold pC
   rw[h1]
  simp only[fV,aM h,av h (show m.2.2.2.1.length≤1099511627776 by omega),am h,aa,hf,am hj,dY,cS,m9,h1,List.getElem?_eq_getElem hj,yL]
  have hne:(m.2.2.2.1[i].2.2.2.1.2.2.2.1 != m.2.2.2.1[j].2.2.2.1.2.2.2.1)= !(m.2.2.2.1[i].2.2.2.1.2.2.2.1==m.2.2.2.1[j].2.2.2.1.2.2.2.1):=rfl
  rw[hne]
  cases (m.2.2.2.1[i].2.2.2.1.2.2.2.1==m.2.2.2.1[j].2.2.2.1.2.2.2.1)<;>rfl)
 have e':ac fV ((m.1,m.2.1,m.2.2.1,m.2.2.2.1,()),m.2.2.2.1,(m.2.2.2.1.length:Int),(0:Int),())=_:=e
 unfold ov
 simp only[e']
 cases m.2.2.2.1.all (m9 m.2.2.2.1)<;>rfl
theorem Vc {u v:ae.T}(h:lP u v=true):lP v u=true:=by
 unfold lP Dj at h ⊢
 simp only[Bool.or_eq_true,Bool.not_eq_true',Bool.and_eq_false_iff,beq_iff_eq,beq_eq_false_iff_ne]at h ⊢
 rcases h with(h|h)|h
 ·exact .inl (.inl fun e=>h e.symm)
 ·exact .inl (.inr fun e=>h e.symm)
 ·exact .inr h.symm
theorem Wt {l:List ae.T}:CV l=true↔∀u ∈ l,∀v ∈ l,lP u v=true:=by
 unfold CV
 rw[List.all_eq_true]
 constructor
 ·intro h
  have key:∀i j (hi:i<l.length) (hj:j<i),lP l[i] l[j]=true:=fun i j hi hj=>by
   have:=h i (by simpa using hi)
   unfold Dk at this
   simp only[List.getElem?_eq_getElem hi,List.all_eq_true]at this
   exact this _ (List.mem_take_iff_getElem.2 ⟨j,by omega,rfl⟩)
  intro u hu v hv
  obtain⟨i,hi,rfl⟩:=List.getElem_of_mem hu
  obtain⟨j,hj,rfl⟩:=List.getElem_of_mem hv
  rcases Nat.lt_trichotomy i j with h1|h1|h1
  ·exact Vc (key j i hj h1)
  ·subst h1
   unfold lP
   simp
  ·exact key i j hi h1
 ·intro h i hi
  have hi:i<l.length:=by simpa using hi
  unfold Dk
  simp only[List.getElem?_eq_getElem hi,List.all_eq_true]
  exact fun v hv=>h _ (List.getElem_mem hi) v (List.mem_of_mem_take hv)
theorem SV(m:ag.T)(hs:bV m.2.2.2.1=true)(hm:eT m.2.2.1=true)(hc:dK m=true):m.2.2.2.1.all (m9 m.2.2.2.1)=CV m.2.2.2.1:=by
 have hf:=Po m hs hm hc
 rw[Bool.eq_iff_iff,Wt,List.all_eq_true]
 constructor
 ·intro h u hu v hv
  unfold lP
  cases hsm:Dj u v with
  |false=>rfl
  |true=>
   unfold Dj at hsm
   simp only[Bool.and_eq_true,beq_iff_eq]at hsm
   obtain⟨j,hj,h1,h2⟩:=hf u hu
   have hu':=h u hu
   have hv':=h v hv
   unfold m9 at hu' hv'
   rw[←hsm.1,←hsm.2]at hv'
   simp only[h1,List.getElem?_eq_getElem hj,beq_iff_eq]at hu' hv'
   rw[hu',hv']
   simp
 ·intro h v hv
  obtain⟨j,hj,h1,h2⟩:=hf v hv
  unfold m9
  simp only[h1,List.getElem?_eq_getElem hj]
  have h3:=h v hv _ (List.getElem_mem hj)
  unfold iw at h2
  simp only[Bool.and_eq_true,beq_iff_eq]at h2
  unfold lP Dj at h3
  rw[h2.1,h2.2.2]at h3
  simpa using h3
def Vd(k:Int)(a:Int)(v:ae.T):Int:=if(v.1==k)=true then IntKind.i64.wrap (a+yL v)else a
def KY(l:List ae.T)(k:Int):Int:=l.foldl (Vd k) 0
theorem X6(m:ag.T)(k:Int)(hl:m.2.2.2.1.length≤1099511627776):nX (m,k,())=some (KY m.2.2.2.1 k,()):=by
 have e:=yK (B:=fN) m.2.2.2.1 (fun(s:Int) i=>(k,m,s,(i:Int),())) (Vd k) (fun s=>.inl (s,())) (fun _ _=>True) (fun _ _ _ _=>trivial) (fun s=>by simp only[fN,aK]) (fun s i h _=>by
  simp only[fN,aM h,av h hl,am h,aa,Vd,yL]
  cases (m.2.2.2.1[i].1==k)<;>rfl) m.2.2.2.1.length 0 0 (by omega) trivial
 have e':ac fN (k,(m.1,m.2.1,m.2.2.1,m.2.2.2.1,()),(0:Int),(0:Int),())=_:=e
 unfold nX
 simp only[e']
 rfl
theorem X7(m:ag.T)(k:Int)(hl:m.2.2.2.1.length≤1000):∃l,mj (m,k,())=some (l,())∧lI (l,())=some (KY m.2.2.2.1 k,()):=by
 have e:=yK (B:=fc) m.2.2.2.1 (fun(s:List ae.T) i=>(k,s,m.2.2.2.1,(m.2.2.2.1.length:Int),(i:Int),())) (fun s v=>if(v.1==k)=true then s++ [v]else s) (fun s=>.inl (s,())) (fun i s=>s.length≤i) (fun i h s hs=>by
  show List.length (if _ then _ else _)≤_
  split
  ·simp;omega
  ·omega) (fun s=>by simp only[fc,aK]) (fun s i h hs=>by
  simp only[fc,aM h,av h (show m.2.2.2.1.length≤1099511627776 by omega),am h,aa]
  cases (m.2.2.2.1[i].1==k)
  ·rfl
  ·simp only
   rw[aE (by simp;omega)]
   rfl) m.2.2.2.1.length 0 [] (by omega) (by simp)
 have e':ac fc (k,([]:List ae.T),m.2.2.2.1,(m.2.2.2.1.length:Int),(0:Int),())=_:=e
 have hflt:∀(l acc:List ae.T),l.foldl (fun s v=>if(v.1==k)=true then s++ [v]else s) acc=acc++l.filter (fun v=>v.1==k):=by
  intro l
  induction l with
  |nil=>intro acc;simp
  |cons v l ih=>
   intro acc
   rw[List.foldl_cons,ih,List.filter_cons]
   split<;>simp
 refine⟨m.2.2.2.1.filter (fun v=>v.1==k), ?_, ?_⟩
 ·unfold mj
  simp only[e',List.drop_zero,hflt,List.nil_append]
 ·have hle:=List.length_filter_le (fun v:ae.T=>v.1==k) m.2.2.2.1
  generalize hq:m.2.2.2.1.filter (fun v=>v.1==k)=q at hle
  have e2:=yK (B:=dG) q (fun(s:Int) i=>(s,q,(q.length:Int),(i:Int),())) (fun s v=>IntKind.i64.wrap (s+yL v)) (fun s=>.inl (s,())) (fun _ _=>True) (fun _ _ _ _=>trivial) (fun s=>by simp only[dG,aK]) (fun s i h _=>by
   simp only[dG,aM h,av h (show q.length≤1099511627776 by omega),am h,aa]
   rfl) q.length 0 0 (by omega) trivial
  have e2':ac dG ((0:Int),q,(q.length:Int),(0:Int),())=_:=e2
  unfold lI KY
  simp only[e2',List.drop_zero]
  rw[←hq,List.foldl_filter]
  rfl
def kt(l:List ae.T)(k:Nat):Bool:= !decide (KY l (k:Int)>32000)
theorem Wu(m:ag.T)(hl:m.2.2.2.1.length≤1000)(hn:m.2.2.1.length≤1000):p7 (m,())=some ((List.range m.2.2.1.length).all (kt m.2.2.2.1),()):=by
 have e:=fz (B:=gA) m.2.2.1.length (fun i=>(m,(m.2.2.1.length:Int),(i:Int),())) (kt m.2.2.2.1) (.inl ()) (.inr (false,())) (by simp only[gA,aK]) (fun i h=>by
  obtain⟨l,h1,h2⟩:=X7 m (i:Int) hl
  have h1:mj ((m.1,m.2.1,m.2.2.1,m.2.2.2.1,()),(i:Int),())=some (l,()):=h1
  simp only[gA,aM h,av h (show m.2.2.1.length≤1099511627776 by omega),h1,h2,kt]
  rcases Bool.eq_false_or_eq_true (decide (KY m.2.2.2.1 (i:Int)>32000))with g|g<;>simp only[g]<;>rfl)
 have e':ac gA ((m.1,m.2.1,m.2.2.1,m.2.2.2.1,()),(m.2.2.1.length:Int),(0:Int),())=_:=e
 unfold p7
 simp only[e']
 cases (List.range m.2.2.1.length).all (kt m.2.2.2.1)<;>rfl
theorem Wv(m:ag.T)(hl:m.2.2.2.1.length≤1000)(hn:m.2.2.1.length≤1000):ac dh (m,(0:Int),())=some (if(List.range m.2.2.1.length).all (kt m.2.2.2.1)=true then .inl (m,())else .inr ((8:Int),())):=
 fz (B:=dh) m.2.2.1.length (fun i=>(m,(i:Int),())) (kt m.2.2.2.1) (.inl (m,())) (.inr ((8:Int),())) (by simp only[dh,aK]) (fun i h=>by
  have h1:nX ((m.1,m.2.1,m.2.2.1,m.2.2.2.1,()),(i:Int),())=_:=X6 m (i:Int) (by omega)
  simp only[dh,aM h,av h (show m.2.2.1.length≤1099511627776 by omega),h1,kt]
  rcases Bool.eq_false_or_eq_true (decide (KY m.2.2.2.1 (i:Int)>32000))with g|g<;>simp only[g]<;>rfl)
def pD(v:ae.T):Bool:=if(v.2.2.2.1.2.1==(3:Int))=true then v.1 != (0:Int)else false
theorem Xy(l:List ae.T)(hl:l.length≤1000):bL (l,lG,())=some (l.any pD,()):=
 rr l (by omega) _ pD (fun i h=>by
  unfold lG pD
  cases (l[i].2.2.2.1.2.1==(3:Int))<;>rfl)
theorem Xz(m:ag.T)(hl:m.2.2.2.1.length≤1000):ac cJ (m,(0:Int),())=some (if m.2.2.2.1.any pD=true then .inr ((10:Int),())else .inl ()):=by
 have e:=iJ (B:=cJ) m.2.2.2.1 (fun i=>(m,(i:Int),())) (fun v=> !pD v) (.inl ()) (.inr ((10:Int),())) (by simp only[cJ,aK]) (fun i h=>by
  simp only[cJ,aM h,av h (show m.2.2.2.1.length≤1099511627776 by omega),am h,aa,pD]
  rcases Bool.eq_false_or_eq_true (m.2.2.2.1[i].2.2.2.1.2.1==(3:Int))with g|g<;>simp only[g]
  ·rcases Bool.eq_false_or_eq_true (m.2.2.2.1[i].1 != (0:Int))with g2|g2<;>simp only[g2]<;>rfl
  ·rfl)
 have e':ac cJ (m,(0:Int),())=_:=e
 rw[e',xz]
 simp only[Bool.not_not]
 cases m.2.2.2.1.any pD<;>rfl
end Go.Proofs.YthfgmmmeplanbaaGreatDoor
namespace Go.Proofs.YthfgmmmeplanbaaGreatDoor
open Go.RowKit
set_option linter.unusedVariables false
set_option linter.unusedSimpArgs false
def CW(i r:Int)(s:Nat)(v:ae.T):Nat:=if(v.1==i)=true then(if(v.2.1==r)=true then s|||2^v.2.2.2.1.1.toNat else s)else s
def pl(l:List ae.T)(i r:Int):Nat:=l.foldl (CW i r) 0
theorem KZ {l:List ae.T}(h:bV l=true)(i r:Int):∀s,∀v ∈ l,s<4294967296→CW i r s v<4294967296:=by
 intro s v hv hs
 obtain⟨k,hk,e⟩:=ql (gj h v hv)
 unfold CW
 split
 ·split
  ·rw[e];exact KW s k hs hk
  ·exact hs
 ·exact hs
theorem Ww {l:List ae.T}(h:bV l=true)(i r:Int):pl l i r<4294967296:=nz (P:=fun s=>s<4294967296) l 0 (KZ h i r) (by omega)
theorem Wx(m:ag.T)(hd:oN m=true)(i r:Int):∀k,(pl m.2.2.2.1 i r).testBit k=true→(cR m.2.1).testBit k=true:=by
 unfold oN at hd
 rw[List.all_eq_true]at hd
 refine nz (P:=fun s=>∀k,Nat.testBit s k=true→(cR m.2.1).testBit k=true) m.2.2.2.1 0 ?_ (by simp)
 intro s v hv hs k hk
 unfold CW at hk
 have hv':=hd v hv
 rw[Gv]at hv'
 split at hk
 ·split at hk
  ·rw[Nat.testBit_or,Nat.testBit_two_pow,Bool.or_eq_true]at hk
   rcases hk with hk|hk
   ·exact hs k hk
   ·have:=of_decide_eq_true hk
    rw[←this]
    exact hv'
  ·exact hs k hk
 ·exact hs k hk
theorem XA(m:ag.T)(hd:oN m=true)(i r:Int):decide (cR m.2.1&&& pl m.2.2.2.1 i r=cR m.2.1)=decide (pl m.2.2.2.1 i r=cR m.2.1):=by
 have hs:=Wx m hd i r
 rw[decide_eq_decide]
 constructor
 ·intro h
  apply Nat.eq_of_testBit_eq
  intro k
  have:=congrArg (fun z:Nat=>z.testBit k) h
  simp only[Nat.testBit_and]at this
  cases h1:(pl m.2.2.2.1 i r).testBit k with
  |true=>rw[hs k h1]
  |false=>
   rw[h1,Bool.and_false]at this
   exact this
 ·intro h
  rw[h,Nat.and_self]
theorem X8(m:ag.T)(hs:bV m.2.2.2.1=true)(a i r:Int):ac cV (m,a,i,r,(0:Int),(0:Int),())=some (.inl (m,a,i,r,(pl m.2.2.2.1 i r:Int),())):=by
 have hlen:=fE hs
 have e:=m8 (B:=cV) m.2.2.2.1 (fun(s:Nat) j=>(m,a,i,r,(s:Int),(j:Int),())) (CW i r) (fun s=>.inl (m,a,i,r,(s:Int),())) (fun s=>s<4294967296) (KZ hs i r) (fun s _=>by simp only[cV,aK]) (fun s j hj hv=>by
  obtain⟨k,hk,e⟩:=ql (gj hs _ (List.getElem_mem hj))
  have ho:=VH s k hv hk
  simp only[cV,aM hj,av hj (show m.2.2.2.1.length≤1099511627776 by omega),am hj,aa,e,ho,CW,Int.toNat_natCast]
  rcases Bool.eq_false_or_eq_true (m.2.2.2.1[j].1==i)with g|g<;>simp only[g]
  ·rcases Bool.eq_false_or_eq_true (m.2.2.2.1[j].2.1==r)with g2|g2<;>simp only[g2]<;>rfl
  ·rfl) m.2.2.2.1.length 0 0 (by omega) (by omega)
 have e':ac cV (m,a,i,r,(0:Int),(0:Int),())=_:=e
 rw[e',List.drop_zero]
 rfl
theorem X9(m:ag.T)(hs:bV m.2.2.2.1=true)(i r:Int)(ms:List ao.T)(n i2 R r2:Int):ac eB (m,i,r,(0:Int),ms,n,i2,R,r2,m.2.2.2.1,(m.2.2.2.1.length:Int),(0:Int),())=some (.inl (m,i,(pl m.2.2.2.1 i r:Int),ms,n,i2,R,r2,())):=by
 have hlen:=fE hs
 have e:=m8 (B:=eB) m.2.2.2.1 (fun(s:Nat) j=>(m,i,r,(s:Int),ms,n,i2,R,r2,m.2.2.2.1,(m.2.2.2.1.length:Int),(j:Int),())) (CW i r) (fun s=>.inl (m,i,(s:Int),ms,n,i2,R,r2,())) (fun s=>s<4294967296) (KZ hs i r) (fun s _=>by simp only[eB,aK]) (fun s j hj hv=>by
  obtain⟨k,hk,e⟩:=ql (gj hs _ (List.getElem_mem hj))
  have hn:¬((k:Int)<0):=by omega
  have hp:2^k<2^32:=Nat.pow_lt_pow_right (by omega) hk
  have ho:=Pn s (2^k) (by omega) (by omega)
  simp only[eB,aM hj,av hj (show m.2.2.2.1.length≤1099511627776 by omega),am hj,aa,e,hn,if_false,Jn k hk,ho,CW,Int.toNat_natCast]
  rcases Bool.eq_false_or_eq_true (m.2.2.2.1[j].1==i)with g|g<;>simp only[g]
  ·rcases Bool.eq_false_or_eq_true (m.2.2.2.1[j].2.1==r)with g2|g2<;>simp only[g2]<;>rfl
  ·rfl) m.2.2.2.1.length 0 0 (by omega) (by omega)
 have e':ac eB (m,i,r,(0:Int),ms,n,i2,R,r2,m.2.2.2.1,(m.2.2.2.1.length:Int),(0:Int),())=_:=e
 rw[e',List.drop_zero]
 rfl
def lQ(m:ag.T)(i:Nat)(r:Nat):Bool:=decide (pl m.2.2.2.1 (i:Int) (r:Int)=cR m.2.1)
def na(m:ag.T)(i:Nat):Bool:=match m.2.2.1[i]? with
 |none=>false
 |some v=>(List.range v.1.toNat).all (lQ m i)
def pm(m:ag.T):Bool:=(List.range m.2.2.1.length).all (na m)
theorem XB(a b:Nat):((a:Int) != (b:Int))= !decide (a=b):=by
 by_cases h:a=b
 ·subst h;simp
 ·rw[decide_eq_false h]
  simp
  omega
theorem Ve(m:ag.T)(hn:fi m.2.1=true)(hm:eT m.2.2.1=true)(hs:bV m.2.2.2.1=true):mg (m,())=some (pm m,()):=by
 obtain⟨hl16,hg⟩:=fk hm
 have inner:∀i (hi:i<m.2.2.1.length),ac em (m,(cR m.2.1:Int),(i:Int),(0:Int),())=some (if(List.range m.2.2.1[i].1.toNat).all (lQ m i)=true then .inl (m,(cR m.2.1:Int),(i:Int),())else .inr (false,())):=fun i hi=>by
  have hgi:=lr (hg _ (List.getElem_mem hi))
  have e:=fz (B:=em) m.2.2.1[i].1.toNat (fun r=>(m,(cR m.2.1:Int),(i:Int),(r:Int),())) (lQ m i) (.inl (m,(cR m.2.1:Int),(i:Int),())) (.inr (false,())) (by
   simp only[em,am hi,aa]
   have:decide ((m.2.2.1[i].1.toNat:Int)<m.2.2.1[i].1)=false:=by rw[←hgi.2.2.1];exact decide_eq_false (Int.lt_irrefl _)
   rw[this]) (fun r hr=>by
   have hlt:decide ((r:Int)<m.2.2.1[i].1)=true:=by rw[hgi.2.2.1];exact aM hr
   have hv:ac cV ((m.1,m.2.1,m.2.2.1,m.2.2.2.1,()),(cR m.2.1:Int),(i:Int),(r:Int),(0:Int),(0:Int),())=_:=X8 m hs (cR m.2.1:Int) (i:Int) (r:Int)
   simp only[em,am hi,aa,hlt,hv,XB,lQ,av hr (show m.2.2.1[i].1.toNat≤1099511627776 by have:=hgi.1.2;omega)]
   rcases Bool.eq_false_or_eq_true (decide (pl m.2.2.2.1 (i:Int) (r:Int)=cR m.2.1))with g|g<;>simp only[g]<;>rfl)
  exact e
 have e:=fz (B:=e6) m.2.2.1.length (fun i=>(m,(cR m.2.1:Int),(i:Int),())) (na m) (.inl ()) (.inr (false,())) (by simp only[e6,aK]) (fun i hi=>by
  have h6:ac em ((m.1,m.2.1,m.2.2.1,m.2.2.2.1,()),(cR m.2.1:Int),(i:Int),(0:Int),())=_:=inner i hi
  simp only[e6,aM hi,h6,na,List.getElem?_eq_getElem hi]
  rcases Bool.eq_false_or_eq_true ((List.range m.2.2.1[i].1.toNat).all (lQ m i))with g|g<;>simp only[g,if_true,av hi (show m.2.2.1.length≤1099511627776 by omega)]<;>rfl)
 have e':ac e6 ((m.1,m.2.1,m.2.2.1,m.2.2.2.1,()),(cR m.2.1:Int),(0:Int),())=_:=e
 unfold mg pm
 simp only[SU m.2.1 hn,e']
 cases (List.range m.2.2.1.length).all (na m)<;>rfl
theorem Vf(m:ag.T)(hn:fi m.2.1=true)(hm:eT m.2.2.1=true)(hs:bV m.2.2.2.1=true)(hd:oN m=true):p8 (m,())=some (pm m,()):=by
 obtain⟨hl16,hg⟩:=fk hm
 have inner:∀i (hi:i<m.2.2.1.length),ac fC (m,(i:Int),m.2.2.1,(m.2.2.1.length:Int),(i:Int),m.2.2.1[i].1,(0:Int),())=some (if(List.range m.2.2.1[i].1.toNat).all (lQ m i)=true then .inl (m,m.2.2.1,(m.2.2.1.length:Int),(i:Int),())else .inr (false,())):=fun i hi=>by
  have hgi:=lr (hg _ (List.getElem_mem hi))
  have e:=fz (B:=fC) m.2.2.1[i].1.toNat (fun r=>(m,(i:Int),m.2.2.1,(m.2.2.1.length:Int),(i:Int),m.2.2.1[i].1,(r:Int),())) (lQ m i) (.inl (m,m.2.2.1,(m.2.2.1.length:Int),(i:Int),())) (.inr (false,())) (by
   have:decide ((m.2.2.1[i].1.toNat:Int)<m.2.2.1[i].1)=false:=by rw[←hgi.2.2.1];exact decide_eq_false (Int.lt_irrefl _)
   simp only[fC,this]) (fun r hr=>by
   have hlt:decide ((r:Int)<m.2.2.1[i].1)=true:=by rw[hgi.2.2.1];exact aM hr
   have hv:ac eB ((m.1,m.2.1,m.2.2.1,m.2.2.2.1,()),(i:Int),(r:Int),(0:Int),m.2.2.1,(m.2.2.1.length:Int),(i:Int),m.2.2.1[i].1,(r:Int),m.2.2.2.1,(m.2.2.2.1.length:Int),(0:Int),())=_:=X9 m hs (i:Int) (r:Int) m.2.2.1 (m.2.2.1.length:Int) (i:Int) m.2.2.1[i].1 (r:Int)
   have hz:=ER (cR m.2.1) (pl m.2.2.2.1 (i:Int) (r:Int)) (by have:=xG hn;omega) (by have:=Ww hs (i:Int) (r:Int);omega)
   rw[XA m hd]at hz
   have hz':(bits BinOp.andNot .i64 (cR m.2.1:Int) (pl m.2.2.2.1 (i:Int) (r:Int):Int) != 0)= !decide (pl m.2.2.2.1 (i:Int) (r:Int)=cR m.2.1):=by rw[←hz];rfl
   simp only[fC,hlt,hv,ST m.2.1 hn,hz',lQ,av hr (show m.2.2.1[i].1.toNat≤1099511627776 by have:=hgi.1.2;omega)]
   rcases Bool.eq_false_or_eq_true (decide (pl m.2.2.2.1 (i:Int) (r:Int)=cR m.2.1))with g|g<;>simp only[g]<;>rfl)
  exact e
 have e:=fz (B:=gB) m.2.2.1.length (fun i=>(m,m.2.2.1,(m.2.2.1.length:Int),(i:Int),())) (na m) (.inl ()) (.inr (false,())) (by simp only[gB,aK]) (fun i hi=>by
  have h6:ac fC ((m.1,m.2.1,m.2.2.1,m.2.2.2.1,()),(i:Int),m.2.2.1,(m.2.2.1.length:Int),(i:Int),m.2.2.1[i].1,(0:Int),())=_:=inner i hi
  simp only[gB,aM hi,am hi,aa,h6,na,List.getElem?_eq_getElem hi]
  rcases Bool.eq_false_or_eq_true ((List.range m.2.2.1[i].1.toNat).all (lQ m i))with g|g<;>simp only[g,if_true,av hi (show m.2.2.1.length≤1099511627776 by omega)]<;>rfl)
 have e':ac gB ((m.1,m.2.1,m.2.2.1,m.2.2.2.1,()),m.2.2.1,(m.2.2.1.length:Int),(0:Int),())=_:=e
 unfold p8 pm
 simp only[e']
 cases (List.range m.2.2.1.length).all (na m)<;>rfl
def d4(m:ag.T):Prop:=m.2.1.length≤1099511627776∧(∀v ∈ m.2.1,v.2.1.length≤1099511627776)∧m.2.2.1.length≤1099511627776∧(∀v ∈ m.2.2.1,v.2.2.1.length≤1099511627776)∧m.2.2.2.1.length≤1099511627776
noncomputable def xH(m:ag.T):Int:=
 if aI m.1 1 16777215=false then 1 else if fi m.2.1=false then 2 else if eT m.2.2.1=false then 3 else if bV m.2.2.2.1=false then 4 else
 if dK m=false then 5 else if oN m=false then 6 else if CV m.2.2.2.1=false then 7 else if(List.range m.2.2.1.length).all (kt m.2.2.2.1)=false then 8 else
 if pm m=false then 9 else if m.2.2.2.1.any pD=true then 10 else 0
theorem Wy(m:ag.T)(hz:d4 m):kS (m,())=some (xH m,()):=by
 unfold kS xH
 simp only[iv,Wd m.2.1 hz.1 hz.2.1,Wi m.2.2.1 hz.2.2.1 hz.2.2.2.1,Wo m.2.2.2.1 hz.2.2.2.2]
 rcases Bool.eq_false_or_eq_true (aI m.1 1 16777215)with h1|h1<;>simp only[h1,Bool.not_true,Bool.not_false,if_true,if_false,Bool.true_eq_false]
 rcases Bool.eq_false_or_eq_true (fi m.2.1)with h2|h2<;>simp only[h2,Bool.not_true,Bool.not_false,if_true,if_false,Bool.true_eq_false]
 rcases Bool.eq_false_or_eq_true (eT m.2.2.1)with h3|h3<;>simp only[h3,Bool.not_true,Bool.not_false,if_true,if_false,Bool.true_eq_false]
 rcases Bool.eq_false_or_eq_true (bV m.2.2.2.1)with h4|h4<;>simp only[h4,Bool.not_true,Bool.not_false,if_true,if_false,Bool.true_eq_false]
 have hl:=fE h4
 have hn:=(fk h3).1
 have f5:kb ((m.1,m.2.1,m.2.2.1,m.2.2.2.1,()),())=_:=SS m h4 h3
 have f6:kR ((m.1,m.2.1,m.2.2.1,m.2.2.2.1,()),())=_:=Xw m h2 h4
 have f7:jl ((m.1,m.2.1,m.2.2.1,m.2.2.2.1,()),())=_:=X5 m hz.2.2.2.2
 have f8:ac dh ((m.1,m.2.1,m.2.2.1,m.2.2.2.1,()),(0:Int),())=_:=Wv m (by omega) (by omega)
 have f9:mg ((m.1,m.2.1,m.2.2.1,m.2.2.2.1,()),())=_:=Ve m h2 h3 h4
 have f10:ac cJ ((m.1,m.2.1,m.2.2.1,m.2.2.2.1,()),(0:Int),())=_:=Xz m (by omega)
 simp only[f5,f6,f7,f8]
 rcases Bool.eq_false_or_eq_true (dK m)with h5|h5<;>simp only[h5,Bool.not_true,Bool.not_false,if_true,if_false,Bool.true_eq_false]
 rcases Bool.eq_false_or_eq_true (oN m)with h6|h6<;>simp only[h6,Bool.not_true,Bool.not_false,if_true,if_false,Bool.true_eq_false]
 rcases Bool.eq_false_or_eq_true (CV m.2.2.2.1)with h7|h7<;>simp only[h7,Bool.not_true,Bool.not_false,if_true,if_false,Bool.true_eq_false]
 rcases Bool.eq_false_or_eq_true ((List.range m.2.2.1.length).all (kt m.2.2.2.1))with h8|h8<;>simp only[h8,Bool.not_true,Bool.not_false,if_true,if_false,Bool.true_eq_false,Bool.false_eq_true,f9,f10]
 rcases Bool.eq_false_or_eq_true (pm m)with h9|h9<;>simp only[h9,Bool.not_true,Bool.not_false,if_true,if_false,Bool.true_eq_false]
 rcases Bool.eq_false_or_eq_true (m.2.2.2.1.any pD)with h10|h10<;>simp only[h10,if_true,if_false,Bool.false_eq_true]
theorem Wz(m:ag.T)(hz:d4 m):ld (m,())=some (xH m,()):=by
 unfold ld xH
 simp only[lp,We m.2.1 hz.1,Wj m.2.2.1 hz.2.2.1 hz.2.2.2.1,Wp m.2.2.2.1 hz.2.2.2.2]
 rcases Bool.eq_false_or_eq_true (aI m.1 1 16777215)with h1|h1<;>simp only[h1,Bool.not_true,Bool.not_false,if_true,if_false,Bool.true_eq_false]
 rcases Bool.eq_false_or_eq_true (fi m.2.1)with h2|h2<;>simp only[h2,Bool.not_true,Bool.not_false,if_true,if_false,Bool.true_eq_false]
 rcases Bool.eq_false_or_eq_true (eT m.2.2.1)with h3|h3<;>simp only[h3,Bool.not_true,Bool.not_false,if_true,if_false,Bool.true_eq_false]
 rcases Bool.eq_false_or_eq_true (bV m.2.2.2.1)with h4|h4<;>simp only[h4,Bool.not_true,Bool.not_false,if_true,if_false,Bool.true_eq_false]
 have hl:=fE h4
 have hn:=(fk h3).1
 have f5:lc ((m.1,m.2.1,m.2.2.1,m.2.2.2.1,()),())=_:=SR m h4 h3
 have f6:=Xx m h2 h4
 have f8:p7 ((m.1,m.2.1,m.2.2.1,m.2.2.2.1,()),())=_:=Wu m (by omega) (by omega)
 have f10:=Xy m.2.2.2.1 (by omega)
 simp only[f5]
 rcases Bool.eq_false_or_eq_true (dK m)with h5|h5<;>simp only[h5,Bool.not_true,Bool.not_false,if_true,if_false,Bool.true_eq_false]
 have f7:ov ((m.1,m.2.1,m.2.2.1,m.2.2.2.1,()),())=_:=Vb m h4 h3 h5
 rw[SV m h4 h3 h5]at f7
 simp only[f6,f7,f8]
 rcases Bool.eq_false_or_eq_true (oN m)with h6|h6<;>simp only[h6,Bool.not_true,Bool.not_false,if_true,if_false,Bool.true_eq_false]
 have f9:p8 ((m.1,m.2.1,m.2.2.1,m.2.2.2.1,()),())=_:=Vf m h2 h3 h4 h6
 simp only[f9,f10]
 rcases Bool.eq_false_or_eq_true (CV m.2.2.2.1)with h7|h7<;>simp only[h7,Bool.not_true,Bool.not_false,if_true,if_false,Bool.true_eq_false]
 rcases Bool.eq_false_or_eq_true ((List.range m.2.2.1.length).all (kt m.2.2.2.1))with h8|h8<;>simp only[h8,Bool.not_true,Bool.not_false,if_true,if_false,Bool.true_eq_false]
 rcases Bool.eq_false_or_eq_true (pm m)with h9|h9<;>simp only[h9,Bool.not_true,Bool.not_false,if_true,if_false,Bool.true_eq_false]
 rcases Bool.eq_false_or_eq_true (m.2.2.2.1.any pD)with h10|h10<;>simp only[h10,if_true,if_false,Bool.false_eq_true]
noncomputable def bD(m:ag.T):Bool:=xH m==0
theorem XC(m:ag.T)(hz:d4 m):pc (m,())=some (bD m,()):=by
 have h:kS ((m.1,m.2.1,m.2.2.1,m.2.2.2.1,()),())=_:=Wy m hz
 unfold pc bD
 simp only[h]
theorem Pp(m:ag.T)(hz:d4 m):jN (m,())=some (bD m,()):=by
 have h:ld ((m.1,m.2.1,m.2.2.1,m.2.2.2.1,()),())=_:=Wz m hz
 unfold jN bD
 simp only[h]
theorem lR {m:ag.T}(h:bD m=true):(1≤m.1∧m.1≤16777215)∧fi m.2.1=true∧eT m.2.2.1=true∧bV m.2.2.2.1=true∧dK m=true:=by
 unfold bD xH at h
 rcases Bool.eq_false_or_eq_true (aI m.1 1 16777215)with h1|h1
 ·rcases Bool.eq_false_or_eq_true (fi m.2.1)with h2|h2
  ·rcases Bool.eq_false_or_eq_true (eT m.2.2.1)with h3|h3
   ·rcases Bool.eq_false_or_eq_true (bV m.2.2.2.1)with h4|h4
    ·rcases Bool.eq_false_or_eq_true (dK m)with h5|h5
     ·exact⟨bi.1 h1,h2,h3,h4,h5⟩
     ·simp[h1,h2,h3,h4,h5]at h
    ·simp[h1,h2,h3,h4]at h
   ·simp[h1,h2,h3]at h
  ·simp[h1,h2]at h
 ·simp[h1]at h
end Go.Proofs.YthfgmmmeplanbaaGreatDoor
namespace Go.Proofs.YthfgmmmeplanbaaGreatDoor
open Go.RowKit
set_option linter.unusedVariables false
set_option linter.unusedSimpArgs false
noncomputable def aJ(m:ag.T)(st:ab.T):Bool:=bU st&&(match m.2.2.1[st.2.1.toNat]? with
 |none=>false
 |some v=>decide (st.2.2.1<v.1)&&(decide (st.2.2.2.1<v.2.1)&&decide (st.2.2.2.2.1.toNat&&& cR m.2.1=st.2.2.2.2.1.toNat)))
theorem ub {st:ab.T}(h:bU st=true):∃a b c d:Nat,st.2.1=(a:Int)∧st.2.2.1=(b:Int)∧st.2.2.2.1=(c:Int)∧st.2.2.2.2.1=(d:Int)∧a≤15∧b≤15∧c≤255∧d≤4294967295:=by
 unfold bU at h
 simp only[Bool.and_eq_true,bi]at h
 obtain⟨⟨⟨⟨h1,h2⟩,h3⟩,h4⟩,h5⟩:=h
 have key:∀(z:Int) (n:Nat),0≤z→z≤(n:Int)→∃k:Nat,z=(k:Int)∧k≤n:=fun z n h0 h1=>⟨z.toNat,by omega,by omega⟩
 obtain⟨a,ea,ha⟩:=key _ 15 h2.1 h2.2
 obtain⟨b,eb,hb⟩:=key _ 15 h3.1 h3.2
 obtain⟨c,ec,hc⟩:=key _ 255 h4.1 h4.2
 obtain⟨d,ed,hd⟩:=key _ 4294967295 h5.1 h5.2
 exact⟨a,b,c,d,ea,eb,ec,ed,ha,hb,hc,hd⟩
theorem Ya(m:ag.T)(st:ab.T)(h:bD m=true):kT (m,st,())=some (aJ m st,()):=by
 obtain⟨_,hn,hm,hs,_⟩:=lR h
 have hl16:=(fk hm).1
 have hst:jA ((st.1,st.2.1,st.2.2.1,st.2.2.2.1,st.2.2.2.2.1,()),())=some (bU st,()):=Rz (st,())
 unfold kT aJ BK
 simp only[hst,iv,SU m.2.1 hn]
 rcases Bool.eq_false_or_eq_true (bU st)with h1|h1<;>simp only[h1,Bool.not_true,Bool.not_false,Bool.true_and,Bool.false_and]
 obtain⟨a,b,c,d,ea,eb,ec,ed,ha,hb,hc,hd⟩:=ub h1
 rw[ea,eb,ec,ed]
 have hw:IntKind.i64.wrap ((m.2.2.1.length:Int)-1)=(m.2.2.1.length:Int)-1:=by rw[wrap_i64]<;>omega
 have hand:=r8 d (cR m.2.1) (by omega) (by have:=xG hn;omega)
 have hbe:(((d&&& cR m.2.1:Nat):Int)==(d:Int))=decide (d&&& cR m.2.1=d):=by
  by_cases h:d&&& cR m.2.1=d
  ·rw[decide_eq_true h,h];simp
  ·rw[decide_eq_false h,beq_eq_false_iff_ne];omega
 simp only[hw,hand,hbe,Int.toNat_natCast]
 by_cases hal:a<m.2.2.1.length
 ·have hin:aI (a:Int) 0 ((m.2.2.1.length:Int)-1)=true:=bi.2 ⟨by omega,by omega⟩
  simp only[hin,Bool.not_true,am hal,aa,List.getElem?_eq_getElem hal]
  have n1:decide ((b:Int)≥m.2.2.1[a].1)= !decide ((b:Int)<m.2.2.1[a].1):=by
   by_cases g:(b:Int)<m.2.2.1[a].1
   ·rw[decide_eq_true g,decide_eq_false (Int.not_le.2 g)];rfl
   ·rw[decide_eq_false g,decide_eq_true (Int.not_lt.1 g)];rfl
  have n2:decide ((c:Int)≥m.2.2.1[a].2.1)= !decide ((c:Int)<m.2.2.1[a].2.1):=by
   by_cases g:(c:Int)<m.2.2.1[a].2.1
   ·rw[decide_eq_true g,decide_eq_false (Int.not_le.2 g)];rfl
   ·rw[decide_eq_false g,decide_eq_true (Int.not_lt.1 g)];rfl
  simp only[n1,n2]
  rcases Bool.eq_false_or_eq_true (decide ((b:Int)<m.2.2.1[a].1))with g1|g1<;>simp only[g1,Bool.not_true,Bool.not_false,Bool.true_and,Bool.false_and]
  rcases Bool.eq_false_or_eq_true (decide ((c:Int)<m.2.2.1[a].2.1))with g2|g2<;>simp only[g2,Bool.not_true,Bool.not_false,Bool.true_and,Bool.false_and]
 ·have hin:aI (a:Int) 0 ((m.2.2.1.length:Int)-1)=false:=by
   rw[Bool.eq_false_iff]
   intro g
   have:=bi.1 g
   omega
  simp only[hin,Bool.not_false,List.getElem?_eq_none (Nat.not_lt.1 hal)]
theorem SW(m:ag.T)(st:ab.T)(h:bD m=true):le (m,st,())=some (aJ m st,()):=by
 obtain⟨_,hn,hm,hs,_⟩:=lR h
 have hst:eN ((st.1,st.2.1,st.2.2.1,st.2.2.2.1,st.2.2.2.2.1,()),())=some (bU st,()):=De (st,())
 unfold le aJ
 simp only[hst,ST m.2.1 hn]
 rcases Bool.eq_false_or_eq_true (bU st)with h1|h1<;>simp only[h1,Bool.not_true,Bool.not_false,Bool.true_and,Bool.false_and]
 obtain⟨a,b,c,d,ea,eb,ec,ed,ha,hb,hc,hd⟩:=ub h1
 rw[ea,eb,ec,ed]
 have hz:=ER d (cR m.2.1) (by omega) (by have:=xG hn;omega)
 simp only[hz,Int.toNat_natCast]
 by_cases hal:a<m.2.2.1.length
 ·have hin:decide ((a:Int)≥(m.2.2.1.length:Int))=false:=decide_eq_false (by omega)
  simp only[hin,am hal,aa,List.getElem?_eq_getElem hal]
  rcases Bool.eq_false_or_eq_true (decide ((b:Int)<m.2.2.1[a].1))with g1|g1<;>simp only[g1,Bool.true_and,Bool.false_and]
  rcases Bool.eq_false_or_eq_true (decide ((c:Int)<m.2.2.1[a].2.1))with g2|g2<;>simp only[g2,Bool.true_and,Bool.false_and]
 ·have hin:decide ((a:Int)≥(m.2.2.1.length:Int))=true:=decide_eq_true (by omega)
  simp only[hin,List.getElem?_eq_none (Nat.not_lt.1 hal)]
theorem Pq:∀(ms:List ao.T) (i j:Nat) (h:j<ms.length) (r s:Nat),r<ms[j].1.toNat→s<ms[j].2.1.toNat→fj ((i+j:Nat):Int) (r:Int) (s:Int) ∈ gP i ms
 |m::ms,i,0,h,r,s,hr,hs=>by
  simp only[gP,List.mem_append]
  left
  simp only[ik,List.mem_flatMap,List.mem_map,List.mem_range]
  exact⟨r,hr,s,hs,rfl⟩
 |m::ms,i,j+1,h,r,s,hr,hs=>by
  simp only[gP,List.mem_append]
  right
  have:=Pq ms (i+1) j (by simpa using h) r s hr hs
  have e:i+1+j=i+(j+1):=by omega
  rw[e]at this
  exact this
theorem WA(m:ag.T)(st:ab.T)(h:bD m=true)(hb:aJ m st=true):∃(j:Nat) (hj:j<m.2.2.2.1.length),pC m.2.2.2.1 st.2.1 st.2.2.1 st.2.2.2.1=(j:Int):=by
 obtain⟨_,hn,hm,hs,hc⟩:=lR h
 have hg:=(fk hm).2
 unfold aJ at hb
 rw[Bool.and_eq_true]at hb
 obtain⟨a,b,c,d,ea,eb,ec,ed,ha,hb',hc',hd⟩:=ub hb.1
 have hb2:=hb.2
 rw[ea,eb,ec,ed]at hb2
 rw[ea,eb,ec]
 rw[Int.toNat_natCast]at hb2
 by_cases hal:a<m.2.2.1.length
 ·simp only[List.getElem?_eq_getElem hal,Bool.and_eq_true,decide_eq_true_eq]at hb2
  have hgi:=lr (hg _ (List.getElem_mem hal))
  obtain⟨h1,h2,_⟩:=hb2
  rw[hgi.2.2.1]at h1
  rw[hgi.2.2.2]at h2
  have h1:b<m.2.2.1[a].1.toNat:=Int.ofNat_lt.1 h1
  have h2:c<m.2.2.1[a].2.1.toNat:=Int.ofNat_lt.1 h2
  have hk:=Pq m.2.2.1 0 a hal b c h1 h2
  rw[Nat.zero_add]at hk
  have hK:m.2.2.2.1.map cF=gP 0 m.2.2.1:=by
   unfold dK at hc
   exact of_decide_eq_true hc
  rw[←hK]at hk
  have hq:=Pm (l:=m.2.2.2.1) (fun v hv=>pk (gj hs v hv)) (a:=(a:Int)) (b:=(b:Int)) (c:=(c:Int)) ⟨by omega,by have:=hgi.1.2;omega⟩ ⟨by omega,by have:=hgi.2.1.2;omega⟩
  rw[decide_eq_true hk]at hq
  unfold pC at hq ⊢
  cases hf:bJ (iw (a:Int) (b:Int) (c:Int)) 0 m.2.2.2.1 with
  |none=>rw[hf]at hq;cases hq
  |some j=>
   obtain⟨n,hn,e,_⟩:=vP _ _ _ _ hf
   have:j=n:=by omega
   subst this
   exact⟨j,hn,rfl⟩
 ·simp only[List.getElem?_eq_none (Nat.not_lt.1 hal)]at hb2
  cases hb2
def bP(m:ag.T)(st:ab.T):aZ.T:=match m.2.2.2.1[(pC m.2.2.2.1 st.2.1 st.2.2.1 st.2.2.2.1).toNat]? with
 |none=>((0:Int),(0:Int),(0:Int),(0:Int),false,())
 |some v=>v.2.2.2.1
theorem fA(m:ag.T)(st:ab.T)(h:bD m=true)(hb:aJ m st=true):cG (m,st,())=some (bP m st,())∧a9z (m,st,())=some (bP m st,())∧jR (bP m st)=true:=by
 obtain⟨_,hn,hm,hs,hc⟩:=lR h
 have hlen:=fE hs
 obtain⟨j,hj,e⟩:=WA m st h hb
 have h1:=RL m.2.2.2.1 st.2.1 st.2.2.1 st.2.2.2.1 (by omega)
 have h2:=RM m.2.2.2.1 st.2.1 st.2.2.1 st.2.2.2.1 (by omega)
 have h3:=gj hs _ (List.getElem_mem hj)
 unfold cG a9z bP
 simp only[h1,h2,e,am hj,aa,Int.toNat_natCast,List.getElem?_eq_getElem hj]
 refine⟨trivial,trivial, ?_⟩
 unfold kE at h3
 simp only[Bool.and_eq_true]at h3
 exact h3.2.2.2
def iq(d:aZ.T)(f:aG.T):Bool:=(f.1==d.2.1)&&(((f.2.2.2.1.length:Int)==d.2.2.1)&&((f.2.1==(0:Int))||d.2.2.2.2.1))
theorem RN(x):tM x=some (iq x.1 x.2.1,()):=by
 unfold tM iq
 rcases Bool.eq_false_or_eq_true (x.2.1.1==x.1.2.1)with h1|h1<;>simp only[h1,Bool.true_and,Bool.false_and]
 rcases Bool.eq_false_or_eq_true ((x.2.1.2.2.2.1.length:Int)==x.1.2.2.1)with h2|h2<;>simp only[h2,Bool.true_and,Bool.false_and]
 rcases Bool.eq_false_or_eq_true (x.2.1.2.1==(0:Int))with h3|h3<;>simp only[h3,Bool.true_or,Bool.false_or]
theorem RO(d:aZ.T)(f:aG.T)(hd:jR d=true)(hf:br f=true)(hl:f.2.2.2.1.length≤1099511627776):cW (d,f,())=some (iq d f,()):=by
 have h1:dS ((d.1,d.2.1,d.2.2.1,d.2.2.2.1,d.2.2.2.2.1,()),())=some (true,()):=by
  rw[←hd];exact Pg (d,())
 have h2:ct ((f.1,f.2.1,(f.2.2.1.1,f.2.2.1.2.1,f.2.2.1.2.2.1,f.2.2.1.2.2.2.1,f.2.2.1.2.2.2.2.1,()),f.2.2.2.1,()),())=some (true,()):=by
  rw[←hf];exact KS (f,()) hl
 unfold cW iq
 simp only[h1,h2]
 rcases Bool.eq_false_or_eq_true (f.1==d.2.1)with h1|h1<;>simp only[h1,Bool.true_and,Bool.false_and]
 rcases Bool.eq_false_or_eq_true ((f.2.2.2.1.length:Int)==d.2.2.1)with h2|h2<;>simp only[h2,Bool.true_and,Bool.false_and]
 rcases Bool.eq_false_or_eq_true d.2.2.2.2.1 with h3|h3<;>simp only[h3,Bool.or_true,Bool.or_false]
theorem CX {l:List Int}(h:(ch l).2=true):br (ch l).1=true:=by
 cases l with
 |nil=>cases h
 |cons b r=>
  have fin:∀st q,(tZ (b::r) b st q).2=true→br (tZ (b::r) b st q).1=true:=fun st q h=>by
   unfold tZ at h ⊢
   split at h
   ·split at h
    ·cases h
    ·simp only[vn,Bool.and_eq_true]at h
     exact h.1
   ·simp only[vn,Bool.and_eq_true]at h
    exact h.1
  simp only[ch]at h ⊢
  split at h
  ·split at h
   ·cases h
   ·exact fin _ _ h
  ·exact fin _ _ h
theorem qm {f:aG.T}(h:br f=true):f.2.2.2.1.length≤32:=by
 unfold br at h
 simp only[Bool.and_eq_true]at h
 have hd:=h.2.2.1
 unfold ij at hd
 split at hd
 ·have:=bi.1 hd;omega
 ·split at hd
  ·have:=bi.1 hd;omega
  ·have:(f.2.2.2.1.length:Int)=0:=by simpa using hd
   omega
theorem K0 {l:List Int}{r:Nat}{st:ab.T}(h:f4 l r st=true):(ch (ap l)).2=true:=by
 unfold f4 at h
 split at h
 ·cases h
 ·simp only[Bool.and_eq_true]at h
  exact h.2.2.1
noncomputable def uc(m:ag.T)(st:ab.T)(l:List Int):ba.T:=match f4 l m.1.toNat st&&iq (bP m st) (ch (ap l)).1 with
 |true=>((3:Int),(ch (ap l)).1,())
 |false=>((2:Int),dy,())
theorem xI {m:ag.T}(h:bD m=true):∃r:Nat,m.1=(r:Int)∧r<16777216:=by
 obtain⟨⟨h1,h2⟩,_⟩:=lR h
 have key:∀z:Int,1≤z→z≤16777215→∃r:Nat,z=(r:Int)∧r<16777216:=fun z a b=>⟨z.toNat,by omega,by omega⟩
 exact key m.1 h1 h2
theorem Vg(m:ag.T)(st:ab.T)(l:List Int)(h:bD m=true)(hb:aJ m st=true)(hl:l.length≤10000)(hv:∀v ∈ l,0≤v∧v≤255):∃c:Int,xl (m,st,l,())=some (uc m st l,c,()):=by
 obtain⟨r,er,hr⟩:=xI h
 have hst:bU st=true:=by unfold aJ at hb;rw[Bool.and_eq_true]at hb;exact hb.1
 obtain⟨c,hc,ho⟩:=Xk l r st hl hv hr hst
 obtain⟨_,hd,_⟩:=fA m st h hb
 have ho':mn (l,(r:Int),(st.1,st.2.1,st.2.2.1,st.2.2.2.1,st.2.2.2.2.1,()),())=_:=ho
 have hd':a9z ((m.1,m.2.1,m.2.2.1,m.2.2.2.1,()),(st.1,st.2.1,st.2.2.1,st.2.2.2.1,st.2.2.2.2.1,()),())=_:=hd
 unfold xl uc
 rw[er]at hd'
 simp only[er,ho',hd',RN,Int.toNat_natCast]
 rcases Bool.eq_false_or_eq_true (f4 l r st)with h1|h1
 ·simp only[h1,if_true,Bool.true_and]
  have hz:((0:Int)==0)=true:=rfl
  have hfe:iq (bP m st) ((ch (ap l)).1.1,(ch (ap l)).1.2.1,((ch (ap l)).1.2.2.1.1,(ch (ap l)).1.2.2.1.2.1,(ch (ap l)).1.2.2.1.2.2.1,(ch (ap l)).1.2.2.1.2.2.2.1,(ch (ap l)).1.2.2.1.2.2.2.2.1,()),(ch (ap l)).1.2.2.2.1,())=iq (bP m st) (ch (ap l)).1:=rfl
  simp only[hz,hfe]
  rcases Bool.eq_false_or_eq_true (iq (bP m st) (ch (ap l)).1)with h2|h2
  ·exact⟨0,by simp only[h2];rfl⟩
  ·exact⟨5,by simp only[h2];rfl⟩
 ·have hz:(c==0)=false:=by simpa using hc
  have hz2:(c != 0)=true:=by simpa using hc
  simp only[h1,Bool.false_eq_true,if_false,Bool.false_and,hz,hz2]
  exact⟨c,rfl⟩
theorem Vh(m:ag.T)(st:ab.T)(l:List Int)(h:bD m=true)(hb:aJ m st=true)(hl:l.length≤10000)(hv:∀v ∈ l,0≤v∧v≤255):∃c:Int,oh (m,st,l,())=some (uc m st l,c,()):=by
 obtain⟨r,er,hr⟩:=xI h
 have hst:bU st=true:=by unfold aJ at hb;rw[Bool.and_eq_true]at hb;exact hb.1
 obtain⟨c,hc,ho⟩:=Xj l r st hl hv hr hst
 obtain⟨hd,_,hdc⟩:=fA m st h hb
 have ho':nq (l,(r:Int),(st.1,st.2.1,st.2.2.1,st.2.2.2.1,st.2.2.2.2.1,()),())=_:=ho
 have hd':cG ((m.1,m.2.1,m.2.2.1,m.2.2.2.1,()),(st.1,st.2.1,st.2.2.1,st.2.2.2.1,st.2.2.2.2.1,()),())=_:=hd
 unfold oh uc
 rw[er]at hd'
 simp only[er,ho',hd',Int.toNat_natCast]
 rcases Bool.eq_false_or_eq_true (f4 l r st)with h1|h1
 ·have hz:((0:Int)==0)=true:=rfl
  have hfr:=CX (K0 h1)
  have hfe:cW (bP m st,((ch (ap l)).1.1,(ch (ap l)).1.2.1,((ch (ap l)).1.2.2.1.1,(ch (ap l)).1.2.2.1.2.1,(ch (ap l)).1.2.2.1.2.2.1,(ch (ap l)).1.2.2.1.2.2.2.1,(ch (ap l)).1.2.2.1.2.2.2.2.1,()),(ch (ap l)).1.2.2.2.1,()),())=some (iq (bP m st) (ch (ap l)).1,()):=RO _ _ hdc hfr (Nat.le_trans (qm hfr) (by omega))
  simp only[h1,if_true,Bool.true_and,hz,hfe]
  rcases Bool.eq_false_or_eq_true (iq (bP m st) (ch (ap l)).1)with h2|h2
  ·exact⟨0,by simp only[h2];rfl⟩
  ·exact⟨5,by simp only[h2];rfl⟩
 ·have hz:(c==0)=false:=by simpa using hc
  have hz2:(c != 0)=true:=by simpa using hc
  simp only[h1,Bool.false_eq_true,if_false,Bool.false_and,hz,hz2]
  exact⟨c,rfl⟩
noncomputable def ga(m:ag.T)(st:ab.T)(l:List Int):ba.T:=if(cE l).2.1=0 then uc m st (cE l).1 else if(cE l).2.1=4 then((0:Int),dy,())else((1:Int),dy,())
theorem XD(m:ag.T)(st:ab.T)(l:List Int)(h:bD m=true)(hb:aJ m st=true)(hl:bv l=true):∃c:Int,qg (m,st,l,())=some (ga m st l,c,()):=by
 obtain⟨h1,h2⟩:=I9 (cN hl)
 obtain⟨c,hj⟩:=Vg m st (cE l).1 h hb (by omega) h2
 have hj':xl ((m.1,m.2.1,m.2.2.1,m.2.2.2.1,()),(st.1,st.2.1,st.2.2.1,st.2.2.2.1,st.2.2.2.2.1,()),(cE l).1,())=_:=hj
 unfold qg ga
 simp only[T4 hl,hj']
 by_cases h0:(cE l).2.1=0
 ·have g:((cE l).2.1==0)=true:=by rw[h0];rfl
  simp only[g,if_pos h0]
  exact⟨c,rfl⟩
 ·have g:((cE l).2.1==0)=false:=by simpa using h0
  simp only[g,if_neg h0]
  by_cases h4:(cE l).2.1=4
  ·have g4:((cE l).2.1==4)=true:=by rw[h4];rfl
   simp only[g4,if_pos h4]
   exact⟨_,rfl⟩
  ·have g4:((cE l).2.1==4)=false:=by simpa using h4
   simp only[g4,if_neg h4]
   exact⟨_,rfl⟩
theorem Uo(m:ag.T)(st:ab.T)(l:List Int)(h:bD m=true)(hb:aJ m st=true)(hl:bv l=true):∃c:Int,fb (m,st,l,())=some (ga m st l,c,()):=by
 obtain⟨h1,h2⟩:=I9 (cN hl)
 obtain⟨c,hj⟩:=Vh m st (cE l).1 h hb (by omega) h2
 have hj':oh ((m.1,m.2.1,m.2.2.1,m.2.2.2.1,()),(st.1,st.2.1,st.2.2.1,st.2.2.2.1,st.2.2.2.2.1,()),(cE l).1,())=_:=hj
 unfold fb ga
 simp only[U5 hl,hj']
 by_cases h0:(cE l).2.1=0
 ·have g:((cE l).2.1==0)=true:=by rw[h0];rfl
  simp only[g,if_pos h0]
  exact⟨c,rfl⟩
 ·have g:((cE l).2.1==0)=false:=by simpa using h0
  simp only[g,if_neg h0]
  by_cases h4:(cE l).2.1=4
  ·have g4:((cE l).2.1==4)=true:=by rw[h4];rfl
   simp only[g4,if_pos h4]
   exact⟨_,rfl⟩
  ·have g4:((cE l).2.1==4)=false:=by simpa using h4
   simp only[g4,if_neg h4]
   exact⟨_,rfl⟩
noncomputable def gq(m:ag.T)(st:ab.T)(l:List Int):ba.T×Int×Unit:=match bD m with
 |false=>(((0:Int),dy,()),(1:Int),())
 |true=>match aJ m st with
  |false=>(((0:Int),dy,()),(2:Int),())
  |true=>match bv l with
   |false=>(((0:Int),dy,()),(2:Int),())
   |true=>(ga m st l,(0:Int),())
theorem LM(m:ag.T)(st:ab.T)(l:List Int)(hz:d4 m)(hl:l.length≤1099511627776):eH (m,st,l,())=some (gq m st l):=by
 have hM:jN ((m.1,m.2.1,m.2.2.1,m.2.2.2.1,()),())=_:=Pp m hz
 unfold eH qC dV gq
 simp only[I7 l hl,hM]
 rcases Bool.eq_false_or_eq_true (bD m)with h1|h1<;>simp only[h1,Bool.not_true,Bool.not_false]
 ·have hB:le ((m.1,m.2.1,m.2.2.1,m.2.2.2.1,()),(st.1,st.2.1,st.2.2.1,st.2.2.2.1,st.2.2.2.2.1,()),())=_:=SW m st h1
  simp only[hB]
  rcases Bool.eq_false_or_eq_true (aJ m st)with h2|h2<;>simp only[h2,Bool.not_true,Bool.not_false]
  ·rcases Bool.eq_false_or_eq_true (bv l)with h3|h3<;>simp only[h3,Bool.not_true,Bool.not_false]
   ·obtain⟨c,hr⟩:=XD m st l h1 h2 h3
    have hr':qg ((m.1,m.2.1,m.2.2.1,m.2.2.2.1,()),(st.1,st.2.1,st.2.2.1,st.2.2.2.1,st.2.2.2.2.1,()),l,())=_:=hr
    simp only[hr']
    rfl
   ·rfl
  ·rfl
 ·rfl
end Go.Proofs.YthfgmmmeplanbaaGreatDoor
namespace Go.Proofs.YthfgmmmeplanbaaGreatDoor
open Go.RowKit
set_option linter.unusedVariables false
set_option linter.unusedSimpArgs false
theorem Up {T:Type}{g:List T×Int×Unit→Option (Int×Unit)}{B:List T×Int×Int×Unit→Option ((List T×Int×Int×Unit) ⊕ ((Int×Unit) ⊕ (Int×Unit)))}
  (hg:∀l n,g (l,n,())=match(decide ((IntKind.i64.wrap (n-(l.length:Int)))<(0:Int)))with
    |true=>some ((-1:Int),())
    |false=>match ac B (l,IntKind.i64.wrap (n-(l.length:Int)),(0:Int),())with
     |none=>none
     |some (.inl v)=>some (v.1,())
     |some (.inr v)=>some (v.1,()))
  (w:T→Nat) (l:List T) (hl:l.length≤maxLen)
  (hend:∀n,B (l,n,(l.length:Int),())=some (.inr (.inl (n,()))))
  (hstep:l.length≤1048576→∀(n:Int) i (h:i<l.length),0≤n→n≤1048576→B (l,n,(i:Int),())=if n-(w l[i]:Int)<0 then some (.inr (.inr ((-1:Int),())))else some (.inl (l,n-(w l[i]:Int),((i+1:Nat):Int),())))
  (n:Int) (h0:0≤n) (h1:n≤1048576):∃y:Int,g (l,n,())=some (y,())∧y≤n∧(0≤y→(l.length:Int)≤n∧∀v ∈ l,(w v:Int)≤n):=by
 have hl':l.length≤9223372036854775807:=hl
 have hw:IntKind.i64.wrap (n-(l.length:Int))=n-l.length:=by rw[wrap_i64]<;>omega
 rw[hg,hw]
 by_cases hc:n-(l.length:Int)<0
 ·rw[decide_eq_true hc]
  exact⟨-1,rfl,by omega,fun h=>absurd h (by decide)⟩
 ·rw[decide_eq_false hc]
  have hl2:l.length≤1048576:=by omega
  have key:∀(k i:Nat) (q:Int),i+k=l.length→0≤q→q≤1048576→∃(y:Int),(ac B (l,q,(i:Int),())=some (.inl (y,()))∨ac B (l,q,(i:Int),())=some (.inr (y,())))∧y≤q∧(0≤y→∀v ∈ l.drop i,(w v:Int)≤q):=by
   intro k
   induction k with
   |zero=>
    intro i q hi _ _
    have hi:i=l.length:=by omega
    subst hi
    refine⟨q,.inl ?_,by omega,fun _ v hv=> ?_⟩
    ·rw[an,hend q]
    ·rw[List.drop_length]at hv;cases hv
   |succ k ih=>
    intro i q hi q0 q1
    have h:i<l.length:=by omega
    rw[an,hstep hl2 q i h q0 q1]
    by_cases hq:q-(w l[i]:Int)<0
    ·rw[if_pos hq]
     exact⟨-1,.inr rfl,by omega,fun h=>absurd h (by decide)⟩
    ·rw[if_neg hq]
     obtain⟨y,e,y1,y2⟩:=ih (i+1) (q-(w l[i]:Int)) (by omega) (by omega) (by omega)
     refine⟨y,e,by omega,fun hy v hv=> ?_⟩
     rw[List.drop_eq_getElem_cons h,List.mem_cons]at hv
     rcases hv with rfl|hv
     ·omega
     ·have:=y2 hy v hv
      omega
  obtain⟨y,e,y1,y2⟩:=key l.length 0 (n-l.length) (by omega) (by omega) (by omega)
  have e:ac B (l,n-(l.length:Int),(0:Int),())=some (.inl (y,()))∨ac B (l,n-(l.length:Int),(0:Int),())=some (.inr (y,())):=e
  refine⟨y, ?_,by omega,fun hy=>⟨by omega,fun v hv=> ?_⟩⟩
  ·rcases e with e|e<;>simp only[e]
  ·have:=y2 hy v (by rw[List.drop_zero];exact hv)
   omega
theorem Pr(l:List aj.T)(hl:l.length≤maxLen)(hd:∀v ∈ l,v.2.1.length≤maxLen)(n:Int)(h0:0≤n)(h1:n≤1048576):∃y:Int,my (l,n,())=some (y,())∧y≤n∧(0≤y→(l.length:Int)≤n∧∀v ∈ l,((v.2.1.length:Nat):Int)≤n):=
 Up (g:=my) (B:=fm) (fun _ _=>by kernel_rfl) (fun v=>v.2.1.length) l hl (fun n=>by simp only[fm,aK]) (fun hl2 n i h n0 n1=>by
  have hm:l[i].2.1.length≤9223372036854775807:=hd _ (List.getElem_mem h)
  have hw:IntKind.i64.wrap (n-(l[i].2.1.length:Int))=n-l[i].2.1.length:=by rw[wrap_i64]<;>omega
  simp only[fm,aM h,av h (show l.length≤1099511627776 by omega),am h,aa,su,hw]
  by_cases hc:n-(l[i].2.1.length:Int)<0
  ·rw[if_pos hc]
   simp only[decide_eq_true hc]
   rfl
  ·rw[if_neg hc]
   simp only[decide_eq_false hc]) n h0 h1
theorem Ps(l:List ao.T)(hl:l.length≤maxLen)(hd:∀v ∈ l,v.2.2.1.length≤maxLen)(n:Int)(h0:0≤n)(h1:n≤1048576):∃y:Int,mz (l,n,())=some (y,())∧y≤n∧(0≤y→(l.length:Int)≤n∧∀v ∈ l,((v.2.2.1.length:Nat):Int)≤n):=
 Up (g:=mz) (B:=fo) (fun _ _=>by kernel_rfl) (fun v=>v.2.2.1.length) l hl (fun n=>by simp only[fo,aK]) (fun hl2 n i h n0 n1=>by
  have hs:=TW (l[i].2.2.1,n,()) n0 n1 (hd _ (List.getElem_mem h))
  simp only[fo,aM h,av h (show l.length≤1099511627776 by omega),am h,aa,sy,hs]
  by_cases hc:n-(l[i].2.2.1.length:Int)<0
  ·simp only[if_pos hc]
   rfl
  ·simp only[if_neg hc,decide_eq_false hc]) n h0 h1
def qn(m:ag.T):Prop:=m.2.1.length≤1048576∧(∀v ∈ m.2.1,v.2.1.length≤1048576)∧m.2.2.1.length≤1048576∧(∀v ∈ m.2.2.1,v.2.2.1.length≤1048576)∧m.2.2.2.1.length≤1048576
theorem vQ {m:ag.T}(h:qn m):d4 m:=
 ⟨Nat.le_trans h.1 (by omega),fun v hv=>Nat.le_trans (h.2.1 v hv) (by omega),Nat.le_trans h.2.2.1 (by omega),fun v hv=>Nat.le_trans (h.2.2.2.1 v hv) (by omega),Nat.le_trans h.2.2.2.2 (by omega)⟩
theorem WB(m:ag.T)(hx:Wf ag m):∃y:Int,o7 (m,(1048576:Int),())=some (y,())∧(0≤y→qn m):=by
 have w1:m.2.1.length≤maxLen:=hx.2.1.1
 have w2:∀v ∈ m.2.1,v.2.1.length≤maxLen:=fun v hv=>(hx.2.1.2 v hv).2.1
 have w3:m.2.2.1.length≤maxLen:=hx.2.2.1.1
 have w4:∀v ∈ m.2.2.1,v.2.2.1.length≤maxLen:=fun v hv=>(hx.2.2.1.2 v hv).2.2.1.1
 have w5:m.2.2.2.1.length≤maxLen:=hx.2.2.2.1.1
 obtain⟨a,ea,a1,a2⟩:=Pr m.2.1 w1 w2 1048576 (by omega) (by omega)
 unfold o7
 simp only[ea]
 by_cases ca:a<0
 ·exact⟨-1,by simp only[decide_eq_true ca],fun h=>absurd h (by decide)⟩
 ·obtain⟨b,eb,b1,b2⟩:=Ps m.2.2.1 w3 w4 a (by omega) (by omega)
  simp only[decide_eq_false ca,eb]
  by_cases cb:b<0
  ·exact⟨-1,by simp only[decide_eq_true cb],fun h=>absurd h (by decide)⟩
  ·have ec:=CN (m.2.2.2.1,b,()) (show(0:Int)≤b by omega) (show b≤(1048576:Int) by omega) w5
   simp only[decide_eq_false cb,ec]
   by_cases cc:b-(m.2.2.2.1.length:Int)<0
   ·simp only[if_pos cc]
    exact⟨-1,rfl,fun h=>absurd h (by decide)⟩
   ·simp only[if_neg cc,decide_eq_false cc]
    refine⟨_,rfl,fun _=> ?_⟩
    obtain⟨x1,x2⟩:=a2 (by omega)
    obtain⟨y1,y2⟩:=b2 (by omega)
    refine⟨by omega,fun v hv=> ?_,by omega,fun v hv=> ?_,by omega⟩
    ·have:=x2 v hv;omega
    ·have:=y2 v hv;omega
theorem QR(x)(h:x.1.2.2.1.length≤1099511627776):nR x=some (x.1,()):=by
 have ht:nQ (x.1.2.2.1,())=some (x.1.2.2.1,()):=TX (x.1.2.2.1,()) h
 unfold nR
 simp only[ht]
theorem Pt(x)(hl:x.1.length≤1099511627776)(hd:∀v ∈ x.1,v.2.2.1.length≤1099511627776):jV x=some (x.1,()):=
 CL (g:=jV) (B:=fq) (z:=(((0:Int),(0:Int),[],()):ao.T)) (fun _=>by kernel_rfl) x.1 hl (fun s=>by simp only[fq,aK]) (fun s i h h'=>by
  have ht:=QR (x.1[i],()) (hd _ (List.getElem_mem h))
  simp only[fq,aM h,av h hl,am h,aa,am h',Int.toNat_natCast,List.getElem?_eq_getElem h']
  rw[ht])
theorem K1(m:ag.T)(h:qn m):g6 (m,())=some (m,()):=by
 have hz:=vQ h
 have h1:jU (m.2.1,())=some (m.2.1,()):=OW (m.2.1,()) hz.1
 have h2:jV (m.2.2.1,())=some (m.2.2.1,()):=Pt (m.2.2.1,()) hz.2.2.1 hz.2.2.2.1
 have h3:jW (m.2.2.2.1,())=some (m.2.2.2.1,()):=OX (m.2.2.2.1,()) hz.2.2.2.2
 unfold g6
 simp only[h1,h2,h3]
theorem QS(x)(h:x.2.1=x.1)(hd:x.1.2.2.1.length≤1099511627776):nT x=some (true,()):=by
 obtain⟨a,b,u⟩:=x
 obtain rfl:b=a:=h
 have h2:jJ (b.2.2.1,b.2.2.1,())=some (true,()):=LD _ rfl hd
 unfold nT
 simp only[h2,gN,Bool.not_true]
theorem Pu(x)(h:x.2.1=x.1)(hl:x.1.length≤1099511627776)(hd:∀v ∈ x.1,v.2.2.1.length≤1099511627776):jY x=some (true,()):=by
 obtain⟨l,m,u⟩:=x
 obtain rfl:m=l:=h
 have hl:m.length≤1099511627776:=hl
 exact CM (g:=jY) (B:=fw) (fun _=>by kernel_rfl) m (by simp only[fw,aK]) (fun i h=>by
  simp only[fw,aM h,aK,av h hl,am h,aa]
  rw[QS _ rfl (hd _ (List.getElem_mem h))]
  simp)
theorem WC(m:ag.T)(h:qn m):x9 (m,m,())=some (true,()):=by
 have hz:=vQ h
 have h1:jX (m.2.1,m.2.1,())=some (true,()):=OY _ rfl hz.1
 have h2:jY (m.2.2.1,m.2.2.1,())=some (true,()):=Pu _ rfl hz.2.2.1 hz.2.2.2.1
 have h3:jZ (m.2.2.2.1,m.2.2.2.1,())=some (true,()):=OZ _ rfl hz.2.2.2.2
 unfold x9
 simp only[h1,h2,h3,gN,Bool.not_true]
theorem Vi(x)(h:x.2.1=x.1)(hd:x.1.2.2.2.1.length≤1099511627776):pJ x=some (true,()):=by
 obtain⟨a,b,u⟩:=x
 obtain rfl:b=a:=h
 have h1:gQ ((b.2.2.1.1,b.2.2.1.2.1,b.2.2.1.2.2.1,b.2.2.1.2.2.2.1,b.2.2.1.2.2.2.2.1,()),(b.2.2.1.1,b.2.2.1.2.1,b.2.2.1.2.2.1,b.2.2.1.2.2.2.1,b.2.2.1.2.2.2.2.1,()),())=some (true,()):=Gr _ rfl
 have h2:jJ (b.2.2.2.1,b.2.2.2.1,())=some (true,()):=LD _ rfl hd
 unfold pJ
 simp only[h1,h2,gN,Bool.not_true]
theorem Jo(v:ba.T)(hd:v.2.1.2.2.2.1.length≤1099511627776):kq (v,v,())=some (true,()):=by
 have h1:pJ ((v.2.1.1,v.2.1.2.1,(v.2.1.2.2.1.1,v.2.1.2.2.1.2.1,v.2.1.2.2.1.2.2.1,v.2.1.2.2.1.2.2.2.1,v.2.1.2.2.1.2.2.2.2.1,()),v.2.1.2.2.2.1,()),(v.2.1.1,v.2.1.2.1,(v.2.1.2.2.1.1,v.2.1.2.2.1.2.1,v.2.1.2.2.1.2.2.1,v.2.1.2.2.1.2.2.2.1,v.2.1.2.2.1.2.2.2.2.1,()),v.2.1.2.2.2.1,()),())=some (true,()):=Vi _ rfl hd
 unfold kq
 simp only[h1,gN,Bool.not_true]
def Jp(v:ba.T)(d:List Int):ba.T:=(v.1,(v.2.1.1,v.2.1.2.1,v.2.1.2.2.1,d,()),())
theorem MY(v:ba.T)(q:Int)(h:v.2.1.2.2.2.1.length≤1099511627776):mB (v,q,())=some ((bM df v.2.1.2.2.2.1 q).2,Jp v (bM df v.2.1.2.2.2.1 q).1,()):=by
 have h1:g7 (v.2.1.2.2.2.1,q,())=_:=EJ (v.2.1.2.2.2.1,q,()) h
 unfold mB vz
 simp only[h1]
 rfl
theorem z8(v:ba.T)(l:List Int)(hl:l.length≤1099511627776):ka (Jp v (bM df l 1).1,1,())=some ((bM df l 1).2,()):=by
 have h1:kO ((bM df l 1).1,1,())=_:=QJ l hl ((bM df l 1).1,1,()) rfl
 have m:=yC l hl 1 (by omega) (by omega)
 have n:decide ((bM df l 1).2<0)=false:=by simp;omega
 unfold ka vA Jp
 simp only[h1,n]
theorem r0 {T O:Type}{B:List T×Int×Int×Unit→Option ((List T×Int×Int×Unit) ⊕ ((List T×Int×Unit) ⊕ O))}(N:Nat)(P:T→Prop)(K:Int)(hK:0≤K)
  (hend:∀s q,s.length=N→B (s,q,(N:Int),())=some (.inr (.inl (s,q,()))))
  (hstep:∀(s:List T) (q:Int) i,i<N→s.length=N→(∀v ∈ s,P v)→0≤q→q≤1000000000000000000→∃(s':List T) (q':Int),B (s,q,(i:Int),())=some (.inl (s',q',((i+1:Nat):Int),()))∧s'.length=N∧(∀v ∈ s',P v)∧q≤q'∧q'≤q+K):
  ∀(n i:Nat) (s:List T) (q:Int),i+n=N→s.length=N→(∀v ∈ s,P v)→0≤q→q+(n:Int)*K≤1000000000000000000→∃(s':List T) (q':Int),ac B (s,q,(i:Int),())=some (.inl (s',q',()))∧q≤q'∧q'≤q+(n:Int)*K
 |0,i,s,q,hi,hs,hp,h0,h1=>by
  have hi:i=N:=by omega
  subst hi
  exact⟨s,q,by rw[an,hend s q hs],by omega,by omega⟩
 |n+1,i,s,q,hi,hs,hp,h0,h1=>by
  have hn:((n+1:Nat):Int)*K=(n:Int)*K+K:=by rw[Int.natCast_add,Int.add_mul];simp
  have hp0:0≤(n:Int)*K:=Int.mul_nonneg (by omega) hK
  rw[hn]at h1 ⊢
  obtain⟨s',q',e,a,b,c,d⟩:=hstep s q i (by omega) hs hp h0 (by omega)
  obtain⟨s2,q2,e2,c2,d2⟩:=r0 N P K hK hend hstep n (i+1) s' q' (by omega) a b (by omega) (by omega)
  exact⟨s2,q2,by rw[an,e];exact e2,by omega,by omega⟩
theorem Uq(n:Int)(h0:0≤n)(h1:n≤1152921504606847000):∃t,rF (n,())=some (t,()):=by
 have key:∀(k m:Nat) (s:List UInt8),m<10^k→s.length+k≤1000→m≤1152921504606847000→∃t:List UInt8,ac jk ((m:Int),s,())=some (.inl (t,()))∧t.length≤s.length+k:=by
  intro k
  induction k with
  |zero=>
   intro m s hm _ _
   have:m=0:=by simpa using hm
   subst this
   exact⟨s,by rw[an];rfl,by omega⟩
  |succ k ih=>
   intro m s hm hs hb
   by_cases hz:m=0
   ·subst hz
    exact⟨s,by rw[an];rfl,by omega⟩
   ·have hd:decide ((m:Int)>0)=true:=decide_eq_true (by omega)
    have hw:IntKind.i64.wrap (Int.tdiv (m:Int) 10)=((m / 10:Nat):Int):=by
     rw[Int.tdiv_eq_ediv_of_nonneg (by omega),wrap_i64]<;>omega
    have hm':m / 10<10^k:=by
     rw[Nat.pow_succ]at hm
     omega
    obtain⟨t,e,ht⟩:=ih (m / 10) (List.map (fun n=>UInt8.ofNat (Int.toNat n)) ([(IntKind.u8.wrap (IntKind.i64.wrap ((48:Int)+(Int.tmod (m:Int) (10:Int)))))]:List Int)++s) hm' (by simp;omega) (by omega)
    refine⟨t, ?_,by simp at ht;omega⟩
    rw[an]
    simp only[jk,hd,hw]
    rw[aE (by simp;omega)]
    exact e
 obtain⟨m,rfl⟩:∃m:Nat,n=m:=⟨n.toNat,by omega⟩
 obtain⟨t,e,ht⟩:=key 19 m [] (by omega) (by simp) (by omega)
 unfold rF
 by_cases hc:(m:Int)≤0
 ·exact⟨[109,48],by simp only[decide_eq_true hc]⟩
 ·simp only[decide_eq_false hc,e]
  rw[aE (by simp at ht ⊢;omega)]
  exact⟨_,rfl⟩
theorem SX(l:List aj.T)(q:Int)(hl:l.length≤1048576)(h0:0≤q)(h1:q≤1000000000000):∃(s':List aj.T) (q':Int),kw (l,q,())=some (q',s',())∧q≤q'∧q'≤q+4194304:=by
 obtain⟨s',q',e,a,b⟩:=r0 (B:=di) l.length (fun _=>True) 4 (by omega) (fun s q hs=>by simp only[di,hs,aK]) (fun s q i hi hs _ q0 q1=>by
  have h':i<s.length:=by omega
  have w1:IntKind.i64.wrap (q+1)=q+1:=gH (by omega) (by omega)
  have w2:IntKind.i64.wrap (q+1+1)=q+1+1:=gH (by omega) (by omega)
  have w3:IntKind.i64.wrap (q+1+1+1)=q+1+1+1:=gH (by omega) (by omega)
  have w4:IntKind.i64.wrap (q+1+1+1+1)=q+1+1+1+1:=gH (by omega) (by omega)
  obtain⟨t,ht⟩:=Uq (q+1) (by omega) (by omega)
  have hs':(s.length:Int)=(l.length:Int):=by rw[hs]
  simp only[di,hs',aM hi,av hi (show l.length≤1099511627776 by omega),am h',aa,w1,ht,Int.toNat_natCast,List.getElem?_eq_getElem h',List.length_set,aw,List.getElem?_set,List.set_set,List.getElem?_set_self,Int.natCast_nonneg,if_true,h',w2,w3,w4]
  exact⟨_,_,rfl,by rw[List.length_set];exact hs,fun _ _=>trivial,by omega,by omega⟩) l.length 0 l q (by omega) rfl (fun _ _=>trivial) h0 (by omega)
 have e:ac di (l,q,(0:Int),())=_:=e
 refine⟨s',q', ?_,a,by omega⟩
 unfold kw
 simp only[e]
theorem SY(l:List ae.T)(q:Int)(hl:l.length≤1048576)(h0:0≤q)(h1:q≤1000000000000000):∃(s':List ae.T) (q':Int),ky (l,q,())=some (q',s',())∧q≤q'∧q'≤q+8388608:=by
 obtain⟨s',q',e,a,b⟩:=r0 (B:=dk) l.length (fun _=>True) 8 (by omega) (fun s q hs=>by simp only[dk,hs,aK]) (fun s q i hi hs _ q0 q1=>by
  have h':i<s.length:=by omega
  have w1:IntKind.i64.wrap (q+1)=q+1:=gH (by omega) (by omega)
  have w2:IntKind.i64.wrap (q+1+1)=q+1+1:=gH (by omega) (by omega)
  have w3:IntKind.i64.wrap (q+1+1+1)=q+1+1+1:=gH (by omega) (by omega)
  have w4:IntKind.i64.wrap (q+1+1+1+1)=q+1+1+1+1:=gH (by omega) (by omega)
  have w5:IntKind.i64.wrap (q+1+1+1+1+1)=q+1+1+1+1+1:=gH (by omega) (by omega)
  have w6:IntKind.i64.wrap (q+1+1+1+1+1+1)=q+1+1+1+1+1+1:=gH (by omega) (by omega)
  have w7:IntKind.i64.wrap (q+1+1+1+1+1+1+1)=q+1+1+1+1+1+1+1:=gH (by omega) (by omega)
  have w8:IntKind.i64.wrap (q+1+1+1+1+1+1+1+1)=q+1+1+1+1+1+1+1+1:=gH (by omega) (by omega)
  have hs':(s.length:Int)=(l.length:Int):=by rw[hs]
  simp only[dk,hs',aM hi,av hi (show l.length≤1099511627776 by omega),am h',aa,w1,Int.toNat_natCast,List.getElem?_eq_getElem h',List.length_set,aw,List.getElem?_set,List.set_set,List.getElem?_set_self,Int.natCast_nonneg,if_true,h',w2,w3,w4,w5,w6,w7,w8]
  exact⟨_,_,rfl,by rw[List.length_set];exact hs,fun _ _=>trivial,by omega,by omega⟩) l.length 0 l q (by omega) rfl (fun _ _=>trivial) h0 (by omega)
 have e:ac dk (l,q,(0:Int),())=_:=e
 refine⟨s',q', ?_,a,by omega⟩
 unfold ky
 simp only[e]
theorem SZ(l:List ao.T)(q:Int)(hl:l.length≤1048576)(hd:∀v ∈ l,v.2.2.1.length≤1048576)(h0:0≤q)(h1:q≤1000000000000):∃(s':List ao.T) (q':Int),kx (l,q,())=some (q',s',())∧q≤q'∧q'≤q+2199023255552:=by
 obtain⟨s',q',e,a,b⟩:=r0 (B:=dj) l.length (fun(v:ao.T)=>v.2.2.1.length≤1048576) 2097152 (by omega) (fun s q hs=>by simp only[dj,hs,aK]) (fun s q i hi hs hp q0 q1=>by
  have h':i<s.length:=by omega
  have w1:IntKind.i64.wrap (q+1)=q+1:=gH (by omega) (by omega)
  have w2:IntKind.i64.wrap (q+1+1)=q+1+1:=gH (by omega) (by omega)
  have hs':(s.length:Int)=(l.length:Int):=by rw[hs]
  have hlen:=hp _ (List.getElem_mem h')
  have hm:g7 (s[i].2.2.1,q+1+1,())=_:=EJ (s[i].2.2.1,q+1+1,()) (Nat.le_trans hlen (by omega))
  have hq:=yC s[i].2.2.1 (Nat.le_trans hlen (by omega)) (q+1+1) (by omega) (by omega)
  simp only[dj,hs',aM hi,av hi (show l.length≤1099511627776 by omega),am h',aa,w1,w2,hm,Int.toNat_natCast,List.getElem?_eq_getElem h',List.length_set,aw,List.getElem?_set,List.set_set,List.getElem?_set_self,Int.natCast_nonneg,if_true,h']
  refine⟨_,_,rfl,by rw[List.length_set];exact hs,fun v hv=> ?_,by omega,by omega⟩
  rcases List.mem_or_eq_of_mem_set hv with hv|hv
  ·exact hp v hv
  ·rw[hv]
   show(bM df s[i].2.2.1 (q+1+1)).1.length≤1048576
   rw[tT]
   exact hlen) l.length 0 l q (by omega) rfl hd h0 (by omega)
 have e:ac dj (l,q,(0:Int),())=_:=e
 refine⟨s',q', ?_,a,by omega⟩
 unfold kx
 simp only[e]
theorem Ur(m:ag.T)(h:qn m):∃(c:Int) (m':ag.T),rG (m,(1:Int),())=some (c,m',())∧0≤c∧c≤100000000000000:=by
 obtain⟨s1,q1,e1,a1,b1⟩:=SX m.2.1 1 h.1 (by omega) (by omega)
 obtain⟨s2,q2,e2,a2,b2⟩:=SZ m.2.2.1 q1 h.2.2.1 h.2.2.2.1 (by omega) (by omega)
 obtain⟨s3,q3,e3,a3,b3⟩:=SY m.2.2.2.1 q2 h.2.2.2.2 (by omega) (by omega)
 unfold rG
 simp only[e1,e2,e3]
 exact⟨_,_,rfl,by omega,by omega⟩
end Go.Proofs.YthfgmmmeplanbaaGreatDoor
namespace Go.Proofs.YthfgmmmeplanbaaGreatDoor
open Go.RowKit
set_option linter.unusedVariables false
set_option linter.unusedSimpArgs false
abbrev Dl(v:ba.T):List Int:=v.2.1.2.2.2.1
theorem QT(x)(h:x.1.2.2.2.1.length≤1099511627776):pY x=some (bX x.1 x.2.1,()):=by
 have hs:bo (x.1.2.2.2.1,x.2.1.2.2.2.1,())=_:=T6 x.1.2.2.2.1 x.2.1.2.2.2.1 h
 have e0:pY x=match(x.1.1==x.2.1.1)with
  |true=>match(x.1.2.1==x.2.1.2.1)with
   |true=>match dz ab x.1.2.2.1 x.2.1.2.2.1 with
    |true=>match bo (x.1.2.2.2.1,x.2.1.2.2.2.1,())with
     |none=>none
     |some v1=>some (v1.1,())
    |false=>some (false,())
   |false=>some (false,())
  |false=>some (false,()):=rfl
 rw[e0,hs]
 unfold bX
 rcases Bool.eq_false_or_eq_true (x.1.1==x.2.1.1)with h1|h1<;>rcases Bool.eq_false_or_eq_true (x.1.2.1==x.2.1.2.1)with h2|h2<;>rcases Bool.eq_false_or_eq_true (dz ab x.1.2.2.1 x.2.1.2.2.1)with h3|h3<;>simp only[h1,h2,h3]<;>rfl
theorem Pv(x)(h:x.1.2.2.2.1.length≤1099511627776):mo x=some (bX x.1 x.2.1,()):=by
 have hs:bd (x.1.2.2.2.1,x.2.1.2.2.2.1,())=_:=O8 x.1.2.2.2.1 x.2.1.2.2.2.1 h
 have e0:mo x=match(x.1.1==x.2.1.1)with
  |true=>match(x.1.2.1==x.2.1.2.1)with
   |true=>match dz ab x.1.2.2.1 x.2.1.2.2.1 with
    |true=>match bd (x.1.2.2.2.1,x.2.1.2.2.2.1,())with
     |none=>none
     |some v1=>some (v1.1,())
    |false=>some (false,())
   |false=>some (false,())
  |false=>some (false,()):=rfl
 rw[e0,hs]
 unfold bX
 rcases Bool.eq_false_or_eq_true (x.1.1==x.2.1.1)with h1|h1<;>rcases Bool.eq_false_or_eq_true (x.1.2.1==x.2.1.2.1)with h2|h2<;>rcases Bool.eq_false_or_eq_true (dz ab x.1.2.2.1 x.2.1.2.2.1)with h3|h3<;>simp only[h1,h2,h3]<;>rfl
theorem MZ(x)(h:x.1.2.1.2.2.2.1.length≤1099511627776):km x=some (fh x.1 x.2.1,()):=by
 have e0:km x=match(x.1.1==x.2.1.1)with
  |true=>match mo (x.1.2.1,x.2.1.2.1,())with
   |none=>none
   |some v1=>some (v1.1,())
  |false=>some (false,()):=rfl
 rw[e0,Pv (x.1.2.1,x.2.1.2.1,()) h]
 unfold fh
 rcases Bool.eq_false_or_eq_true (x.1.1==x.2.1.1)with h1|h1<;>simp only[h1]<;>rfl
theorem QU(x y:ab.T):dz ab x y=true↔x=y:=by
 obtain⟨(a:Int),(b:Int),(c:Int),(d:Int),(e:Int),⟨⟩⟩:=x
 obtain⟨(a':Int),(b':Int),(c':Int),(d':Int),(e':Int),⟨⟩⟩:=y
 have h:dz ab (a,b,c,d,e,()) (a',b',c',d',e',())=((a==a')&&((b==b')&&((c==c')&&((d==d')&&((e==e')&&true))))):=rfl
 rw[h]
 simp only[Bool.and_eq_true,beq_iff_eq,and_true]
 constructor
 ·rintro ⟨rfl,rfl,rfl,rfl,rfl⟩;rfl
 ·intro h
  cases h
  exact⟨rfl,rfl,rfl,rfl,rfl⟩
theorem Aa(x y:aG.T):bX x y=true↔x=y:=by
 obtain⟨(a:Int),(b:Int),c,(d:List Int),⟨⟩⟩:=x
 obtain⟨(a':Int),(b':Int),c',(d':List Int),⟨⟩⟩:=y
 have h:bX (a,b,c,d,()) (a',b',c',d',())=((a==a')&&((b==b')&&(dz ab c c'&&decide (d=d')))):=rfl
 rw[h]
 simp only[Bool.and_eq_true,beq_iff_eq,QU,decide_eq_true_eq]
 constructor
 ·rintro ⟨rfl,rfl,rfl,rfl⟩;rfl
 ·intro h
  cases h
  exact⟨rfl,rfl,rfl,rfl⟩
def eD(s:Int):ba.T:=(s,dy,())
theorem mO {v:ba.T}(h:gE v=true):(∃f,v=((3:Int),f,())∧br f=true)∨(∃s:Int,v=eD s∧0≤s∧s≤4∧s≠3):=by
 obtain⟨(s:Int),f,⟨⟩⟩:=v
 have h:(if s==(3:Int)then br f else aI s 0 4&&bX f dy)=true:=h
 by_cases hs:s=3
 ·subst hs
  exact .inl ⟨f,rfl,by simpa using h⟩
 ·have hb:(s==(3:Int))=false:=by simp[hs]
  rw[hb]at h
  simp only[Bool.false_eq_true,if_false,Bool.and_eq_true,Aa]at h
  obtain⟨h1,rfl⟩:=h
  have:=bi.1 h1
  exact .inr ⟨s,rfl,this.1,this.2,hs⟩
theorem Dm {s:Int}(h0:0≤s)(h4:s≤4)(h3:s≠3):gE (eD s)=true:=by
 have e:gE (eD s)=if s==(3:Int)then br dy else aI s 0 4&&bX dy dy:=rfl
 have hb:(s==(3:Int))=false:=by simp[h3]
 rw[e,hb,(Aa dy dy).2 rfl,bi.2 ⟨h0,h4⟩]
 rfl
noncomputable def gI(a b:ba.T):ba.T:=if(a.1==(3:Int))&&((b.1==(3:Int))&&bX a.2.1 b.2.1)then a else if((a.1==(3:Int))&&(b.1==(3:Int)))||((a.1==(4:Int))||(b.1==(4:Int)))then eD 4 else if a.1==(3:Int)then a else if b.1==(3:Int)then b else eD (if b.1>a.1 then b.1 else a.1)
noncomputable def ud(a b:ba.T):ba.T:=if(a.1==(3:Int))&&fh a b then a else if((a.1==(3:Int))&&(b.1==(3:Int)))||((a.1==(4:Int))||(b.1==(4:Int)))then eD 4 else if decide (a.1≥b.1)then a else b
theorem WD(a b:ba.T)(h:(Dl a).length≤1099511627776):jM (a,b,())=some (gI a b,()):=by
 have hs:pY (a.2.1,b.2.1,())=some (bX a.2.1 b.2.1,()):=QT _ h
 obtain⟨(s:Int),⟨(k:Int),(r:Int),⟨(t1:Int),(t2:Int),(t3:Int),(t4:Int),(t5:Int),⟨⟩⟩,(d:List Int),⟨⟩⟩,⟨⟩⟩:=a
 obtain⟨(s':Int),⟨(k':Int),(r':Int),⟨(u1:Int),(u2:Int),(u3:Int),(u4:Int),(u5:Int),⟨⟩⟩,(d':List Int),⟨⟩⟩,⟨⟩⟩:=b
 unfold jM gI
 simp only at hs ⊢
 rw[hs]
 rcases Bool.eq_false_or_eq_true (s==(3:Int))with h1|h1<;>rcases Bool.eq_false_or_eq_true (s'==(3:Int))with h2|h2<;>rcases Bool.eq_false_or_eq_true (s==(4:Int))with h3|h3<;>rcases Bool.eq_false_or_eq_true (s'==(4:Int))with h4|h4<;>(try (rcases Bool.eq_false_or_eq_true (bX (k,r,(t1,t2,t3,t4,t5,()),d,()) (k',r',(u1,u2,u3,u4,u5,()),d',()))with h5|h5))<;>simp only[h1,h2,h3,h4,h5]<;>rfl
theorem S3(a b:ba.T)(h:(Dl a).length≤1099511627776):Dc (a,b,())=some (ud a b,()):=by
 have hs:km (a,b,())=some (fh a b,()):=MZ _ h
 obtain⟨(s:Int),⟨(k:Int),(r:Int),⟨(t1:Int),(t2:Int),(t3:Int),(t4:Int),(t5:Int),⟨⟩⟩,(d:List Int),⟨⟩⟩,⟨⟩⟩:=a
 obtain⟨(s':Int),⟨(k':Int),(r':Int),⟨(u1:Int),(u2:Int),(u3:Int),(u4:Int),(u5:Int),⟨⟩⟩,(d':List Int),⟨⟩⟩,⟨⟩⟩:=b
 unfold Dc ud
 simp only at hs ⊢
 rw[hs]
 generalize fh (s,(k,r,(t1,t2,t3,t4,t5,()),d,()),()) (s',(k',r',(u1,u2,u3,u4,u5,()),d',()),())=q
 rcases Bool.eq_false_or_eq_true (s==(3:Int))with h1|h1<;>rcases Bool.eq_false_or_eq_true (s'==(3:Int))with h2|h2<;>rcases Bool.eq_false_or_eq_true (s==(4:Int))with h3|h3<;>rcases Bool.eq_false_or_eq_true (s'==(4:Int))with h4|h4<;>rcases Bool.eq_false_or_eq_true (decide (s≥s'))with h6|h6<;>cases q<;>simp only[h1,h2,h3,h4,h6]<;>rfl
theorem S4 {a b:ba.T}(ha:gE a=true)(hb:gE b=true):ud a b=gI a b:=by
 rcases mO ha with⟨f,rfl,hf⟩|⟨s,rfl,h0,h4,h3⟩<;>rcases mO hb with⟨g,rfl,hg⟩|⟨s',rfl,h0',h4',h3'⟩
 ·have e:fh ((3:Int),f,()) ((3:Int),g,())=bX f g:=by
   show(((3:Int)==3)&&bX f g)=_
   simp
  unfold ud gI
  rw[e]
  cases bX f g<;>rfl
 ·have e:fh ((3:Int),f,()) (eD s')=false:=by
   show(((3:Int)==s')&&bX f dy)=_
   have:((3:Int)==s')=false:=by simp;omega
   rw[this];rfl
  have e3:(s'==(3:Int))=false:=by simp[h3']
  unfold ud gI
  rw[e]
  show(if((3:Int)==3&&false)=true then _ else if(((3:Int)==3&&s'==(3:Int))||((3:Int)==4||s'==(4:Int)))=true then eD 4 else if decide ((3:Int)≥s')=true then _ else eD s')=(if((3:Int)==3&&(s'==(3:Int)&&bX f dy))=true then _ else if(((3:Int)==3&&s'==(3:Int))||((3:Int)==4||s'==(4:Int)))=true then eD 4 else if((3:Int)==3)=true then _ else if(s'==(3:Int))=true then _ else _)
  rw[e3]
  rcases Bool.eq_false_or_eq_true (s'==(4:Int))with h|h
  ·rw[h];rfl
  ·have:s'≠4:=by simpa using h
   have hd:decide ((3:Int)≥s')=true:=by simp;omega
   rw[h,hd];rfl
 ·have e3:(s==(3:Int))=false:=by simp[h3]
  unfold ud gI
  show(if(s==(3:Int)&&fh (eD s) ((3:Int),g,()))=true then _ else if((s==(3:Int)&&(3:Int)==(3:Int))||(s==(4:Int)||(3:Int)==(4:Int)))=true then eD 4 else if decide (s≥(3:Int))=true then _ else _)=(if(s==(3:Int)&&((3:Int)==(3:Int)&&bX dy g))=true then _ else if((s==(3:Int)&&(3:Int)==(3:Int))||(s==(4:Int)||(3:Int)==(4:Int)))=true then eD 4 else if(s==(3:Int))=true then _ else if((3:Int)==(3:Int))=true then _ else _)
  rw[e3]
  rcases Bool.eq_false_or_eq_true (s==(4:Int))with h|h
  ·rw[h];rfl
  ·have:s≠4:=by simpa using h
   have hd:decide (s≥(3:Int))=false:=by simp;omega
   rw[h,hd];rfl
 ·have e3:(s==(3:Int))=false:=by simp[h3]
  have e3':(s'==(3:Int))=false:=by simp[h3']
  unfold ud gI
  show(if(s==(3:Int)&&fh (eD s) (eD s'))=true then _ else if((s==(3:Int)&&s'==(3:Int))||(s==(4:Int)||s'==(4:Int)))=true then eD 4 else if decide (s≥s')=true then eD s else eD s')=(if(s==(3:Int)&&(s'==(3:Int)&&bX dy dy))=true then _ else if((s==(3:Int)&&s'==(3:Int))||(s==(4:Int)||s'==(4:Int)))=true then eD 4 else if(s==(3:Int))=true then eD s else if(s'==(3:Int))=true then eD s' else eD (if s'>s then s' else s))
  rw[e3,e3']
  simp only[Bool.false_and,Bool.false_eq_true,if_false,Bool.false_or]
  rcases Bool.eq_false_or_eq_true (s==(4:Int)||s'==(4:Int))with h|h
  ·simp only[h,if_true]
  ·simp only[h,Bool.false_eq_true,if_false]
   by_cases hg:s'>s
   ·have hd:decide (s≥s')=false:=by simp;omega
    simp[hd,hg]
   ·have hd:decide (s≥s')=true:=by simp;omega
    simp[hd,hg]
theorem XT {a b:ba.T}(ha:gE a=true)(hb:gE b=true):gE (gI a b)=true:=by
 unfold gI
 split
 ·exact ha
 ·split
  ·exact Dm (by omega) (by omega) (by omega)
  ·split
   ·exact ha
   ·split
    ·exact hb
    ·rename_i h1 h2 h3 h4
     rcases mO ha with⟨f,rfl,hf⟩|⟨s,rfl,h0,h4,h3⟩
     ·exact absurd rfl h3
     ·rcases mO hb with⟨g,rfl,hg⟩|⟨s',rfl,h0',h4',h3'⟩
      ·exact absurd rfl h4
      ·show gE (eD (if s'>s then s' else s))=true
       split
       ·exact Dm (by assumption) (by assumption) (by assumption)
       ·exact Dm (by assumption) (by assumption) (by assumption)
theorem Jq {a b:ba.T}{n:Nat}(ha:(Dl a).length≤n)(hb:(Dl b).length≤n):(Dl (gI a b)).length≤n:=by
 unfold gI
 split
 ·exact ha
 ·split
  ·exact Nat.zero_le _
  ·split
   ·exact ha
   ·split
    ·exact hb
    ·exact Nat.zero_le _
end Go.Proofs.YthfgmmmeplanbaaGreatDoor
namespace Go.Proofs.YthfgmmmeplanbaaGreatDoor
open Go.RowKit
set_option linter.unusedVariables false
set_option linter.unusedSimpArgs false
noncomputable def Dn(m:ag.T)(st:ab.T)(l l2:List Int):ba.T×Int×Unit:=match(gq m st l).2.1 != (0:Int)with
 |true=>(eD 0,(gq m st l).2.1,())
 |false=>match(gq m st l2).2.1 != (0:Int)with
  |true=>(eD 0,(gq m st l2).2.1,())
  |false=>(gI (gq m st l).1 (gq m st l2).1,(0:Int),())
theorem nA(m:ag.T)(st:ab.T)(l:List Int):(gq m st l).1.2.1.2.2.2.1.length≤32:=by
 unfold gq
 split
 ·exact Nat.zero_le _
 ·split
  ·exact Nat.zero_le _
  ·split
   ·exact Nat.zero_le _
   ·show(ga m st l).2.1.2.2.2.1.length≤32
    unfold ga
    split
    ·unfold uc
     split
     ·rename_i h
      rw[Bool.and_eq_true]at h
      exact qm (CX (K0 h.1))
     ·exact Nat.zero_le _
    ·split<;>exact Nat.zero_le _
theorem Jr(m:ag.T)(st:ab.T)(l:List Int):gE (gq m st l).1=true:=by
 have h0:∀s:Int,0≤s→s≤4→s≠3→gE ((s,dy,()):ba.T)=true:=fun s a b c=>Dm a b c
 unfold gq
 split
 ·exact h0 0 (by omega) (by omega) (by omega)
 ·split
  ·exact h0 0 (by omega) (by omega) (by omega)
  ·split
   ·exact h0 0 (by omega) (by omega) (by omega)
   ·show gE (ga m st l)=true
    unfold ga
    split
    ·unfold uc
     split
     ·rename_i h
      rw[Bool.and_eq_true]at h
      exact CX (K0 h.1)
     ·exact h0 2 (by omega) (by omega) (by omega)
    ·split
     ·exact h0 0 (by omega) (by omega) (by omega)
     ·exact h0 1 (by omega) (by omega) (by omega)
theorem XE(m:ag.T)(st:ab.T)(l l2:List Int)(hz:d4 m)(hl:l.length≤1099511627776)(hl2:l2.length≤1099511627776):iB (m,st,l,l2,())=some (Dn m st l l2):=by
 have h1:eH ((m.1,m.2.1,m.2.2.1,m.2.2.2.1,()),(st.1,st.2.1,st.2.2.1,st.2.2.2.1,st.2.2.2.2.1,()),l,())=_:=LM m st l hz hl
 have h2:eH ((m.1,m.2.1,m.2.2.1,m.2.2.2.1,()),(st.1,st.2.1,st.2.2.1,st.2.2.2.1,st.2.2.2.2.1,()),l2,())=_:=LM m st l2 hz hl2
 have hd1:=nA m st l
 have hv1:=Jr m st l
 have hv2:=Jr m st l2
 have hm:=S3 (gq m st l).1 (gq m st l2).1 (Nat.le_trans hd1 (by omega))
 rw[S4 hv1 hv2]at hm
 unfold iB Dn
 simp only[h1,h2]
 rcases Bool.eq_false_or_eq_true ((gq m st l).2.1 != (0:Int))with g|g<;>simp only[g]
 ·rfl
 ·rcases Bool.eq_false_or_eq_true ((gq m st l2).2.1 != (0:Int))with g2|g2<;>simp only[g2]
  ·rfl
  ·generalize gq m st l=r1 at hm ⊢
   generalize gq m st l2=r2 at hm ⊢
   obtain⟨⟨(s1:Int),⟨(f1:Int),(q1:Int),⟨(t11:Int),(t12:Int),(t13:Int),(t14:Int),(t15:Int),⟨⟩⟩,(da:List Int),⟨⟩⟩,⟨⟩⟩,(c1:Int),⟨⟩⟩:=r1
   obtain⟨⟨(s2:Int),⟨(f2:Int),(q2:Int),⟨(t21:Int),(t22:Int),(t23:Int),(t24:Int),(t25:Int),⟨⟩⟩,(db:List Int),⟨⟩⟩,⟨⟩⟩,(c2:Int),⟨⟩⟩:=r2
   simp only at hm ⊢
   simp only[hm]
theorem Yi(m:ag.T)(st:ab.T)(l l2:List Int):(Dn m st l l2).1.2.1.2.2.2.1.length≤32:=by
 unfold Dn
 split
 ·exact Nat.zero_le _
 ·split
  ·exact Nat.zero_le _
  ·exact Jq (nA m st l) (nA m st l2)
end Go.Proofs.YthfgmmmeplanbaaGreatDoor
