import Derived.Test.YtckljdhdadiphaaGreatDoorQ1
namespace Go.Proofs.YtckljdhdadiphaaGreatDoor
open Go.RowKit
set_option linter.unusedVariables false
set_option linter.unusedSimpArgs false
theorem Rd(x):qy x=some (be x.1 0 31,()):=by
 unfold qy
 simp only[lz]
theorem Re(x):ud x=some (be x.1 0 31,()):=by
 unfold ud
 simp only[pj]
end Go.Proofs.YtckljdhdadiphaaGreatDoor
namespace Go.Proofs.YtckljdhdadiphaaGreatDoor
open Go.RowKit
set_option linter.unusedVariables false
set_option linter.unusedSimpArgs false
theorem Rf {α:Type}(p:α→Bool):∀l:List α,(∀x ∈ l.dropWhile p,p x=true)→l.dropWhile p= []
 | [],_=>rfl
 |a::l,h=>by
  by_cases ha:p a=true
  ·rw[List.dropWhile_cons_of_pos ha]at h ⊢
   exact Rf p l h
  ·rw[List.dropWhile_cons_of_neg ha]at h
   exact absurd (h a (by simp)) ha
theorem HG {α:Type}(p:α→Bool):∀l:List α,l.dropWhile p= []↔∀x ∈ l,p x=true
 | []=>by simp
 |a::l=>by
  by_cases ha:p a=true
  ·rw[List.dropWhile_cons_of_pos ha,HG p l]
   simp[ha]
  ·rw[List.dropWhile_cons_of_neg ha]
   simp[ha]
theorem Su(s cs:List UInt8):(Lib.trimS s cs== [])=s.all (fun b=>cs.contains b):=by
 have e:Lib.trimS s cs= []↔∀b ∈ s,cs.contains b=true:=by
  unfold Lib.trimS Lib.trimLeftS Lib.trimRightS
  constructor
  ·intro h
   have h1:=(HG _ _).1 h
   have h2:=Rf (fun b=>cs.contains b) s.reverse (fun x hx=>h1 x (by simpa using hx))
   have h3:=(HG _ _).1 h2
   exact fun b hb=>h3 b (by simpa using hb)
  ·intro h
   have:s.reverse.dropWhile (fun b=>cs.contains b)= []:=(HG _ _).2 (fun b hb=>h b (by simpa using hb))
   rw[this]
   rfl
 by_cases h:Lib.trimS s cs= []
 ·rw[h,List.all_eq_true.2 (e.1 h)];rfl
 ·have h2:¬(s.all (fun b=>cs.contains b)=true):=fun h3=>h (e.2 (List.all_eq_true.1 h3))
  have h3:(Lib.trimS s cs== [])=false:=by simpa using h
  rw[h3]
  simpa using h2
def vJ(b:UInt8):Bool:=if(b.toNat:Int)<97 then(if(b.toNat:Int)<48 then false else if(b.toNat:Int)>57 then false else true)else if(b.toNat:Int)>122 then(if(b.toNat:Int)<48 then false else if(b.toNat:Int)>57 then false else true)else true
def HH:List UInt8:=[97,98,99,100,101,102,103,104,105,106,107,108,109,110,111,112,113,114,115,116,117,118,119,120,121,122,48,49,50,51,52,53,54,55,56,57]
theorem Tv(b:UInt8):HH.contains b=vJ b:=by
 have h:∀n:Fin 256,HH.contains (UInt8.ofNat n.1)=vJ (UInt8.ofNat n.1):=by decide+kernel
 have:=h ⟨b.toNat,b.toNat_lt⟩
 simpa using this
def HI(s:List UInt8):Bool:=s.all vJ&&(decide ((s.length:Int)≥1)&&decide ((s.length:Int)≤6))
theorem U4(s:List UInt8)(hs:s.length≤1099511627776):vi (s,())=some (HI s,()):=by
 have e:=ks (B:=gC) s (fun i=>(s,(i:Int),())) vJ (.inl (s,())) (.inr (false,())) (by simp only[gC,bJ]) (fun i h=>by
  simp only[gC,bw h,aQ h hs,az h,ab]
  generalize s[i]=b
  unfold vJ
  by_cases h1:(b.toNat:Int)<97<;>by_cases h2:(b.toNat:Int)>122<;>by_cases h3:(b.toNat:Int)<48<;>by_cases h4:(b.toNat:Int)>57<;>simp[h1,h2,h3,h4])
 have e':ac gC (s,(0:Int),())=_:=e
 unfold vi HI
 simp only[e']
 rcases Bool.eq_false_or_eq_true (s.all vJ)with h|h<;>simp only[h,Bool.true_and,Bool.false_and,if_true]
 ·rcases Bool.eq_false_or_eq_true (decide ((s.length:Int)≥1))with h1|h1<;>simp only[h1,Bool.true_and,Bool.false_and]
 ·rfl
def tq(v:aw.T):Bool:=be v.1 0 31&&(HI v.2.1&&be v.2.2.1 0 1000)
theorem P0(x)(h:x.1.2.1.length≤1099511627776):oH x=some (tq x.1,()):=by
 have hn:=U4 x.1.2.1 h
 unfold oH tq
 simp only[Rd,hn,lz]
 rcases Bool.eq_false_or_eq_true (be x.1.1 0 31)with h1|h1<;>rcases Bool.eq_false_or_eq_true (HI x.1.2.1)with h2|h2<;>simp only[h1,h2]<;>rfl
theorem P1(x):lc x=some (tq x.1,()):=by
 unfold lc tq HI
 simp only[Re,pj]
 rcases Bool.eq_false_or_eq_true (decide ((x.1.2.1.length:Int)≥1))with h1|h1<;>simp only[h1,Bool.true_and,Bool.false_and,Bool.and_false]
 rcases Bool.eq_false_or_eq_true (decide ((x.1.2.1.length:Int)≤6))with h2|h2<;>simp only[h2,Bool.true_and,Bool.false_and,Bool.and_false,Bool.and_true]
 have h6:x.1.2.1.length≤1048576:=by
  have:=of_decide_eq_true h2
  omega
 have ht:ue (x.1.2.1,([97,98,99,100,101,102,103,104,105,106,107,108,109,110,111,112,113,114,115,116,117,118,119,120,121,122,48,49,50,51,52,53,54,55,56,57]:List UInt8),())=some (Lib.trimS x.1.2.1 HH,()):=by
  show ab (Gg x.1.2.1 HH) (fun s=>some (s,()))=_
  unfold Gg
  rw[if_pos ⟨h6,by decide,by decide⟩]
  rfl
 have hc:x.1.2.1.all (fun b=>HH.contains b)=x.1.2.1.all vJ:=by
  congr 1
  funext b
  exact Tv b
 simp only[ht,Su,hc]
 rcases Bool.eq_false_or_eq_true (x.1.2.1.all vJ)with h3|h3<;>rcases Bool.eq_false_or_eq_true (be x.1.1 0 31)with h4|h4<;>simp only[h3,h4]<;>rfl
def rg(l:List aw.T)(i:Nat):Bool:=match l[i]? with
 |none=>false
 |some v=>tq v&&((match i with
  |0=>true
  |k+1=>match l[k]? with
   |none=>false
   |some u=> !decide (v.1≤u.1))&& !(l.take i).any (fun u=>u.2.1==v.2.1))
def fb(l:List aw.T):Bool:=be (l.length:Int) 1 32&&(List.range l.length).all (rg l)
theorem Tw(l:List aw.T)(hl:l.length≤1099511627776)(i:Nat)(hi:i<l.length):ac cV (l,(i:Int),(0:Int),())=some (if(l.take i).any (fun u=>u.2.1==l[i].2.1)then .inr (false,())else .inl (l,(i:Int),())):=by
 have e:=ks (B:=cV) (l.take i) (fun j=>(l,(i:Int),(j:Int),())) (fun u=> !(u.2.1==l[i].2.1)) (.inl (l,(i:Int),())) (.inr (false,())) (by
  rw[List.length_take,Nat.min_eq_left (Nat.le_of_lt hi)]
  simp only[cV,bJ]) (fun j hj=>by
  have hj':j<i:=by rw[List.length_take]at hj;omega
  have hjl:j<l.length:=by omega
  have hg:(l.take i)[j]=l[j]:=by simp
  rw[hg]
  simp only[cV,bw hj',aQ hjl hl,az hjl,az hi,ab]
  rcases Bool.eq_false_or_eq_true (l[j].2.1==l[i].2.1)with h1|h1<;>simp only[h1]<;>rfl)
 have e':ac cV (l,(i:Int),(0:Int),())=_:=e
 rw[e',CW]
 simp only[Bool.not_not]
 cases (l.take i).any (fun u=>u.2.1==l[i].2.1)<;>rfl
theorem xR {i:Nat}(h:i+1≤1099511627776):IntKind.i64.wrap (((i+1:Nat):Int)-1)=(i:Int):=by rw[wrap_i64]<;>omega
theorem C2(i:Nat):decide (((i+1:Nat):Int)>0)=true:=decide_eq_true (by omega)
theorem Tx(l:List aw.T)(hl:l.length≤1099511627776)(hn:∀v ∈ l,v.2.1.length≤1099511627776):mV (l,())=some (fb l,()):=by
 have e:=fD (B:=dX) l.length (fun i=>(l,(i:Int),())) (rg l) (.inl ()) (.inr (false,())) (by simp only[dX,bJ]) (fun i h=>by
  have hv:=P0 (l[i],()) (hn _ (List.getElem_mem h))
  have hc:=Tw l hl i h
  simp only[dX,bw h,aQ h hl,az h,ab,hv,rg,List.getElem?_eq_getElem h]
  rcases Bool.eq_false_or_eq_true (tq l[i])with h1|h1<;>simp only[h1,Bool.not_true,Bool.not_false,Bool.true_and,Bool.false_and]
  ·cases i with
   |zero=>
    have z:decide (((0:Nat):Int)>0)=false:=rfl
    simp only[z,hc,Bool.true_and]
    rfl
   |succ k=>
    have hk:k<l.length:=by omega
    simp only[C2,xR (show k+1≤1099511627776 by omega),az hk,List.getElem?_eq_getElem hk]
    rcases Bool.eq_false_or_eq_true (decide (l[k+1].1≤l[k].1))with h2|h2<;>simp only[h2,Bool.not_true,Bool.not_false,Bool.true_and,Bool.false_and]
    ·rfl
    ·simp only[hc]
     cases (l.take (k+1)).any (fun u=>u.2.1==l[k+1].2.1)
     ·show some (Sum.inl (l,IntKind.i64.wrap (((k+1:Nat):Int)+1),()))=some (.inl (l,((k+1+1:Nat):Int),()))
      rw[aQ h hl]
     ·rfl
  ·rfl)
 have e':ac dX (l,(0:Int),())=_:=e
 unfold mV fb
 simp only[lz,e']
 rcases Bool.eq_false_or_eq_true (be (l.length:Int) 1 32)with h1|h1<;>simp only[h1]<;>rcases Bool.eq_false_or_eq_true ((List.range l.length).all (rg l))with h2|h2<;>simp only[h2]<;>rfl
theorem Tz(l:List aw.T)(hl:l.length≤1099511627776):mZ (l,())=some (fb l,()):=by
 have e:=fD (B:=ej) l.length (fun i=>(l,l,(l.length:Int),(i:Int),())) (rg l) (.inl (l,())) (.inr (false,())) (by simp only[ej,bJ]) (fun i h=>by
  have hv:lc ((l[i].1,l[i].2.1,l[i].2.2.1,l[i].2.2.2.1,()),())=some (tq l[i],()):=P1 (l[i],())
  have hb:aK l.length none (some (.dat (.int .i64) (i:Int)))=some (0,i):=by
   simp only[aK,jO,jr]
   rw[if_pos ⟨by omega,by omega,by omega⟩]
   simp
  have hc:=DF (l.take i) (by rw[List.length_take];omega) (fun z=>iL (z.1,(l[i].1,l[i].2.1,l[i].2.2.1,l[i].2.2.2.1,()),())) (fun u=>u.2.1==l[i].2.1) (fun j hj=>rfl)
  have hc:cw (List.drop 0 (List.take i l),(fun z=>iL (z.1,(l[i].1,l[i].2.1,l[i].2.2.1,l[i].2.2.2.1,()),())),())=_:=hc
  simp only[ej,bw h,aQ h hl,az h,ab,hv,hb,hc,rg,List.getElem?_eq_getElem h]
  rcases Bool.eq_false_or_eq_true (tq l[i])with h1|h1<;>simp only[h1,Bool.not_true,Bool.not_false,Bool.true_and,Bool.false_and]
  ·cases i with
   |zero=>rfl
   |succ k=>
    have hk:k<l.length:=by omega
    have hge:decide (l[k].1≥l[k+1].1)=decide (l[k+1].1≤l[k].1):=rfl
    simp only[C2,xR (show k+1≤1099511627776 by omega),az hk,List.getElem?_eq_getElem hk,hge]
    rcases Bool.eq_false_or_eq_true (decide (l[k+1].1≤l[k].1))with h2|h2<;>simp only[h2,Bool.not_true,Bool.not_false,Bool.true_and,Bool.false_and]
    ·rfl
    ·cases (l.take (k+1)).any (fun u=>u.2.1==l[k+1].2.1)
     ·rfl
     ·rfl
  ·rfl)
 have e':ac ej (l,l,(l.length:Int),(0:Int),())=_:=e
 unfold mZ fb be
 simp only[e']
 rcases Bool.eq_false_or_eq_true ((List.range l.length).all (rg l))with h2|h2<;>simp only[h2,if_true,Bool.and_true,Bool.and_false]
 ·rcases Bool.eq_false_or_eq_true (decide ((l.length:Int)≥1))with h1|h1<;>simp only[h1]<;>rfl
 ·rfl
end Go.Proofs.YtckljdhdadiphaaGreatDoor
namespace Go.Proofs.YtckljdhdadiphaaGreatDoor
open Go.RowKit
set_option linter.unusedVariables false
set_option linter.unusedSimpArgs false
def uQ(l:List Int)(n:Nat)(i:Nat):Bool:=match l[i]? with
 |none=>false
 |some v=>be v 0 ((n:Int)-1)&&(match i with
  |0=>true
  |k+1=>match l[k]? with
   |none=>false
   |some u=> !decide (v≤u))
def uR(l:List Int)(n:Nat):Bool:=(List.range l.length).all (uQ l n)
theorem TA(l:List Int)(n:Nat)(hl:l.length≤1099511627776)(hn:n≤1099511627776):s5 (l,(n:Int),())=some (uR l n,()):=by
 have hw:IntKind.i64.wrap ((n:Int)-1)=(n:Int)-1:=by rw[wrap_i64]<;>omega
 have e:=fD (B:=fN) l.length (fun i=>(l,(n:Int),(i:Int),())) (uQ l n) (.inl ()) (.inr (false,())) (by simp only[fN,bJ]) (fun i h=>by
  simp only[fN,bw h,aQ h hl,az h,ab,lz,hw,uQ,List.getElem?_eq_getElem h]
  rcases Bool.eq_false_or_eq_true (be l[i] 0 ((n:Int)-1))with h1|h1<;>simp only[h1,Bool.not_true,Bool.not_false,Bool.true_and,Bool.false_and]
  ·cases i with
   |zero=>rfl
   |succ k=>
    have hk:k<l.length:=by omega
    simp only[C2,xR (show k+1≤1099511627776 by omega),az hk,List.getElem?_eq_getElem hk]
    rcases Bool.eq_false_or_eq_true (decide (l[k+1]≤l[k]))with h2|h2<;>simp only[h2]<;>rfl
  ·rfl)
 have e':ac fN (l,(n:Int),(0:Int),())=_:=e
 unfold s5 uR
 simp only[e']
 rcases Bool.eq_false_or_eq_true ((List.range l.length).all (uQ l n))with h2|h2<;>simp only[h2]<;>rfl
theorem TB(l:List Int)(n:Nat)(hl:l.length≤1099511627776)(hn:n≤1099511627776):s6 (l,(n:Int),())=some (uR l n,()):=by
 have e:=fD (B:=fP) l.length (fun i=>(l,(n:Int),l,(l.length:Int),(i:Int),())) (uQ l n) (.inl ()) (.inr (false,())) (by simp only[fP,bJ]) (fun i h=>by
  have hin:be l[i] 0 ((n:Int)-1)=(!decide (l[i]<0)&& !decide (l[i]≥(n:Int))):=by
   unfold be
   by_cases h1:l[i]<0<;>by_cases h2:l[i]≥(n:Int)<;>simp[h1,h2]<;>omega
  simp only[fP,bw h,aQ h hl,az h,ab,uQ,List.getElem?_eq_getElem h,hin]
  rcases Bool.eq_false_or_eq_true (decide (l[i]<0))with h1|h1<;>simp only[h1,Bool.not_true,Bool.not_false,Bool.true_and,Bool.false_and]
  ·rfl
  ·rcases Bool.eq_false_or_eq_true (decide (l[i]≥(n:Int)))with h3|h3<;>simp only[h3,Bool.not_true,Bool.not_false,Bool.true_and,Bool.false_and]
   ·rfl
   ·cases i with
    |zero=>rfl
    |succ k=>
     have hk:k<l.length:=by omega
     have hge:decide (l[k]≥l[k+1])=decide (l[k+1]≤l[k]):=rfl
     simp only[C2,xR (show k+1≤1099511627776 by omega),az hk,List.getElem?_eq_getElem hk,hge]
     rcases Bool.eq_false_or_eq_true (decide (l[k+1]≤l[k]))with h2|h2<;>simp only[h2]<;>rfl)
 have e':ac fP (l,(n:Int),l,(l.length:Int),(0:Int),())=_:=e
 unfold s6 uR
 simp only[e']
 rcases Bool.eq_false_or_eq_true ((List.range l.length).all (uQ l n))with h2|h2<;>simp only[h2]<;>rfl
theorem U5(l:List Int)(v:Int)(hl:l.length≤1099511627776):yo (l,v,())=some (l.any (fun u=>u==v),()):=by
 have e:=uM (B:=ie) l (fun i=>(l,v,(i:Int),())) (fun u=>u==v) (.inl ()) (fun _=>.inr (true,())) (by simp only[ie,bJ]) (fun i h=>by
  simp only[ie,bw h,aQ h hl,az h,ab]
  rcases Bool.eq_false_or_eq_true (l[i]==v)with h1|h1<;>simp only[h1]<;>rfl)
 have e':ac ie (l,v,(0:Int),())=_:=e
 unfold yo
 rw[←ka (fun u=>u==v) 0 l]
 simp only[e']
 cases b8 (fun u=>u==v) 0 l<;>rfl
theorem El(l:List Int)(v:Int)(hl:l.length≤1099511627776):eW (l,v,())=some (l.any (fun u=>u==v),()):=by
 have e:=uM (B:=cN) l (fun i=>(l,v,(l.length:Int),(i:Int),())) (fun u=>u==v) (.inl ()) (fun j=>.inr ((j:Int),())) (by simp only[cN,bJ]) (fun i h=>by
  have hc:(v==l[i])=(l[i]==v):=by
   by_cases h:v=l[i]
   ·rw[h]
   ·have h1:(v==l[i])=false:=by simpa using h
    have h2:(l[i]==v)=false:=by simpa using fun e:l[i]=v=>h e.symm
    rw[h1,h2]
  simp only[cN,bw h,aQ h hl,az h,ab,hc]
  rcases Bool.eq_false_or_eq_true (l[i]==v)with h1|h1<;>simp only[h1]<;>rfl)
 have e':ac cN (l,v,(l.length:Int),(0:Int),())=_:=e
 unfold eW ld
 rw[←ka (fun u=>u==v) 0 l]
 simp only[e']
 cases b8 (fun u=>u==v) 0 l with
 |none=>rfl
 |some j=>
  have:decide ((j:Int)≥0)=true:=decide_eq_true (by omega)
  simp only[this,Option.isSome]
def rh(l:List aA.T)(i:Nat):Bool:=match l[i]? with
 |none=>false
 |some v=>be v.1 1 8&&(be v.2.1 1 16&&(uR v.2.2.1 l.length&& !v.2.2.1.any (fun u=>u==(i:Int))))
def eA(l:List aA.T):Bool:=be (l.length:Int) 1 16&&(List.range l.length).all (rh l)
theorem TC(l:List aA.T)(hl:l.length≤1099511627776)(hn:∀v ∈ l,v.2.2.1.length≤1099511627776):mW (l,())=some (eA l,()):=by
 have e:=fD (B:=dY) l.length (fun i=>(l,(i:Int),())) (rh l) (.inl ()) (.inr (false,())) (by simp only[dY,bJ]) (fun i h=>by
  have h1:=TA l[i].2.2.1 l.length (hn _ (List.getElem_mem h)) hl
  have h2:=U5 l[i].2.2.1 (i:Int) (hn _ (List.getElem_mem h))
  simp only[dY,bw h,aQ h hl,az h,ab,lz,h1,h2,rh,List.getElem?_eq_getElem h]
  rcases Bool.eq_false_or_eq_true (be l[i].1 1 8)with g1|g1<;>simp only[g1,Bool.not_true,Bool.not_false,Bool.true_and,Bool.false_and]
  ·rcases Bool.eq_false_or_eq_true (be l[i].2.1 1 16)with g2|g2<;>simp only[g2,Bool.not_true,Bool.not_false,Bool.true_and,Bool.false_and]
   ·rcases Bool.eq_false_or_eq_true (uR l[i].2.2.1 l.length)with g3|g3<;>simp only[g3,Bool.not_true,Bool.not_false,Bool.true_and,Bool.false_and]
    ·rcases Bool.eq_false_or_eq_true (l[i].2.2.1.any (fun u=>u==(i:Int)))with g4|g4<;>simp only[g4]<;>rfl
    ·rfl
   ·rfl
  ·rfl)
 have e':ac dY (l,(0:Int),())=_:=e
 unfold mW eA
 simp only[lz,e']
 rcases Bool.eq_false_or_eq_true (be (l.length:Int) 1 16)with h1|h1<;>simp only[h1]<;>rcases Bool.eq_false_or_eq_true ((List.range l.length).all (rh l))with h2|h2<;>simp only[h2]<;>rfl
theorem TD(l:List aA.T)(hl:l.length≤1099511627776)(hn:∀v ∈ l,v.2.2.1.length≤1099511627776):na (l,())=some (eA l,()):=by
 have e:=fD (B:=el) l.length (fun i=>(l,l,(l.length:Int),(i:Int),())) (rh l) (.inl (l,())) (.inr (false,())) (by simp only[el,bJ]) (fun i h=>by
  have h1:=TB l[i].2.2.1 l.length (hn _ (List.getElem_mem h)) hl
  have h2:=El l[i].2.2.1 (i:Int) (hn _ (List.getElem_mem h))
  simp only[el,bw h,aQ h hl,az h,ab,pj,h1,h2,rh,List.getElem?_eq_getElem h]
  rcases Bool.eq_false_or_eq_true (be l[i].1 1 8)with g1|g1<;>simp only[g1,Bool.not_true,Bool.not_false,Bool.true_and,Bool.false_and]
  ·rcases Bool.eq_false_or_eq_true (be l[i].2.1 1 16)with g2|g2<;>simp only[g2,Bool.not_true,Bool.not_false,Bool.true_and,Bool.false_and]
   ·rcases Bool.eq_false_or_eq_true (uR l[i].2.2.1 l.length)with g3|g3<;>simp only[g3,Bool.not_true,Bool.not_false,Bool.true_and,Bool.false_and]
    ·rcases Bool.eq_false_or_eq_true (l[i].2.2.1.any (fun u=>u==(i:Int)))with g4|g4<;>simp only[g4]<;>rfl
    ·rfl
   ·rfl
  ·rfl)
 have e':ac el (l,l,(l.length:Int),(0:Int),())=_:=e
 unfold na eA be
 simp only[e']
 rcases Bool.eq_false_or_eq_true ((List.range l.length).all (rh l))with h2|h2<;>simp only[h2,if_true,Bool.and_true,Bool.and_false]
 ·rcases Bool.eq_false_or_eq_true (decide ((l.length:Int)≥1))with h1|h1<;>simp only[h1]<;>rfl
 ·rfl
end Go.Proofs.YtckljdhdadiphaaGreatDoor
namespace Go.Proofs.YtckljdhdadiphaaGreatDoor
open Go.RowKit
set_option linter.unusedVariables false
set_option linter.unusedSimpArgs false
def lR(k n:Int):Int:=1+(if k != 0 then 8 else 0)+(if cR k then 1+n else 0)
theorem TE(k n:Int)(h0:0≤n)(h1:n≤1000):s7 (k,n,())=some (lR k n,()):=by
 have w1:IntKind.i64.wrap ((1:Int)+8)=9:=by decide
 have w2:IntKind.i64.wrap ((1:Int)+n)=1+n:=by rw[wrap_i64]<;>omega
 have w3:IntKind.i64.wrap (9+(1+n))=1+8+(1+n):=by rw[wrap_i64]<;>omega
 have w4:IntKind.i64.wrap (1+(1+n))=1+0+(1+n):=by rw[wrap_i64]<;>omega
 unfold s7 lR
 simp only[fY,HF,w1,w2,w3,w4]
 rcases Bool.eq_false_or_eq_true (k != (0:Int))with h|h<;>rcases Bool.eq_false_or_eq_true (cR k)with h2|h2<;>simp only[h,h2]<;>rfl
theorem TF(k n:Int)(h0:0≤n)(h1:n≤1000):iB (k,n,())=some (lR k n,()):=by
 have w1:IntKind.i64.wrap ((1:Int)+8)=9:=by decide
 have w2:IntKind.i64.wrap ((9:Int)+1)=10:=by decide
 have w5:IntKind.i64.wrap ((1:Int)+1)=2:=by decide
 have w3:IntKind.i64.wrap (10+n)=1+8+(1+n):=by rw[wrap_i64]<;>omega
 have w4:IntKind.i64.wrap (2+n)=1+0+(1+n):=by rw[wrap_i64]<;>omega
 unfold iB lR
 simp only[cU,qZ,w1,w2,w3,w4,w5]
 rcases Bool.eq_false_or_eq_true (k != (0:Int))with h|h<;>rcases Bool.eq_false_or_eq_true (cR k)with h2|h2<;>simp only[h,h2]<;>rfl
def xS(k n:Int):Int:=11+10*(lR k n+3)
theorem FI(k n:Int)(h0:0≤n)(h1:n≤1000):1≤lR k n∧lR k n≤1010:=by
 unfold lR
 split<;>split<;>omega
theorem OO(b:Int)(h:1≤b∧b≤1010):IntKind.i64.wrap (11+IntKind.i64.wrap (10*IntKind.i64.wrap (b+3)))=11+10*(b+3):=by
 rw[wrap_i64 (n:=b+3) (by omega) (by omega),wrap_i64 (n:=10*(b+3)) (by omega) (by omega),wrap_i64 (by omega) (by omega)]
theorem TG(k n:Int)(h0:0≤n)(h1:n≤1000):km (k,n,())=some (xS k n,()):=by
 unfold km xS
 simp only[TE k n h0 h1,OO _ (FI k n h0 h1)]
theorem TH(k n:Int)(h0:0≤n)(h1:n≤1000):dA (k,n,())=some (xS k n,()):=by
 unfold dA xS
 simp only[TF k n h0 h1,OO _ (FI k n h0 h1)]
theorem yR {k n:Int}(h:fw k n=true):0≤n∧n≤1000:=by
 unfold fw at h
 split at h
 ·have:=bg.1 h;omega
 ·split at h
  ·have:=bg.1 h;omega
  ·have:n=0:=by simpa using h
   omega
def nB(d:cE.T):Bool:=be d.1 0 31&&(be d.2.1 0 3&&(fw d.2.1 d.2.2.1&&(!((d.2.1==(3:Int))&&d.2.2.2.2.1)&&be d.2.2.2.1 (IntKind.i64.wrap (xS d.2.1 d.2.2.1+20)) 1000)))
theorem MM(x):dR x=some (nB x.1,()):=by
 obtain⟨⟨(a:Int),(k:Int),(n:Int),(t:Int),(c:Bool),u⟩,u'⟩:=x
 unfold dR nB
 simp only[Rd,Q3,Q5,lz]
 rcases Bool.eq_false_or_eq_true (be a 0 31)with h1|h1<;>simp only[h1,Bool.not_true,Bool.not_false,Bool.true_and,Bool.false_and]
 rcases Bool.eq_false_or_eq_true (be k 0 3)with h2|h2<;>simp only[h2,Bool.not_true,Bool.not_false,Bool.true_and,Bool.false_and]
 rcases Bool.eq_false_or_eq_true (fw k n)with h3|h3<;>simp only[h3,Bool.not_true,Bool.not_false,Bool.true_and,Bool.false_and]
 have hn:=yR h3
 simp only[TH k n hn.1 hn.2]
 rcases Bool.eq_false_or_eq_true (k==(3:Int))with h4|h4<;>cases c<;>simp only[h4]<;>rfl
theorem Rg(x):eX x=some (nB x.1,()):=by
 obtain⟨⟨(a:Int),(k:Int),(n:Int),(t:Int),(c:Bool),u⟩,u'⟩:=x
 unfold eX nB
 simp only[Re,Q4,Q6,pj]
 rcases Bool.eq_false_or_eq_true (be a 0 31)with h1|h1<;>simp only[h1,Bool.not_true,Bool.not_false,Bool.true_and,Bool.false_and]
 rcases Bool.eq_false_or_eq_true (be k 0 3)with h2|h2<;>simp only[h2,Bool.not_true,Bool.not_false,Bool.true_and,Bool.false_and]
 rcases Bool.eq_false_or_eq_true (fw k n)with h3|h3<;>simp only[h3,Bool.not_true,Bool.not_false,Bool.true_and,Bool.false_and]
 have hn:=yR h3
 simp only[TG k n hn.1 hn.2]
 rcases Bool.eq_false_or_eq_true (k==(3:Int))with h4|h4<;>cases c<;>simp only[h4]<;>rfl
def kE(v:aj.T):Bool:=be v.1 0 15&&(be v.2.1 0 7&&(be v.2.2.1 0 15&&nB v.2.2.2.1))
theorem U6(x):CV x=some (kE x.1,()):=by
 have hd:dR ((x.1.2.2.2.1.1,x.1.2.2.2.1.2.1,x.1.2.2.2.1.2.2.1,x.1.2.2.2.1.2.2.2.1,x.1.2.2.2.1.2.2.2.2.1,()),())=some (nB x.1.2.2.2.1,()):=MM (x.1.2.2.2.1,())
 unfold CV kE
 simp only[lz,hd]
 rcases Bool.eq_false_or_eq_true (be x.1.1 0 15)with h1|h1<;>rcases Bool.eq_false_or_eq_true (be x.1.2.1 0 7)with h2|h2<;>rcases Bool.eq_false_or_eq_true (be x.1.2.2.1 0 15)with h3|h3<;>simp only[h1,h2,h3]<;>rfl
theorem U7(x):lh x=some (kE x.1,()):=by
 have hd:eX ((x.1.2.2.2.1.1,x.1.2.2.2.1.2.1,x.1.2.2.2.1.2.2.1,x.1.2.2.2.1.2.2.2.1,x.1.2.2.2.1.2.2.2.2.1,()),())=some (nB x.1.2.2.2.1,()):=Rg (x.1.2.2.2.1,())
 unfold lh kE
 simp only[pj,hd]
 rcases Bool.eq_false_or_eq_true (be x.1.1 0 15)with h1|h1<;>rcases Bool.eq_false_or_eq_true (be x.1.2.1 0 7)with h2|h2<;>rcases Bool.eq_false_or_eq_true (be x.1.2.2.1 0 15)with h3|h3<;>simp only[h1,h2,h3]<;>rfl
def p4(a b:Int):Int:=if a<b then -1 else if a>b then 1 else 0
def mv(u v:aj.T):Int:=if u.1=v.1 then(if u.2.1=v.2.1 then p4 u.2.2.1 v.2.2.1 else p4 u.2.1 v.2.1)else p4 u.1 v.1
theorem VG(x):nW x=some (p4 x.1 x.2.1,()):=by
 obtain⟨(a:Int),(b:Int),u⟩:=x
 unfold nW p4
 by_cases h1:a<b
 ·simp only[decide_eq_true h1,if_pos h1]
 ·by_cases h2:a>b
  ·simp only[decide_eq_false h1,decide_eq_true h2,if_neg h1,if_pos h2]
  ·simp only[decide_eq_false h1,decide_eq_false h2,if_neg h1,if_neg h2]
theorem Rh(x):hU x=some (mv x.1 x.2.1,()):=by
 obtain⟨u,v,w⟩:=x
 unfold hU mv
 simp only[VG]
 by_cases h1:u.1=v.1
 ·have g1:(u.1 != v.1)=false:=by rw[h1];exact iU _
  simp only[g1,if_pos h1]
  by_cases h2:u.2.1=v.2.1
  ·have g2:(u.2.1 != v.2.1)=false:=by rw[h2];exact iU _
   simp only[g2,if_pos h2]
  ·have g2:(u.2.1 != v.2.1)=true:=by simpa using h2
   simp only[g2,if_neg h2]
 ·have g1:(u.1 != v.1)=true:=by simpa using h1
  simp only[g1,if_neg h1]
theorem FJ(l m:List Int)(i:Nat)(hl:i<l.length)(hm:i<m.length)(h3:i<3):ca (l,m,(i:Int),())=if l[i]<m[i]then some (.inr (.inr ((-1:Int),())))else if l[i]>m[i]then some (.inr (.inr ((1:Int),())))else some (.inl (l,m,((i+1:Nat):Int),())):=by
 have hd:decide ((i:Int)<3)=true:=decide_eq_true (by omega)
 simp only[ca,hd,az hl,az hm,ab,Int.toNat_natCast,List.getElem?_eq_getElem hl,List.getElem?_eq_getElem hm,aQ h3 (by omega)]
 by_cases h1:l[i]<m[i]
 ·simp only[if_pos h1,decide_eq_true h1]
 ·by_cases h2:l[i]>m[i]
  ·simp only[if_neg h1,if_pos h2,decide_eq_false h1,decide_eq_true h2]
  ·simp only[if_neg h1,if_neg h2,decide_eq_false h1,decide_eq_false h2]
theorem U8(x):lG x=some (mv x.1 x.2.1,()):=by
 obtain⟨⟨(a:Int),(b:Int),(c:Int),d⟩,⟨(a':Int),(b':Int),(c':Int),d'⟩,w⟩:=x
 have e0:=FJ [a,b,c] [a',b',c'] 0 (by simp) (by simp) (by omega)
 have e1:=FJ [a,b,c] [a',b',c'] 1 (by simp) (by simp) (by omega)
 have e2:=FJ [a,b,c] [a',b',c'] 2 (by simp) (by simp) (by omega)
 have e3:ca ([a,b,c],[a',b',c'],((3:Nat):Int),())=some (.inr (.inl ())):=rfl
 have e0:ca ([a,b,c],[a',b',c'],(0:Int),())=if a<a' then some (.inr (.inr ((-1:Int),())))else if a>a' then some (.inr (.inr ((1:Int),())))else some (.inl ([a,b,c],[a',b',c'],((1:Nat):Int),())):=e0
 have e1:ca ([a,b,c],[a',b',c'],((1:Nat):Int),())=if b<b' then some (.inr (.inr ((-1:Int),())))else if b>b' then some (.inr (.inr ((1:Int),())))else some (.inl ([a,b,c],[a',b',c'],((2:Nat):Int),())):=e1
 have e2:ca ([a,b,c],[a',b',c'],((2:Nat):Int),())=if c<c' then some (.inr (.inr ((-1:Int),())))else if c>c' then some (.inr (.inr ((1:Int),())))else some (.inl ([a,b,c],[a',b',c'],((3:Nat):Int),())):=e2
 have hL:ac ca ([a,b,c],[a',b',c'],(0:Int),())=some (if mv (a,b,c,d) (a',b',c',d')=0 then .inl ()else .inr (mv (a,b,c,d) (a',b',c',d'),())):=by
  unfold mv p4
  rw[am,e0]
  by_cases h1:a<a'
  ·simp[h1,Int.ne_of_lt h1]
  ·by_cases h2:a>a'
   ·have:¬a=a':=by omega
    simp[h1,h2,this]
   ·have:a=a':=by omega
    simp only[if_neg h1,if_neg h2,if_pos this]
    rw[am,e1]
    by_cases h1:b<b'
    ·simp[h1,Int.ne_of_lt h1]
    ·by_cases h2:b>b'
     ·have:¬b=b':=by omega
      simp[h1,h2,this]
     ·have:b=b':=by omega
      simp only[if_neg h1,if_neg h2,if_pos this]
      rw[am,e2]
      by_cases h1:c<c'
      ·simp[h1]
      ·by_cases h2:c>c'
       ·simp[h1,h2]
       ·simp only[if_neg h1,if_neg h2]
        rw[am,e3]
        simp
 unfold lG
 simp only[hL,cT]
 by_cases h:mv (a,b,c,d) (a',b',c',d')=0
 ·simp only[h,if_true]
 ·simp only[if_neg h]
def pm(l:List aj.T)(i:Nat):Bool:=match l[i]? with
 |none=>false
 |some v=>kE v&&(match i with
  |0=>true
  |k+1=>match l[k]? with
   |none=>false
   |some u=> !decide (mv u v≥0))
def ce(l:List aj.T):Bool:= !decide ((l.length:Int)>120)&&(List.range l.length).all (pm l)
theorem TI(l:List aj.T)(hl:l.length≤1099511627776):mX (l,())=some (ce l,()):=by
 have e:=fD (B:=dZ) l.length (fun i=>(l,(i:Int),())) (pm l) (.inl ()) (.inr (false,())) (by simp only[dZ,bJ]) (fun i h=>by
  simp only[dZ,bw h,aQ h hl,az h,ab,U6,pm,List.getElem?_eq_getElem h]
  rcases Bool.eq_false_or_eq_true (kE l[i])with h1|h1<;>simp only[h1,Bool.not_true,Bool.not_false,Bool.true_and,Bool.false_and]
  ·cases i with
   |zero=>rfl
   |succ k=>
    have hk:k<l.length:=by omega
    simp only[C2,xR (show k+1≤1099511627776 by omega),az hk,List.getElem?_eq_getElem hk,U8]
    rcases Bool.eq_false_or_eq_true (decide (mv l[k] l[k+1]≥0))with h2|h2<;>simp only[h2]<;>rfl
  ·rfl)
 have e':ac dZ (l,(0:Int),())=_:=e
 unfold mX ce
 simp only[e']
 rcases Bool.eq_false_or_eq_true (decide ((l.length:Int)>120))with h1|h1<;>simp only[h1]<;>rcases Bool.eq_false_or_eq_true ((List.range l.length).all (pm l))with h2|h2<;>simp only[h2]<;>rfl
theorem TJ(l:List aj.T)(hl:l.length≤1099511627776):nb (l,())=some (ce l,()):=by
 have e:=fD (B:=em) l.length (fun i=>(l,l,(l.length:Int),(i:Int),())) (pm l) (.inl (l,())) (.inr (false,())) (by simp only[em,bJ]) (fun i h=>by
  have hv:lh ((l[i].1,l[i].2.1,l[i].2.2.1,(l[i].2.2.2.1.1,l[i].2.2.2.1.2.1,l[i].2.2.2.1.2.2.1,l[i].2.2.2.1.2.2.2.1,l[i].2.2.2.1.2.2.2.2.1,()),()),())=some (kE l[i],()):=U7 (l[i],())
  simp only[em,bw h,aQ h hl,az h,ab,hv,pm,List.getElem?_eq_getElem h]
  rcases Bool.eq_false_or_eq_true (kE l[i])with h1|h1<;>simp only[h1,Bool.not_true,Bool.not_false,Bool.true_and,Bool.false_and]
  ·cases i with
   |zero=>rfl
   |succ k=>
    have hk:k<l.length:=by omega
    have hc:hU (l[k],(l[k+1].1,l[k+1].2.1,l[k+1].2.2.1,(l[k+1].2.2.2.1.1,l[k+1].2.2.2.1.2.1,l[k+1].2.2.2.1.2.2.1,l[k+1].2.2.2.1.2.2.2.1,l[k+1].2.2.2.1.2.2.2.2.1,()),()),())=some (mv l[k] l[k+1],()):=Rh (l[k],l[k+1],())
    simp only[C2,xR (show k+1≤1099511627776 by omega),az hk,List.getElem?_eq_getElem hk,hc]
    rcases Bool.eq_false_or_eq_true (decide (mv l[k] l[k+1]≥0))with h2|h2<;>simp only[h2]<;>rfl
  ·rfl)
 have e':ac em (l,l,(l.length:Int),(0:Int),())=_:=e
 have hn:decide ((l.length:Int)≤120)= !decide ((l.length:Int)>120):=by
  by_cases h:(l.length:Int)≤120
  ·rw[decide_eq_true h,decide_eq_false (by omega)];rfl
  ·rw[decide_eq_false h,decide_eq_true (by omega)];rfl
 unfold nb ce
 simp only[e']
 rcases Bool.eq_false_or_eq_true ((List.range l.length).all (pm l))with h2|h2<;>simp only[h2,if_true,Bool.and_true,Bool.and_false,hn]
 rfl
end Go.Proofs.YtckljdhdadiphaaGreatDoor
namespace Go.Proofs.YtckljdhdadiphaaGreatDoor
open Go.RowKit
set_option linter.unusedVariables false
set_option linter.unusedSimpArgs false
def fx(i r s:Int):Int:=(i*8+r)*16+s
def cS(v:aj.T):Int:=fx v.1 v.2.1 v.2.2.1
def MN(v:aj.T):Prop:=(0≤v.1∧v.1≤15)∧(0≤v.2.1∧v.2.1≤7)∧(0≤v.2.2.1∧v.2.2.1≤15)
theorem p5 {v:aj.T}(h:kE v=true):MN v:=by
 unfold kE at h
 simp only[Bool.and_eq_true,bg]at h
 exact⟨h.1,h.2.1,h.2.2.1⟩
def Sv(a b c a' b' c':Int):Int:=if a=a' then(if b=b' then p4 c c' else p4 b b')else p4 a a'
theorem MO(a b:Int):(a<b∧p4 a b= -1)∨(a=b∧p4 a b=0)∨(b<a∧p4 a b=1):=by
 unfold p4
 by_cases h1:a<b
 ·exact .inl ⟨h1,if_pos h1⟩
 ·by_cases h2:a>b
  ·exact .inr (.inr ⟨h2,by rw[if_neg h1,if_pos h2]⟩)
  ·exact .inr (.inl ⟨by omega,by rw[if_neg h1,if_neg h2]⟩)
theorem OP(a b c a' b' c':Int)(hb:0≤b∧b≤7)(hc:0≤c∧c≤15)(hb':0≤b'∧b'≤7)(hc':0≤c'∧c'≤15):
  (Sv a b c a' b' c'=0↔fx a b c=fx a' b' c')∧(¬Sv a b c a' b' c'≥0→fx a b c<fx a' b' c'):=by
 unfold Sv fx
 by_cases h1:a=a'
 ·rw[if_pos h1]
  by_cases h2:b=b'
  ·rw[if_pos h2]
   rcases MO c c' with⟨h,e⟩|⟨h,e⟩|⟨h,e⟩<;>rw[e]<;>omega
  ·rw[if_neg h2]
   rcases MO b b' with⟨h,e⟩|⟨h,e⟩|⟨h,e⟩<;>rw[e]<;>omega
 ·rw[if_neg h1]
  rcases MO a a' with⟨h,e⟩|⟨h,e⟩|⟨h,e⟩<;>rw[e]<;>omega
theorem Sw {u v:aj.T}(hu:MN u)(hv:MN v):mv u v=0↔cS u=cS v:=
 (OP u.1 u.2.1 u.2.2.1 v.1 v.2.1 v.2.2.1 hu.2.1 hu.2.2 hv.2.1 hv.2.2).1
theorem U9 {u v:aj.T}(hu:MN u)(hv:MN v)(h:¬mv u v≥0):cS u<cS v:=
 (OP u.1 u.2.1 u.2.2.1 v.1 v.2.1 v.2.2.1 hu.2.1 hu.2.2 hv.2.1 hv.2.2).2 h
theorem gl {l:List aj.T}(h:ce l=true):∀v ∈ l,kE v=true:=by
 intro v hv
 unfold ce at h
 rw[Bool.and_eq_true,List.all_eq_true]at h
 obtain⟨i,hi,rfl⟩:=List.getElem_of_mem hv
 have:=h.2 i (by simpa using hi)
 unfold pm at this
 simp only[List.getElem?_eq_getElem hi,Bool.and_eq_true]at this
 exact this.1
theorem fG {l:List aj.T}(h:ce l=true):l.length≤120:=by
 unfold ce at h
 rw[Bool.and_eq_true]at h
 have:=h.1
 simp at this
 omega
theorem HJ {l:List aj.T}(h:ce l=true)(k:Nat)(hk:k+1<l.length):cS l[k]<cS l[k+1]:=by
 have hm:=gl h
 unfold ce at h
 rw[Bool.and_eq_true,List.all_eq_true]at h
 have:=h.2 (k+1) (by simpa using hk)
 unfold pm at this
 simp only[List.getElem?_eq_getElem hk,List.getElem?_eq_getElem (show k<l.length by omega),Bool.and_eq_true]at this
 refine U9 (p5 (hm _ (List.getElem_mem _))) (p5 (hm _ (List.getElem_mem _))) ?_
 simpa using this.2
theorem MP {l:List aj.T}(h:ce l=true):∀(d i:Nat) (hd:i+d+1<l.length),cS l[i]<cS l[i+d+1]
 |0,i,hd=>HJ h i hd
 |d+1,i,hd=>Int.lt_trans (MP h d i (by omega)) (HJ h (i+d+1) hd)
theorem MQ {l:List aj.T}(h:ce l=true):(l.map cS).Pairwise (· < ·):=by
 rw[List.pairwise_iff_getElem]
 intro i j hi hj hij
 rw[List.length_map]at hi hj
 obtain⟨d,rfl⟩:∃d,j=i+d+1:=⟨j-i-1,by omega⟩
 rw[List.getElem_map,List.getElem_map]
 exact MP h d i hj
def ir(i R S:Nat):List Int:=(List.range R).flatMap fun(r:Nat)=>(List.range S).map fun(s:Nat)=>fx (i:Int) (r:Int) (s:Int)
def gV:Nat→List aA.T→List Int
 |_,[]=>[]
 |i,m::ms=>ir i m.1.toNat m.2.1.toNat++gV (i+1) ms
theorem Jr(i S:Nat)(hS:0<S):∀R,ir i R S=(List.range (R*S)).map fun(q:Nat)=>fx (i:Int) ((q / S:Nat):Int) ((q % S:Nat):Int)
 |0=>by simp[ir]
 |R+1=>by
  have ih:=Jr i S hS R
  unfold ir at ih ⊢
  rw[List.range_succ,List.flatMap_append,ih,Nat.add_mul,Nat.one_mul,List.range_add,List.map_append,List.map_map]
  congr 1
  rw[List.flatMap_cons,List.flatMap_nil,List.append_nil]
  apply List.map_congr_left
  intro s hs
  have hs:s<S:=by simpa using hs
  have h1:(R*S+s) / S=R:=by rw[Nat.mul_comm,Nat.mul_add_div hS,Nat.div_eq_of_lt hs,Nat.add_zero]
  have h2:(R*S+s) % S=s:=by rw[Nat.mul_comm,Nat.mul_add_mod,Nat.mod_eq_of_lt hs]
  simp only[Function.comp,h1,h2]
theorem yS(i R S:Nat)(hS:0<S):(ir i R S).length=R*S:=by rw[Jr i S hS,List.length_map,List.length_range]
theorem OQ {i R S:Nat}(hR:R≤8)(hS:S≤16):∀k ∈ ir i R S,(i:Int)*128≤k∧k<((i:Int)+1)*128:=by
 intro k hk
 simp only[ir,List.mem_flatMap,List.mem_map,List.mem_range]at hk
 obtain⟨r,hr,s,hs,rfl⟩:=hk
 unfold fx
 omega
theorem N5 {i R S:Nat}(hS:S≤16):(ir i R S).Pairwise (· < ·):=by
 unfold ir
 rw[List.pairwise_flatMap]
 constructor
 ·intro r hr
  rw[List.pairwise_map]
  exact List.Pairwise.imp (fun {a b} h=>by unfold fx;omega) List.pairwise_lt_range
 ·refine List.Pairwise.imp (fun {a b} h x hx y hy=> ?_) List.pairwise_lt_range
  simp only[List.mem_map,List.mem_range]at hx hy
  obtain⟨s,hs,rfl⟩:=hx
  obtain⟨t,ht,rfl⟩:=hy
  unfold fx
  omega
def HK(m:aA.T):Prop:=(1≤m.1∧m.1≤8)∧(1≤m.2.1∧m.2.1≤16)
theorem lB {m:aA.T}(h:HK m):(1≤m.1.toNat∧m.1.toNat≤8)∧(1≤m.2.1.toNat∧m.2.1.toNat≤16)∧(m.1=((m.1.toNat:Nat):Int)∧m.2.1=((m.2.1.toNat:Nat):Int)):=by
 obtain⟨(a:Int),(b:Int),c⟩:=m
 obtain⟨⟨h1,h2⟩,h3,h4⟩:=h
 have h1:(1:Int)≤a:=h1
 have h2:a≤(8:Int):=h2
 have h3:(1:Int)≤b:=h3
 have h4:b≤(16:Int):=h4
 exact⟨⟨by show 1≤a.toNat;omega,by show a.toNat≤8;omega⟩,⟨by show 1≤b.toNat;omega,by show b.toNat≤16;omega⟩,(Int.toNat_of_nonneg (show(0:Int)≤a by omega)).symm,(Int.toNat_of_nonneg (show(0:Int)≤b by omega)).symm⟩
theorem OS:∀(ms:List aA.T) (i:Nat),(∀m ∈ ms,HK m)→∀k ∈ gV i ms,(i:Int)*128≤k
 | [],i,_,k,hk=>by simp[gV]at hk
 |m::ms,i,h,k,hk=>by
  simp only[gV,List.mem_append]at hk
  have hm:=lB (h m (by simp))
  rcases hk with hk|hk
  ·exact(OQ (by omega) (by omega) k hk).1
  ·have:=OS ms (i+1) (fun m hm=>h m (by simp[hm])) k hk
   omega
theorem Em:∀(ms:List aA.T) (i:Nat),(∀m ∈ ms,HK m)→(gV i ms).Pairwise (· < ·)
 | [],i,_=>List.Pairwise.nil
 |m::ms,i,h=>by
  have hm:=lB (h m (by simp))
  simp only[gV]
  rw[List.pairwise_append]
  refine⟨N5 (by omega),Em ms (i+1) (fun m hm=>h m (by simp[hm])),fun a ha b hb=> ?_⟩
  have h1:=OQ (R:=m.1.toNat) (S:=m.2.1.toNat) (by omega) (by omega) a ha
  have h2:=OS ms (i+1) (fun m hm=>h m (by simp[hm])) b hb
  omega
theorem MS:∀(K E:List Int),K.Pairwise (· < ·)→E.Pairwise (· < ·)→(∀x ∈ E,x ∈ K)→E.length≤K.length∧(E.length=K.length→K=E)
 | [],[],_,_,_=>⟨Nat.le_refl _,fun _=>rfl⟩
 | [],e::E,_,_,h=>absurd (h e (by simp)) (by simp)
 |k::K,[],_,_,_=>⟨by simp,fun h=>by simp at h⟩
 |k::K,e::E,hK,hE,h=>by
  rw[List.pairwise_cons]at hK hE
  by_cases he:e=k
  ·subst he
   have:=MS K E hK.2 hE.2 (fun x hx=>by
    have h1:=h x (by simp[hx])
    have h2:=hE.1 x hx
    rw[List.mem_cons]at h1
    rcases h1 with h1|h1
    ·omega
    ·exact h1)
   refine⟨by simp;exact this.1,fun hl=> ?_⟩
   rw[this.2 (by simpa using hl)]
  ·have hek:k<e:=by
    have h1:=h e (by simp)
    rw[List.mem_cons]at h1
    rcases h1 with h1|h1
    ·exact absurd h1 he
    ·exact hK.1 e h1
   have:=MS K (e::E) hK.2 (List.pairwise_cons.2 hE) (fun x hx=>by
    have h1:=h x hx
    rw[List.mem_cons]at h1
    rcases h1 with h1|h1
    ·rw[List.mem_cons]at hx
     rcases hx with hx|hx
     ·omega
     ·have:=hE.1 x hx
      omega
    ·exact h1)
   refine⟨by simp at this ⊢;omega,fun hl=> ?_⟩
   have h1:=this.1
   simp at h1 hl
   omega
theorem TK(K E:List Int)(hK:K.Pairwise (· < ·))(hE:E.Pairwise (· < ·)):decide (K=E)=(E.all (fun x=>decide (x ∈ K))&&decide (E.length=K.length)):=by
 by_cases h:K=E
 ·subst h
  rw[decide_eq_true rfl,decide_eq_true rfl]
  simp
 ·rw[decide_eq_false h]
  by_cases h1:E.all (fun x=>decide (x ∈ K))=true
  ·have h2:∀x ∈ E,x ∈ K:=fun x hx=>by
    have:=List.all_eq_true.1 h1 x hx
    simpa using this
   have h3:=(MS K E hK hE h2).2
   have h4:¬E.length=K.length:=fun e=>h (h3 e)
   rw[decide_eq_false h4,Bool.and_false]
  ·rw[Bool.eq_false_iff.2 h1,Bool.false_and]
end Go.Proofs.YtckljdhdadiphaaGreatDoor
namespace Go.Proofs.YtckljdhdadiphaaGreatDoor
open Go.RowKit
set_option linter.unusedVariables false
set_option linter.unusedSimpArgs false
theorem fy {l:List aA.T}(h:eA l=true):l.length≤16∧∀m ∈ l,HK m:=by
 unfold eA at h
 rw[Bool.and_eq_true,List.all_eq_true]at h
 refine⟨by have:=(bg.1 h.1).2;omega,fun m hm=> ?_⟩
 obtain⟨i,hi,rfl⟩:=List.getElem_of_mem hm
 have:=h.2 i (by simpa using hi)
 unfold rh at this
 simp only[List.getElem?_eq_getElem hi,Bool.and_eq_true,bg]at this
 exact⟨this.1,this.2.1⟩
def iA(a b c:Int)(v:aj.T):Bool:=(v.1==a)&&((v.2.1==b)&&(v.2.2.1==c))
def qm(l:List aj.T)(a b c:Int):Int:=match b8 (iA a b c) 0 l with
 |none=>-1
 |some j=>(j:Int)
theorem OT(l:List aj.T)(a b c:Int)(hl:l.length≤1099511627776):qC (l,a,b,c,())=some (qm l a b c,()):=by
 have e:=uM (B:=gD) l (fun i=>(l,a,b,c,(i:Int),())) (iA a b c) (.inl ()) (fun j=>.inr ((j:Int),())) (by simp only[gD,bJ]) (fun i h=>by
  simp only[gD,bw h,aQ h hl,az h,ab,iA]
  rcases Bool.eq_false_or_eq_true (l[i].1==a)with h1|h1<;>rcases Bool.eq_false_or_eq_true (l[i].2.1==b)with h2|h2<;>rcases Bool.eq_false_or_eq_true (l[i].2.2.1==c)with h3|h3<;>simp only[h1,h2,h3]<;>rfl)
 have e':ac gD (l,a,b,c,(0:Int),())=_:=e
 unfold qC qm
 simp only[e']
 cases b8 (iA a b c) 0 l<;>rfl
theorem OU(l:List aj.T)(a b c:Int)(hl:l.length≤1099511627776):lL (l,a,b,c,())=some (qm l a b c,()):=by
 have e:=xL l hl (fun z=>oZ (z.1,a,b,c,())) (iA a b c) (fun i h=>by
  unfold oZ iA
  rcases Bool.eq_false_or_eq_true (l[i].1==a)with h1|h1<;>rcases Bool.eq_false_or_eq_true (l[i].2.1==b)with h2|h2<;>rcases Bool.eq_false_or_eq_true (l[i].2.2.1==c)with h3|h3<;>simp only[h1,h2,h3]<;>rfl)
 unfold lL qm
 simp only[e]
 cases b8 (iA a b c) 0 l<;>rfl
theorem C3 {a b c:Int}{v:aj.T}(hv:MN v)(hb:0≤b∧b≤7)(hc:0≤c∧c≤15):iA a b c v=true↔cS v=fx a b c:=by
 obtain⟨(a':Int),(b':Int),(c':Int),d⟩:=v
 have h2:0≤b'∧b'≤7:=hv.2.1
 have h3:0≤c'∧c'≤15:=hv.2.2
 unfold iA cS fx
 simp only[Bool.and_eq_true,beq_iff_eq]
 constructor
 ·rintro ⟨h1,h2,h3⟩
  have h1:a'=a:=h1
  have h2:b'=b:=h2
  have h3:c'=c:=h3
  rw[h1,h2,h3]
 ·intro h
  have h1:a'=a:=by omega
  have h2:b'=b:=by omega
  have h3:c'=c:=by omega
  exact⟨h1,h2,h3⟩
theorem MU {l:List aj.T}(hl:∀v ∈ l,MN v){a b c:Int}(hb:0≤b∧b≤7)(hc:0≤c∧c≤15):decide (qm l a b c<0)= !decide (fx a b c ∈ l.map cS):=by
 have h:=ka (iA a b c) 0 l
 have e:l.any (iA a b c)=decide (fx a b c ∈ l.map cS):=by
  by_cases hm:fx a b c ∈ l.map cS
  ·rw[decide_eq_true hm,List.any_eq_true]
   obtain⟨v,hv,e⟩:=List.mem_map.1 hm
   exact⟨v,hv,(C3 (hl v hv) hb hc).2 e⟩
  ·rw[decide_eq_false hm,Bool.eq_false_iff]
   intro h
   obtain⟨v,hv,e⟩:=List.any_eq_true.1 h
   exact hm (List.mem_map.2 ⟨v,hv,(C3 (hl v hv) hb hc).1 e⟩)
 rw[←e,←h]
 unfold qm
 cases b8 (iA a b c) 0 l with
 |none=>rfl
 |some j=>simp
def P2(o:(Ty.pair (.box ap) (.pair (.int .i64) .unit)).T ⊕ (Ty.pair .bool .unit).T):Bool:=match o with
 | .inl v=>v.2.1==(v.1.2.2.2.1.length:Int)
 | .inr v=>v.1
theorem VH(m:ap.T)(hs:ce m.2.2.2.1=true)(i R S:Nat)(hi:i≤15)(hR:R≤8)(hS:1≤S∧S≤16)(sw:List Int)(ms:List aA.T)(N:Int):
  ∀(n k j:Nat),k+n=R*S→j≤m.2.2.2.1.length→ac dI (m,(j:Int),(i:Int),((R:Int),(S:Int),sw,()),ms,N,(i:Int),((R*S:Nat):Int),(k:Int),())=some (if((m.2.2.2.1.map cS).drop j).take n=(List.range' k n).map (fun(q:Nat)=>fx (i:Int) ((q / S:Nat):Int) ((q % S:Nat):Int))then .inl (m,((j+n:Nat):Int),ms,N,(i:Int),())else .inr (false,())):=by
 have hRS:R*S≤128:=Nat.le_trans (Nat.mul_le_mul hR hS.2) (by omega)
 have hlen:=fG hs
 have hmem:=gl hs
 intro n
 induction n with
 |zero=>
  intro k j hk hj
  have hk:k=R*S:=by omega
  subst hk
  rw[am]
  simp only[dI,bJ]
  simp
 |succ n ih=>
  intro k j hk hj
  have hkT:k<R*S:=by omega
  have hS0:¬((S:Int)=0):=by omega
  have d1:IntKind.i64.wrap (Int.tdiv (k:Int) (S:Int))=((k / S:Nat):Int):=by
   rw[Int.tdiv_eq_ediv_of_nonneg (by omega),←Int.natCast_ediv]
   have:k / S≤k:=Nat.div_le_self _ _
   generalize k / S=q at this ⊢
   rw[wrap_i64]<;>omega
  have d2:Int.tmod (k:Int) (S:Int)=((k % S:Nat):Int):=by
   rw[Int.tmod_eq_emod_of_nonneg (by omega),←Int.natCast_emod]
  have hq1:k / S<R:=(Nat.div_lt_iff_lt_mul (by omega)).2 (by omega)
  have hq2:k % S<S:=Nat.mod_lt _ (by omega)
  have q7:k / S≤7:=Nat.le_of_lt_succ (Nat.lt_of_lt_of_le hq1 hR)
  have q15:k % S≤15:=Nat.le_of_lt_succ (Nat.lt_of_lt_of_le hq2 hS.2)
  by_cases hjl:j=m.2.2.2.1.length
  ·subst hjl
   have e1:((m.2.2.2.1.length:Int)==(m.2.2.2.1.length:Int))=true:=by simp
   rw[am]
   simp only[dI,bw hkT,e1]
   rw[if_neg]
   rw[List.drop_of_length_le (by simp)]
   simp[List.range'_succ]
  ·have hjl:j<m.2.2.2.1.length:=by omega
   have e1:((j:Int)==(m.2.2.2.1.length:Int))=false:=by rw[beq_eq_false_iff_ne];omega
   have hin:=p5 (hmem _ (List.getElem_mem hjl))
   have hz:=Sw (u:=m.2.2.2.1[j]) (v:=((i:Int),((k / S:Nat):Int),((k % S:Nat):Int),((0:Int),(0:Int),(0:Int),(0:Int),false,()),())) hin ⟨⟨by show(0:Int)≤(i:Int);omega,by show(i:Int)≤15;omega⟩,⟨Int.natCast_nonneg (k / S),Int.ofNat_le.2 q7⟩,Int.natCast_nonneg (k % S),Int.ofNat_le.2 q15⟩
   have hK:(m.2.2.2.1.map cS).drop j=cS m.2.2.2.1[j]::(m.2.2.2.1.map cS).drop (j+1):=by
    rw[List.drop_eq_getElem_cons (by simpa using hjl),List.getElem_map]
   have hkey:cS ((i:Int),((k / S:Nat):Int),((k % S:Nat):Int),((0:Int),(0:Int),(0:Int),(0:Int),false,()),())=fx (i:Int) ((k / S:Nat):Int) ((k % S:Nat):Int):=rfl
   rw[hkey]at hz
   have hih:=ih (k+1) (j+1) (by omega) (by omega)
   rw[hK,List.take_succ_cons,List.range'_succ,List.map_cons,am]
   simp only[dI,bw hkT,e1,az hjl,ab,hS0,if_false,d1,d2,Rh,aQ hkT (by omega),aQ hjl (by omega)]
   by_cases hc:mv m.2.2.2.1[j] ((i:Int),((k / S:Nat):Int),((k % S:Nat):Int),((0:Int),(0:Int),(0:Int),(0:Int),false,()),())=0
   ·have g:(mv m.2.2.2.1[j] ((i:Int),((k / S:Nat):Int),((k % S:Nat):Int),((0:Int),(0:Int),(0:Int),(0:Int),false,()),()) != 0)=false:=by rw[hc];rfl
    have g2:=hz.1 hc
    simp only[g,g2,List.cons.injEq,true_and]
    have ha:j+1+n=j+(n+1):=by omega
    rw[ha]at hih
    exact hih
   ·have g:(mv m.2.2.2.1[j] ((i:Int),((k / S:Nat):Int),((k % S:Nat):Int),((0:Int),(0:Int),(0:Int),(0:Int),false,()),()) != 0)=true:=by simpa using hc
    have g2:¬cS m.2.2.2.1[j]=fx (i:Int) ((k / S:Nat):Int) ((k % S:Nat):Int):=fun e=>hc (hz.2 e)
    simp only[g,List.cons.injEq,g2,false_and,if_false]
theorem Va(m:ap.T)(hs:ce m.2.2.2.1=true)(hm:eA m.2.2.1=true):
  ∀(n i j:Nat),i+n=m.2.2.1.length→j≤m.2.2.2.1.length→∃o,ac dh (m,(j:Int),m.2.2.1,(m.2.2.1.length:Int),(i:Int),())=some o∧P2 o=decide ((m.2.2.2.1.map cS).drop j=gV i (m.2.2.1.drop i)):=by
 obtain⟨hl16,hg⟩:=fy hm
 have hlen:=fG hs
 intro n
 induction n with
 |zero=>
  intro i j hi hj
  have hi:i=m.2.2.1.length:=by omega
  subst hi
  refine⟨.inl (m,(j:Int),()), ?_, ?_⟩
  ·rw[am]
   simp only[dh,bJ]
  ·rw[List.drop_length]
   show((j:Int)==(m.2.2.2.1.length:Int))=decide ((m.2.2.2.1.map cS).drop j= [])
   have:(m.2.2.2.1.map cS).drop j= []↔j=m.2.2.2.1.length:=by
    rw[List.drop_eq_nil_iff,List.length_map]
    omega
   by_cases h:j=m.2.2.2.1.length
   ·rw[decide_eq_true (this.2 h),h];simp
   ·rw[decide_eq_false (fun e=>h (this.1 e)),beq_eq_false_iff_ne];omega
 |succ n ih=>
  intro i j hi hj
  have hil:i<m.2.2.1.length:=by omega
  have hgi:=lB (hg _ (List.getElem_mem hil))
  obtain⟨R,hR⟩:∃R,R=m.2.2.1[i].1.toNat:=⟨_,rfl⟩
  obtain⟨S,hS⟩:∃S,S=m.2.2.1[i].2.1.toNat:=⟨_,rfl⟩
  rw[←hR,←hS]at hgi
  have hRS:R*S≤128:=Nat.le_trans (Nat.mul_le_mul hgi.1.2 hgi.2.1.2) (by omega)
  have hw:IntKind.i64.wrap ((R:Int)*(S:Int))=((R*S:Nat):Int):=by
   rw[←Int.natCast_mul,wrap_i64]<;>omega
  have h0:=VH m hs i R S (by omega) hgi.1.2 hgi.2.1 m.2.2.1[i].2.2.1 m.2.2.1 (m.2.2.1.length:Int) (R*S) 0 j (by omega) hj
  rw[←List.range_eq_range',←Jr i S (by omega) R]at h0
  have hE:gV i (m.2.2.1.drop i)=ir i R S++gV (i+1) (m.2.2.1.drop (i+1)):=by
   rw[List.drop_eq_getElem_cons hil,hR,hS]
   rfl
  have hstep:ac dh (m,(j:Int),m.2.2.1,(m.2.2.1.length:Int),(i:Int),())=if((m.2.2.2.1.map cS).drop j).take (R*S)=ir i R S then ac dh (m,((j+R*S:Nat):Int),m.2.2.1,(m.2.2.1.length:Int),((i+1:Nat):Int),())else some (.inr (false,())):=by
   have h0':ac dI (m,(j:Int),(i:Int),((R:Int),(S:Int),m.2.2.1[i].2.2.1,()),m.2.2.1,(m.2.2.1.length:Int),(i:Int),((R*S:Nat):Int),(0:Int),())=_:=h0
   rw[am]
   simp only[dh,bw hil,az hil,ab,hgi.2.2.1,hgi.2.2.2,hw]
   rw[h0']
   by_cases hc:((m.2.2.2.1.map cS).drop j).take (R*S)=ir i R S
   ·simp only[if_pos hc,aQ hil (show m.2.2.1.length≤1099511627776 by omega)]
   ·simp only[if_neg hc]
  rw[hstep]
  by_cases hc:((m.2.2.2.1.map cS).drop j).take (R*S)=ir i R S
  ·have hj2:j+R*S≤m.2.2.2.1.length:=by
    have:=congrArg List.length hc
    rw[yS i R S (by omega),List.length_take,List.length_drop,List.length_map]at this
    have h1:1≤R*S:=Nat.mul_pos hgi.1.1 hgi.2.1.1
    omega
   obtain⟨o,ho1,ho2⟩:=ih (i+1) (j+R*S) (by omega) hj2
   refine⟨o,by rw[if_pos hc];exact ho1, ?_⟩
   rw[ho2,hE,decide_eq_decide]
   have e:(m.2.2.2.1.map cS).drop j=ir i R S++(m.2.2.2.1.map cS).drop (j+R*S):=by
    rw[←hc,←List.drop_drop]
    exact(List.take_append_drop _ _).symm
   rw[e]
   exact(List.append_right_inj _).symm
  ·refine⟨.inr (false,()),by rw[if_neg hc], ?_⟩
   show false=_
   rw[hE,eq_comm,decide_eq_false_iff_not]
   intro e
   apply hc
   rw[e,List.take_append_of_le_length (by rw[yS i R S (by omega)];exact Nat.le_refl _),List.take_of_length_le (by rw[yS i R S (by omega)];exact Nat.le_refl _)]
noncomputable def dM(m:ap.T):Bool:=decide (m.2.2.2.1.map cS=gV 0 m.2.2.1)
theorem P3(m:ap.T)(hs:ce m.2.2.2.1=true)(hm:eA m.2.2.1=true):li (m,())=some (dM m,()):=by
 obtain⟨o,h1,h2⟩:=Va m hs hm m.2.2.1.length 0 0 (by omega) (by omega)
 have h1:ac dh ((m.1,m.2.1,m.2.2.1,m.2.2.2.1,()),(0:Int),m.2.2.1,(m.2.2.1.length:Int),(0:Int),())=some o:=h1
 have h2:P2 o=dM m:=h2
 rw[←h2]
 unfold li
 simp only[h1]
 cases o<;>rfl
end Go.Proofs.YtckljdhdadiphaaGreatDoor
namespace Go.Proofs.YtckljdhdadiphaaGreatDoor
open Go.RowKit
set_option linter.unusedVariables false
set_option linter.unusedSimpArgs false
def En(K:List Int)(k:Int):Bool:=decide (k ∈ K)
theorem TL(K:List Int)(i R S:Nat):(ir i R S).all (En K)=(List.range' 0 R).all (fun(r:Nat)=>(List.range' 0 S).all (fun(s:Nat)=>En K (fx (i:Int) (r:Int) (s:Int)))):=by
 unfold ir
 rw[List.all_flatMap,List.range_eq_range']
 congr 1
 funext r
 rw[List.all_map,List.range_eq_range']
 rfl
theorem Vb(m:ap.T)(hs:ce m.2.2.2.1=true)(i r S:Nat)(hil:i<m.2.2.1.length)(hr:r≤7)(hS:S≤16)(hm:m.2.2.1[i].2.1=(S:Int)):
  ∀(n s c:Nat),s+n=S→c+n≤1000100→ac ef (m,(c:Int),(i:Int),(r:Int),(s:Int),())=some (if(List.range' s n).all (fun(s:Nat)=>En (m.2.2.2.1.map cS) (fx (i:Int) (r:Int) (s:Int)))=true then .inl (m,((c+n:Nat):Int),(i:Int),(r:Int),())else .inr (false,())):=by
 have hlen:=fG hs
 have hmem:=gl hs
 intro n
 induction n with
 |zero=>
  intro s c h hc
  have h:s=S:=by omega
  subst h
  rw[am]
  simp only[ef,az hil,ab,hm,bJ]
  simp
 |succ n ih=>
  intro s c h hc
  have hsS:s<S:=by omega
  have hf:=OT m.2.2.2.1 (i:Int) (r:Int) (s:Int) (by omega)
  have hn:=MU (fun v hv=>p5 (hmem v hv)) (a:=(i:Int)) (b:=(r:Int)) (c:=(s:Int)) ⟨by omega,by omega⟩ ⟨by omega,by omega⟩
  have hih:=ih (s+1) (c+1) (by omega) (by omega)
  have hw:IntKind.i64.wrap ((c:Int)+1)=((c+1:Nat):Int):=by rw[wrap_i64]<;>omega
  rw[List.range'_succ,List.all_cons,am]
  simp only[ef,az hil,ab,hm,bw hsS,hf,hn,hw,aQ hsS (show S≤1099511627776 by omega)]
  have hp:En (m.2.2.2.1.map cS) (fx (i:Int) (r:Int) (s:Int))=decide (fx (i:Int) (r:Int) (s:Int) ∈ m.2.2.2.1.map cS):=rfl
  rw[hp]
  rcases Bool.eq_false_or_eq_true (decide (fx (i:Int) (r:Int) (s:Int) ∈ m.2.2.2.1.map cS))with g|g<;>simp only[g,Bool.not_true,Bool.not_false,Bool.true_and,Bool.false_and]
  ·have ha:c+1+n=c+(n+1):=by omega
   rw[ha]at hih
   exact hih
  ·rfl
theorem Vc(m:ap.T)(hs:ce m.2.2.2.1=true)(i R S:Nat)(hil:i<m.2.2.1.length)(hR:R≤8)(hS:S≤16)(hm1:m.2.2.1[i].1=(R:Int))(hm:m.2.2.1[i].2.1=(S:Int)):
  ∀(n r c:Nat),r+n=R→c+n*16≤1000000→ac eh (m,(c:Int),(i:Int),(r:Int),())=some (if(List.range' r n).all (fun(r:Nat)=>(List.range' 0 S).all (fun(s:Nat)=>En (m.2.2.2.1.map cS) (fx (i:Int) (r:Int) (s:Int))))=true then .inl (m,((c+n*S:Nat):Int),(i:Int),())else .inr (false,())):=by
 intro n
 induction n with
 |zero=>
  intro r c h hc
  have h:r=R:=by omega
  subst h
  rw[am]
  simp only[eh,az hil,ab,hm1,bJ]
  simp
 |succ n ih=>
  intro r c h hc
  have hrR:r<R:=by omega
  have h9:=Vb m hs i r S hil (by omega) hS hm S 0 c (by omega) (by omega)
  have h9':ac ef ((m.1,m.2.1,m.2.2.1,m.2.2.2.1,()),(c:Int),(i:Int),(r:Int),(0:Int),())=_:=h9
  have hnS:n*S≤n*16:=Nat.mul_le_mul_left n hS
  have hih:=ih (r+1) (c+S) (by omega) (by rw[Nat.add_mul]at hc;omega)
  rw[List.range'_succ,List.all_cons,am]
  simp only[eh,az hil,ab,hm1,bw hrR]
  rw[h9']
  rcases Bool.eq_false_or_eq_true ((List.range' 0 S).all (fun(s:Nat)=>En (m.2.2.2.1.map cS) (fx (i:Int) (r:Int) (s:Int))))with g|g<;>simp only[g,Bool.true_and,Bool.false_and,if_true,aQ hrR (show R≤1099511627776 by omega)]
  ·have ha:c+S+n*S=c+(n+1)*S:=by rw[Nat.add_mul];omega
   rw[ha]at hih
   exact hih
  ·rfl
theorem Vd(m:ap.T)(hs:ce m.2.2.2.1=true)(hm:eA m.2.2.1=true):
  ∀(n i c:Nat),i+n=m.2.2.1.length→c≤128*i→∃o,ac cW (m,(c:Int),(i:Int),())=some o∧P2 o=((gV i (m.2.2.1.drop i)).all (En (m.2.2.2.1.map cS))&&decide (c+(gV i (m.2.2.1.drop i)).length=m.2.2.2.1.length)):=by
 obtain⟨hl16,hg⟩:=fy hm
 have hlen:=fG hs
 intro n
 induction n with
 |zero=>
  intro i c hi hc
  have hi:i=m.2.2.1.length:=by omega
  subst hi
  refine⟨.inl (m,(c:Int),()), ?_, ?_⟩
  ·rw[am]
   simp only[cW,bJ]
  ·rw[List.drop_length]
   show((c:Int)==(m.2.2.2.1.length:Int))=(true&&decide (c+0=m.2.2.2.1.length))
   rw[Bool.true_and,Nat.add_zero]
   by_cases h:c=m.2.2.2.1.length
   ·rw[decide_eq_true h,h];simp
   ·rw[decide_eq_false h,beq_eq_false_iff_ne];omega
 |succ n ih=>
  intro i c hi hc
  have hil:i<m.2.2.1.length:=by omega
  have hgi:=lB (hg _ (List.getElem_mem hil))
  obtain⟨R,hR⟩:∃R,R=m.2.2.1[i].1.toNat:=⟨_,rfl⟩
  obtain⟨S,hS⟩:∃S,S=m.2.2.1[i].2.1.toNat:=⟨_,rfl⟩
  rw[←hR,←hS]at hgi
  have hRS:R*S≤128:=Nat.le_trans (Nat.mul_le_mul hgi.1.2 hgi.2.1.2) (by omega)
  have h6:=Vc m hs i R S hil hgi.1.2 hgi.2.1.2 hgi.2.2.1 hgi.2.2.2 R 0 c (by omega) (by omega)
  have h6':ac eh ((m.1,m.2.1,m.2.2.1,m.2.2.2.1,()),(c:Int),(i:Int),(0:Int),())=_:=h6
  rw[←TL]at h6'
  have hE:gV i (m.2.2.1.drop i)=ir i R S++gV (i+1) (m.2.2.1.drop (i+1)):=by
   rw[List.drop_eq_getElem_cons hil,hR,hS]
   rfl
  have hstep:ac cW (m,(c:Int),(i:Int),())=if(ir i R S).all (En (m.2.2.2.1.map cS))=true then ac cW (m,((c+R*S:Nat):Int),((i+1:Nat):Int),())else some (.inr (false,())):=by
   rw[am]
   simp only[cW,bw hil]
   rw[h6']
   by_cases hc:(ir i R S).all (En (m.2.2.2.1.map cS))=true
   ·simp only[if_pos hc,aQ hil (show m.2.2.1.length≤1099511627776 by omega)]
   ·simp only[if_neg hc]
  rw[hstep,hE,List.all_append,List.length_append,yS i R S (by omega)]
  by_cases hq:(ir i R S).all (En (m.2.2.2.1.map cS))=true
  ·obtain⟨o,ho1,ho2⟩:=ih (i+1) (c+R*S) (by omega) (by omega)
   refine⟨o,by rw[if_pos hq];exact ho1, ?_⟩
   rw[ho2,hq,Bool.true_and,Nat.add_assoc]
  ·refine⟨.inr (false,()),by rw[if_neg hq], ?_⟩
   rw[Bool.eq_false_iff.2 hq,Bool.false_and,Bool.false_and]
   rfl
theorem P4(m:ap.T)(hs:ce m.2.2.2.1=true)(hm:eA m.2.2.1=true):kj (m,())=some (dM m,()):=by
 obtain⟨o,h1,h2⟩:=Vd m hs hm m.2.2.1.length 0 0 (by omega) (by omega)
 have h1:ac cW ((m.1,m.2.1,m.2.2.1,m.2.2.2.1,()),(0:Int),(0:Int),())=some o:=h1
 have h3:dM m=P2 o:=by
  rw[h2]
  unfold dM
  rw[TK _ _ (MQ hs) (Em _ 0 (fy hm).2),Nat.zero_add,List.length_map]
  rfl
 rw[h3]
 unfold kj
 simp only[h1]
 cases o<;>rfl
end Go.Proofs.YtckljdhdadiphaaGreatDoor
namespace Go.Proofs.YtckljdhdadiphaaGreatDoor
open Go.RowKit
set_option linter.unusedVariables false
set_option linter.unusedSimpArgs false
theorem p6 {S X O T:Type}{B:X→Option (X ⊕ O)}(l:List T)(e:S→Nat→X)(g:S→T→S)(fin:S→O)(P:S→Prop)(hP:∀s,∀v ∈ l,P s→P (g s v))(hend:∀s,P s→B (e s l.length)=some (.inr (fin s)))
  (hstep:∀s i (h:i<l.length),P s→B (e s i)=some (.inl (e (g s l[i]) (i+1)))):∀(n i:Nat) (s:S),i+n=l.length→P s→ac B (e s i)=some (fin ((l.drop i).foldl g s))
 |0,i,s,hi,hs=>by
  have hi:i=l.length:=by omega
  subst hi
  rw[am,hend s hs,List.drop_length]
  rfl
 |n+1,i,s,hi,hs=>by
  have h:i<l.length:=by omega
  rw[am,hstep s i h hs,List.drop_eq_getElem_cons h]
  exact p6 l e g fin P hP hend hstep n (i+1) _ (by omega) (hP s _ (List.getElem_mem h) hs)
theorem ri {S T:Type}{g:S→T→S}{P:S→Prop}:∀(l:List T) (s:S),(∀s,∀v ∈ l,P s→P (g s v))→P s→P (l.foldl g s)
 | [],s,_,h=>h
 |v::l,s,hP,h=>ri l _ (fun s u hu=>hP s u (by simp[hu])) (hP s v (by simp) h)
theorem Ri(a b:Nat)(ha:a<9223372036854775808)(hb:b<9223372036854775808):bits .or .i64 (a:Int) (b:Int)=((a|||b:Nat):Int):=by
 have hx:a|||b<2^63:=Nat.or_lt_two_pow (by omega) (by omega)
 have h1:(BitVec.ofInt 64 (a:Int)).toNat=a:=by
  rw[BitVec.ofInt_natCast,BitVec.toNat_ofNat];exact Nat.mod_eq_of_lt (by omega)
 have h2:(BitVec.ofInt 64 (b:Int)).toNat=b:=by
  rw[BitVec.ofInt_natCast,BitVec.toNat_ofNat];exact Nat.mod_eq_of_lt (by omega)
 show IntKind.i64.wrap ((BitVec.ofInt 64 (a:Int)|||BitVec.ofInt 64 (b:Int)).toNat:Int)=_
 rw[BitVec.toNat_or,h1,h2,wrap_i64]<;>omega
theorem Eo(a b:Nat)(ha:a<9223372036854775808)(hb:b<9223372036854775808):(bits .andNot .i64 (a:Int) (b:Int)==0)=decide (a&&& b=a):=by
 have h1:BitVec.ofInt 64 (a:Int)=BitVec.ofNat 64 a:=BitVec.ofInt_natCast ..
 have h2:BitVec.ofInt 64 (b:Int)=BitVec.ofNat 64 b:=BitVec.ofInt_natCast ..
 have e:bits .andNot .i64 (a:Int) (b:Int)=IntKind.i64.wrap ((BitVec.ofNat 64 a&&& ~~~ BitVec.ofNat 64 b).toNat:Int):=by
  rw[←h1,←h2];rfl
 have ha':(BitVec.ofNat 64 a).toNat=a:=by rw[BitVec.toNat_ofNat];exact Nat.mod_eq_of_lt (by omega)
 have hle:(BitVec.ofNat 64 a&&& ~~~ BitVec.ofNat 64 b).toNat≤a:=by
  rw[BitVec.toNat_and,ha']
  exact Nat.and_le_left
 have hz:(BitVec.ofNat 64 a&&& ~~~ BitVec.ofNat 64 b).toNat=0↔a&&& b=a:=by
  constructor
  ·intro h
   have h0:BitVec.ofNat 64 a&&& ~~~ BitVec.ofNat 64 b=0#64:=BitVec.eq_of_toNat_eq (by rw[h];rfl)
   apply Nat.eq_of_testBit_eq
   intro i
   rw[Nat.testBit_and]
   by_cases hi:i<64
   ·have:=congrArg (fun z:BitVec 64=>z.getLsbD i) h0
    simp only[BitVec.getLsbD_and,BitVec.getLsbD_not,BitVec.getLsbD_ofNat,BitVec.getLsbD_zero,hi,decide_true,Bool.true_and]at this
    cases h5:a.testBit i<;>cases h6:b.testBit i<;>simp[h5,h6]at this ⊢
   ·have:a.testBit i=false:=Nat.testBit_lt_two_pow (Nat.lt_of_lt_of_le ha (Nat.le_trans (by decide:9223372036854775808≤2^64) (Nat.pow_le_pow_right (by omega) (by omega))))
    rw[this];rfl
  ·intro h
   have h0:BitVec.ofNat 64 a&&& ~~~ BitVec.ofNat 64 b=0#64:=by
    apply BitVec.eq_of_getLsbD_eq
    intro i hi
    have:=congrArg (fun z:Nat=>z.testBit i) h
    simp only[Nat.testBit_and]at this
    simp only[BitVec.getLsbD_and,BitVec.getLsbD_not,BitVec.getLsbD_ofNat,BitVec.getLsbD_zero,hi,decide_true,Bool.true_and]
    cases h5:a.testBit i<;>cases h6:b.testBit i<;>simp[h5,h6]at this ⊢
   rw[h0];rfl
 rw[e,wrap_i64 (by omega) (by omega)]
 by_cases h:a&&& b=a
 ·rw[decide_eq_true h,hz.2 h];rfl
 ·rw[decide_eq_false h,beq_eq_false_iff_ne]
  intro h2
  exact h (hz.1 (by omega))
theorem Ke(k:Nat)(hk:k<32):IntKind.i64.wrap ((1:Int)*2^min (k:Int).toNat IntKind.i64.bits)=((2^k:Nat):Int):=by
 have h:min (k:Int).toNat IntKind.i64.bits=k:=nw (by omega)
 have hp:2^k<2^32:=Nat.pow_lt_pow_right (by omega) hk
 have e:(2:Int)^k=((2^k:Nat):Int):=by norm_cast
 rw[h,Int.one_mul,e]
 generalize (2:Nat)^k=p at hp ⊢
 rw[wrap_i64]<;>omega
theorem HL(k:Nat)(hk:k<32):IntKind.i64.wrap ((1:Int)*2^min k IntKind.i64.bits)=((2^k:Nat):Int):=Ke k hk
theorem MV(z:Int)(h0:0≤z)(h1:z≤31):∃k:Nat,k<32∧z=(k:Int):=⟨z.toNat,by omega,by omega⟩
theorem Js(v k:Nat)(hv:v<4294967296)(hk:k<32):v|||2^k<4294967296:=
 Nat.or_lt_two_pow (n:=32) (by omega) (Nat.pow_lt_pow_right (by omega) hk)
def mw(v k:Nat):Bool:=(v / 2^k) % 2==1
theorem FK(v k:Nat):mw v k=v.testBit k:=by
 unfold mw
 rw[Nat.testBit_eq_decide_div_mod_eq,Bool.eq_iff_iff]
 simp
theorem P5(v k:Nat)(hv:v<4294967296)(hk:k<32):tW ((v:Int),(k:Int),true,())=some (((v|||2^k:Nat):Int),()):=by
 have hh:=PZ v k hv hk
 have hu:IntKind.u64.wrap (k:Int)=(k:Int):=CA (by omega)
 have hn:¬((k:Int)<0):=by omega
 have hp:2^k<2^32:=Nat.pow_lt_pow_right (by omega) hk
 have hx:=xP v (2^k) (by omega) (by omega)
 unfold tW
 simp only[hh,hu,hn,if_false,Ke k hk,hx]
 have hb:(v / 2^k % 2==1)=v.testBit k:=FK v k
 rw[hb]
 cases h:v.testBit k with
 |true=>
  have:v|||2^k=v:=by
   apply Nat.eq_of_testBit_eq
   intro i
   rw[Nat.testBit_or,Nat.testBit_two_pow]
   by_cases hi:k=i
   ·subst hi;simp[h]
   ·simp[hi]
  rw[this]
  rfl
 |false=>
  have:v|||2^k=v^^^2^k:=by
   apply Nat.eq_of_testBit_eq
   intro i
   rw[Nat.testBit_or,Nat.testBit_xor,Nat.testBit_two_pow]
   by_cases hi:k=i
   ·subst hi;simp[h]
   ·simp[hi]
  rw[this]
  rfl
theorem Ve(v k:Nat)(hv:v<4294967296)(hk:k<32):Lf ((v:Int),(k:Int),())=some (mw v k,()):=by
 have hb:=uP v k (by omega)
 unfold bt at hb
 have hn:¬((k:Int)<0):=by omega
 unfold Lf mw
 simp only[hn,if_false,nw (show k≤64 by omega),hb]
 generalize v / 2^k=z
 have:(((z % 2:Nat):Int)==1)=(z % 2==1):=by
  rw[Bool.eq_iff_iff]
  simp
  omega
 rw[this]
def nC(v:Nat)(n:aw.T):Nat:=if n.2.2.2.1=true then v else v|||2^n.1.toNat
def cB(l:List aw.T):Nat:=l.foldl nC 0
theorem yT {l:List aw.T}(h:fb l=true):l.length≤32∧∀n ∈ l,∃k:Nat,k<32∧n.1=(k:Int):=by
 unfold fb at h
 rw[Bool.and_eq_true,List.all_eq_true]at h
 refine⟨by have:=(bg.1 h.1).2;omega,fun n hn=> ?_⟩
 obtain⟨i,hi,rfl⟩:=List.getElem_of_mem hn
 have:=h.2 i (by simpa using hi)
 unfold rg tq at this
 simp only[List.getElem?_eq_getElem hi,Bool.and_eq_true,bg]at this
 obtain⟨⟨⟨h1,h2⟩,_⟩,_⟩:=this
 exact MV _ h1 h2
theorem Jt {l:List aw.T}(h:fb l=true):∀s,∀n ∈ l,s<4294967296→nC s n<4294967296:=by
 intro s n hn hs
 obtain⟨k,hk,e⟩:=(yT h).2 n hn
 unfold nC
 split
 ·exact hs
 ·rw[e];exact Js s k hs hk
theorem xT {l:List aw.T}(h:fb l=true):cB l<4294967296:=ri (P:=fun s=>s<4294967296) l 0 (Jt h) (by omega)
theorem P6(l:List aw.T)(h:fb l=true):hI (l,())=some ((cB l:Int),()):=by
 have hid:=yT h
 have e:=p6 (B:=dH) l (fun(s:Nat) i=>((s:Int),l,(l.length:Int),(i:Int),())) nC (fun s=>.inl ((s:Int),())) (fun s=>s<4294967296) (Jt h) (fun s _=>by simp only[dH,bJ]) (fun s i hi hs=>by
  obtain⟨k,hk,e⟩:=hid.2 _ (List.getElem_mem hi)
  have hn:¬((k:Int)<0):=by omega
  have hp:2^k<2^32:=Nat.pow_lt_pow_right (by omega) hk
  have ho:=Ri s (2^k) (by omega) (by omega)
  simp only[dH,bw hi,aQ hi (show l.length≤1099511627776 by omega),az hi,ab,e,hn,if_false,HL k hk,ho,nC,Int.toNat_natCast]
  cases l[i].2.2.2.1<;>rfl) l.length 0 0 (by omega) (by omega)
 have e':ac dH ((0:Int),l,(l.length:Int),(0:Int),())=_:=e
 unfold hI
 simp only[e',List.drop_zero]
 rfl
theorem Lh(l:List aw.T)(h:fb l=true):cG (l,())=some ((cB l:Int),()):=by
 have hid:=yT h
 have e:=p6 (B:=cI) l (fun(s:Nat) i=>(l,(s:Int),(i:Int),())) nC (fun s=>.inl ((s:Int),())) (fun s=>s<4294967296) (Jt h) (fun s _=>by simp only[cI,bJ]) (fun s i hi hs=>by
  obtain⟨k,hk,e⟩:=hid.2 _ (List.getElem_mem hi)
  have ho:=P5 s k hs hk
  simp only[cI,bw hi,aQ hi (show l.length≤1099511627776 by omega),az hi,ab,e,ho,nC,Int.toNat_natCast]
  cases l[i].2.2.2.1<;>rfl) l.length 0 0 (by omega) (by omega)
 have e':ac cI (l,(0:Int),(0:Int),())=_:=e
 unfold cG
 simp only[e',List.drop_zero]
 rfl
theorem rj {v:aj.T}(h:kE v=true):∃k:Nat,k<32∧v.2.2.2.1.1=(k:Int):=by
 unfold kE nB at h
 simp only[Bool.and_eq_true,bg]at h
 obtain⟨h1,h2⟩:=h.2.2.2.1
 exact MV _ h1 h2
def pn(m:ap.T):Bool:=m.2.2.2.1.all (fun v=>mw (cB m.2.1) v.2.2.2.1.1.toNat)
theorem Vf(m:ap.T)(hn:fb m.2.1=true)(hs:ce m.2.2.2.1=true):kP (m,())=some (pn m,()):=by
 have hlen:=fG hs
 have e:=ks (B:=eI) m.2.2.2.1 (fun i=>(m,(cB m.2.1:Int),(i:Int),())) (fun v=>mw (cB m.2.1) v.2.2.2.1.1.toNat) (.inl ()) (.inr (false,())) (by simp only[eI,bJ]) (fun i h=>by
  obtain⟨k,hk,e⟩:=rj (gl hs _ (List.getElem_mem h))
  have hh:nl ((cB m.2.1:Int),(k:Int),())=some (mw (cB m.2.1) k,()):=PZ (cB m.2.1) k (xT hn) hk
  simp only[eI,bw h,aQ h (show m.2.2.2.1.length≤1099511627776 by omega),az h,ab,e,hh,Int.toNat_natCast]
  cases mw (cB m.2.1) k<;>rfl)
 have e':ac eI ((m.1,m.2.1,m.2.2.1,m.2.2.2.1,()),(cB m.2.1:Int),(0:Int),())=_:=e
 unfold kP pn
 simp only[Lh m.2.1 hn,e']
 cases m.2.2.2.1.all (fun v=>mw (cB m.2.1) v.2.2.2.1.1.toNat)<;>rfl
theorem Vg(m:ap.T)(hn:fb m.2.1=true)(hs:ce m.2.2.2.1=true):b6 (m.2.2.2.1,(fun z=>lJ (z.1,(m.1,m.2.1,m.2.2.1,m.2.2.2.1,()),())),())=some (!pn m,()):=by
 have hlen:=fG hs
 rw[sQ m.2.2.2.1 (by omega) _ (fun v=> !mw (cB m.2.1) v.2.2.2.1.1.toNat) (fun i h=>by
  obtain⟨k,hk,e⟩:=rj (gl hs _ (List.getElem_mem h))
  have hh:=Ve (cB m.2.1) k (xT hn) hk
  unfold lJ
  simp only[P6 m.2.1 hn,e,hh,Int.toNat_natCast])]
 unfold pn
 rw[CW,Bool.not_not]
end Go.Proofs.YtckljdhdadiphaaGreatDoor
namespace Go.Proofs.YtckljdhdadiphaaGreatDoor
open Go.RowKit
set_option linter.unusedVariables false
set_option linter.unusedSimpArgs false
theorem yU {S X O T:Type}{B:X→Option (X ⊕ O)}(l:List T)(e:S→Nat→X)(g:S→T→S)(fin:S→O)(P:Nat→S→Prop)(hP:∀i (h:i<l.length) s,P i s→P (i+1) (g s l[i]))(hend:∀s,B (e s l.length)=some (.inr (fin s)))
  (hstep:∀s i (h:i<l.length),P i s→B (e s i)=some (.inl (e (g s l[i]) (i+1)))):∀(n i:Nat) (s:S),i+n=l.length→P i s→ac B (e s i)=some (fin ((l.drop i).foldl g s))
 |0,i,s,hi,hs=>by
  have hi:i=l.length:=by omega
  subst hi
  rw[am,hend s,List.drop_length]
  rfl
 |n+1,i,s,hi,hs=>by
  have h:i<l.length:=by omega
  rw[am,hstep s i h hs,List.drop_eq_getElem_cons h]
  exact yU l e g fin P hP hend hstep n (i+1) _ (by omega) (hP i h s hs)
theorem wj {α:Type}(q:α→Bool):∀(l:List α) (i j:Nat),b8 q i l=some j→∃(n:Nat) (h:n<l.length),j=i+n∧q l[n]=true
 | [],_,_,h=>by cases h
 |v::r,i,j,h=>by
  unfold b8 at h
  cases hq:q v with
  |true=>
   rw[hq]at h
   cases h
   exact⟨0,by simp,by omega,hq⟩
  |false=>
   rw[hq]at h
   obtain⟨n,hn,e,h2⟩:=wj q r (i+1) j h
   exact⟨n+1,by simpa using hn,by omega,by simpa using h2⟩
def yV(v:aj.T):Int:=v.2.2.2.1.2.2.2.1
def C4(u v:aj.T):Bool:=(u.1==v.1)&&(u.2.2.1==v.2.2.1)
def lS(u v:aj.T):Bool:= !C4 u v||(yV u==yV v)
def C5(l:List aj.T)(i:Nat):Bool:=match l[i]? with
 |none=>false
 |some v=>(l.take i).all (lS v)
def CE(l:List aj.T):Bool:=(List.range l.length).all (C5 l)
theorem VI(m:ap.T)(hl:m.2.2.2.1.length≤1099511627776):jv (m,())=some (CE m.2.2.2.1,()):=by
 have inner:∀i (h:i<m.2.2.2.1.length),ac dF (m,(i:Int),(0:Int),())=some (if(m.2.2.2.1.take i).all (lS m.2.2.2.1[i])then .inl (m,(i:Int),())else .inr (false,())):=fun i h=>by
  have e:=ks (B:=dF) (m.2.2.2.1.take i) (fun j=>(m,(i:Int),(j:Int),())) (lS m.2.2.2.1[i]) (.inl (m,(i:Int),())) (.inr (false,())) (by
   rw[List.length_take,Nat.min_eq_left (Nat.le_of_lt h)]
   simp only[dF,bJ]) (fun j hj=>by
   have hj':j<i:=by rw[List.length_take]at hj;omega
   have hjl:j<m.2.2.2.1.length:=by omega
   have hg:(m.2.2.2.1.take i)[j]=m.2.2.2.1[j]:=by simp
   rw[hg]
   simp only[dF,bw hj',aQ hjl hl,az hjl,az h,ab,tD,lS,C4,yV]
   generalize m.2.2.2.1[i]=u
   generalize m.2.2.2.1[j]=v
   rcases Bool.eq_false_or_eq_true (u.1==v.1)with h1|h1<;>simp only[h1,Bool.true_and,Bool.false_and,Bool.not_false,Bool.true_or,if_true]
   rcases Bool.eq_false_or_eq_true (u.2.2.1==v.2.2.1)with h2|h2<;>simp only[h2,Bool.not_true,Bool.not_false,Bool.true_or,Bool.false_or,if_true]
   have hne:(u.2.2.2.1.2.2.2.1 != v.2.2.2.1.2.2.2.1)= !(u.2.2.2.1.2.2.2.1==v.2.2.2.1.2.2.2.1):=rfl
   rw[hne]
   cases (u.2.2.2.1.2.2.2.1==v.2.2.2.1.2.2.2.1)<;>rfl)
  exact e
 have e:=fD (B:=dG) m.2.2.2.1.length (fun i=>(m,(i:Int),())) (C5 m.2.2.2.1) (.inl ()) (.inr (false,())) (by simp only[dG,bJ]) (fun i h=>by
  simp only[dG,bw h,aQ h hl,inner i h,C5,List.getElem?_eq_getElem h]
  cases (m.2.2.2.1.take i).all (lS m.2.2.2.1[i])
  ·rfl
  ·show some (Sum.inl (m,IntKind.i64.wrap ((i:Int)+1),()))=some (.inl (m,((i+1:Nat):Int),()))
   rw[aQ h hl])
 have e':ac dG ((m.1,m.2.1,m.2.2.1,m.2.2.2.1,()),(0:Int),())=_:=e
 unfold jv CE
 simp only[e']
 cases (List.range m.2.2.2.1.length).all (C5 m.2.2.2.1)<;>rfl
theorem Kf:∀(ms:List aA.T) (i:Nat),(∀m ∈ ms,HK m)→∀k ∈ gV i ms,∃a r s:Nat,k=fx (a:Int) (r:Int) (s:Int)∧r≤7∧s≤15∧fx (a:Int) 0 (s:Int) ∈ gV i ms
 | [],i,_,k,hk=>by simp[gV]at hk
 |m::ms,i,h,k,hk=>by
  simp only[gV,List.mem_append]at hk ⊢
  rcases hk with hk|hk
  ·have hm:=lB (h m (by simp))
   simp only[ir,List.mem_flatMap,List.mem_map,List.mem_range]at hk
   obtain⟨r,hr,s,hs,rfl⟩:=hk
   refine⟨i,r,s,rfl,by omega,by omega,.inl ?_⟩
   simp only[ir,List.mem_flatMap,List.mem_map,List.mem_range]
   exact⟨0,by omega,s,hs,rfl⟩
  ·obtain⟨a,r,s,e,h1,h2,h3⟩:=Kf ms (i+1) (fun m hm=>h m (by simp[hm])) k hk
   exact⟨a,r,s,e,h1,h2,.inr h3⟩
theorem MW(m:ap.T)(hs:ce m.2.2.2.1=true)(hm:eA m.2.2.1=true)(hc:dM m=true):∀v ∈ m.2.2.2.1,∃(j:Nat) (h:j<m.2.2.2.1.length),b8 (iA v.1 0 v.2.2.1) 0 m.2.2.2.1=some j∧iA v.1 0 v.2.2.1 m.2.2.2.1[j]=true:=by
 intro v hv
 have hmem:=gl hs
 have hvk:=p5 (hmem v hv)
 have hK:m.2.2.2.1.map cS=gV 0 m.2.2.1:=by
  unfold dM at hc
  exact of_decide_eq_true hc
 have h1:cS v ∈ gV 0 m.2.2.1:=by rw[←hK];exact List.mem_map.2 ⟨v,hv,rfl⟩
 obtain⟨a,r,s,e,hr,hs',h2⟩:=Kf _ 0 (fy hm).2 _ h1
 rw[←hK]at h2
 obtain⟨u,hu,e2⟩:=List.mem_map.1 h2
 have huk:=p5 (hmem u hu)
 have hv0:iA (a:Int) (r:Int) (s:Int) v=true:=(C3 hvk ⟨by omega,by omega⟩ ⟨by omega,by omega⟩).2 e
 have hu0:iA (a:Int) 0 (s:Int) u=true:=(C3 huk ⟨by omega,by omega⟩ ⟨by omega,by omega⟩).2 e2
 have hva:v.1=(a:Int)∧v.2.2.1=(s:Int):=by
  unfold iA at hv0
  simp only[Bool.and_eq_true,beq_iff_eq]at hv0
  exact⟨hv0.1,hv0.2.2⟩
 have hx:m.2.2.2.1.any (iA v.1 0 v.2.2.1)=true:=List.any_eq_true.2 ⟨u,hu,by rw[hva.1,hva.2];exact hu0⟩
 rw[←ka (iA v.1 0 v.2.2.1) 0 m.2.2.2.1]at hx
 obtain⟨j,hj⟩:=Option.isSome_iff_exists.1 hx
 obtain⟨n,hn,e3,h4⟩:=wj _ _ _ _ hj
 have:j=n:=by omega
 subst this
 exact⟨j,hn,hj,h4⟩
def nD(l:List aj.T)(v:aj.T):Bool:=match b8 (iA v.1 0 v.2.2.1) 0 l with
 |none=>false
 |some j=>match l[j]? with
  |none=>false
  |some u=>yV v==yV u
theorem Sx(m:ap.T)(hs:ce m.2.2.2.1=true)(hm:eA m.2.2.1=true)(hc:dM m=true):o5 (m,())=some (m.2.2.2.1.all (nD m.2.2.2.1),()):=by
 have hlen:=fG hs
 have e:=ks (B:=fQ) m.2.2.2.1 (fun i=>(m,m.2.2.2.1,(m.2.2.2.1.length:Int),(i:Int),())) (nD m.2.2.2.1) (.inl ()) (.inr (false,())) (by simp only[fQ,bJ]) (fun i h=>by
  obtain⟨j,hj,h1,h2⟩:=MW m hs hm hc _ (List.getElem_mem h)
  have hf:lL (m.2.2.2.1,m.2.2.2.1[i].1,(0:Int),m.2.2.2.1[i].2.2.1,())=some ((j:Int),()):=by
   rw[OU _ _ _ _ (by omega)]
   unfold qm
   rw[h1]
  simp only[fQ,bw h,aQ h (show m.2.2.2.1.length≤1099511627776 by omega),az h,ab,hf,az hj,tD,cT,nD,h1,List.getElem?_eq_getElem hj,yV]
  have hne:(m.2.2.2.1[i].2.2.2.1.2.2.2.1 != m.2.2.2.1[j].2.2.2.1.2.2.2.1)= !(m.2.2.2.1[i].2.2.2.1.2.2.2.1==m.2.2.2.1[j].2.2.2.1.2.2.2.1):=rfl
  rw[hne]
  cases (m.2.2.2.1[i].2.2.2.1.2.2.2.1==m.2.2.2.1[j].2.2.2.1.2.2.2.1)<;>rfl)
 have e':ac fQ ((m.1,m.2.1,m.2.2.1,m.2.2.2.1,()),m.2.2.2.1,(m.2.2.2.1.length:Int),(0:Int),())=_:=e
 unfold o5
 simp only[e']
 cases m.2.2.2.1.all (nD m.2.2.2.1)<;>rfl
theorem Sy {u v:aj.T}(h:lS u v=true):lS v u=true:=by
 unfold lS C4 at h ⊢
 simp only[Bool.or_eq_true,Bool.not_eq_true',Bool.and_eq_false_iff,beq_iff_eq,beq_eq_false_iff_ne]at h ⊢
 rcases h with(h|h)|h
 ·exact .inl (.inl fun e=>h e.symm)
 ·exact .inl (.inr fun e=>h e.symm)
 ·exact .inr h.symm
theorem TM {l:List aj.T}:CE l=true↔∀u ∈ l,∀v ∈ l,lS u v=true:=by
 unfold CE
 rw[List.all_eq_true]
 constructor
 ·intro h
  have key:∀i j (hi:i<l.length) (hj:j<i),lS l[i] l[j]=true:=fun i j hi hj=>by
   have:=h i (by simpa using hi)
   unfold C5 at this
   simp only[List.getElem?_eq_getElem hi,List.all_eq_true]at this
   exact this _ (List.mem_take_iff_getElem.2 ⟨j,by omega,rfl⟩)
  intro u hu v hv
  obtain⟨i,hi,rfl⟩:=List.getElem_of_mem hu
  obtain⟨j,hj,rfl⟩:=List.getElem_of_mem hv
  rcases Nat.lt_trichotomy i j with h1|h1|h1
  ·exact Sy (key j i hj h1)
  ·subst h1
   unfold lS
   simp
  ·exact key i j hi h1
 ·intro h i hi
  have hi:i<l.length:=by simpa using hi
  unfold C5
  simp only[List.getElem?_eq_getElem hi,List.all_eq_true]
  exact fun v hv=>h _ (List.getElem_mem hi) v (List.mem_of_mem_take hv)
theorem P7(m:ap.T)(hs:ce m.2.2.2.1=true)(hm:eA m.2.2.1=true)(hc:dM m=true):m.2.2.2.1.all (nD m.2.2.2.1)=CE m.2.2.2.1:=by
 have hf:=MW m hs hm hc
 rw[Bool.eq_iff_iff,TM,List.all_eq_true]
 constructor
 ·intro h u hu v hv
  unfold lS
  cases hsm:C4 u v with
  |false=>rfl
  |true=>
   unfold C4 at hsm
   simp only[Bool.and_eq_true,beq_iff_eq]at hsm
   obtain⟨j,hj,h1,h2⟩:=hf u hu
   have hu':=h u hu
   have hv':=h v hv
   unfold nD at hu' hv'
   rw[←hsm.1,←hsm.2]at hv'
   simp only[h1,List.getElem?_eq_getElem hj,beq_iff_eq]at hu' hv'
   rw[hu',hv']
   simp
 ·intro h v hv
  obtain⟨j,hj,h1,h2⟩:=hf v hv
  unfold nD
  simp only[h1,List.getElem?_eq_getElem hj]
  have h3:=h v hv _ (List.getElem_mem hj)
  unfold iA at h2
  simp only[Bool.and_eq_true,beq_iff_eq]at h2
  unfold lS C4 at h3
  rw[h2.1,h2.2.2]at h3
  simpa using h3
def Sz(k:Int)(a:Int)(v:aj.T):Int:=if(v.1==k)=true then IntKind.i64.wrap (a+yV v)else a
def Ju(l:List aj.T)(k:Int):Int:=l.foldl (Sz k) 0
theorem VJ(m:ap.T)(k:Int)(hl:m.2.2.2.1.length≤1099511627776):oI (m,k,())=some (Ju m.2.2.2.1 k,()):=by
 have e:=yU (B:=fO) m.2.2.2.1 (fun(s:Int) i=>(k,m,s,(i:Int),())) (Sz k) (fun s=>.inl (s,())) (fun _ _=>True) (fun _ _ _ _=>trivial) (fun s=>by simp only[fO,bJ]) (fun s i h _=>by
  simp only[fO,bw h,aQ h hl,az h,ab,Sz,yV]
  cases (m.2.2.2.1[i].1==k)<;>rfl) m.2.2.2.1.length 0 0 (by omega) trivial
 have e':ac fO (k,(m.1,m.2.1,m.2.2.1,m.2.2.2.1,()),(0:Int),(0:Int),())=_:=e
 unfold oI
 simp only[e']
 rfl
theorem VK(m:ap.T)(k:Int)(hl:m.2.2.2.1.length≤1000):∃l,mF (m,k,())=some (l,())∧lM (l,())=some (Ju m.2.2.2.1 k,()):=by
 have e:=yU (B:=fo) m.2.2.2.1 (fun(s:List aj.T) i=>(k,s,m.2.2.2.1,(m.2.2.2.1.length:Int),(i:Int),())) (fun s v=>if(v.1==k)=true then s++ [v]else s) (fun s=>.inl (s,())) (fun i s=>s.length≤i) (fun i h s hs=>by
  show List.length (if _ then _ else _)≤_
  split
  ·simp;omega
  ·omega) (fun s=>by simp only[fo,bJ]) (fun s i h hs=>by
  simp only[fo,bw h,aQ h (show m.2.2.2.1.length≤1099511627776 by omega),az h,ab]
  cases (m.2.2.2.1[i].1==k)
  ·rfl
  ·simp only
   rw[aE (by simp;omega)]
   rfl) m.2.2.2.1.length 0 [] (by omega) (by simp)
 have e':ac fo (k,([]:List aj.T),m.2.2.2.1,(m.2.2.2.1.length:Int),(0:Int),())=_:=e
 have hflt:∀(l acc:List aj.T),l.foldl (fun s v=>if(v.1==k)=true then s++ [v]else s) acc=acc++l.filter (fun v=>v.1==k):=by
  intro l
  induction l with
  |nil=>intro acc;simp
  |cons v l ih=>
   intro acc
   rw[List.foldl_cons,ih,List.filter_cons]
   split<;>simp
 refine⟨m.2.2.2.1.filter (fun v=>v.1==k), ?_, ?_⟩
 ·unfold mF
  simp only[e',List.drop_zero,hflt,List.nil_append]
 ·have hle:=List.length_filter_le (fun v:aj.T=>v.1==k) m.2.2.2.1
  generalize hq:m.2.2.2.1.filter (fun v=>v.1==k)=q at hle
  have e2:=yU (B:=dJ) q (fun(s:Int) i=>(s,q,(q.length:Int),(i:Int),())) (fun s v=>IntKind.i64.wrap (s+yV v)) (fun s=>.inl (s,())) (fun _ _=>True) (fun _ _ _ _=>trivial) (fun s=>by simp only[dJ,bJ]) (fun s i h _=>by
   simp only[dJ,bw h,aQ h (show q.length≤1099511627776 by omega),az h,ab]
   rfl) q.length 0 0 (by omega) trivial
  have e2':ac dJ ((0:Int),q,(q.length:Int),(0:Int),())=_:=e2
  unfold lM Ju
  simp only[e2',List.drop_zero]
  rw[←hq,List.foldl_filter]
  rfl
def ky(l:List aj.T)(k:Nat):Bool:= !decide (Ju l (k:Int)>32000)
theorem TN(m:ap.T)(hl:m.2.2.2.1.length≤1000)(hn:m.2.2.1.length≤1000):qO (m,())=some ((List.range m.2.2.1.length).all (ky m.2.2.2.1),()):=by
 have e:=fD (B:=gI) m.2.2.1.length (fun i=>(m,(m.2.2.1.length:Int),(i:Int),())) (ky m.2.2.2.1) (.inl ()) (.inr (false,())) (by simp only[gI,bJ]) (fun i h=>by
  obtain⟨l,h1,h2⟩:=VK m (i:Int) hl
  have h1:mF ((m.1,m.2.1,m.2.2.1,m.2.2.2.1,()),(i:Int),())=some (l,()):=h1
  simp only[gI,bw h,aQ h (show m.2.2.1.length≤1099511627776 by omega),h1,h2,ky]
  rcases Bool.eq_false_or_eq_true (decide (Ju m.2.2.2.1 (i:Int)>32000))with g|g<;>simp only[g]<;>rfl)
 have e':ac gI ((m.1,m.2.1,m.2.2.1,m.2.2.2.1,()),(m.2.2.1.length:Int),(0:Int),())=_:=e
 unfold qO
 simp only[e']
 cases (List.range m.2.2.1.length).all (ky m.2.2.2.1)<;>rfl
theorem TO(m:ap.T)(hl:m.2.2.2.1.length≤1000)(hn:m.2.2.1.length≤1000):ac dv (m,(0:Int),())=some (if(List.range m.2.2.1.length).all (ky m.2.2.2.1)=true then .inl (m,())else .inr ((8:Int),())):=
 fD (B:=dv) m.2.2.1.length (fun i=>(m,(i:Int),())) (ky m.2.2.2.1) (.inl (m,())) (.inr ((8:Int),())) (by simp only[dv,bJ]) (fun i h=>by
  have h1:oI ((m.1,m.2.1,m.2.2.1,m.2.2.2.1,()),(i:Int),())=_:=VJ m (i:Int) (by omega)
  simp only[dv,bw h,aQ h (show m.2.2.1.length≤1099511627776 by omega),h1,ky]
  rcases Bool.eq_false_or_eq_true (decide (Ju m.2.2.2.1 (i:Int)>32000))with g|g<;>simp only[g]<;>rfl)
def qn(v:aj.T):Bool:=if(v.2.2.2.1.2.1==(3:Int))=true then v.1 != (0:Int)else false
theorem Vh(l:List aj.T)(hl:l.length≤1000):b6 (l,lK,())=some (l.any qn,()):=
 sQ l (by omega) _ qn (fun i h=>by
  unfold lK qn
  cases (l[i].2.2.2.1.2.1==(3:Int))<;>rfl)
theorem Vi(m:ap.T)(hl:m.2.2.2.1.length≤1000):ac cX (m,(0:Int),())=some (if m.2.2.2.1.any qn=true then .inr ((10:Int),())else .inl ()):=by
 have e:=ks (B:=cX) m.2.2.2.1 (fun i=>(m,(i:Int),())) (fun v=> !qn v) (.inl ()) (.inr ((10:Int),())) (by simp only[cX,bJ]) (fun i h=>by
  simp only[cX,bw h,aQ h (show m.2.2.2.1.length≤1099511627776 by omega),az h,ab,qn]
  rcases Bool.eq_false_or_eq_true (m.2.2.2.1[i].2.2.2.1.2.1==(3:Int))with g|g<;>simp only[g]
  ·rcases Bool.eq_false_or_eq_true (m.2.2.2.1[i].1 != (0:Int))with g2|g2<;>simp only[g2]<;>rfl
  ·rfl)
 have e':ac cX (m,(0:Int),())=_:=e
 rw[e',CW]
 simp only[Bool.not_not]
 cases m.2.2.2.1.any qn<;>rfl
end Go.Proofs.YtckljdhdadiphaaGreatDoor
namespace Go.Proofs.YtckljdhdadiphaaGreatDoor
open Go.RowKit
set_option linter.unusedVariables false
set_option linter.unusedSimpArgs false
def CF(i r:Int)(s:Nat)(v:aj.T):Nat:=if(v.1==i)=true then(if(v.2.1==r)=true then s|||2^v.2.2.2.1.1.toNat else s)else s
def p7(l:List aj.T)(i r:Int):Nat:=l.foldl (CF i r) 0
theorem Jv {l:List aj.T}(h:ce l=true)(i r:Int):∀s,∀v ∈ l,s<4294967296→CF i r s v<4294967296:=by
 intro s v hv hs
 obtain⟨k,hk,e⟩:=rj (gl h v hv)
 unfold CF
 split
 ·split
  ·rw[e];exact Js s k hs hk
  ·exact hs
 ·exact hs
theorem TP {l:List aj.T}(h:ce l=true)(i r:Int):p7 l i r<4294967296:=ri (P:=fun s=>s<4294967296) l 0 (Jv h i r) (by omega)
theorem TQ(m:ap.T)(hd:pn m=true)(i r:Int):∀k,(p7 m.2.2.2.1 i r).testBit k=true→(cB m.2.1).testBit k=true:=by
 unfold pn at hd
 rw[List.all_eq_true]at hd
 refine ri (P:=fun s=>∀k,Nat.testBit s k=true→(cB m.2.1).testBit k=true) m.2.2.2.1 0 ?_ (by simp)
 intro s v hv hs k hk
 unfold CF at hk
 have hv':=hd v hv
 rw[FK]at hv'
 split at hk
 ·split at hk
  ·rw[Nat.testBit_or,Nat.testBit_two_pow,Bool.or_eq_true]at hk
   rcases hk with hk|hk
   ·exact hs k hk
   ·have:=of_decide_eq_true hk
    rw[←this]
    exact hv'
  ·exact hs k hk
 ·exact hs k hk
theorem Vj(m:ap.T)(hd:pn m=true)(i r:Int):decide (cB m.2.1&&& p7 m.2.2.2.1 i r=cB m.2.1)=decide (p7 m.2.2.2.1 i r=cB m.2.1):=by
 have hs:=TQ m hd i r
 rw[decide_eq_decide]
 constructor
 ·intro h
  apply Nat.eq_of_testBit_eq
  intro k
  have:=congrArg (fun z:Nat=>z.testBit k) h
  simp only[Nat.testBit_and]at this
  cases h1:(p7 m.2.2.2.1 i r).testBit k with
  |true=>rw[hs k h1]
  |false=>
   rw[h1,Bool.and_false]at this
   exact this
 ·intro h
  rw[h,Nat.and_self]
theorem VL(m:ap.T)(hs:ce m.2.2.2.1=true)(a i r:Int):ac df (m,a,i,r,(0:Int),(0:Int),())=some (.inl (m,a,i,r,(p7 m.2.2.2.1 i r:Int),())):=by
 have hlen:=fG hs
 have e:=p6 (B:=df) m.2.2.2.1 (fun(s:Nat) j=>(m,a,i,r,(s:Int),(j:Int),())) (CF i r) (fun s=>.inl (m,a,i,r,(s:Int),())) (fun s=>s<4294967296) (Jv hs i r) (fun s _=>by simp only[df,bJ]) (fun s j hj hv=>by
  obtain⟨k,hk,e⟩:=rj (gl hs _ (List.getElem_mem hj))
  have ho:=P5 s k hv hk
  simp only[df,bw hj,aQ hj (show m.2.2.2.1.length≤1099511627776 by omega),az hj,ab,e,ho,CF,Int.toNat_natCast]
  rcases Bool.eq_false_or_eq_true (m.2.2.2.1[j].1==i)with g|g<;>simp only[g]
  ·rcases Bool.eq_false_or_eq_true (m.2.2.2.1[j].2.1==r)with g2|g2<;>simp only[g2]<;>rfl
  ·rfl) m.2.2.2.1.length 0 0 (by omega) (by omega)
 have e':ac df (m,a,i,r,(0:Int),(0:Int),())=_:=e
 rw[e',List.drop_zero]
 rfl
theorem VM(m:ap.T)(hs:ce m.2.2.2.1=true)(i r:Int)(ms:List aA.T)(n i2 R r2:Int):ac eH (m,i,r,(0:Int),ms,n,i2,R,r2,m.2.2.2.1,(m.2.2.2.1.length:Int),(0:Int),())=some (.inl (m,i,(p7 m.2.2.2.1 i r:Int),ms,n,i2,R,r2,())):=by
 have hlen:=fG hs
 have e:=p6 (B:=eH) m.2.2.2.1 (fun(s:Nat) j=>(m,i,r,(s:Int),ms,n,i2,R,r2,m.2.2.2.1,(m.2.2.2.1.length:Int),(j:Int),())) (CF i r) (fun s=>.inl (m,i,(s:Int),ms,n,i2,R,r2,())) (fun s=>s<4294967296) (Jv hs i r) (fun s _=>by simp only[eH,bJ]) (fun s j hj hv=>by
  obtain⟨k,hk,e⟩:=rj (gl hs _ (List.getElem_mem hj))
  have hn:¬((k:Int)<0):=by omega
  have hp:2^k<2^32:=Nat.pow_lt_pow_right (by omega) hk
  have ho:=Ri s (2^k) (by omega) (by omega)
  simp only[eH,bw hj,aQ hj (show m.2.2.2.1.length≤1099511627776 by omega),az hj,ab,e,hn,if_false,HL k hk,ho,CF,Int.toNat_natCast]
  rcases Bool.eq_false_or_eq_true (m.2.2.2.1[j].1==i)with g|g<;>simp only[g]
  ·rcases Bool.eq_false_or_eq_true (m.2.2.2.1[j].2.1==r)with g2|g2<;>simp only[g2]<;>rfl
  ·rfl) m.2.2.2.1.length 0 0 (by omega) (by omega)
 have e':ac eH (m,i,r,(0:Int),ms,n,i2,R,r2,m.2.2.2.1,(m.2.2.2.1.length:Int),(0:Int),())=_:=e
 rw[e',List.drop_zero]
 rfl
def lT(m:ap.T)(i:Nat)(r:Nat):Bool:=decide (p7 m.2.2.2.1 (i:Int) (r:Int)=cB m.2.1)
def nF(m:ap.T)(i:Nat):Bool:=match m.2.2.1[i]? with
 |none=>false
 |some v=>(List.range v.1.toNat).all (lT m i)
def p8(m:ap.T):Bool:=(List.range m.2.2.1.length).all (nF m)
theorem Vk(a b:Nat):((a:Int) != (b:Int))= !decide (a=b):=by
 by_cases h:a=b
 ·subst h;simp
 ·rw[decide_eq_false h]
  simp
  omega
theorem SA(m:ap.T)(hn:fb m.2.1=true)(hm:eA m.2.2.1=true)(hs:ce m.2.2.2.1=true):mC (m,())=some (p8 m,()):=by
 obtain⟨hl16,hg⟩:=fy hm
 have inner:∀i (hi:i<m.2.2.1.length),ac eu (m,(cB m.2.1:Int),(i:Int),(0:Int),())=some (if(List.range m.2.2.1[i].1.toNat).all (lT m i)=true then .inl (m,(cB m.2.1:Int),(i:Int),())else .inr (false,())):=fun i hi=>by
  have hgi:=lB (hg _ (List.getElem_mem hi))
  have e:=fD (B:=eu) m.2.2.1[i].1.toNat (fun r=>(m,(cB m.2.1:Int),(i:Int),(r:Int),())) (lT m i) (.inl (m,(cB m.2.1:Int),(i:Int),())) (.inr (false,())) (by
   simp only[eu,az hi,ab]
   have:decide ((m.2.2.1[i].1.toNat:Int)<m.2.2.1[i].1)=false:=by rw[←hgi.2.2.1];exact decide_eq_false (Int.lt_irrefl _)
   rw[this]) (fun r hr=>by
   have hlt:decide ((r:Int)<m.2.2.1[i].1)=true:=by rw[hgi.2.2.1];exact bw hr
   have hv:ac df ((m.1,m.2.1,m.2.2.1,m.2.2.2.1,()),(cB m.2.1:Int),(i:Int),(r:Int),(0:Int),(0:Int),())=_:=VL m hs (cB m.2.1:Int) (i:Int) (r:Int)
   simp only[eu,az hi,ab,hlt,hv,Vk,lT,aQ hr (show m.2.2.1[i].1.toNat≤1099511627776 by have:=hgi.1.2;omega)]
   rcases Bool.eq_false_or_eq_true (decide (p7 m.2.2.2.1 (i:Int) (r:Int)=cB m.2.1))with g|g<;>simp only[g]<;>rfl)
  exact e
 have e:=fD (B:=fj) m.2.2.1.length (fun i=>(m,(cB m.2.1:Int),(i:Int),())) (nF m) (.inl ()) (.inr (false,())) (by simp only[fj,bJ]) (fun i hi=>by
  have h6:ac eu ((m.1,m.2.1,m.2.2.1,m.2.2.2.1,()),(cB m.2.1:Int),(i:Int),(0:Int),())=_:=inner i hi
  simp only[fj,bw hi,h6,nF,List.getElem?_eq_getElem hi]
  rcases Bool.eq_false_or_eq_true ((List.range m.2.2.1[i].1.toNat).all (lT m i))with g|g<;>simp only[g,if_true,aQ hi (show m.2.2.1.length≤1099511627776 by omega)]<;>rfl)
 have e':ac fj ((m.1,m.2.1,m.2.2.1,m.2.2.2.1,()),(cB m.2.1:Int),(0:Int),())=_:=e
 unfold mC p8
 simp only[Lh m.2.1 hn,e']
 cases (List.range m.2.2.1.length).all (nF m)<;>rfl
theorem SB(m:ap.T)(hn:fb m.2.1=true)(hm:eA m.2.2.1=true)(hs:ce m.2.2.2.1=true)(hd:pn m=true):qP (m,())=some (p8 m,()):=by
 obtain⟨hl16,hg⟩:=fy hm
 have inner:∀i (hi:i<m.2.2.1.length),ac fF (m,(i:Int),m.2.2.1,(m.2.2.1.length:Int),(i:Int),m.2.2.1[i].1,(0:Int),())=some (if(List.range m.2.2.1[i].1.toNat).all (lT m i)=true then .inl (m,m.2.2.1,(m.2.2.1.length:Int),(i:Int),())else .inr (false,())):=fun i hi=>by
  have hgi:=lB (hg _ (List.getElem_mem hi))
  have e:=fD (B:=fF) m.2.2.1[i].1.toNat (fun r=>(m,(i:Int),m.2.2.1,(m.2.2.1.length:Int),(i:Int),m.2.2.1[i].1,(r:Int),())) (lT m i) (.inl (m,m.2.2.1,(m.2.2.1.length:Int),(i:Int),())) (.inr (false,())) (by
   have:decide ((m.2.2.1[i].1.toNat:Int)<m.2.2.1[i].1)=false:=by rw[←hgi.2.2.1];exact decide_eq_false (Int.lt_irrefl _)
   simp only[fF,this]) (fun r hr=>by
   have hlt:decide ((r:Int)<m.2.2.1[i].1)=true:=by rw[hgi.2.2.1];exact bw hr
   have hv:ac eH ((m.1,m.2.1,m.2.2.1,m.2.2.2.1,()),(i:Int),(r:Int),(0:Int),m.2.2.1,(m.2.2.1.length:Int),(i:Int),m.2.2.1[i].1,(r:Int),m.2.2.2.1,(m.2.2.2.1.length:Int),(0:Int),())=_:=VM m hs (i:Int) (r:Int) m.2.2.1 (m.2.2.1.length:Int) (i:Int) m.2.2.1[i].1 (r:Int)
   have hz:=Eo (cB m.2.1) (p7 m.2.2.2.1 (i:Int) (r:Int)) (by have:=xT hn;omega) (by have:=TP hs (i:Int) (r:Int);omega)
   rw[Vj m hd]at hz
   have hz':(bits BinOp.andNot .i64 (cB m.2.1:Int) (p7 m.2.2.2.1 (i:Int) (r:Int):Int) != 0)= !decide (p7 m.2.2.2.1 (i:Int) (r:Int)=cB m.2.1):=by rw[←hz];rfl
   simp only[fF,hlt,hv,P6 m.2.1 hn,hz',lT,aQ hr (show m.2.2.1[i].1.toNat≤1099511627776 by have:=hgi.1.2;omega)]
   rcases Bool.eq_false_or_eq_true (decide (p7 m.2.2.2.1 (i:Int) (r:Int)=cB m.2.1))with g|g<;>simp only[g]<;>rfl)
  exact e
 have e:=fD (B:=gJ) m.2.2.1.length (fun i=>(m,m.2.2.1,(m.2.2.1.length:Int),(i:Int),())) (nF m) (.inl ()) (.inr (false,())) (by simp only[gJ,bJ]) (fun i hi=>by
  have h6:ac fF ((m.1,m.2.1,m.2.2.1,m.2.2.2.1,()),(i:Int),m.2.2.1,(m.2.2.1.length:Int),(i:Int),m.2.2.1[i].1,(0:Int),())=_:=inner i hi
  simp only[gJ,bw hi,az hi,ab,h6,nF,List.getElem?_eq_getElem hi]
  rcases Bool.eq_false_or_eq_true ((List.range m.2.2.1[i].1.toNat).all (lT m i))with g|g<;>simp only[g,if_true,aQ hi (show m.2.2.1.length≤1099511627776 by omega)]<;>rfl)
 have e':ac gJ ((m.1,m.2.1,m.2.2.1,m.2.2.2.1,()),m.2.2.1,(m.2.2.1.length:Int),(0:Int),())=_:=e
 unfold qP p8
 simp only[e']
 cases (List.range m.2.2.1.length).all (nF m)<;>rfl
def dk(m:ap.T):Prop:=m.2.1.length≤1099511627776∧(∀v ∈ m.2.1,v.2.1.length≤1099511627776)∧m.2.2.1.length≤1099511627776∧(∀v ∈ m.2.2.1,v.2.2.1.length≤1099511627776)∧m.2.2.2.1.length≤1099511627776
noncomputable def xU(m:ap.T):Int:=
 if be m.1 1 16777215=false then 1 else if fb m.2.1=false then 2 else if eA m.2.2.1=false then 3 else if ce m.2.2.2.1=false then 4 else
 if dM m=false then 5 else if pn m=false then 6 else if CE m.2.2.2.1=false then 7 else if(List.range m.2.2.1.length).all (ky m.2.2.2.1)=false then 8 else
 if p8 m=false then 9 else if m.2.2.2.1.any qn=true then 10 else 0
theorem TR(m:ap.T)(hz:dk m):kR (m,())=some (xU m,()):=by
 unfold kR xU
 simp only[lz,Tx m.2.1 hz.1 hz.2.1,TC m.2.2.1 hz.2.2.1 hz.2.2.2.1,TI m.2.2.2.1 hz.2.2.2.2]
 rcases Bool.eq_false_or_eq_true (be m.1 1 16777215)with h1|h1<;>simp only[h1,Bool.not_true,Bool.not_false,if_true,if_false,Bool.true_eq_false]
 rcases Bool.eq_false_or_eq_true (fb m.2.1)with h2|h2<;>simp only[h2,Bool.not_true,Bool.not_false,if_true,if_false,Bool.true_eq_false]
 rcases Bool.eq_false_or_eq_true (eA m.2.2.1)with h3|h3<;>simp only[h3,Bool.not_true,Bool.not_false,if_true,if_false,Bool.true_eq_false]
 rcases Bool.eq_false_or_eq_true (ce m.2.2.2.1)with h4|h4<;>simp only[h4,Bool.not_true,Bool.not_false,if_true,if_false,Bool.true_eq_false]
 have hl:=fG h4
 have hn:=(fy h3).1
 have f5:kj ((m.1,m.2.1,m.2.2.1,m.2.2.2.1,()),())=_:=P4 m h4 h3
 have f6:kP ((m.1,m.2.1,m.2.2.1,m.2.2.2.1,()),())=_:=Vf m h2 h4
 have f7:jv ((m.1,m.2.1,m.2.2.1,m.2.2.2.1,()),())=_:=VI m hz.2.2.2.2
 have f8:ac dv ((m.1,m.2.1,m.2.2.1,m.2.2.2.1,()),(0:Int),())=_:=TO m (by omega) (by omega)
 have f9:mC ((m.1,m.2.1,m.2.2.1,m.2.2.2.1,()),())=_:=SA m h2 h3 h4
 have f10:ac cX ((m.1,m.2.1,m.2.2.1,m.2.2.2.1,()),(0:Int),())=_:=Vi m (by omega)
 simp only[f5,f6,f7,f8]
 rcases Bool.eq_false_or_eq_true (dM m)with h5|h5<;>simp only[h5,Bool.not_true,Bool.not_false,if_true,if_false,Bool.true_eq_false]
 rcases Bool.eq_false_or_eq_true (pn m)with h6|h6<;>simp only[h6,Bool.not_true,Bool.not_false,if_true,if_false,Bool.true_eq_false]
 rcases Bool.eq_false_or_eq_true (CE m.2.2.2.1)with h7|h7<;>simp only[h7,Bool.not_true,Bool.not_false,if_true,if_false,Bool.true_eq_false]
 rcases Bool.eq_false_or_eq_true ((List.range m.2.2.1.length).all (ky m.2.2.2.1))with h8|h8<;>simp only[h8,Bool.not_true,Bool.not_false,if_true,if_false,Bool.true_eq_false,Bool.false_eq_true,f9,f10]
 rcases Bool.eq_false_or_eq_true (p8 m)with h9|h9<;>simp only[h9,Bool.not_true,Bool.not_false,if_true,if_false,Bool.true_eq_false]
 rcases Bool.eq_false_or_eq_true (m.2.2.2.1.any qn)with h10|h10<;>simp only[h10,if_true,if_false,Bool.false_eq_true]
theorem TS(m:ap.T)(hz:dk m):ll (m,())=some (xU m,()):=by
 unfold ll xU
 simp only[pj,Tz m.2.1 hz.1,TD m.2.2.1 hz.2.2.1 hz.2.2.2.1,TJ m.2.2.2.1 hz.2.2.2.2]
 rcases Bool.eq_false_or_eq_true (be m.1 1 16777215)with h1|h1<;>simp only[h1,Bool.not_true,Bool.not_false,if_true,if_false,Bool.true_eq_false]
 rcases Bool.eq_false_or_eq_true (fb m.2.1)with h2|h2<;>simp only[h2,Bool.not_true,Bool.not_false,if_true,if_false,Bool.true_eq_false]
 rcases Bool.eq_false_or_eq_true (eA m.2.2.1)with h3|h3<;>simp only[h3,Bool.not_true,Bool.not_false,if_true,if_false,Bool.true_eq_false]
 rcases Bool.eq_false_or_eq_true (ce m.2.2.2.1)with h4|h4<;>simp only[h4,Bool.not_true,Bool.not_false,if_true,if_false,Bool.true_eq_false]
 have hl:=fG h4
 have hn:=(fy h3).1
 have f5:li ((m.1,m.2.1,m.2.2.1,m.2.2.2.1,()),())=_:=P3 m h4 h3
 have f6:=Vg m h2 h4
 have f8:qO ((m.1,m.2.1,m.2.2.1,m.2.2.2.1,()),())=_:=TN m (by omega) (by omega)
 have f10:=Vh m.2.2.2.1 (by omega)
 simp only[f5]
 rcases Bool.eq_false_or_eq_true (dM m)with h5|h5<;>simp only[h5,Bool.not_true,Bool.not_false,if_true,if_false,Bool.true_eq_false]
 have f7:o5 ((m.1,m.2.1,m.2.2.1,m.2.2.2.1,()),())=_:=Sx m h4 h3 h5
 rw[P7 m h4 h3 h5]at f7
 simp only[f6,f7,f8]
 rcases Bool.eq_false_or_eq_true (pn m)with h6|h6<;>simp only[h6,Bool.not_true,Bool.not_false,if_true,if_false,Bool.true_eq_false]
 have f9:qP ((m.1,m.2.1,m.2.2.1,m.2.2.2.1,()),())=_:=SB m h2 h3 h4 h6
 simp only[f9,f10]
 rcases Bool.eq_false_or_eq_true (CE m.2.2.2.1)with h7|h7<;>simp only[h7,Bool.not_true,Bool.not_false,if_true,if_false,Bool.true_eq_false]
 rcases Bool.eq_false_or_eq_true ((List.range m.2.2.1.length).all (ky m.2.2.2.1))with h8|h8<;>simp only[h8,Bool.not_true,Bool.not_false,if_true,if_false,Bool.true_eq_false]
 rcases Bool.eq_false_or_eq_true (p8 m)with h9|h9<;>simp only[h9,Bool.not_true,Bool.not_false,if_true,if_false,Bool.true_eq_false]
 rcases Bool.eq_false_or_eq_true (m.2.2.2.1.any qn)with h10|h10<;>simp only[h10,if_true,if_false,Bool.false_eq_true]
noncomputable def bC(m:ap.T):Bool:=xU m==0
theorem HM(m:ap.T)(hz:dk m):gE (m,())=some (bC m,()):=by
 have h:kR ((m.1,m.2.1,m.2.2.1,m.2.2.2.1,()),())=_:=TR m hz
 unfold gE bC
 simp only[h]
theorem HN(m:ap.T)(hz:dk m):ik (m,())=some (bC m,()):=by
 have h:ll ((m.1,m.2.1,m.2.2.1,m.2.2.2.1,()),())=_:=TS m hz
 unfold ik bC
 simp only[h]
theorem iW {m:ap.T}(h:bC m=true):(1≤m.1∧m.1≤16777215)∧fb m.2.1=true∧eA m.2.2.1=true∧ce m.2.2.2.1=true∧dM m=true:=by
 unfold bC xU at h
 rcases Bool.eq_false_or_eq_true (be m.1 1 16777215)with h1|h1
 ·rcases Bool.eq_false_or_eq_true (fb m.2.1)with h2|h2
  ·rcases Bool.eq_false_or_eq_true (eA m.2.2.1)with h3|h3
   ·rcases Bool.eq_false_or_eq_true (ce m.2.2.2.1)with h4|h4
    ·rcases Bool.eq_false_or_eq_true (dM m)with h5|h5
     ·exact⟨bg.1 h1,h2,h3,h4,h5⟩
     ·simp[h1,h2,h3,h4,h5]at h
    ·simp[h1,h2,h3,h4]at h
   ·simp[h1,h2,h3]at h
  ·simp[h1,h2]at h
 ·simp[h1]at h
end Go.Proofs.YtckljdhdadiphaaGreatDoor
namespace Go.Proofs.YtckljdhdadiphaaGreatDoor
open Go.RowKit
set_option linter.unusedVariables false
set_option linter.unusedSimpArgs false
noncomputable def aN(m:ap.T)(st:ak.T):Bool:=bl st&&(match m.2.2.1[st.2.1.toNat]? with
 |none=>false
 |some v=>decide (st.2.2.1<v.1)&&(decide (st.2.2.2.1<v.2.1)&&decide (st.2.2.2.2.1.toNat&&& cB m.2.1=st.2.2.2.2.1.toNat)))
theorem yW {st:ak.T}(h:bl st=true):∃a b c d:Nat,st.2.1=(a:Int)∧st.2.2.1=(b:Int)∧st.2.2.2.1=(c:Int)∧st.2.2.2.2.1=(d:Int)∧a≤15∧b≤15∧c≤255∧d≤4294967295:=by
 unfold bl at h
 simp only[Bool.and_eq_true,bg]at h
 obtain⟨⟨⟨⟨h1,h2⟩,h3⟩,h4⟩,h5⟩:=h
 have key:∀(z:Int) (n:Nat),0≤z→z≤(n:Int)→∃k:Nat,z=(k:Int)∧k≤n:=fun z n h0 h1=>⟨z.toNat,by omega,by omega⟩
 obtain⟨a,ea,ha⟩:=key _ 15 h2.1 h2.2
 obtain⟨b,eb,hb⟩:=key _ 15 h3.1 h3.2
 obtain⟨c,ec,hc⟩:=key _ 255 h4.1 h4.2
 obtain⟨d,ed,hd⟩:=key _ 4294967295 h5.1 h5.2
 exact⟨a,b,c,d,ea,eb,ec,ed,ha,hb,hc,hd⟩
theorem P8(m:ap.T)(st:ak.T)(h:bC m=true):gd (m,st,())=some (aN m st,()):=by
 obtain⟨_,hn,hm,hs,_⟩:=iW h
 have hl16:=(fy hm).1
 have hst:jM ((st.1,st.2.1,st.2.2.1,st.2.2.2.1,st.2.2.2.2.1,()),())=some (bl st,()):=OG (st,())
 unfold gd aN BD
 simp only[hst,lz,Lh m.2.1 hn]
 rcases Bool.eq_false_or_eq_true (bl st)with h1|h1<;>simp only[h1,Bool.not_true,Bool.not_false,Bool.true_and,Bool.false_and]
 obtain⟨a,b,c,d,ea,eb,ec,ed,ha,hb,hc,hd⟩:=yW h1
 rw[ea,eb,ec,ed]
 have hw:IntKind.i64.wrap ((m.2.2.1.length:Int)-1)=(m.2.2.1.length:Int)-1:=by rw[wrap_i64]<;>omega
 have hand:=tB d (cB m.2.1) (by omega) (by have:=xT hn;omega)
 have hbe:(((d&&& cB m.2.1:Nat):Int)==(d:Int))=decide (d&&& cB m.2.1=d):=by
  by_cases h:d&&& cB m.2.1=d
  ·rw[decide_eq_true h,h];simp
  ·rw[decide_eq_false h,beq_eq_false_iff_ne];omega
 simp only[hw,hand,hbe,Int.toNat_natCast]
 by_cases hal:a<m.2.2.1.length
 ·have hin:be (a:Int) 0 ((m.2.2.1.length:Int)-1)=true:=bg.2 ⟨by omega,by omega⟩
  simp only[hin,Bool.not_true,az hal,ab,List.getElem?_eq_getElem hal]
  have n1:decide ((b:Int)≥m.2.2.1[a].1)= !decide ((b:Int)<m.2.2.1[a].1):=by
   by_cases g:(b:Int)<m.2.2.1[a].1
   ·rw[decide_eq_true g,decide_eq_false (Int.not_le.2 g)];rfl
   ·rw[decide_eq_false g,decide_eq_true (Int.not_lt.1 g)];rfl
  have n2:decide ((c:Int)≥m.2.2.1[a].2.1)= !decide ((c:Int)<m.2.2.1[a].2.1):=by
   by_cases g:(c:Int)<m.2.2.1[a].2.1
   ·rw[decide_eq_true g,decide_eq_false (Int.not_le.2 g)];rfl
   ·rw[decide_eq_false g,decide_eq_true (Int.not_lt.1 g)];rfl
  simp only[n1,n2]
  rcases Bool.eq_false_or_eq_true (decide ((b:Int)<m.2.2.1[a].1))with g1|g1<;>simp only[g1,Bool.not_true,Bool.not_false,Bool.true_and,Bool.false_and]
  rcases Bool.eq_false_or_eq_true (decide ((c:Int)<m.2.2.1[a].2.1))with g2|g2<;>simp only[g2,Bool.not_true,Bool.not_false,Bool.true_and,Bool.false_and]
 ·have hin:be (a:Int) 0 ((m.2.2.1.length:Int)-1)=false:=by
   rw[Bool.eq_false_iff]
   intro g
   have:=bg.1 g
   omega
  simp only[hin,Bool.not_false,List.getElem?_eq_none (Nat.not_lt.1 hal)]
theorem Li(m:ap.T)(st:ak.T)(h:bC m=true):iO (m,st,())=some (aN m st,()):=by
 obtain⟨_,hn,hm,hs,_⟩:=iW h
 have hst:gh ((st.1,st.2.1,st.2.2.1,st.2.2.2.1,st.2.2.2.2.1,()),())=some (bl st,()):=Jn (st,())
 unfold iO aN
 simp only[hst,P6 m.2.1 hn]
 rcases Bool.eq_false_or_eq_true (bl st)with h1|h1<;>simp only[h1,Bool.not_true,Bool.not_false,Bool.true_and,Bool.false_and]
 obtain⟨a,b,c,d,ea,eb,ec,ed,ha,hb,hc,hd⟩:=yW h1
 rw[ea,eb,ec,ed]
 have hz:=Eo d (cB m.2.1) (by omega) (by have:=xT hn;omega)
 simp only[hz,Int.toNat_natCast]
 by_cases hal:a<m.2.2.1.length
 ·have hin:decide ((a:Int)≥(m.2.2.1.length:Int))=false:=decide_eq_false (by omega)
  simp only[hin,az hal,ab,List.getElem?_eq_getElem hal]
  rcases Bool.eq_false_or_eq_true (decide ((b:Int)<m.2.2.1[a].1))with g1|g1<;>simp only[g1,Bool.true_and,Bool.false_and]
  rcases Bool.eq_false_or_eq_true (decide ((c:Int)<m.2.2.1[a].2.1))with g2|g2<;>simp only[g2,Bool.true_and,Bool.false_and]
 ·have hin:decide ((a:Int)≥(m.2.2.1.length:Int))=true:=decide_eq_true (by omega)
  simp only[hin,List.getElem?_eq_none (Nat.not_lt.1 hal)]
theorem MX:∀(ms:List aA.T) (i j:Nat) (h:j<ms.length) (r s:Nat),r<ms[j].1.toNat→s<ms[j].2.1.toNat→fx ((i+j:Nat):Int) (r:Int) (s:Int) ∈ gV i ms
 |m::ms,i,0,h,r,s,hr,hs=>by
  simp only[gV,List.mem_append]
  left
  simp only[ir,List.mem_flatMap,List.mem_map,List.mem_range]
  exact⟨r,hr,s,hs,rfl⟩
 |m::ms,i,j+1,h,r,s,hr,hs=>by
  simp only[gV,List.mem_append]
  right
  have:=MX ms (i+1) j (by simpa using h) r s hr hs
  have e:i+1+j=i+(j+1):=by omega
  rw[e]at this
  exact this
theorem TT(m:ap.T)(st:ak.T)(h:bC m=true)(hb:aN m st=true):∃(j:Nat) (hj:j<m.2.2.2.1.length),qm m.2.2.2.1 st.2.1 st.2.2.1 st.2.2.2.1=(j:Int):=by
 obtain⟨_,hn,hm,hs,hc⟩:=iW h
 have hg:=(fy hm).2
 unfold aN at hb
 rw[Bool.and_eq_true]at hb
 obtain⟨a,b,c,d,ea,eb,ec,ed,ha,hb',hc',hd⟩:=yW hb.1
 have hb2:=hb.2
 rw[ea,eb,ec,ed]at hb2
 rw[ea,eb,ec]
 rw[Int.toNat_natCast]at hb2
 by_cases hal:a<m.2.2.1.length
 ·simp only[List.getElem?_eq_getElem hal,Bool.and_eq_true,decide_eq_true_eq]at hb2
  have hgi:=lB (hg _ (List.getElem_mem hal))
  obtain⟨h1,h2,_⟩:=hb2
  rw[hgi.2.2.1]at h1
  rw[hgi.2.2.2]at h2
  have h1:b<m.2.2.1[a].1.toNat:=Int.ofNat_lt.1 h1
  have h2:c<m.2.2.1[a].2.1.toNat:=Int.ofNat_lt.1 h2
  have hk:=MX m.2.2.1 0 a hal b c h1 h2
  rw[Nat.zero_add]at hk
  have hK:m.2.2.2.1.map cS=gV 0 m.2.2.1:=by
   unfold dM at hc
   exact of_decide_eq_true hc
  rw[←hK]at hk
  have hq:=MU (l:=m.2.2.2.1) (fun v hv=>p5 (gl hs v hv)) (a:=(a:Int)) (b:=(b:Int)) (c:=(c:Int)) ⟨by omega,by have:=hgi.1.2;omega⟩ ⟨by omega,by have:=hgi.2.1.2;omega⟩
  rw[decide_eq_true hk]at hq
  unfold qm at hq ⊢
  cases hf:b8 (iA (a:Int) (b:Int) (c:Int)) 0 m.2.2.2.1 with
  |none=>rw[hf]at hq;cases hq
  |some j=>
   obtain⟨n,hn,e,_⟩:=wj _ _ _ _ hf
   have:j=n:=by omega
   subst this
   exact⟨j,hn,rfl⟩
 ·simp only[List.getElem?_eq_none (Nat.not_lt.1 hal)]at hb2
  cases hb2
def ck(m:ap.T)(st:ak.T):cE.T:=match m.2.2.2.1[(qm m.2.2.2.1 st.2.1 st.2.2.1 st.2.2.2.1).toNat]? with
 |none=>((0:Int),(0:Int),(0:Int),(0:Int),false,())
 |some v=>v.2.2.2.1
theorem jI(m:ap.T)(st:ak.T)(h:bC m=true)(hb:aN m st=true):ge (m,st,())=some (ck m st,())∧cK (m,st,())=some (ck m st,())∧nB (ck m st)=true:=by
 obtain⟨_,hn,hm,hs,hc⟩:=iW h
 have hlen:=fG hs
 obtain⟨j,hj,e⟩:=TT m st h hb
 have h1:=OT m.2.2.2.1 st.2.1 st.2.2.1 st.2.2.2.1 (by omega)
 have h2:=OU m.2.2.2.1 st.2.1 st.2.2.1 st.2.2.2.1 (by omega)
 have h3:=gl hs _ (List.getElem_mem hj)
 unfold ge cK ck
 simp only[h1,h2,e,az hj,ab,Int.toNat_natCast,List.getElem?_eq_getElem hj]
 refine⟨trivial,trivial, ?_⟩
 unfold kE at h3
 simp only[Bool.and_eq_true]at h3
 exact h3.2.2.2
def gW(d:cE.T)(f:aL.T):Bool:=(f.1==d.2.1)&&(((f.2.2.2.1.length:Int)==d.2.2.1)&&((f.2.1==(0:Int))||d.2.2.2.2.1))
theorem OV(x):uw x=some (gW x.1 x.2.1,()):=by
 unfold uw gW
 rcases Bool.eq_false_or_eq_true (x.2.1.1==x.1.2.1)with h1|h1<;>simp only[h1,Bool.true_and,Bool.false_and]
 rcases Bool.eq_false_or_eq_true ((x.2.1.2.2.2.1.length:Int)==x.1.2.2.1)with h2|h2<;>simp only[h2,Bool.true_and,Bool.false_and]
 rcases Bool.eq_false_or_eq_true (x.2.1.2.1==(0:Int))with h3|h3<;>simp only[h3,Bool.true_or,Bool.false_or]
theorem OW(d:cE.T)(f:aL.T)(hd:nB d=true)(hf:bp f=true)(hl:f.2.2.2.1.length≤1099511627776):dg (d,f,())=some (gW d f,()):=by
 have h1:dR ((d.1,d.2.1,d.2.2.1,d.2.2.2.1,d.2.2.2.2.1,()),())=some (true,()):=by
  rw[←hd];exact MM (d,())
 have h2:cD ((f.1,f.2.1,(f.2.2.1.1,f.2.2.1.2.1,f.2.2.1.2.2.1,f.2.2.1.2.2.2.1,f.2.2.1.2.2.2.2.1,()),f.2.2.2.1,()),())=some (true,()):=by
  rw[←hf];exact Jo (f,()) hl
 unfold dg gW
 simp only[h1,h2]
 rcases Bool.eq_false_or_eq_true (f.1==d.2.1)with h1|h1<;>simp only[h1,Bool.true_and,Bool.false_and]
 rcases Bool.eq_false_or_eq_true ((f.2.2.2.1.length:Int)==d.2.2.1)with h2|h2<;>simp only[h2,Bool.true_and,Bool.false_and]
 rcases Bool.eq_false_or_eq_true d.2.2.2.2.1 with h3|h3<;>simp only[h3,Bool.or_true,Bool.or_false]
theorem Kg {l:List Int}(h:(cg l).2=true):bp (cg l).1=true:=by
 cases l with
 |nil=>cases h
 |cons b r=>
  have fin:∀st q,(pZ (b::r) b st q).2=true→bp (pZ (b::r) b st q).1=true:=fun st q h=>by
   unfold pZ at h ⊢
   split at h
   ·split at h
    ·cases h
    ·simp only[rc,Bool.and_eq_true]at h
     exact h.1
   ·simp only[rc,Bool.and_eq_true]at h
    exact h.1
  simp only[cg]at h ⊢
  split at h
  ·split at h
   ·cases h
   ·exact fin _ _ h
  ·exact fin _ _ h
theorem rk {f:aL.T}(h:bp f=true):f.2.2.2.1.length≤32:=by
 unfold bp at h
 simp only[Bool.and_eq_true]at h
 have hd:=h.2.2.1
 unfold fw at hd
 split at hd
 ·have:=bg.1 hd;omega
 ·split at hd
  ·have:=bg.1 hd;omega
  ·have:(f.2.2.2.1.length:Int)=0:=by simpa using hd
   omega
theorem OX {l:List Int}{r:Nat}{st:ak.T}(h:fc l r st=true):(cg (aq l)).2=true:=by
 unfold fc at h
 split at h
 ·cases h
 ·simp only[Bool.and_eq_true]at h
  exact h.2.2.1
noncomputable def iu(m:ap.T)(st:ak.T)(l:List Int):gy.T:=match fc l m.1.toNat st&&gW (ck m st) (cg (aq l)).1 with
 |true=>((3:Int),(cg (aq l)).1,())
 |false=>((2:Int),kd,())
theorem jJ {m:ap.T}(h:bC m=true):∃r:Nat,m.1=(r:Int)∧r<16777216:=by
 obtain⟨⟨h1,h2⟩,_⟩:=iW h
 have key:∀z:Int,1≤z→z≤16777215→∃r:Nat,z=(r:Int)∧r<16777216:=fun z a b=>⟨z.toNat,by omega,by omega⟩
 exact key m.1 h1 h2
theorem MY(m:ap.T)(st:ak.T)(l:List Int)(h:bC m=true)(hb:aN m st=true)(hl:l.length≤10000)(hv:∀v ∈ l,0≤v∧v≤255):∃c:Int,pS (m,st,l,())=some (iu m st l,c,()):=by
 obtain⟨r,er,hr⟩:=jJ h
 have hst:bl st=true:=by unfold aN at hb;rw[Bool.and_eq_true]at hb;exact hb.1
 obtain⟨c,hc,ho⟩:=U3 l r st hl hv hr hst
 obtain⟨_,hd,_⟩:=jI m st h hb
 have ho':mH (l,(r:Int),(st.1,st.2.1,st.2.2.1,st.2.2.2.1,st.2.2.2.2.1,()),())=_:=ho
 have hd':cK ((m.1,m.2.1,m.2.2.1,m.2.2.2.1,()),(st.1,st.2.1,st.2.2.1,st.2.2.2.1,st.2.2.2.2.1,()),())=_:=hd
 unfold pS iu
 rw[er]at hd'
 simp only[er,ho',hd',OV,Int.toNat_natCast]
 rcases Bool.eq_false_or_eq_true (fc l r st)with h1|h1
 ·simp only[h1,if_true,Bool.true_and]
  have hz:((0:Int)==0)=true:=rfl
  have hfe:gW (ck m st) ((cg (aq l)).1.1,(cg (aq l)).1.2.1,((cg (aq l)).1.2.2.1.1,(cg (aq l)).1.2.2.1.2.1,(cg (aq l)).1.2.2.1.2.2.1,(cg (aq l)).1.2.2.1.2.2.2.1,(cg (aq l)).1.2.2.1.2.2.2.2.1,()),(cg (aq l)).1.2.2.2.1,())=gW (ck m st) (cg (aq l)).1:=rfl
  simp only[hz,hfe]
  rcases Bool.eq_false_or_eq_true (gW (ck m st) (cg (aq l)).1)with h2|h2
  ·exact⟨0,by simp only[h2];rfl⟩
  ·exact⟨5,by simp only[h2];rfl⟩
 ·have hz:(c==0)=false:=by simpa using hc
  have hz2:(c != 0)=true:=by simpa using hc
  simp only[h1,Bool.false_eq_true,if_false,Bool.false_and,hz,hz2]
  exact⟨c,rfl⟩
theorem SC(m:ap.T)(st:ak.T)(l:List Int)(h:bC m=true)(hb:aN m st=true)(hl:l.length≤10000)(hv:∀v ∈ l,0≤v∧v≤255):∃c:Int,jV (m,st,l,())=some (iu m st l,c,()):=by
 obtain⟨r,er,hr⟩:=jJ h
 have hst:bl st=true:=by unfold aN at hb;rw[Bool.and_eq_true]at hb;exact hb.1
 obtain⟨c,hc,ho⟩:=U2 l r st hl hv hr hst
 obtain⟨hd,_,hdc⟩:=jI m st h hb
 have ho':nZ (l,(r:Int),(st.1,st.2.1,st.2.2.1,st.2.2.2.1,st.2.2.2.2.1,()),())=_:=ho
 have hd':ge ((m.1,m.2.1,m.2.2.1,m.2.2.2.1,()),(st.1,st.2.1,st.2.2.1,st.2.2.2.1,st.2.2.2.2.1,()),())=_:=hd
 unfold jV iu
 rw[er]at hd'
 simp only[er,ho',hd',Int.toNat_natCast]
 rcases Bool.eq_false_or_eq_true (fc l r st)with h1|h1
 ·have hz:((0:Int)==0)=true:=rfl
  have hfr:=Kg (OX h1)
  have hfe:dg (ck m st,((cg (aq l)).1.1,(cg (aq l)).1.2.1,((cg (aq l)).1.2.2.1.1,(cg (aq l)).1.2.2.1.2.1,(cg (aq l)).1.2.2.1.2.2.1,(cg (aq l)).1.2.2.1.2.2.2.1,(cg (aq l)).1.2.2.1.2.2.2.2.1,()),(cg (aq l)).1.2.2.2.1,()),())=some (gW (ck m st) (cg (aq l)).1,()):=OW _ _ hdc hfr (Nat.le_trans (rk hfr) (by omega))
  simp only[h1,if_true,Bool.true_and,hz,hfe]
  rcases Bool.eq_false_or_eq_true (gW (ck m st) (cg (aq l)).1)with h2|h2
  ·exact⟨0,by simp only[h2];rfl⟩
  ·exact⟨5,by simp only[h2];rfl⟩
 ·have hz:(c==0)=false:=by simpa using hc
  have hz2:(c != 0)=true:=by simpa using hc
  simp only[h1,Bool.false_eq_true,if_false,Bool.false_and,hz,hz2]
  exact⟨c,rfl⟩
noncomputable def C6(m:ap.T)(st:ak.T)(l:List Int):gy.T:=if(du l).2.1=0 then iu m st (du l).1 else if(du l).2.1=4 then((0:Int),kd,())else((1:Int),kd,())
theorem Vl(m:ap.T)(st:ak.T)(l:List Int)(h:bC m=true)(hb:aN m st=true)(hl:dn l=true):∃c:Int,qV (m,st,l,())=some (C6 m st l,c,()):=by
 obtain⟨h1,h2⟩:=PX (pX hl)
 obtain⟨c,hj⟩:=MY m st (du l).1 h hb (by omega) h2
 have hj':pS ((m.1,m.2.1,m.2.2.1,m.2.2.2.1,()),(st.1,st.2.1,st.2.2.1,st.2.2.2.1,st.2.2.2.2.1,()),(du l).1,())=_:=hj
 unfold qV C6
 simp only[QZ hl,hj']
 by_cases h0:(du l).2.1=0
 ·have g:((du l).2.1==0)=true:=by rw[h0];rfl
  simp only[g,if_pos h0]
  exact⟨c,rfl⟩
 ·have g:((du l).2.1==0)=false:=by simpa using h0
  simp only[g,if_neg h0]
  by_cases h4:(du l).2.1=4
  ·have g4:((du l).2.1==4)=true:=by rw[h4];rfl
   simp only[g4,if_pos h4]
   exact⟨_,rfl⟩
  ·have g4:((du l).2.1==4)=false:=by simpa using h4
   simp only[g4,if_neg h4]
   exact⟨_,rfl⟩
noncomputable def C7(m:ap.T)(st:ak.T)(l:List Int):gy.T×Int×Unit:=match bC m with
 |false=>(((0:Int),kd,()),(1:Int),())
 |true=>match aN m st with
  |false=>(((0:Int),kd,()),(2:Int),())
  |true=>match dn l with
   |false=>(((0:Int),kd,()),(2:Int),())
   |true=>(C6 m st l,(0:Int),())
theorem Kh(m:ap.T)(st:ak.T)(l:List Int)(hz:dk m)(hl:l.length≤1099511627776):eK (m,st,l,())=some (C7 m st l):=by
 have hM:ik ((m.1,m.2.1,m.2.2.1,m.2.2.2.1,()),())=_:=HN m hz
 unfold eK ko fp C7
 simp only[Cv l hl,hM]
 rcases Bool.eq_false_or_eq_true (bC m)with h1|h1<;>simp only[h1,Bool.not_true,Bool.not_false]
 ·have hB:iO ((m.1,m.2.1,m.2.2.1,m.2.2.2.1,()),(st.1,st.2.1,st.2.2.1,st.2.2.2.1,st.2.2.2.2.1,()),())=_:=Li m st h1
  simp only[hB]
  rcases Bool.eq_false_or_eq_true (aN m st)with h2|h2<;>simp only[h2,Bool.not_true,Bool.not_false]
  ·rcases Bool.eq_false_or_eq_true (dn l)with h3|h3<;>simp only[h3,Bool.not_true,Bool.not_false]
   ·obtain⟨c,hr⟩:=Vl m st l h1 h2 h3
    have hr':qV ((m.1,m.2.1,m.2.2.1,m.2.2.2.1,()),(st.1,st.2.1,st.2.2.1,st.2.2.2.1,st.2.2.2.2.1,()),l,())=_:=hr
    simp only[hr']
    rfl
   ·rfl
  ·rfl
 ·rfl
end Go.Proofs.YtckljdhdadiphaaGreatDoor
