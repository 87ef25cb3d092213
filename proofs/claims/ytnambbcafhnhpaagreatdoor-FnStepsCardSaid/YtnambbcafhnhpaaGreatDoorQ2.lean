import Derived.Test.YtnambbcafhnhpaaGreatDoorQ1
namespace Go.Proofs.YtnambbcafhnhpaaGreatDoor
open Go.RowKit
set_option linter.unusedVariables false
set_option linter.unusedSimpArgs false
theorem ab1(x):vR x=some (bf x.1 0 31,()):=by
 unfold vR
 simp only[lG]
theorem WL(x):nT x=some (bf x.1 0 31,()):=by
 unfold nT
 simp only[oV]
end Go.Proofs.YtnambbcafhnhpaaGreatDoor
namespace Go.Proofs.YtnambbcafhnhpaaGreatDoor
open Go.RowKit
set_option linter.unusedVariables false
set_option linter.unusedSimpArgs false
theorem ab2 {α:Type}(p:α→Bool):∀l:List α,(∀x ∈ l.dropWhile p,p x=true)→l.dropWhile p= []
 | [],_=>rfl
 |a::l,h=>by
  by_cases ha:p a=true
  ·rw[List.dropWhile_cons_of_pos ha]at h ⊢
   exact ab2 p l h
  ·rw[List.dropWhile_cons_of_neg ha]at h
   exact absurd (h a (by simp)) ha
theorem Qs {α:Type}(p:α→Bool):∀l:List α,l.dropWhile p= []↔∀x ∈ l,p x=true
 | []=>by simp
 |a::l=>by
  by_cases ha:p a=true
  ·rw[List.dropWhile_cons_of_pos ha,Qs p l]
   simp[ha]
  ·rw[List.dropWhile_cons_of_neg ha]
   simp[ha]
theorem adB(s cs:List UInt8):(Lib.trimS s cs== [])=s.all (fun b=>cs.contains b):=by
 have e:Lib.trimS s cs= []↔∀b ∈ s,cs.contains b=true:=by
  unfold Lib.trimS Lib.trimLeftS Lib.trimRightS
  constructor
  ·intro h
   have h1:=(Qs _ _).1 h
   have h2:=ab2 (fun b=>cs.contains b) s.reverse (fun x hx=>h1 x (by simpa using hx))
   have h3:=(Qs _ _).1 h2
   exact fun b hb=>h3 b (by simpa using hb)
  ·intro h
   have:s.reverse.dropWhile (fun b=>cs.contains b)= []:=(Qs _ _).2 (fun b hb=>h b (by simpa using hb))
   rw[this]
   rfl
 by_cases h:Lib.trimS s cs= []
 ·rw[h,List.all_eq_true.2 (e.1 h)];rfl
 ·have h2:¬(s.all (fun b=>cs.contains b)=true):=fun h3=>h (e.2 (List.all_eq_true.1 h3))
  have h3:(Lib.trimS s cs== [])=false:=by simpa using h
  rw[h3]
  simpa using h2
def Bz(b:UInt8):Bool:=if(b.toNat:Int)<97 then(if(b.toNat:Int)<48 then false else if(b.toNat:Int)>57 then false else true)else if(b.toNat:Int)>122 then(if(b.toNat:Int)<48 then false else if(b.toNat:Int)>57 then false else true)else true
def Qt:List UInt8:=[97,98,99,100,101,102,103,104,105,106,107,108,109,110,111,112,113,114,115,116,117,118,119,120,121,122,48,49,50,51,52,53,54,55,56,57]
theorem aeX(b:UInt8):Qt.contains b=Bz b:=by
 have h:∀n:Fin 256,Qt.contains (UInt8.ofNat n.1)=Bz (UInt8.ofNat n.1):=by decide+kernel
 have:=h ⟨b.toNat,b.toNat_lt⟩
 simpa using this
def Qu(s:List UInt8):Bool:=s.all Bz&&(decide ((s.length:Int)≥1)&&decide ((s.length:Int)≤6))
theorem agC(s:List UInt8)(hs:s.length≤1099511627776):A0 (s,())=some (Qu s,()):=by
 have e:=l6 (B:=kf) s (fun i=>(s,(i:Int),())) Bz (.inl (s,())) (.inr (false,())) (by simp only[kf,bQ]) (fun i h=>by
  simp only[kf,bH h,a7 h hs,aJ h,ac]
  generalize s[i]=b
  unfold Bz
  by_cases h1:(b.toNat:Int)<97<;>by_cases h2:(b.toNat:Int)>122<;>by_cases h3:(b.toNat:Int)<48<;>by_cases h4:(b.toNat:Int)>57<;>simp[h1,h2,h3,h4])
 have e':ak kf (s,(0:Int),())=_:=e
 unfold A0 Qu
 simp only[e']
 rcases Bool.eq_false_or_eq_true (s.all Bz)with h|h<;>simp only[h,Bool.true_and,Bool.false_and,if_true]
 ·rcases Bool.eq_false_or_eq_true (decide ((s.length:Int)≥1))with h1|h1<;>simp only[h1,Bool.true_and,Bool.false_and]
 ·rfl
def yG(v:aL.T):Bool:=bf v.1 0 31&&(Qu v.2.1&&bf v.2.2.1 0 1000)
theorem aar(x)(h:x.1.2.1.length≤1099511627776):tH x=some (yG x.1,()):=by
 have hn:=agC x.1.2.1 h
 unfold tH yG
 simp only[ab1,hn,lG]
 rcases Bool.eq_false_or_eq_true (bf x.1.1 0 31)with h1|h1<;>rcases Bool.eq_false_or_eq_true (Qu x.1.2.1)with h2|h2<;>simp only[h1,h2]<;>rfl
theorem aas(x):pv x=some (yG x.1,()):=by
 unfold pv yG Qu
 simp only[WL,oV]
 rcases Bool.eq_false_or_eq_true (decide ((x.1.2.1.length:Int)≥1))with h1|h1<;>simp only[h1,Bool.true_and,Bool.false_and,Bool.and_false]
 rcases Bool.eq_false_or_eq_true (decide ((x.1.2.1.length:Int)≤6))with h2|h2<;>simp only[h2,Bool.true_and,Bool.false_and,Bool.and_false,Bool.and_true]
 have h6:x.1.2.1.length≤1048576:=by
  have:=of_decide_eq_true h2
  omega
 have ht:zn (x.1.2.1,([97,98,99,100,101,102,103,104,105,106,107,108,109,110,111,112,113,114,115,116,117,118,119,120,121,122,48,49,50,51,52,53,54,55,56,57]:List UInt8),())=some (Lib.trimS x.1.2.1 Qt,()):=by
  show ac (Oz x.1.2.1 Qt) (fun s=>some (s,()))=_
  unfold Oz
  rw[if_pos ⟨h6,by decide,by decide⟩]
  rfl
 have hc:x.1.2.1.all (fun b=>Qt.contains b)=x.1.2.1.all Bz:=by
  congr 1
  funext b
  exact aeX b
 simp only[ht,adB,hc]
 rcases Bool.eq_false_or_eq_true (x.1.2.1.all Bz)with h3|h3<;>rcases Bool.eq_false_or_eq_true (bf x.1.1 0 31)with h4|h4<;>simp only[h3,h4]<;>rfl
def wD(l:List aL.T)(i:Nat):Bool:=match l[i]? with
 |none=>false
 |some v=>yG v&&((match i with
  |0=>true
  |k+1=>match l[k]? with
   |none=>false
   |some u=> !decide (v.1≤u.1))&& !(l.take i).any (fun u=>u.2.1==v.2.1))
def iv(l:List aL.T):Bool:=bf (l.length:Int) 1 32&&(List.range l.length).all (wD l)
theorem aeY(l:List aL.T)(hl:l.length≤1099511627776)(i:Nat)(hi:i<l.length):ak dK (l,(i:Int),(0:Int),())=some (if(l.take i).any (fun u=>u.2.1==l[i].2.1)then .inr (false,())else .inl (l,(i:Int),())):=by
 have e:=l6 (B:=dK) (l.take i) (fun j=>(l,(i:Int),(j:Int),())) (fun u=> !(u.2.1==l[i].2.1)) (.inl (l,(i:Int),())) (.inr (false,())) (by
  rw[List.length_take,Nat.min_eq_left (Nat.le_of_lt hi)]
  simp only[dK,bQ]) (fun j hj=>by
  have hj':j<i:=by rw[List.length_take]at hj;omega
  have hjl:j<l.length:=by omega
  have hg:(l.take i)[j]=l[j]:=by simp
  rw[hg]
  simp only[dK,bH hj',a7 hjl hl,aJ hjl,aJ hi,ac]
  rcases Bool.eq_false_or_eq_true (l[j].2.1==l[i].2.1)with h1|h1<;>simp only[h1]<;>rfl)
 have e':ak dK (l,(i:Int),(0:Int),())=_:=e
 rw[e',EY]
 simp only[Bool.not_not]
 cases (l.take i).any (fun u=>u.2.1==l[i].2.1)<;>rfl
theorem E7 {i:Nat}(h:i+1≤1099511627776):IntKind.i64.wrap (((i+1:Nat):Int)-1)=(i:Int):=by rw[wrap_i64]<;>omega
theorem KP(i:Nat):decide (((i+1:Nat):Int)>0)=true:=decide_eq_true (by omega)
theorem aeZ(l:List aL.T)(hl:l.length≤1099511627776)(hn:∀v ∈ l,v.2.1.length≤1099511627776):rI (l,())=some (iv l,()):=by
 have e:=iz (B:=fO) l.length (fun i=>(l,(i:Int),())) (wD l) (.inl ()) (.inr (false,())) (by simp only[fO,bQ]) (fun i h=>by
  have hv:=aar (l[i],()) (hn _ (List.getElem_mem h))
  have hc:=aeY l hl i h
  simp only[fO,bH h,a7 h hl,aJ h,ac,hv,wD,List.getElem?_eq_getElem h]
  rcases Bool.eq_false_or_eq_true (yG l[i])with h1|h1<;>simp only[h1,Bool.not_true,Bool.not_false,Bool.true_and,Bool.false_and]
  ·cases i with
   |zero=>
    have z:decide (((0:Nat):Int)>0)=false:=rfl
    simp only[z,hc,Bool.true_and]
    rfl
   |succ k=>
    have hk:k<l.length:=by omega
    simp only[KP,E7 (show k+1≤1099511627776 by omega),aJ hk,List.getElem?_eq_getElem hk]
    rcases Bool.eq_false_or_eq_true (decide (l[k+1].1≤l[k].1))with h2|h2<;>simp only[h2,Bool.not_true,Bool.not_false,Bool.true_and,Bool.false_and]
    ·rfl
    ·simp only[hc]
     cases (l.take (k+1)).any (fun u=>u.2.1==l[k+1].2.1)
     ·show some (Sum.inl (l,IntKind.i64.wrap (((k+1:Nat):Int)+1),()))=some (.inl (l,((k+1+1:Nat):Int),()))
      rw[a7 h hl]
     ·rfl
  ·rfl)
 have e':ak fO (l,(0:Int),())=_:=e
 unfold rI iv
 simp only[lG,e']
 rcases Bool.eq_false_or_eq_true (bf (l.length:Int) 1 32)with h1|h1<;>simp only[h1]<;>rcases Bool.eq_false_or_eq_true ((List.range l.length).all (wD l))with h2|h2<;>simp only[h2]<;>rfl
theorem ae0(l:List aL.T)(hl:l.length≤1099511627776):rL (l,())=some (iv l,()):=by
 have e:=iz (B:=fT) l.length (fun i=>(l,l,(l.length:Int),(i:Int),())) (wD l) (.inl (l,())) (.inr (false,())) (by simp only[fT,bQ]) (fun i h=>by
  have hv:pv ((l[i].1,l[i].2.1,l[i].2.2.1,l[i].2.2.2.1,()),())=some (yG l[i],()):=aas (l[i],())
  have hb:aZ l.length none (some (.dat (.int .i64) (i:Int)))=some (0,i):=by
   simp only[aZ,lQ,kT]
   rw[if_pos ⟨by omega,by omega,by omega⟩]
   simp
  have hc:=LB (l.take i) (by rw[List.length_take];omega) (fun z=>lV (z.1,(l[i].1,l[i].2.1,l[i].2.2.1,l[i].2.2.2.1,()),())) (fun u=>u.2.1==l[i].2.1) (fun j hj=>rfl)
  have hc:dn (List.drop 0 (List.take i l),(fun z=>lV (z.1,(l[i].1,l[i].2.1,l[i].2.2.1,l[i].2.2.2.1,()),())),())=_:=hc
  simp only[fT,bH h,a7 h hl,aJ h,ac,hv,hb,hc,wD,List.getElem?_eq_getElem h]
  rcases Bool.eq_false_or_eq_true (yG l[i])with h1|h1<;>simp only[h1,Bool.not_true,Bool.not_false,Bool.true_and,Bool.false_and]
  ·cases i with
   |zero=>rfl
   |succ k=>
    have hk:k<l.length:=by omega
    have hge:decide (l[k].1≥l[k+1].1)=decide (l[k+1].1≤l[k].1):=rfl
    simp only[KP,E7 (show k+1≤1099511627776 by omega),aJ hk,List.getElem?_eq_getElem hk,hge]
    rcases Bool.eq_false_or_eq_true (decide (l[k+1].1≤l[k].1))with h2|h2<;>simp only[h2,Bool.not_true,Bool.not_false,Bool.true_and,Bool.false_and]
    ·rfl
    ·cases (l.take (k+1)).any (fun u=>u.2.1==l[k+1].2.1)
     ·rfl
     ·rfl
  ·rfl)
 have e':ak fT (l,l,(l.length:Int),(0:Int),())=_:=e
 unfold rL iv bf
 simp only[e']
 rcases Bool.eq_false_or_eq_true ((List.range l.length).all (wD l))with h2|h2<;>simp only[h2,if_true,Bool.and_true,Bool.and_false]
 ·rcases Bool.eq_false_or_eq_true (decide ((l.length:Int)≥1))with h1|h1<;>simp only[h1]<;>rfl
 ·rfl
end Go.Proofs.YtnambbcafhnhpaaGreatDoor
namespace Go.Proofs.YtnambbcafhnhpaaGreatDoor
open Go.RowKit
set_option linter.unusedVariables false
set_option linter.unusedSimpArgs false
def Al(l:List Int)(n:Nat)(i:Nat):Bool:=match l[i]? with
 |none=>false
 |some v=>bf v 0 ((n:Int)-1)&&(match i with
  |0=>true
  |k+1=>match l[k]? with
   |none=>false
   |some u=> !decide (v≤u))
def Am(l:List Int)(n:Nat):Bool:=(List.range l.length).all (Al l n)
theorem ae1(l:List Int)(n:Nat)(hl:l.length≤1099511627776)(hn:n≤1099511627776):yl (l,(n:Int),())=some (Am l n,()):=by
 have hw:IntKind.i64.wrap ((n:Int)-1)=(n:Int)-1:=by rw[wrap_i64]<;>omega
 have e:=iz (B:=iV) l.length (fun i=>(l,(n:Int),(i:Int),())) (Al l n) (.inl ()) (.inr (false,())) (by simp only[iV,bQ]) (fun i h=>by
  simp only[iV,bH h,a7 h hl,aJ h,ac,lG,hw,Al,List.getElem?_eq_getElem h]
  rcases Bool.eq_false_or_eq_true (bf l[i] 0 ((n:Int)-1))with h1|h1<;>simp only[h1,Bool.not_true,Bool.not_false,Bool.true_and,Bool.false_and]
  ·cases i with
   |zero=>rfl
   |succ k=>
    have hk:k<l.length:=by omega
    simp only[KP,E7 (show k+1≤1099511627776 by omega),aJ hk,List.getElem?_eq_getElem hk]
    rcases Bool.eq_false_or_eq_true (decide (l[k+1]≤l[k]))with h2|h2<;>simp only[h2]<;>rfl
  ·rfl)
 have e':ak iV (l,(n:Int),(0:Int),())=_:=e
 unfold yl Am
 simp only[e']
 rcases Bool.eq_false_or_eq_true ((List.range l.length).all (Al l n))with h2|h2<;>simp only[h2]<;>rfl
theorem ae2(l:List Int)(n:Nat)(hl:l.length≤1099511627776)(hn:n≤1099511627776):yn (l,(n:Int),())=some (Am l n,()):=by
 have e:=iz (B:=iX) l.length (fun i=>(l,(n:Int),l,(l.length:Int),(i:Int),())) (Al l n) (.inl ()) (.inr (false,())) (by simp only[iX,bQ]) (fun i h=>by
  have hin:bf l[i] 0 ((n:Int)-1)=(!decide (l[i]<0)&& !decide (l[i]≥(n:Int))):=by
   unfold bf
   by_cases h1:l[i]<0<;>by_cases h2:l[i]≥(n:Int)<;>simp[h1,h2]<;>omega
  simp only[iX,bH h,a7 h hl,aJ h,ac,Al,List.getElem?_eq_getElem h,hin]
  rcases Bool.eq_false_or_eq_true (decide (l[i]<0))with h1|h1<;>simp only[h1,Bool.not_true,Bool.not_false,Bool.true_and,Bool.false_and]
  ·rfl
  ·rcases Bool.eq_false_or_eq_true (decide (l[i]≥(n:Int)))with h3|h3<;>simp only[h3,Bool.not_true,Bool.not_false,Bool.true_and,Bool.false_and]
   ·rfl
   ·cases i with
    |zero=>rfl
    |succ k=>
     have hk:k<l.length:=by omega
     have hge:decide (l[k]≥l[k+1])=decide (l[k+1]≤l[k]):=rfl
     simp only[KP,E7 (show k+1≤1099511627776 by omega),aJ hk,List.getElem?_eq_getElem hk,hge]
     rcases Bool.eq_false_or_eq_true (decide (l[k+1]≤l[k]))with h2|h2<;>simp only[h2]<;>rfl)
 have e':ak iX (l,(n:Int),l,(l.length:Int),(0:Int),())=_:=e
 unfold yn Am
 simp only[e']
 rcases Bool.eq_false_or_eq_true ((List.range l.length).all (Al l n))with h2|h2<;>simp only[h2]<;>rfl
theorem agD(l:List Int)(v:Int)(hl:l.length≤1099511627776):FB (l,v,())=some (l.any (fun u=>u==v),()):=by
 have e:=sq (B:=kZ) l (fun i=>(l,v,(i:Int),())) (fun u=>u==v) (.inl ()) (fun _=>.inr (true,())) (by simp only[kZ,bQ]) (fun i h=>by
  simp only[kZ,bH h,a7 h hl,aJ h,ac]
  rcases Bool.eq_false_or_eq_true (l[i]==v)with h1|h1<;>simp only[h1]<;>rfl)
 have e':ak kZ (l,v,(0:Int),())=_:=e
 unfold FB
 rw[←kE (fun u=>u==v) 0 l]
 simp only[e']
 cases cn (fun u=>u==v) 0 l<;>rfl
theorem Yg(l:List Int)(v:Int)(hl:l.length≤1099511627776):jQ (l,v,())=some (l.any (fun u=>u==v),()):=by
 have e:=sq (B:=dA) l (fun i=>(l,v,(l.length:Int),(i:Int),())) (fun u=>u==v) (.inl ()) (fun j=>.inr ((j:Int),())) (by simp only[dA,bQ]) (fun i h=>by
  have hc:(v==l[i])=(l[i]==v):=by
   by_cases h:v=l[i]
   ·rw[h]
   ·have h1:(v==l[i])=false:=by simpa using h
    have h2:(l[i]==v)=false:=by simpa using fun e:l[i]=v=>h e.symm
    rw[h1,h2]
  simp only[dA,bH h,a7 h hl,aJ h,ac,hc]
  rcases Bool.eq_false_or_eq_true (l[i]==v)with h1|h1<;>simp only[h1]<;>rfl)
 have e':ak dA (l,v,(l.length:Int),(0:Int),())=_:=e
 unfold jQ pw
 rw[←kE (fun u=>u==v) 0 l]
 simp only[e']
 cases cn (fun u=>u==v) 0 l with
 |none=>rfl
 |some j=>
  have:decide ((j:Int)≥0)=true:=decide_eq_true (by omega)
  simp only[this,Option.isSome]
def wE(l:List aR.T)(i:Nat):Bool:=match l[i]? with
 |none=>false
 |some v=>bf v.1 1 8&&(bf v.2.1 1 16&&(Am v.2.2.1 l.length&& !v.2.2.1.any (fun u=>u==(i:Int))))
def gy(l:List aR.T):Bool:=bf (l.length:Int) 1 16&&(List.range l.length).all (wE l)
theorem ae3(l:List aR.T)(hl:l.length≤1099511627776)(hn:∀v ∈ l,v.2.2.1.length≤1099511627776):rJ (l,())=some (gy l,()):=by
 have e:=iz (B:=fP) l.length (fun i=>(l,(i:Int),())) (wE l) (.inl ()) (.inr (false,())) (by simp only[fP,bQ]) (fun i h=>by
  have h1:=ae1 l[i].2.2.1 l.length (hn _ (List.getElem_mem h)) hl
  have h2:=agD l[i].2.2.1 (i:Int) (hn _ (List.getElem_mem h))
  simp only[fP,bH h,a7 h hl,aJ h,ac,lG,h1,h2,wE,List.getElem?_eq_getElem h]
  rcases Bool.eq_false_or_eq_true (bf l[i].1 1 8)with g1|g1<;>simp only[g1,Bool.not_true,Bool.not_false,Bool.true_and,Bool.false_and]
  ·rcases Bool.eq_false_or_eq_true (bf l[i].2.1 1 16)with g2|g2<;>simp only[g2,Bool.not_true,Bool.not_false,Bool.true_and,Bool.false_and]
   ·rcases Bool.eq_false_or_eq_true (Am l[i].2.2.1 l.length)with g3|g3<;>simp only[g3,Bool.not_true,Bool.not_false,Bool.true_and,Bool.false_and]
    ·rcases Bool.eq_false_or_eq_true (l[i].2.2.1.any (fun u=>u==(i:Int)))with g4|g4<;>simp only[g4]<;>rfl
    ·rfl
   ·rfl
  ·rfl)
 have e':ak fP (l,(0:Int),())=_:=e
 unfold rJ gy
 simp only[lG,e']
 rcases Bool.eq_false_or_eq_true (bf (l.length:Int) 1 16)with h1|h1<;>simp only[h1]<;>rcases Bool.eq_false_or_eq_true ((List.range l.length).all (wE l))with h2|h2<;>simp only[h2]<;>rfl
theorem ae4(l:List aR.T)(hl:l.length≤1099511627776)(hn:∀v ∈ l,v.2.2.1.length≤1099511627776):rM (l,())=some (gy l,()):=by
 have e:=iz (B:=fU) l.length (fun i=>(l,l,(l.length:Int),(i:Int),())) (wE l) (.inl (l,())) (.inr (false,())) (by simp only[fU,bQ]) (fun i h=>by
  have h1:=ae2 l[i].2.2.1 l.length (hn _ (List.getElem_mem h)) hl
  have h2:=Yg l[i].2.2.1 (i:Int) (hn _ (List.getElem_mem h))
  simp only[fU,bH h,a7 h hl,aJ h,ac,oV,h1,h2,wE,List.getElem?_eq_getElem h]
  rcases Bool.eq_false_or_eq_true (bf l[i].1 1 8)with g1|g1<;>simp only[g1,Bool.not_true,Bool.not_false,Bool.true_and,Bool.false_and]
  ·rcases Bool.eq_false_or_eq_true (bf l[i].2.1 1 16)with g2|g2<;>simp only[g2,Bool.not_true,Bool.not_false,Bool.true_and,Bool.false_and]
   ·rcases Bool.eq_false_or_eq_true (Am l[i].2.2.1 l.length)with g3|g3<;>simp only[g3,Bool.not_true,Bool.not_false,Bool.true_and,Bool.false_and]
    ·rcases Bool.eq_false_or_eq_true (l[i].2.2.1.any (fun u=>u==(i:Int)))with g4|g4<;>simp only[g4]<;>rfl
    ·rfl
   ·rfl
  ·rfl)
 have e':ak fU (l,l,(l.length:Int),(0:Int),())=_:=e
 unfold rM gy bf
 simp only[e']
 rcases Bool.eq_false_or_eq_true ((List.range l.length).all (wE l))with h2|h2<;>simp only[h2,if_true,Bool.and_true,Bool.and_false]
 ·rcases Bool.eq_false_or_eq_true (decide ((l.length:Int)≥1))with h1|h1<;>simp only[h1]<;>rfl
 ·rfl
end Go.Proofs.YtnambbcafhnhpaaGreatDoor
namespace Go.Proofs.YtnambbcafhnhpaaGreatDoor
open Go.RowKit
set_option linter.unusedVariables false
set_option linter.unusedSimpArgs false
def oe(k n:Int):Int:=1+(if k != 0 then 8 else 0)+(if eC k then 1+n else 0)
theorem ae5(k n:Int)(h0:0≤n)(h1:n≤1000):yo (k,n,())=some (oe k n,()):=by
 have w1:IntKind.i64.wrap ((1:Int)+8)=9:=by decide
 have w2:IntKind.i64.wrap ((1:Int)+n)=1+n:=by rw[wrap_i64]<;>omega
 have w3:IntKind.i64.wrap (9+(1+n))=1+8+(1+n):=by rw[wrap_i64]<;>omega
 have w4:IntKind.i64.wrap (1+(1+n))=1+0+(1+n):=by rw[wrap_i64]<;>omega
 unfold yo oe
 simp only[gC,Qq,w1,w2,w3,w4]
 rcases Bool.eq_false_or_eq_true (k != (0:Int))with h|h<;>rcases Bool.eq_false_or_eq_true (eC k)with h2|h2<;>simp only[h,h2]<;>rfl
theorem ae6(k n:Int)(h0:0≤n)(h1:n≤1000):lK (k,n,())=some (oe k n,()):=by
 have w1:IntKind.i64.wrap ((1:Int)+8)=9:=by decide
 have w2:IntKind.i64.wrap ((9:Int)+1)=10:=by decide
 have w5:IntKind.i64.wrap ((1:Int)+1)=2:=by decide
 have w3:IntKind.i64.wrap (10+n)=1+8+(1+n):=by rw[wrap_i64]<;>omega
 have w4:IntKind.i64.wrap (2+n)=1+0+(1+n):=by rw[wrap_i64]<;>omega
 unfold lK oe
 simp only[fD,Qr,w1,w2,w3,w4,w5]
 rcases Bool.eq_false_or_eq_true (k != (0:Int))with h|h<;>rcases Bool.eq_false_or_eq_true (eC k)with h2|h2<;>simp only[h,h2]<;>rfl
def An(k n:Int):Int:=11+10*(oe k n+3)
theorem F3(k n:Int)(h0:0≤n)(h1:n≤1000):1≤oe k n∧oe k n≤1010:=by
 unfold oe
 split<;>split<;>omega
theorem Y0(b:Int)(h:1≤b∧b≤1010):IntKind.i64.wrap (11+IntKind.i64.wrap (10*IntKind.i64.wrap (b+3)))=11+10*(b+3):=by
 rw[wrap_i64 (n:=b+3) (by omega) (by omega),wrap_i64 (n:=10*(b+3)) (by omega) (by omega),wrap_i64 (by omega) (by omega)]
theorem ae7(k n:Int)(h0:0≤n)(h1:n≤1000):oq (k,n,())=some (An k n,()):=by
 unfold oq An
 simp only[ae5 k n h0 h1,Y0 _ (F3 k n h0 h1)]
theorem ae8(k n:Int)(h0:0≤n)(h1:n≤1000):eY (k,n,())=some (An k n,()):=by
 unfold eY An
 simp only[ae6 k n h0 h1,Y0 _ (F3 k n h0 h1)]
theorem Ao {k n:Int}(h:kw k n=true):0≤n∧n≤1000:=by
 unfold kw at h
 split at h
 ·have:=bl.1 h;omega
 ·split at h
  ·have:=bl.1 h;omega
  ·have:n=0:=by simpa using h
   omega
def og(d:cq.T):Bool:=bf d.1 0 31&&(bf d.2.1 0 3&&(kw d.2.1 d.2.2.1&&(!((d.2.1==(3:Int))&&d.2.2.2.2.1)&&bf d.2.2.2.1 (IntKind.i64.wrap (An d.2.1 d.2.2.1+20)) 1000)))
theorem WM(x):fF x=some (og x.1,()):=by
 obtain⟨⟨(a:Int),(k:Int),(n:Int),(t:Int),(c:Bool),u⟩,u'⟩:=x
 unfold fF og
 simp only[ab1,abR,abU,lG]
 rcases Bool.eq_false_or_eq_true (bf a 0 31)with h1|h1<;>simp only[h1,Bool.not_true,Bool.not_false,Bool.true_and,Bool.false_and]
 rcases Bool.eq_false_or_eq_true (bf k 0 3)with h2|h2<;>simp only[h2,Bool.not_true,Bool.not_false,Bool.true_and,Bool.false_and]
 rcases Bool.eq_false_or_eq_true (kw k n)with h3|h3<;>simp only[h3,Bool.not_true,Bool.not_false,Bool.true_and,Bool.false_and]
 have hn:=Ao h3
 simp only[ae8 k n hn.1 hn.2]
 rcases Bool.eq_false_or_eq_true (k==(3:Int))with h4|h4<;>cases c<;>simp only[h4]<;>rfl
theorem ab3(x):gT x=some (og x.1,()):=by
 obtain⟨⟨(a:Int),(k:Int),(n:Int),(t:Int),(c:Bool),u⟩,u'⟩:=x
 unfold gT og
 simp only[WL,abT,abV,oV]
 rcases Bool.eq_false_or_eq_true (bf a 0 31)with h1|h1<;>simp only[h1,Bool.not_true,Bool.not_false,Bool.true_and,Bool.false_and]
 rcases Bool.eq_false_or_eq_true (bf k 0 3)with h2|h2<;>simp only[h2,Bool.not_true,Bool.not_false,Bool.true_and,Bool.false_and]
 rcases Bool.eq_false_or_eq_true (kw k n)with h3|h3<;>simp only[h3,Bool.not_true,Bool.not_false,Bool.true_and,Bool.false_and]
 have hn:=Ao h3
 simp only[ae7 k n hn.1 hn.2]
 rcases Bool.eq_false_or_eq_true (k==(3:Int))with h4|h4<;>cases c<;>simp only[h4]<;>rfl
def o9(v:az.T):Bool:=bf v.1 0 15&&(bf v.2.1 0 7&&(bf v.2.2.1 0 15&&og v.2.2.2.1))
theorem agE(x):KJ x=some (o9 x.1,()):=by
 have hd:fF ((x.1.2.2.2.1.1,x.1.2.2.2.1.2.1,x.1.2.2.2.1.2.2.1,x.1.2.2.2.1.2.2.2.1,x.1.2.2.2.1.2.2.2.2.1,()),())=some (og x.1.2.2.2.1,()):=WM (x.1.2.2.2.1,())
 unfold KJ o9
 simp only[lG,hd]
 rcases Bool.eq_false_or_eq_true (bf x.1.1 0 15)with h1|h1<;>rcases Bool.eq_false_or_eq_true (bf x.1.2.1 0 7)with h2|h2<;>rcases Bool.eq_false_or_eq_true (bf x.1.2.2.1 0 15)with h3|h3<;>simp only[h1,h2,h3]<;>rfl
theorem agF(x):pA x=some (o9 x.1,()):=by
 have hd:gT ((x.1.2.2.2.1.1,x.1.2.2.2.1.2.1,x.1.2.2.2.1.2.2.1,x.1.2.2.2.1.2.2.2.1,x.1.2.2.2.1.2.2.2.2.1,()),())=some (og x.1.2.2.2.1,()):=ab3 (x.1.2.2.2.1,())
 unfold pA o9
 simp only[oV,hd]
 rcases Bool.eq_false_or_eq_true (bf x.1.1 0 15)with h1|h1<;>rcases Bool.eq_false_or_eq_true (bf x.1.2.1 0 7)with h2|h2<;>rcases Bool.eq_false_or_eq_true (bf x.1.2.2.1 0 15)with h3|h3<;>simp only[h1,h2,h3]<;>rfl
def vj(a b:Int):Int:=if a<b then -1 else if a>b then 1 else 0
def re(u v:az.T):Int:=if u.1=v.1 then(if u.2.1=v.2.1 then vj u.2.2.1 v.2.2.1 else vj u.2.1 v.2.1)else vj u.1 v.1
theorem ahp(x):sQ x=some (vj x.1 x.2.1,()):=by
 obtain⟨(a:Int),(b:Int),u⟩:=x
 unfold sQ vj
 by_cases h1:a<b
 ·simp only[decide_eq_true h1,if_pos h1]
 ·by_cases h2:a>b
  ·simp only[decide_eq_false h1,decide_eq_true h2,if_neg h1,if_pos h2]
  ·simp only[decide_eq_false h1,decide_eq_false h2,if_neg h1,if_neg h2]
theorem ab4(x):kO x=some (re x.1 x.2.1,()):=by
 obtain⟨u,v,w⟩:=x
 unfold kO re
 simp only[ahp]
 by_cases h1:u.1=v.1
 ·have g1:(u.1 != v.1)=false:=by rw[h1];exact qs _
  simp only[g1,if_pos h1]
  by_cases h2:u.2.1=v.2.1
  ·have g2:(u.2.1 != v.2.1)=false:=by rw[h2];exact qs _
   simp only[g2,if_pos h2]
  ·have g2:(u.2.1 != v.2.1)=true:=by simpa using h2
   simp only[g2,if_neg h2]
 ·have g1:(u.1 != v.1)=true:=by simpa using h1
  simp only[g1,if_neg h1]
theorem N1(l m:List Int)(i:Nat)(hl:i<l.length)(hm:i<m.length)(h3:i<3):cQ (l,m,(i:Int),())=if l[i]<m[i]then some (.inr (.inr ((-1:Int),())))else if l[i]>m[i]then some (.inr (.inr ((1:Int),())))else some (.inl (l,m,((i+1:Nat):Int),())):=by
 have hd:decide ((i:Int)<3)=true:=decide_eq_true (by omega)
 simp only[cQ,hd,aJ hl,aJ hm,ac,Int.toNat_natCast,List.getElem?_eq_getElem hl,List.getElem?_eq_getElem hm,a7 h3 (by omega)]
 by_cases h1:l[i]<m[i]
 ·simp only[if_pos h1,decide_eq_true h1]
 ·by_cases h2:l[i]>m[i]
  ·simp only[if_neg h1,if_pos h2,decide_eq_false h1,decide_eq_true h2]
  ·simp only[if_neg h1,if_neg h2,decide_eq_false h1,decide_eq_false h2]
theorem agG(x):qe x=some (re x.1 x.2.1,()):=by
 obtain⟨⟨(a:Int),(b:Int),(c:Int),d⟩,⟨(a':Int),(b':Int),(c':Int),d'⟩,w⟩:=x
 have e0:=N1 [a,b,c] [a',b',c'] 0 (by simp) (by simp) (by omega)
 have e1:=N1 [a,b,c] [a',b',c'] 1 (by simp) (by simp) (by omega)
 have e2:=N1 [a,b,c] [a',b',c'] 2 (by simp) (by simp) (by omega)
 have e3:cQ ([a,b,c],[a',b',c'],((3:Nat):Int),())=some (.inr (.inl ())):=rfl
 have e0:cQ ([a,b,c],[a',b',c'],(0:Int),())=if a<a' then some (.inr (.inr ((-1:Int),())))else if a>a' then some (.inr (.inr ((1:Int),())))else some (.inl ([a,b,c],[a',b',c'],((1:Nat):Int),())):=e0
 have e1:cQ ([a,b,c],[a',b',c'],((1:Nat):Int),())=if b<b' then some (.inr (.inr ((-1:Int),())))else if b>b' then some (.inr (.inr ((1:Int),())))else some (.inl ([a,b,c],[a',b',c'],((2:Nat):Int),())):=e1
 have e2:cQ ([a,b,c],[a',b',c'],((2:Nat):Int),())=if c<c' then some (.inr (.inr ((-1:Int),())))else if c>c' then some (.inr (.inr ((1:Int),())))else some (.inl ([a,b,c],[a',b',c'],((3:Nat):Int),())):=e2
 have hL:ak cQ ([a,b,c],[a',b',c'],(0:Int),())=some (if re (a,b,c,d) (a',b',c',d')=0 then .inl ()else .inr (re (a,b,c,d) (a',b',c',d'),())):=by
  unfold re vj
  rw[aw,e0]
  by_cases h1:a<a'
  ·simp[h1,Int.ne_of_lt h1]
  ·by_cases h2:a>a'
   ·have:¬a=a':=by omega
    simp[h1,h2,this]
   ·have:a=a':=by omega
    simp only[if_neg h1,if_neg h2,if_pos this]
    rw[aw,e1]
    by_cases h1:b<b'
    ·simp[h1,Int.ne_of_lt h1]
    ·by_cases h2:b>b'
     ·have:¬b=b':=by omega
      simp[h1,h2,this]
     ·have:b=b':=by omega
      simp only[if_neg h1,if_neg h2,if_pos this]
      rw[aw,e2]
      by_cases h1:c<c'
      ·simp[h1]
      ·by_cases h2:c>c'
       ·simp[h1,h2]
       ·simp only[if_neg h1,if_neg h2]
        rw[aw,e3]
        simp
 unfold qe
 simp only[hL,cY]
 by_cases h:re (a,b,c,d) (a',b',c',d')=0
 ·simp only[h,if_true]
 ·simp only[if_neg h]
def ur(l:List az.T)(i:Nat):Bool:=match l[i]? with
 |none=>false
 |some v=>o9 v&&(match i with
  |0=>true
  |k+1=>match l[k]? with
   |none=>false
   |some u=> !decide (re u v≥0))
def cT(l:List az.T):Bool:= !decide ((l.length:Int)>120)&&(List.range l.length).all (ur l)
theorem ae9(l:List az.T)(hl:l.length≤1099511627776):rK (l,())=some (cT l,()):=by
 have e:=iz (B:=fQ) l.length (fun i=>(l,(i:Int),())) (ur l) (.inl ()) (.inr (false,())) (by simp only[fQ,bQ]) (fun i h=>by
  simp only[fQ,bH h,a7 h hl,aJ h,ac,agE,ur,List.getElem?_eq_getElem h]
  rcases Bool.eq_false_or_eq_true (o9 l[i])with h1|h1<;>simp only[h1,Bool.not_true,Bool.not_false,Bool.true_and,Bool.false_and]
  ·cases i with
   |zero=>rfl
   |succ k=>
    have hk:k<l.length:=by omega
    simp only[KP,E7 (show k+1≤1099511627776 by omega),aJ hk,List.getElem?_eq_getElem hk,agG]
    rcases Bool.eq_false_or_eq_true (decide (re l[k] l[k+1]≥0))with h2|h2<;>simp only[h2]<;>rfl
  ·rfl)
 have e':ak fQ (l,(0:Int),())=_:=e
 unfold rK cT
 simp only[e']
 rcases Bool.eq_false_or_eq_true (decide ((l.length:Int)>120))with h1|h1<;>simp only[h1]<;>rcases Bool.eq_false_or_eq_true ((List.range l.length).all (ur l))with h2|h2<;>simp only[h2]<;>rfl
theorem afa(l:List az.T)(hl:l.length≤1099511627776):rN (l,())=some (cT l,()):=by
 have e:=iz (B:=fV) l.length (fun i=>(l,l,(l.length:Int),(i:Int),())) (ur l) (.inl (l,())) (.inr (false,())) (by simp only[fV,bQ]) (fun i h=>by
  have hv:pA ((l[i].1,l[i].2.1,l[i].2.2.1,(l[i].2.2.2.1.1,l[i].2.2.2.1.2.1,l[i].2.2.2.1.2.2.1,l[i].2.2.2.1.2.2.2.1,l[i].2.2.2.1.2.2.2.2.1,()),()),())=some (o9 l[i],()):=agF (l[i],())
  simp only[fV,bH h,a7 h hl,aJ h,ac,hv,ur,List.getElem?_eq_getElem h]
  rcases Bool.eq_false_or_eq_true (o9 l[i])with h1|h1<;>simp only[h1,Bool.not_true,Bool.not_false,Bool.true_and,Bool.false_and]
  ·cases i with
   |zero=>rfl
   |succ k=>
    have hk:k<l.length:=by omega
    have hc:kO (l[k],(l[k+1].1,l[k+1].2.1,l[k+1].2.2.1,(l[k+1].2.2.2.1.1,l[k+1].2.2.2.1.2.1,l[k+1].2.2.2.1.2.2.1,l[k+1].2.2.2.1.2.2.2.1,l[k+1].2.2.2.1.2.2.2.2.1,()),()),())=some (re l[k] l[k+1],()):=ab4 (l[k],l[k+1],())
    simp only[KP,E7 (show k+1≤1099511627776 by omega),aJ hk,List.getElem?_eq_getElem hk,hc]
    rcases Bool.eq_false_or_eq_true (decide (re l[k] l[k+1]≥0))with h2|h2<;>simp only[h2]<;>rfl
  ·rfl)
 have e':ak fV (l,l,(l.length:Int),(0:Int),())=_:=e
 have hn:decide ((l.length:Int)≤120)= !decide ((l.length:Int)>120):=by
  by_cases h:(l.length:Int)≤120
  ·rw[decide_eq_true h,decide_eq_false (by omega)];rfl
  ·rw[decide_eq_false h,decide_eq_true (by omega)];rfl
 unfold rN cT
 simp only[e']
 rcases Bool.eq_false_or_eq_true ((List.range l.length).all (ur l))with h2|h2<;>simp only[h2,if_true,Bool.and_true,Bool.and_false,hn]
 rfl
end Go.Proofs.YtnambbcafhnhpaaGreatDoor
namespace Go.Proofs.YtnambbcafhnhpaaGreatDoor
open Go.RowKit
set_option linter.unusedVariables false
set_option linter.unusedSimpArgs false
def iw(i r s:Int):Int:=(i*8+r)*16+s
def dI(v:az.T):Int:=iw v.1 v.2.1 v.2.2.1
def WN(v:az.T):Prop:=(0≤v.1∧v.1≤15)∧(0≤v.2.1∧v.2.1≤7)∧(0≤v.2.2.1∧v.2.2.1≤15)
theorem vk {v:az.T}(h:o9 v=true):WN v:=by
 unfold o9 at h
 simp only[Bool.and_eq_true,bl]at h
 exact⟨h.1,h.2.1,h.2.2.1⟩
def adC(a b c a' b' c':Int):Int:=if a=a' then(if b=b' then vj c c' else vj b b')else vj a a'
theorem WO(a b:Int):(a<b∧vj a b= -1)∨(a=b∧vj a b=0)∨(b<a∧vj a b=1):=by
 unfold vj
 by_cases h1:a<b
 ·exact .inl ⟨h1,if_pos h1⟩
 ·by_cases h2:a>b
  ·exact .inr (.inr ⟨h2,by rw[if_neg h1,if_pos h2]⟩)
  ·exact .inr (.inl ⟨by omega,by rw[if_neg h1,if_neg h2]⟩)
theorem Y1(a b c a' b' c':Int)(hb:0≤b∧b≤7)(hc:0≤c∧c≤15)(hb':0≤b'∧b'≤7)(hc':0≤c'∧c'≤15):
  (adC a b c a' b' c'=0↔iw a b c=iw a' b' c')∧(¬adC a b c a' b' c'≥0→iw a b c<iw a' b' c'):=by
 unfold adC iw
 by_cases h1:a=a'
 ·rw[if_pos h1]
  by_cases h2:b=b'
  ·rw[if_pos h2]
   rcases WO c c' with⟨h,e⟩|⟨h,e⟩|⟨h,e⟩<;>rw[e]<;>omega
  ·rw[if_neg h2]
   rcases WO b b' with⟨h,e⟩|⟨h,e⟩|⟨h,e⟩<;>rw[e]<;>omega
 ·rw[if_neg h1]
  rcases WO a a' with⟨h,e⟩|⟨h,e⟩|⟨h,e⟩<;>rw[e]<;>omega
theorem adD {u v:az.T}(hu:WN u)(hv:WN v):re u v=0↔dI u=dI v:=
 (Y1 u.1 u.2.1 u.2.2.1 v.1 v.2.1 v.2.2.1 hu.2.1 hu.2.2 hv.2.1 hv.2.2).1
theorem agH {u v:az.T}(hu:WN u)(hv:WN v)(h:¬re u v≥0):dI u<dI v:=
 (Y1 u.1 u.2.1 u.2.2.1 v.1 v.2.1 v.2.2.1 hu.2.1 hu.2.2 hv.2.1 hv.2.2).2 h
theorem jK {l:List az.T}(h:cT l=true):∀v ∈ l,o9 v=true:=by
 intro v hv
 unfold cT at h
 rw[Bool.and_eq_true,List.all_eq_true]at h
 obtain⟨i,hi,rfl⟩:=List.getElem_of_mem hv
 have:=h.2 i (by simpa using hi)
 unfold ur at this
 simp only[List.getElem?_eq_getElem hi,Bool.and_eq_true]at this
 exact this.1
theorem iJ {l:List az.T}(h:cT l=true):l.length≤120:=by
 unfold cT at h
 rw[Bool.and_eq_true]at h
 have:=h.1
 simp at this
 omega
theorem Qv {l:List az.T}(h:cT l=true)(k:Nat)(hk:k+1<l.length):dI l[k]<dI l[k+1]:=by
 have hm:=jK h
 unfold cT at h
 rw[Bool.and_eq_true,List.all_eq_true]at h
 have:=h.2 (k+1) (by simpa using hk)
 unfold ur at this
 simp only[List.getElem?_eq_getElem hk,List.getElem?_eq_getElem (show k<l.length by omega),Bool.and_eq_true]at this
 refine agH (vk (hm _ (List.getElem_mem _))) (vk (hm _ (List.getElem_mem _))) ?_
 simpa using this.2
theorem WP {l:List az.T}(h:cT l=true):∀(d i:Nat) (hd:i+d+1<l.length),dI l[i]<dI l[i+d+1]
 |0,i,hd=>Qv h i hd
 |d+1,i,hd=>Int.lt_trans (WP h d i (by omega)) (Qv h (i+d+1) hd)
theorem WQ {l:List az.T}(h:cT l=true):(l.map dI).Pairwise (· < ·):=by
 rw[List.pairwise_iff_getElem]
 intro i j hi hj hij
 rw[List.length_map]at hi hj
 obtain⟨d,rfl⟩:∃d,j=i+d+1:=⟨j-i-1,by omega⟩
 rw[List.getElem_map,List.getElem_map]
 exact WP h d i hj
def ln(i R S:Nat):List Int:=(List.range R).flatMap fun(r:Nat)=>(List.range S).map fun(s:Nat)=>iw (i:Int) (r:Int) (s:Int)
def kF:Nat→List aR.T→List Int
 |_,[]=>[]
 |i,m::ms=>ln i m.1.toNat m.2.1.toNat++kF (i+1) ms
theorem Sk(i S:Nat)(hS:0<S):∀R,ln i R S=(List.range (R*S)).map fun(q:Nat)=>iw (i:Int) ((q / S:Nat):Int) ((q % S:Nat):Int)
 |0=>by simp[ln]
 |R+1=>by
  have ih:=Sk i S hS R
  unfold ln at ih ⊢
  rw[List.range_succ,List.flatMap_append,ih,Nat.add_mul,Nat.one_mul,List.range_add,List.map_append,List.map_map]
  congr 1
  rw[List.flatMap_cons,List.flatMap_nil,List.append_nil]
  apply List.map_congr_left
  intro s hs
  have hs:s<S:=by simpa using hs
  have h1:(R*S+s) / S=R:=by rw[Nat.mul_comm,Nat.mul_add_div hS,Nat.div_eq_of_lt hs,Nat.add_zero]
  have h2:(R*S+s) % S=s:=by rw[Nat.mul_comm,Nat.mul_add_mod,Nat.mod_eq_of_lt hs]
  simp only[Function.comp,h1,h2]
theorem F4(i R S:Nat)(hS:0<S):(ln i R S).length=R*S:=by rw[Sk i S hS,List.length_map,List.length_range]
theorem Y2 {i R S:Nat}(hR:R≤8)(hS:S≤16):∀k ∈ ln i R S,(i:Int)*128≤k∧k<((i:Int)+1)*128:=by
 intro k hk
 simp only[ln,List.mem_flatMap,List.mem_map,List.mem_range]at hk
 obtain⟨r,hr,s,hs,rfl⟩:=hk
 unfold iw
 omega
theorem Yh {i R S:Nat}(hS:S≤16):(ln i R S).Pairwise (· < ·):=by
 unfold ln
 rw[List.pairwise_flatMap]
 constructor
 ·intro r hr
  rw[List.pairwise_map]
  exact List.Pairwise.imp (fun {a b} h=>by unfold iw;omega) List.pairwise_lt_range
 ·refine List.Pairwise.imp (fun {a b} h x hx y hy=> ?_) List.pairwise_lt_range
  simp only[List.mem_map,List.mem_range]at hx hy
  obtain⟨s,hs,rfl⟩:=hx
  obtain⟨t,ht,rfl⟩:=hy
  unfold iw
  omega
def Qw(m:aR.T):Prop:=(1≤m.1∧m.1≤8)∧(1≤m.2.1∧m.2.1≤16)
theorem pY {m:aR.T}(h:Qw m):(1≤m.1.toNat∧m.1.toNat≤8)∧(1≤m.2.1.toNat∧m.2.1.toNat≤16)∧(m.1=((m.1.toNat:Nat):Int)∧m.2.1=((m.2.1.toNat:Nat):Int)):=by
 obtain⟨(a:Int),(b:Int),c⟩:=m
 obtain⟨⟨h1,h2⟩,h3,h4⟩:=h
 have h1:(1:Int)≤a:=h1
 have h2:a≤(8:Int):=h2
 have h3:(1:Int)≤b:=h3
 have h4:b≤(16:Int):=h4
 exact⟨⟨by show 1≤a.toNat;omega,by show a.toNat≤8;omega⟩,⟨by show 1≤b.toNat;omega,by show b.toNat≤16;omega⟩,(Int.toNat_of_nonneg (show(0:Int)≤a by omega)).symm,(Int.toNat_of_nonneg (show(0:Int)≤b by omega)).symm⟩
theorem Y3:∀(ms:List aR.T) (i:Nat),(∀m ∈ ms,Qw m)→∀k ∈ kF i ms,(i:Int)*128≤k
 | [],i,_,k,hk=>by simp[kF]at hk
 |m::ms,i,h,k,hk=>by
  simp only[kF,List.mem_append]at hk
  have hm:=pY (h m (by simp))
  rcases hk with hk|hk
  ·exact(Y2 (by omega) (by omega) k hk).1
  ·have:=Y3 ms (i+1) (fun m hm=>h m (by simp[hm])) k hk
   omega
theorem Mo:∀(ms:List aR.T) (i:Nat),(∀m ∈ ms,Qw m)→(kF i ms).Pairwise (· < ·)
 | [],i,_=>List.Pairwise.nil
 |m::ms,i,h=>by
  have hm:=pY (h m (by simp))
  simp only[kF]
  rw[List.pairwise_append]
  refine⟨Yh (by omega),Mo ms (i+1) (fun m hm=>h m (by simp[hm])),fun a ha b hb=> ?_⟩
  have h1:=Y2 (R:=m.1.toNat) (S:=m.2.1.toNat) (by omega) (by omega) a ha
  have h2:=Y3 ms (i+1) (fun m hm=>h m (by simp[hm])) b hb
  omega
theorem WR:∀(K E:List Int),K.Pairwise (· < ·)→E.Pairwise (· < ·)→(∀x ∈ E,x ∈ K)→E.length≤K.length∧(E.length=K.length→K=E)
 | [],[],_,_,_=>⟨Nat.le_refl _,fun _=>rfl⟩
 | [],e::E,_,_,h=>absurd (h e (by simp)) (by simp)
 |k::K,[],_,_,_=>⟨by simp,fun h=>by simp at h⟩
 |k::K,e::E,hK,hE,h=>by
  rw[List.pairwise_cons]at hK hE
  by_cases he:e=k
  ·subst he
   have:=WR K E hK.2 hE.2 (fun x hx=>by
    have h1:=h x (by simp[hx])
    have h2:=hE.1 x hx
    rw[List.mem_cons]at h1
    rcases h1 with h1|h1
    ·omega
    ·exact h1)
   refine⟨by simp;exact this.1,fun hl=> ?_⟩
   rw[this.2 (by simpa using hl)]
  ·have hek:k<e:=by
    have h1:=h e (by simp)
    rw[List.mem_cons]at h1
    rcases h1 with h1|h1
    ·exact absurd h1 he
    ·exact hK.1 e h1
   have:=WR K (e::E) hK.2 (List.pairwise_cons.2 hE) (fun x hx=>by
    have h1:=h x hx
    rw[List.mem_cons]at h1
    rcases h1 with h1|h1
    ·rw[List.mem_cons]at hx
     rcases hx with hx|hx
     ·omega
     ·have:=hE.1 x hx
      omega
    ·exact h1)
   refine⟨by simp at this ⊢;omega,fun hl=> ?_⟩
   have h1:=this.1
   simp at h1 hl
   omega
theorem afb(K E:List Int)(hK:K.Pairwise (· < ·))(hE:E.Pairwise (· < ·)):decide (K=E)=(E.all (fun x=>decide (x ∈ K))&&decide (E.length=K.length)):=by
 by_cases h:K=E
 ·subst h
  rw[decide_eq_true rfl,decide_eq_true rfl]
  simp
 ·rw[decide_eq_false h]
  by_cases h1:E.all (fun x=>decide (x ∈ K))=true
  ·have h2:∀x ∈ E,x ∈ K:=fun x hx=>by
    have:=List.all_eq_true.1 h1 x hx
    simpa using this
   have h3:=(WR K E hK hE h2).2
   have h4:¬E.length=K.length:=fun e=>h (h3 e)
   rw[decide_eq_false h4,Bool.and_false]
  ·rw[Bool.eq_false_iff.2 h1,Bool.false_and]
end Go.Proofs.YtnambbcafhnhpaaGreatDoor
namespace Go.Proofs.YtnambbcafhnhpaaGreatDoor
open Go.RowKit
set_option linter.unusedVariables false
set_option linter.unusedSimpArgs false
theorem gI {l:List aR.T}(h:gy l=true):l.length≤16∧∀m ∈ l,Qw m:=by
 unfold gy at h
 rw[Bool.and_eq_true,List.all_eq_true]at h
 refine⟨by have:=(bl.1 h.1).2;omega,fun m hm=> ?_⟩
 obtain⟨i,hi,rfl⟩:=List.getElem_of_mem hm
 have:=h.2 i (by simpa using hi)
 unfold wE at this
 simp only[List.getElem?_eq_getElem hi,Bool.and_eq_true,bl]at this
 exact⟨this.1,this.2.1⟩
def lH(a b c:Int)(v:az.T):Bool:=(v.1==a)&&((v.2.1==b)&&(v.2.2.1==c))
def vF(l:List az.T)(a b c:Int):Int:=match cn (lH a b c) 0 l with
 |none=>-1
 |some j=>(j:Int)
theorem Y4(l:List az.T)(a b c:Int)(hl:l.length≤1099511627776):vV (l,a,b,c,())=some (vF l a b c,()):=by
 have e:=sq (B:=kg) l (fun i=>(l,a,b,c,(i:Int),())) (lH a b c) (.inl ()) (fun j=>.inr ((j:Int),())) (by simp only[kg,bQ]) (fun i h=>by
  simp only[kg,bH h,a7 h hl,aJ h,ac,lH]
  rcases Bool.eq_false_or_eq_true (l[i].1==a)with h1|h1<;>rcases Bool.eq_false_or_eq_true (l[i].2.1==b)with h2|h2<;>rcases Bool.eq_false_or_eq_true (l[i].2.2.1==c)with h3|h3<;>simp only[h1,h2,h3]<;>rfl)
 have e':ak kg (l,a,b,c,(0:Int),())=_:=e
 unfold vV vF
 simp only[e']
 cases cn (lH a b c) 0 l<;>rfl
theorem Y5(l:List az.T)(a b c:Int)(hl:l.length≤1099511627776):qj (l,a,b,c,())=some (vF l a b c,()):=by
 have e:=EZ l hl (fun z=>tR (z.1,a,b,c,())) (lH a b c) (fun i h=>by
  unfold tR lH
  rcases Bool.eq_false_or_eq_true (l[i].1==a)with h1|h1<;>rcases Bool.eq_false_or_eq_true (l[i].2.1==b)with h2|h2<;>rcases Bool.eq_false_or_eq_true (l[i].2.2.1==c)with h3|h3<;>simp only[h1,h2,h3]<;>rfl)
 unfold qj vF
 simp only[e]
 cases cn (lH a b c) 0 l<;>rfl
theorem KQ {a b c:Int}{v:az.T}(hv:WN v)(hb:0≤b∧b≤7)(hc:0≤c∧c≤15):lH a b c v=true↔dI v=iw a b c:=by
 obtain⟨(a':Int),(b':Int),(c':Int),d⟩:=v
 have h2:0≤b'∧b'≤7:=hv.2.1
 have h3:0≤c'∧c'≤15:=hv.2.2
 unfold lH dI iw
 simp only[Bool.and_eq_true,beq_iff_eq]
 constructor
 ·rintro ⟨h1,h2,h3⟩
  have h1:a'=a:=h1
  have h2:b'=b:=h2
  have h3:c'=c:=h3
  rw[h1,h2,h3]
 ·intro h
  have h1:a'=a:=by omega
  have h2:b'=b:=by omega
  have h3:c'=c:=by omega
  exact⟨h1,h2,h3⟩
theorem WS {l:List az.T}(hl:∀v ∈ l,WN v){a b c:Int}(hb:0≤b∧b≤7)(hc:0≤c∧c≤15):decide (vF l a b c<0)= !decide (iw a b c ∈ l.map dI):=by
 have h:=kE (lH a b c) 0 l
 have e:l.any (lH a b c)=decide (iw a b c ∈ l.map dI):=by
  by_cases hm:iw a b c ∈ l.map dI
  ·rw[decide_eq_true hm,List.any_eq_true]
   obtain⟨v,hv,e⟩:=List.mem_map.1 hm
   exact⟨v,hv,(KQ (hl v hv) hb hc).2 e⟩
  ·rw[decide_eq_false hm,Bool.eq_false_iff]
   intro h
   obtain⟨v,hv,e⟩:=List.any_eq_true.1 h
   exact hm (List.mem_map.2 ⟨v,hv,(KQ (hl v hv) hb hc).1 e⟩)
 rw[←e,←h]
 unfold vF
 cases cn (lH a b c) 0 l with
 |none=>rfl
 |some j=>simp
def aat(o:(Ty.pair (.box aA) (.pair (.int .i64) .unit)).T ⊕ (Ty.pair .bool .unit).T):Bool:=match o with
 | .inl v=>v.2.1==(v.1.2.2.2.1.length:Int)
 | .inr v=>v.1
theorem ahq(m:aA.T)(hs:cT m.2.2.2.1=true)(i R S:Nat)(hi:i≤15)(hR:R≤8)(hS:1≤S∧S≤16)(sw:List Int)(ms:List aR.T)(N:Int):
  ∀(n k j:Nat),k+n=R*S→j≤m.2.2.2.1.length→ak fm (m,(j:Int),(i:Int),((R:Int),(S:Int),sw,()),ms,N,(i:Int),((R*S:Nat):Int),(k:Int),())=some (if((m.2.2.2.1.map dI).drop j).take n=(List.range' k n).map (fun(q:Nat)=>iw (i:Int) ((q / S:Nat):Int) ((q % S:Nat):Int))then .inl (m,((j+n:Nat):Int),ms,N,(i:Int),())else .inr (false,())):=by
 have hRS:R*S≤128:=Nat.le_trans (Nat.mul_le_mul hR hS.2) (by omega)
 have hlen:=iJ hs
 have hmem:=jK hs
 intro n
 induction n with
 |zero=>
  intro k j hk hj
  have hk:k=R*S:=by omega
  subst hk
  rw[aw]
  simp only[fm,bQ]
  simp
 |succ n ih=>
  intro k j hk hj
  have hkT:k<R*S:=by omega
  have hS0:¬((S:Int)=0):=by omega
  have d1:IntKind.i64.wrap (Int.tdiv (k:Int) (S:Int))=((k / S:Nat):Int):=by
   rw[Int.tdiv_eq_ediv_of_nonneg (by omega),←Int.natCast_ediv]
   have:k / S≤k:=Nat.div_le_self _ _
   generalize k / S=q at this ⊢
   rw[wrap_i64]<;>omega
  have d2:Int.tmod (k:Int) (S:Int)=((k % S:Nat):Int):=by
   rw[Int.tmod_eq_emod_of_nonneg (by omega),←Int.natCast_emod]
  have hq1:k / S<R:=(Nat.div_lt_iff_lt_mul (by omega)).2 (by omega)
  have hq2:k % S<S:=Nat.mod_lt _ (by omega)
  have q7:k / S≤7:=Nat.le_of_lt_succ (Nat.lt_of_lt_of_le hq1 hR)
  have q15:k % S≤15:=Nat.le_of_lt_succ (Nat.lt_of_lt_of_le hq2 hS.2)
  by_cases hjl:j=m.2.2.2.1.length
  ·subst hjl
   have e1:((m.2.2.2.1.length:Int)==(m.2.2.2.1.length:Int))=true:=by simp
   rw[aw]
   simp only[fm,bH hkT,e1]
   rw[if_neg]
   rw[List.drop_of_length_le (by simp)]
   simp[List.range'_succ]
  ·have hjl:j<m.2.2.2.1.length:=by omega
   have e1:((j:Int)==(m.2.2.2.1.length:Int))=false:=by rw[beq_eq_false_iff_ne];omega
   have hin:=vk (hmem _ (List.getElem_mem hjl))
   have hz:=adD (u:=m.2.2.2.1[j]) (v:=((i:Int),((k / S:Nat):Int),((k % S:Nat):Int),((0:Int),(0:Int),(0:Int),(0:Int),false,()),())) hin ⟨⟨by show(0:Int)≤(i:Int);omega,by show(i:Int)≤15;omega⟩,⟨Int.natCast_nonneg (k / S),Int.ofNat_le.2 q7⟩,Int.natCast_nonneg (k % S),Int.ofNat_le.2 q15⟩
   have hK:(m.2.2.2.1.map dI).drop j=dI m.2.2.2.1[j]::(m.2.2.2.1.map dI).drop (j+1):=by
    rw[List.drop_eq_getElem_cons (by simpa using hjl),List.getElem_map]
   have hkey:dI ((i:Int),((k / S:Nat):Int),((k % S:Nat):Int),((0:Int),(0:Int),(0:Int),(0:Int),false,()),())=iw (i:Int) ((k / S:Nat):Int) ((k % S:Nat):Int):=rfl
   rw[hkey]at hz
   have hih:=ih (k+1) (j+1) (by omega) (by omega)
   rw[hK,List.take_succ_cons,List.range'_succ,List.map_cons,aw]
   simp only[fm,bH hkT,e1,aJ hjl,ac,hS0,if_false,d1,d2,ab4,a7 hkT (by omega),a7 hjl (by omega)]
   by_cases hc:re m.2.2.2.1[j] ((i:Int),((k / S:Nat):Int),((k % S:Nat):Int),((0:Int),(0:Int),(0:Int),(0:Int),false,()),())=0
   ·have g:(re m.2.2.2.1[j] ((i:Int),((k / S:Nat):Int),((k % S:Nat):Int),((0:Int),(0:Int),(0:Int),(0:Int),false,()),()) != 0)=false:=by rw[hc];rfl
    have g2:=hz.1 hc
    simp only[g,g2,List.cons.injEq,true_and]
    have ha:j+1+n=j+(n+1):=by omega
    rw[ha]at hih
    exact hih
   ·have g:(re m.2.2.2.1[j] ((i:Int),((k / S:Nat):Int),((k % S:Nat):Int),((0:Int),(0:Int),(0:Int),(0:Int),false,()),()) != 0)=true:=by simpa using hc
    have g2:¬dI m.2.2.2.1[j]=iw (i:Int) ((k / S:Nat):Int) ((k % S:Nat):Int):=fun e=>hc (hz.2 e)
    simp only[g,List.cons.injEq,g2,false_and,if_false]
theorem agI(m:aA.T)(hs:cT m.2.2.2.1=true)(hm:gy m.2.2.1=true):
  ∀(n i j:Nat),i+n=m.2.2.1.length→j≤m.2.2.2.1.length→∃o,ak ef (m,(j:Int),m.2.2.1,(m.2.2.1.length:Int),(i:Int),())=some o∧aat o=decide ((m.2.2.2.1.map dI).drop j=kF i (m.2.2.1.drop i)):=by
 obtain⟨hl16,hg⟩:=gI hm
 have hlen:=iJ hs
 intro n
 induction n with
 |zero=>
  intro i j hi hj
  have hi:i=m.2.2.1.length:=by omega
  subst hi
  refine⟨.inl (m,(j:Int),()), ?_, ?_⟩
  ·rw[aw]
   simp only[ef,bQ]
  ·rw[List.drop_length]
   show((j:Int)==(m.2.2.2.1.length:Int))=decide ((m.2.2.2.1.map dI).drop j= [])
   have:(m.2.2.2.1.map dI).drop j= []↔j=m.2.2.2.1.length:=by
    rw[List.drop_eq_nil_iff,List.length_map]
    omega
   by_cases h:j=m.2.2.2.1.length
   ·rw[decide_eq_true (this.2 h),h];simp
   ·rw[decide_eq_false (fun e=>h (this.1 e)),beq_eq_false_iff_ne];omega
 |succ n ih=>
  intro i j hi hj
  have hil:i<m.2.2.1.length:=by omega
  have hgi:=pY (hg _ (List.getElem_mem hil))
  obtain⟨R,hR⟩:∃R,R=m.2.2.1[i].1.toNat:=⟨_,rfl⟩
  obtain⟨S,hS⟩:∃S,S=m.2.2.1[i].2.1.toNat:=⟨_,rfl⟩
  rw[←hR,←hS]at hgi
  have hRS:R*S≤128:=Nat.le_trans (Nat.mul_le_mul hgi.1.2 hgi.2.1.2) (by omega)
  have hw:IntKind.i64.wrap ((R:Int)*(S:Int))=((R*S:Nat):Int):=by
   rw[←Int.natCast_mul,wrap_i64]<;>omega
  have h0:=ahq m hs i R S (by omega) hgi.1.2 hgi.2.1 m.2.2.1[i].2.2.1 m.2.2.1 (m.2.2.1.length:Int) (R*S) 0 j (by omega) hj
  rw[←List.range_eq_range',←Sk i S (by omega) R]at h0
  have hE:kF i (m.2.2.1.drop i)=ln i R S++kF (i+1) (m.2.2.1.drop (i+1)):=by
   rw[List.drop_eq_getElem_cons hil,hR,hS]
   rfl
  have hstep:ak ef (m,(j:Int),m.2.2.1,(m.2.2.1.length:Int),(i:Int),())=if((m.2.2.2.1.map dI).drop j).take (R*S)=ln i R S then ak ef (m,((j+R*S:Nat):Int),m.2.2.1,(m.2.2.1.length:Int),((i+1:Nat):Int),())else some (.inr (false,())):=by
   have h0':ak fm (m,(j:Int),(i:Int),((R:Int),(S:Int),m.2.2.1[i].2.2.1,()),m.2.2.1,(m.2.2.1.length:Int),(i:Int),((R*S:Nat):Int),(0:Int),())=_:=h0
   rw[aw]
   simp only[ef,bH hil,aJ hil,ac,hgi.2.2.1,hgi.2.2.2,hw]
   rw[h0']
   by_cases hc:((m.2.2.2.1.map dI).drop j).take (R*S)=ln i R S
   ·simp only[if_pos hc,a7 hil (show m.2.2.1.length≤1099511627776 by omega)]
   ·simp only[if_neg hc]
  rw[hstep]
  by_cases hc:((m.2.2.2.1.map dI).drop j).take (R*S)=ln i R S
  ·have hj2:j+R*S≤m.2.2.2.1.length:=by
    have:=congrArg List.length hc
    rw[F4 i R S (by omega),List.length_take,List.length_drop,List.length_map]at this
    have h1:1≤R*S:=Nat.mul_pos hgi.1.1 hgi.2.1.1
    omega
   obtain⟨o,ho1,ho2⟩:=ih (i+1) (j+R*S) (by omega) hj2
   refine⟨o,by rw[if_pos hc];exact ho1, ?_⟩
   rw[ho2,hE,decide_eq_decide]
   have e:(m.2.2.2.1.map dI).drop j=ln i R S++(m.2.2.2.1.map dI).drop (j+R*S):=by
    rw[←hc,←List.drop_drop]
    exact(List.take_append_drop _ _).symm
   rw[e]
   exact(List.append_right_inj _).symm
  ·refine⟨.inr (false,()),by rw[if_neg hc], ?_⟩
   show false=_
   rw[hE,eq_comm,decide_eq_false_iff_not]
   intro e
   apply hc
   rw[e,List.take_append_of_le_length (by rw[F4 i R S (by omega)];exact Nat.le_refl _),List.take_of_length_le (by rw[F4 i R S (by omega)];exact Nat.le_refl _)]
noncomputable def fx(m:aA.T):Bool:=decide (m.2.2.2.1.map dI=kF 0 m.2.2.1)
theorem aau(m:aA.T)(hs:cT m.2.2.2.1=true)(hm:gy m.2.2.1=true):pB (m,())=some (fx m,()):=by
 obtain⟨o,h1,h2⟩:=agI m hs hm m.2.2.1.length 0 0 (by omega) (by omega)
 have h1:ak ef ((m.1,m.2.1,m.2.2.1,m.2.2.2.1,()),(0:Int),m.2.2.1,(m.2.2.1.length:Int),(0:Int),())=some o:=h1
 have h2:aat o=fx m:=h2
 rw[←h2]
 unfold pB
 simp only[h1]
 cases o<;>rfl
end Go.Proofs.YtnambbcafhnhpaaGreatDoor
namespace Go.Proofs.YtnambbcafhnhpaaGreatDoor
open Go.RowKit
set_option linter.unusedVariables false
set_option linter.unusedSimpArgs false
def Mp(K:List Int)(k:Int):Bool:=decide (k ∈ K)
theorem afc(K:List Int)(i R S:Nat):(ln i R S).all (Mp K)=(List.range' 0 R).all (fun(r:Nat)=>(List.range' 0 S).all (fun(s:Nat)=>Mp K (iw (i:Int) (r:Int) (s:Int)))):=by
 unfold ln
 rw[List.all_flatMap,List.range_eq_range']
 congr 1
 funext r
 rw[List.all_map,List.range_eq_range']
 rfl
theorem agJ(m:aA.T)(hs:cT m.2.2.2.1=true)(i r S:Nat)(hil:i<m.2.2.1.length)(hr:r≤7)(hS:S≤16)(hm:m.2.2.1[i].2.1=(S:Int)):
  ∀(n s c:Nat),s+n=S→c+n≤1000100→ak fR (m,(c:Int),(i:Int),(r:Int),(s:Int),())=some (if(List.range' s n).all (fun(s:Nat)=>Mp (m.2.2.2.1.map dI) (iw (i:Int) (r:Int) (s:Int)))=true then .inl (m,((c+n:Nat):Int),(i:Int),(r:Int),())else .inr (false,())):=by
 have hlen:=iJ hs
 have hmem:=jK hs
 intro n
 induction n with
 |zero=>
  intro s c h hc
  have h:s=S:=by omega
  subst h
  rw[aw]
  simp only[fR,aJ hil,ac,hm,bQ]
  simp
 |succ n ih=>
  intro s c h hc
  have hsS:s<S:=by omega
  have hf:=Y4 m.2.2.2.1 (i:Int) (r:Int) (s:Int) (by omega)
  have hn:=WS (fun v hv=>vk (hmem v hv)) (a:=(i:Int)) (b:=(r:Int)) (c:=(s:Int)) ⟨by omega,by omega⟩ ⟨by omega,by omega⟩
  have hih:=ih (s+1) (c+1) (by omega) (by omega)
  have hw:IntKind.i64.wrap ((c:Int)+1)=((c+1:Nat):Int):=by rw[wrap_i64]<;>omega
  rw[List.range'_succ,List.all_cons,aw]
  simp only[fR,aJ hil,ac,hm,bH hsS,hf,hn,hw,a7 hsS (show S≤1099511627776 by omega)]
  have hp:Mp (m.2.2.2.1.map dI) (iw (i:Int) (r:Int) (s:Int))=decide (iw (i:Int) (r:Int) (s:Int) ∈ m.2.2.2.1.map dI):=rfl
  rw[hp]
  rcases Bool.eq_false_or_eq_true (decide (iw (i:Int) (r:Int) (s:Int) ∈ m.2.2.2.1.map dI))with g|g<;>simp only[g,Bool.not_true,Bool.not_false,Bool.true_and,Bool.false_and]
  ·have ha:c+1+n=c+(n+1):=by omega
   rw[ha]at hih
   exact hih
  ·rfl
theorem agK(m:aA.T)(hs:cT m.2.2.2.1=true)(i R S:Nat)(hil:i<m.2.2.1.length)(hR:R≤8)(hS:S≤16)(hm1:m.2.2.1[i].1=(R:Int))(hm:m.2.2.1[i].2.1=(S:Int)):
  ∀(n r c:Nat),r+n=R→c+n*16≤1000000→ak fS (m,(c:Int),(i:Int),(r:Int),())=some (if(List.range' r n).all (fun(r:Nat)=>(List.range' 0 S).all (fun(s:Nat)=>Mp (m.2.2.2.1.map dI) (iw (i:Int) (r:Int) (s:Int))))=true then .inl (m,((c+n*S:Nat):Int),(i:Int),())else .inr (false,())):=by
 intro n
 induction n with
 |zero=>
  intro r c h hc
  have h:r=R:=by omega
  subst h
  rw[aw]
  simp only[fS,aJ hil,ac,hm1,bQ]
  simp
 |succ n ih=>
  intro r c h hc
  have hrR:r<R:=by omega
  have h9:=agJ m hs i r S hil (by omega) hS hm S 0 c (by omega) (by omega)
  have h9':ak fR ((m.1,m.2.1,m.2.2.1,m.2.2.2.1,()),(c:Int),(i:Int),(r:Int),(0:Int),())=_:=h9
  have hnS:n*S≤n*16:=Nat.mul_le_mul_left n hS
  have hih:=ih (r+1) (c+S) (by omega) (by rw[Nat.add_mul]at hc;omega)
  rw[List.range'_succ,List.all_cons,aw]
  simp only[fS,aJ hil,ac,hm1,bH hrR]
  rw[h9']
  rcases Bool.eq_false_or_eq_true ((List.range' 0 S).all (fun(s:Nat)=>Mp (m.2.2.2.1.map dI) (iw (i:Int) (r:Int) (s:Int))))with g|g<;>simp only[g,Bool.true_and,Bool.false_and,if_true,a7 hrR (show R≤1099511627776 by omega)]
  ·have ha:c+S+n*S=c+(n+1)*S:=by rw[Nat.add_mul];omega
   rw[ha]at hih
   exact hih
  ·rfl
theorem agL(m:aA.T)(hs:cT m.2.2.2.1=true)(hm:gy m.2.2.1=true):
  ∀(n i c:Nat),i+n=m.2.2.1.length→c≤128*i→∃o,ak dL (m,(c:Int),(i:Int),())=some o∧aat o=((kF i (m.2.2.1.drop i)).all (Mp (m.2.2.2.1.map dI))&&decide (c+(kF i (m.2.2.1.drop i)).length=m.2.2.2.1.length)):=by
 obtain⟨hl16,hg⟩:=gI hm
 have hlen:=iJ hs
 intro n
 induction n with
 |zero=>
  intro i c hi hc
  have hi:i=m.2.2.1.length:=by omega
  subst hi
  refine⟨.inl (m,(c:Int),()), ?_, ?_⟩
  ·rw[aw]
   simp only[dL,bQ]
  ·rw[List.drop_length]
   show((c:Int)==(m.2.2.2.1.length:Int))=(true&&decide (c+0=m.2.2.2.1.length))
   rw[Bool.true_and,Nat.add_zero]
   by_cases h:c=m.2.2.2.1.length
   ·rw[decide_eq_true h,h];simp
   ·rw[decide_eq_false h,beq_eq_false_iff_ne];omega
 |succ n ih=>
  intro i c hi hc
  have hil:i<m.2.2.1.length:=by omega
  have hgi:=pY (hg _ (List.getElem_mem hil))
  obtain⟨R,hR⟩:∃R,R=m.2.2.1[i].1.toNat:=⟨_,rfl⟩
  obtain⟨S,hS⟩:∃S,S=m.2.2.1[i].2.1.toNat:=⟨_,rfl⟩
  rw[←hR,←hS]at hgi
  have hRS:R*S≤128:=Nat.le_trans (Nat.mul_le_mul hgi.1.2 hgi.2.1.2) (by omega)
  have h6:=agK m hs i R S hil hgi.1.2 hgi.2.1.2 hgi.2.2.1 hgi.2.2.2 R 0 c (by omega) (by omega)
  have h6':ak fS ((m.1,m.2.1,m.2.2.1,m.2.2.2.1,()),(c:Int),(i:Int),(0:Int),())=_:=h6
  rw[←afc]at h6'
  have hE:kF i (m.2.2.1.drop i)=ln i R S++kF (i+1) (m.2.2.1.drop (i+1)):=by
   rw[List.drop_eq_getElem_cons hil,hR,hS]
   rfl
  have hstep:ak dL (m,(c:Int),(i:Int),())=if(ln i R S).all (Mp (m.2.2.2.1.map dI))=true then ak dL (m,((c+R*S:Nat):Int),((i+1:Nat):Int),())else some (.inr (false,())):=by
   rw[aw]
   simp only[dL,bH hil]
   rw[h6']
   by_cases hc:(ln i R S).all (Mp (m.2.2.2.1.map dI))=true
   ·simp only[if_pos hc,a7 hil (show m.2.2.1.length≤1099511627776 by omega)]
   ·simp only[if_neg hc]
  rw[hstep,hE,List.all_append,List.length_append,F4 i R S (by omega)]
  by_cases hq:(ln i R S).all (Mp (m.2.2.2.1.map dI))=true
  ·obtain⟨o,ho1,ho2⟩:=ih (i+1) (c+R*S) (by omega) (by omega)
   refine⟨o,by rw[if_pos hq];exact ho1, ?_⟩
   rw[ho2,hq,Bool.true_and,Nat.add_assoc]
  ·refine⟨.inr (false,()),by rw[if_neg hq], ?_⟩
   rw[Bool.eq_false_iff.2 hq,Bool.false_and,Bool.false_and]
   rfl
theorem aav(m:aA.T)(hs:cT m.2.2.2.1=true)(hm:gy m.2.2.1=true):om (m,())=some (fx m,()):=by
 obtain⟨o,h1,h2⟩:=agL m hs hm m.2.2.1.length 0 0 (by omega) (by omega)
 have h1:ak dL ((m.1,m.2.1,m.2.2.1,m.2.2.2.1,()),(0:Int),(0:Int),())=some o:=h1
 have h3:fx m=aat o:=by
  rw[h2]
  unfold fx
  rw[afb _ _ (WQ hs) (Mo _ 0 (gI hm).2),Nat.zero_add,List.length_map]
  rfl
 rw[h3]
 unfold om
 simp only[h1]
 cases o<;>rfl
end Go.Proofs.YtnambbcafhnhpaaGreatDoor
namespace Go.Proofs.YtnambbcafhnhpaaGreatDoor
open Go.RowKit
set_option linter.unusedVariables false
set_option linter.unusedSimpArgs false
theorem pZ {S X O T:Type}{B:X→Option (X ⊕ O)}(l:List T)(e:S→Nat→X)(g:S→T→S)(fin:S→O)(P:S→Prop)(hP:∀s,∀v ∈ l,P s→P (g s v))(hend:∀s,P s→B (e s l.length)=some (.inr (fin s)))
  (hstep:∀s i (h:i<l.length),P s→B (e s i)=some (.inl (e (g s l[i]) (i+1)))):∀(n i:Nat) (s:S),i+n=l.length→P s→ak B (e s i)=some (fin ((l.drop i).foldl g s))
 |0,i,s,hi,hs=>by
  have hi:i=l.length:=by omega
  subst hi
  rw[aw,hend s hs,List.drop_length]
  rfl
 |n+1,i,s,hi,hs=>by
  have h:i<l.length:=by omega
  rw[aw,hstep s i h hs,List.drop_eq_getElem_cons h]
  exact pZ l e g fin P hP hend hstep n (i+1) _ (by omega) (hP s _ (List.getElem_mem h) hs)
theorem s5 {S T:Type}{g:S→T→S}{P:S→Prop}:∀(l:List T) (s:S),(∀s,∀v ∈ l,P s→P (g s v))→P s→P (l.foldl g s)
 | [],s,_,h=>h
 |v::l,s,hP,h=>s5 l _ (fun s u hu=>hP s u (by simp[hu])) (hP s v (by simp) h)
theorem WT(a b:Nat)(ha:a<9223372036854775808)(hb:b<9223372036854775808):bits .or .i64 (a:Int) (b:Int)=((a|||b:Nat):Int):=by
 have hx:a|||b<2^63:=Nat.or_lt_two_pow (by omega) (by omega)
 have h1:(BitVec.ofInt 64 (a:Int)).toNat=a:=by
  rw[BitVec.ofInt_natCast,BitVec.toNat_ofNat];exact Nat.mod_eq_of_lt (by omega)
 have h2:(BitVec.ofInt 64 (b:Int)).toNat=b:=by
  rw[BitVec.ofInt_natCast,BitVec.toNat_ofNat];exact Nat.mod_eq_of_lt (by omega)
 show IntKind.i64.wrap ((BitVec.ofInt 64 (a:Int)|||BitVec.ofInt 64 (b:Int)).toNat:Int)=_
 rw[BitVec.toNat_or,h1,h2,wrap_i64]<;>omega
theorem Mq(a b:Nat)(ha:a<9223372036854775808)(hb:b<9223372036854775808):(bits .andNot .i64 (a:Int) (b:Int)==0)=decide (a&&& b=a):=by
 have h1:BitVec.ofInt 64 (a:Int)=BitVec.ofNat 64 a:=BitVec.ofInt_natCast ..
 have h2:BitVec.ofInt 64 (b:Int)=BitVec.ofNat 64 b:=BitVec.ofInt_natCast ..
 have e:bits .andNot .i64 (a:Int) (b:Int)=IntKind.i64.wrap ((BitVec.ofNat 64 a&&& ~~~ BitVec.ofNat 64 b).toNat:Int):=by
  rw[←h1,←h2];rfl
 have ha':(BitVec.ofNat 64 a).toNat=a:=by rw[BitVec.toNat_ofNat];exact Nat.mod_eq_of_lt (by omega)
 have hle:(BitVec.ofNat 64 a&&& ~~~ BitVec.ofNat 64 b).toNat≤a:=by
  rw[BitVec.toNat_and,ha']
  exact Nat.and_le_left
 have hz:(BitVec.ofNat 64 a&&& ~~~ BitVec.ofNat 64 b).toNat=0↔a&&& b=a:=by
  constructor
  ·intro h
   have h0:BitVec.ofNat 64 a&&& ~~~ BitVec.ofNat 64 b=0#64:=BitVec.eq_of_toNat_eq (by rw[h];rfl)
   apply Nat.eq_of_testBit_eq
   intro i
   rw[Nat.testBit_and]
   by_cases hi:i<64
   ·have:=congrArg (fun z:BitVec 64=>z.getLsbD i) h0
    simp only[BitVec.getLsbD_and,BitVec.getLsbD_not,BitVec.getLsbD_ofNat,BitVec.getLsbD_zero,hi,decide_true,Bool.true_and]at this
    cases h5:a.testBit i<;>cases h6:b.testBit i<;>simp[h5,h6]at this ⊢
   ·have:a.testBit i=false:=Nat.testBit_lt_two_pow (Nat.lt_of_lt_of_le ha (Nat.le_trans (by decide:9223372036854775808≤2^64) (Nat.pow_le_pow_right (by omega) (by omega))))
    rw[this];rfl
  ·intro h
   have h0:BitVec.ofNat 64 a&&& ~~~ BitVec.ofNat 64 b=0#64:=by
    apply BitVec.eq_of_getLsbD_eq
    intro i hi
    have:=congrArg (fun z:Nat=>z.testBit i) h
    simp only[Nat.testBit_and]at this
    simp only[BitVec.getLsbD_and,BitVec.getLsbD_not,BitVec.getLsbD_ofNat,BitVec.getLsbD_zero,hi,decide_true,Bool.true_and]
    cases h5:a.testBit i<;>cases h6:b.testBit i<;>simp[h5,h6]at this ⊢
   rw[h0];rfl
 rw[e,wrap_i64 (by omega) (by omega)]
 by_cases h:a&&& b=a
 ·rw[decide_eq_true h,hz.2 h];rfl
 ·rw[decide_eq_false h,beq_eq_false_iff_ne]
  intro h2
  exact h (hz.1 (by omega))
theorem BA(k:Nat)(hk:k<32):IntKind.i64.wrap ((1:Int)*2^min (k:Int).toNat IntKind.i64.bits)=((2^k:Nat):Int):=by
 have h:min (k:Int).toNat IntKind.i64.bits=k:=Ah (by omega)
 have hp:2^k<2^32:=Nat.pow_lt_pow_right (by omega) hk
 have e:(2:Int)^k=((2^k:Nat):Int):=by norm_cast
 rw[h,Int.one_mul,e]
 generalize (2:Nat)^k=p at hp ⊢
 rw[wrap_i64]<;>omega
theorem Qx(k:Nat)(hk:k<32):IntKind.i64.wrap ((1:Int)*2^min k IntKind.i64.bits)=((2^k:Nat):Int):=BA k hk
theorem WU(z:Int)(h0:0≤z)(h1:z≤31):∃k:Nat,k<32∧z=(k:Int):=⟨z.toNat,by omega,by omega⟩
theorem KR(v k:Nat)(hv:v<4294967296)(hk:k<32):v|||2^k<4294967296:=
 Nat.or_lt_two_pow (n:=32) (by omega) (Nat.pow_lt_pow_right (by omega) hk)
def qa(v k:Nat):Bool:=(v / 2^k) % 2==1
theorem vl(v k:Nat):qa v k=v.testBit k:=by
 unfold qa
 rw[Nat.testBit_eq_decide_div_mod_eq,Bool.eq_iff_iff]
 simp
theorem aaw(v k:Nat)(hv:v<4294967296)(hk:k<32):kY ((v:Int),(k:Int),true,())=some (((v|||2^k:Nat):Int),()):=by
 have hh:=Uv v k hv hk
 have hu:IntKind.u64.wrap (k:Int)=(k:Int):=Qm (by omega)
 have hn:¬((k:Int)<0):=by omega
 have hp:2^k<2^32:=Nat.pow_lt_pow_right (by omega) hk
 have hx:=yS v (2^k) (by omega) (by omega)
 unfold kY
 simp only[hh,hu,hn,if_false,BA k hk,hx]
 have hb:(v / 2^k % 2==1)=v.testBit k:=vl v k
 rw[hb]
 cases h:v.testBit k with
 |true=>
  have:v|||2^k=v:=by
   apply Nat.eq_of_testBit_eq
   intro i
   rw[Nat.testBit_or,Nat.testBit_two_pow]
   by_cases hi:k=i
   ·subst hi;simp[h]
   ·simp[hi]
  rw[this]
  rfl
 |false=>
  have:v|||2^k=v^^^2^k:=by
   apply Nat.eq_of_testBit_eq
   intro i
   rw[Nat.testBit_or,Nat.testBit_xor,Nat.testBit_two_pow]
   by_cases hi:k=i
   ·subst hi;simp[h]
   ·simp[hi]
  rw[this]
  rfl
theorem ab5(v k:Nat)(hv:v<4294967296)(hk:k<32):O3 ((v:Int),(k:Int),())=some (qa v k,()):=by
 have hb:=Ak v k (by omega)
 unfold bt at hb
 have hn:¬((k:Int)<0):=by omega
 unfold O3 qa
 simp only[hn,if_false,Ah (show k≤64 by omega),hb]
 generalize v / 2^k=z
 have:(((z % 2:Nat):Int)==1)=(z % 2==1):=by
  rw[Bool.eq_iff_iff]
  simp
  omega
 rw[this]
def sx(v:Nat)(n:aL.T):Nat:=if n.2.2.2.1=true then v else v|||2^n.1.toNat
def dp(l:List aL.T):Nat:=l.foldl sx 0
theorem N2 {l:List aL.T}(h:iv l=true):l.length≤32∧∀n ∈ l,∃k:Nat,k<32∧n.1=(k:Int):=by
 unfold iv at h
 rw[Bool.and_eq_true,List.all_eq_true]at h
 refine⟨by have:=(bl.1 h.1).2;omega,fun n hn=> ?_⟩
 obtain⟨i,hi,rfl⟩:=List.getElem_of_mem hn
 have:=h.2 i (by simpa using hi)
 unfold wD yG at this
 simp only[List.getElem?_eq_getElem hi,Bool.and_eq_true,bl]at this
 obtain⟨⟨⟨h1,h2⟩,_⟩,_⟩:=this
 exact WU _ h1 h2
theorem Sl {l:List aL.T}(h:iv l=true):∀s,∀n ∈ l,s<4294967296→sx s n<4294967296:=by
 intro s n hn hs
 obtain⟨k,hk,e⟩:=(N2 h).2 n hn
 unfold sx
 split
 ·exact hs
 ·rw[e];exact KR s k hs hk
theorem E8 {l:List aL.T}(h:iv l=true):dp l<4294967296:=s5 (P:=fun s=>s<4294967296) l 0 (Sl h) (by omega)
theorem aax(l:List aL.T)(h:iv l=true):kN (l,())=some ((dp l:Int),()):=by
 have hid:=N2 h
 have e:=pZ (B:=fk) l (fun(s:Nat) i=>((s:Int),l,(l.length:Int),(i:Int),())) sx (fun s=>.inl ((s:Int),())) (fun s=>s<4294967296) (Sl h) (fun s _=>by simp only[fk,bQ]) (fun s i hi hs=>by
  obtain⟨k,hk,e⟩:=hid.2 _ (List.getElem_mem hi)
  have hn:¬((k:Int)<0):=by omega
  have hp:2^k<2^32:=Nat.pow_lt_pow_right (by omega) hk
  have ho:=WT s (2^k) (by omega) (by omega)
  simp only[fk,bH hi,a7 hi (show l.length≤1099511627776 by omega),aJ hi,ac,e,hn,if_false,Qx k hk,ho,sx,Int.toNat_natCast]
  cases l[i].2.2.2.1<;>rfl) l.length 0 0 (by omega) (by omega)
 have e':ak fk ((0:Int),l,(l.length:Int),(0:Int),())=_:=e
 unfold kN
 simp only[e',List.drop_zero]
 rfl
theorem Ux(l:List aL.T)(h:iv l=true):du (l,())=some ((dp l:Int),()):=by
 have hid:=N2 h
 have e:=pZ (B:=dv) l (fun(s:Nat) i=>(l,(s:Int),(i:Int),())) sx (fun s=>.inl ((s:Int),())) (fun s=>s<4294967296) (Sl h) (fun s _=>by simp only[dv,bQ]) (fun s i hi hs=>by
  obtain⟨k,hk,e⟩:=hid.2 _ (List.getElem_mem hi)
  have ho:=aaw s k hs hk
  simp only[dv,bH hi,a7 hi (show l.length≤1099511627776 by omega),aJ hi,ac,e,ho,sx,Int.toNat_natCast]
  cases l[i].2.2.2.1<;>rfl) l.length 0 0 (by omega) (by omega)
 have e':ak dv (l,(0:Int),(0:Int),())=_:=e
 unfold du
 simp only[e',List.drop_zero]
 rfl
theorem wF {v:az.T}(h:o9 v=true):∃k:Nat,k<32∧v.2.2.2.1.1=(k:Int):=by
 unfold o9 og at h
 simp only[Bool.and_eq_true,bl]at h
 obtain⟨h1,h2⟩:=h.2.2.2.1
 exact WU _ h1 h2
def pb(m:aA.T):Bool:=m.2.2.2.1.all (fun v=>qa (dp m.2.1) v.2.2.2.1.1.toNat)
theorem agM(m:aA.T)(hn:iv m.2.1=true)(hs:cT m.2.2.2.1=true):po (m,())=some (pb m,()):=by
 have hlen:=iJ hs
 have e:=l6 (B:=gL) m.2.2.2.1 (fun i=>(m,(dp m.2.1:Int),(i:Int),())) (fun v=>qa (dp m.2.1) v.2.2.2.1.1.toNat) (.inl ()) (.inr (false,())) (by simp only[gL,bQ]) (fun i h=>by
  obtain⟨k,hk,e⟩:=wF (jK hs _ (List.getElem_mem h))
  have hh:ph ((dp m.2.1:Int),(k:Int),())=some (qa (dp m.2.1) k,()):=Uv (dp m.2.1) k (E8 hn) hk
  simp only[gL,bH h,a7 h (show m.2.2.2.1.length≤1099511627776 by omega),aJ h,ac,e,hh,Int.toNat_natCast]
  cases qa (dp m.2.1) k<;>rfl)
 have e':ak gL ((m.1,m.2.1,m.2.2.1,m.2.2.2.1,()),(dp m.2.1:Int),(0:Int),())=_:=e
 unfold po pb
 simp only[Ux m.2.1 hn,e']
 cases m.2.2.2.1.all (fun v=>qa (dp m.2.1) v.2.2.2.1.1.toNat)<;>rfl
theorem agN(m:aA.T)(hn:iv m.2.1=true)(hs:cT m.2.2.2.1=true):cM (m.2.2.2.1,(fun z=>qh (z.1,(m.1,m.2.1,m.2.2.1,m.2.2.2.1,()),())),())=some (!pb m,()):=by
 have hlen:=iJ hs
 rw[yc m.2.2.2.1 (by omega) _ (fun v=> !qa (dp m.2.1) v.2.2.2.1.1.toNat) (fun i h=>by
  obtain⟨k,hk,e⟩:=wF (jK hs _ (List.getElem_mem h))
  have hh:=ab5 (dp m.2.1) k (E8 hn) hk
  unfold qh
  simp only[aax m.2.1 hn,e,hh,Int.toNat_natCast])]
 unfold pb
 rw[EY,Bool.not_not]
end Go.Proofs.YtnambbcafhnhpaaGreatDoor
namespace Go.Proofs.YtnambbcafhnhpaaGreatDoor
open Go.RowKit
set_option linter.unusedVariables false
set_option linter.unusedSimpArgs false
theorem F5 {S X O T:Type}{B:X→Option (X ⊕ O)}(l:List T)(e:S→Nat→X)(g:S→T→S)(fin:S→O)(P:Nat→S→Prop)(hP:∀i (h:i<l.length) s,P i s→P (i+1) (g s l[i]))(hend:∀s,B (e s l.length)=some (.inr (fin s)))
  (hstep:∀s i (h:i<l.length),P i s→B (e s i)=some (.inl (e (g s l[i]) (i+1)))):∀(n i:Nat) (s:S),i+n=l.length→P i s→ak B (e s i)=some (fin ((l.drop i).foldl g s))
 |0,i,s,hi,hs=>by
  have hi:i=l.length:=by omega
  subst hi
  rw[aw,hend s,List.drop_length]
  rfl
 |n+1,i,s,hi,hs=>by
  have h:i<l.length:=by omega
  rw[aw,hstep s i h hs,List.drop_eq_getElem_cons h]
  exact F5 l e g fin P hP hend hstep n (i+1) _ (by omega) (hP i h s hs)
theorem C0 {α:Type}(q:α→Bool):∀(l:List α) (i j:Nat),cn q i l=some j→∃(n:Nat) (h:n<l.length),j=i+n∧q l[n]=true
 | [],_,_,h=>by cases h
 |v::r,i,j,h=>by
  unfold cn at h
  cases hq:q v with
  |true=>
   rw[hq]at h
   cases h
   exact⟨0,by simp,by omega,hq⟩
  |false=>
   rw[hq]at h
   obtain⟨n,hn,e,h2⟩:=C0 q r (i+1) j h
   exact⟨n+1,by simpa using hn,by omega,by simpa using h2⟩
def F6(v:az.T):Int:=v.2.2.2.1.2.2.2.1
def KS(u v:az.T):Bool:=(u.1==v.1)&&(u.2.2.1==v.2.2.1)
def qv(u v:az.T):Bool:= !KS u v||(F6 u==F6 v)
def KT(l:List az.T)(i:Nat):Bool:=match l[i]? with
 |none=>false
 |some v=>(l.take i).all (qv v)
def Kl(l:List az.T):Bool:=(List.range l.length).all (KT l)
theorem ahr(m:aA.T)(hl:m.2.2.2.1.length≤1099511627776):m5 (m,())=some (Kl m.2.2.2.1,()):=by
 have inner:∀i (h:i<m.2.2.2.1.length),ak fi (m,(i:Int),(0:Int),())=some (if(m.2.2.2.1.take i).all (qv m.2.2.2.1[i])then .inl (m,(i:Int),())else .inr (false,())):=fun i h=>by
  have e:=l6 (B:=fi) (m.2.2.2.1.take i) (fun j=>(m,(i:Int),(j:Int),())) (qv m.2.2.2.1[i]) (.inl (m,(i:Int),())) (.inr (false,())) (by
   rw[List.length_take,Nat.min_eq_left (Nat.le_of_lt h)]
   simp only[fi,bQ]) (fun j hj=>by
   have hj':j<i:=by rw[List.length_take]at hj;omega
   have hjl:j<m.2.2.2.1.length:=by omega
   have hg:(m.2.2.2.1.take i)[j]=m.2.2.2.1[j]:=by simp
   rw[hg]
   simp only[fi,bH hj',a7 hjl hl,aJ hjl,aJ h,ac,iA,qv,KS,F6]
   generalize m.2.2.2.1[i]=u
   generalize m.2.2.2.1[j]=v
   rcases Bool.eq_false_or_eq_true (u.1==v.1)with h1|h1<;>simp only[h1,Bool.true_and,Bool.false_and,Bool.not_false,Bool.true_or,if_true]
   rcases Bool.eq_false_or_eq_true (u.2.2.1==v.2.2.1)with h2|h2<;>simp only[h2,Bool.not_true,Bool.not_false,Bool.true_or,Bool.false_or,if_true]
   have hne:(u.2.2.2.1.2.2.2.1 != v.2.2.2.1.2.2.2.1)= !(u.2.2.2.1.2.2.2.1==v.2.2.2.1.2.2.2.1):=rfl
   rw[hne]
   cases (u.2.2.2.1.2.2.2.1==v.2.2.2.1.2.2.2.1)<;>rfl)
  exact e
 have e:=iz (B:=fj) m.2.2.2.1.length (fun i=>(m,(i:Int),())) (KT m.2.2.2.1) (.inl ()) (.inr (false,())) (by simp only[fj,bQ]) (fun i h=>by
  simp only[fj,bH h,a7 h hl,inner i h,KT,List.getElem?_eq_getElem h]
  cases (m.2.2.2.1.take i).all (qv m.2.2.2.1[i])
  ·rfl
  ·show some (Sum.inl (m,IntKind.i64.wrap ((i:Int)+1),()))=some (.inl (m,((i+1:Nat):Int),()))
   rw[a7 h hl])
 have e':ak fj ((m.1,m.2.1,m.2.2.1,m.2.2.2.1,()),(0:Int),())=_:=e
 unfold m5 Kl
 simp only[e']
 cases (List.range m.2.2.2.1.length).all (KT m.2.2.2.1)<;>rfl
theorem Td:∀(ms:List aR.T) (i:Nat),(∀m ∈ ms,Qw m)→∀k ∈ kF i ms,∃a r s:Nat,k=iw (a:Int) (r:Int) (s:Int)∧r≤7∧s≤15∧iw (a:Int) 0 (s:Int) ∈ kF i ms
 | [],i,_,k,hk=>by simp[kF]at hk
 |m::ms,i,h,k,hk=>by
  simp only[kF,List.mem_append]at hk ⊢
  rcases hk with hk|hk
  ·have hm:=pY (h m (by simp))
   simp only[ln,List.mem_flatMap,List.mem_map,List.mem_range]at hk
   obtain⟨r,hr,s,hs,rfl⟩:=hk
   refine⟨i,r,s,rfl,by omega,by omega,.inl ?_⟩
   simp only[ln,List.mem_flatMap,List.mem_map,List.mem_range]
   exact⟨0,by omega,s,hs,rfl⟩
  ·obtain⟨a,r,s,e,h1,h2,h3⟩:=Td ms (i+1) (fun m hm=>h m (by simp[hm])) k hk
   exact⟨a,r,s,e,h1,h2,.inr h3⟩
theorem WV(m:aA.T)(hs:cT m.2.2.2.1=true)(hm:gy m.2.2.1=true)(hc:fx m=true):∀v ∈ m.2.2.2.1,∃(j:Nat) (h:j<m.2.2.2.1.length),cn (lH v.1 0 v.2.2.1) 0 m.2.2.2.1=some j∧lH v.1 0 v.2.2.1 m.2.2.2.1[j]=true:=by
 intro v hv
 have hmem:=jK hs
 have hvk:=vk (hmem v hv)
 have hK:m.2.2.2.1.map dI=kF 0 m.2.2.1:=by
  unfold fx at hc
  exact of_decide_eq_true hc
 have h1:dI v ∈ kF 0 m.2.2.1:=by rw[←hK];exact List.mem_map.2 ⟨v,hv,rfl⟩
 obtain⟨a,r,s,e,hr,hs',h2⟩:=Td _ 0 (gI hm).2 _ h1
 rw[←hK]at h2
 obtain⟨u,hu,e2⟩:=List.mem_map.1 h2
 have huk:=vk (hmem u hu)
 have hv0:lH (a:Int) (r:Int) (s:Int) v=true:=(KQ hvk ⟨by omega,by omega⟩ ⟨by omega,by omega⟩).2 e
 have hu0:lH (a:Int) 0 (s:Int) u=true:=(KQ huk ⟨by omega,by omega⟩ ⟨by omega,by omega⟩).2 e2
 have hva:v.1=(a:Int)∧v.2.2.1=(s:Int):=by
  unfold lH at hv0
  simp only[Bool.and_eq_true,beq_iff_eq]at hv0
  exact⟨hv0.1,hv0.2.2⟩
 have hx:m.2.2.2.1.any (lH v.1 0 v.2.2.1)=true:=List.any_eq_true.2 ⟨u,hu,by rw[hva.1,hva.2];exact hu0⟩
 rw[←kE (lH v.1 0 v.2.2.1) 0 m.2.2.2.1]at hx
 obtain⟨j,hj⟩:=Option.isSome_iff_exists.1 hx
 obtain⟨n,hn,e3,h4⟩:=C0 _ _ _ _ hj
 have:j=n:=by omega
 subst this
 exact⟨j,hn,hj,h4⟩
def sy(l:List az.T)(v:az.T):Bool:=match cn (lH v.1 0 v.2.2.1) 0 l with
 |none=>false
 |some j=>match l[j]? with
  |none=>false
  |some u=>F6 v==F6 u
theorem adE(m:aA.T)(hs:cT m.2.2.2.1=true)(hm:gy m.2.2.1=true)(hc:fx m=true):tS (m,())=some (m.2.2.2.1.all (sy m.2.2.2.1),()):=by
 have hlen:=iJ hs
 have e:=l6 (B:=iY) m.2.2.2.1 (fun i=>(m,m.2.2.2.1,(m.2.2.2.1.length:Int),(i:Int),())) (sy m.2.2.2.1) (.inl ()) (.inr (false,())) (by simp only[iY,bQ]) (fun i h=>by
  obtain⟨j,hj,h1,h2⟩:=WV m hs hm hc _ (List.getElem_mem h)
  have hf:qj (m.2.2.2.1,m.2.2.2.1[i].1,(0:Int),m.2.2.2.1[i].2.2.1,())=some ((j:Int),()):=by
   rw[Y5 _ _ _ _ (by omega)]
   unfold vF
   rw[h1]
  simp only[iY,bH h,a7 h (show m.2.2.2.1.length≤1099511627776 by omega),aJ h,ac,hf,aJ hj,iA,cY,sy,h1,List.getElem?_eq_getElem hj,F6]
  have hne:(m.2.2.2.1[i].2.2.2.1.2.2.2.1 != m.2.2.2.1[j].2.2.2.1.2.2.2.1)= !(m.2.2.2.1[i].2.2.2.1.2.2.2.1==m.2.2.2.1[j].2.2.2.1.2.2.2.1):=rfl
  rw[hne]
  cases (m.2.2.2.1[i].2.2.2.1.2.2.2.1==m.2.2.2.1[j].2.2.2.1.2.2.2.1)<;>rfl)
 have e':ak iY ((m.1,m.2.1,m.2.2.1,m.2.2.2.1,()),m.2.2.2.1,(m.2.2.2.1.length:Int),(0:Int),())=_:=e
 unfold tS
 simp only[e']
 cases m.2.2.2.1.all (sy m.2.2.2.1)<;>rfl
theorem adF {u v:az.T}(h:qv u v=true):qv v u=true:=by
 unfold qv KS at h ⊢
 simp only[Bool.or_eq_true,Bool.not_eq_true',Bool.and_eq_false_iff,beq_iff_eq,beq_eq_false_iff_ne]at h ⊢
 rcases h with(h|h)|h
 ·exact .inl (.inl fun e=>h e.symm)
 ·exact .inl (.inr fun e=>h e.symm)
 ·exact .inr h.symm
theorem afd {l:List az.T}:Kl l=true↔∀u ∈ l,∀v ∈ l,qv u v=true:=by
 unfold Kl
 rw[List.all_eq_true]
 constructor
 ·intro h
  have key:∀i j (hi:i<l.length) (hj:j<i),qv l[i] l[j]=true:=fun i j hi hj=>by
   have:=h i (by simpa using hi)
   unfold KT at this
   simp only[List.getElem?_eq_getElem hi,List.all_eq_true]at this
   exact this _ (List.mem_take_iff_getElem.2 ⟨j,by omega,rfl⟩)
  intro u hu v hv
  obtain⟨i,hi,rfl⟩:=List.getElem_of_mem hu
  obtain⟨j,hj,rfl⟩:=List.getElem_of_mem hv
  rcases Nat.lt_trichotomy i j with h1|h1|h1
  ·exact adF (key j i hj h1)
  ·subst h1
   unfold qv
   simp
  ·exact key i j hi h1
 ·intro h i hi
  have hi:i<l.length:=by simpa using hi
  unfold KT
  simp only[List.getElem?_eq_getElem hi,List.all_eq_true]
  exact fun v hv=>h _ (List.getElem_mem hi) v (List.mem_of_mem_take hv)
theorem aay(m:aA.T)(hs:cT m.2.2.2.1=true)(hm:gy m.2.2.1=true)(hc:fx m=true):m.2.2.2.1.all (sy m.2.2.2.1)=Kl m.2.2.2.1:=by
 have hf:=WV m hs hm hc
 rw[Bool.eq_iff_iff,afd,List.all_eq_true]
 constructor
 ·intro h u hu v hv
  unfold qv
  cases hsm:KS u v with
  |false=>rfl
  |true=>
   unfold KS at hsm
   simp only[Bool.and_eq_true,beq_iff_eq]at hsm
   obtain⟨j,hj,h1,h2⟩:=hf u hu
   have hu':=h u hu
   have hv':=h v hv
   unfold sy at hu' hv'
   rw[←hsm.1,←hsm.2]at hv'
   simp only[h1,List.getElem?_eq_getElem hj,beq_iff_eq]at hu' hv'
   rw[hu',hv']
   simp
 ·intro h v hv
  obtain⟨j,hj,h1,h2⟩:=hf v hv
  unfold sy
  simp only[h1,List.getElem?_eq_getElem hj]
  have h3:=h v hv _ (List.getElem_mem hj)
  unfold lH at h2
  simp only[Bool.and_eq_true,beq_iff_eq]at h2
  unfold qv KS at h3
  rw[h2.1,h2.2.2]at h3
  simpa using h3
def adG(k:Int)(a:Int)(v:az.T):Int:=if(v.1==k)=true then IntKind.i64.wrap (a+F6 v)else a
def Sm(l:List az.T)(k:Int):Int:=l.foldl (adG k) 0
theorem ahs(m:aA.T)(k:Int)(hl:m.2.2.2.1.length≤1099511627776):tI (m,k,())=some (Sm m.2.2.2.1 k,()):=by
 have e:=F5 (B:=iW) m.2.2.2.1 (fun(s:Int) i=>(k,m,s,(i:Int),())) (adG k) (fun s=>.inl (s,())) (fun _ _=>True) (fun _ _ _ _=>trivial) (fun s=>by simp only[iW,bQ]) (fun s i h _=>by
  simp only[iW,bH h,a7 h hl,aJ h,ac,adG,F6]
  cases (m.2.2.2.1[i].1==k)<;>rfl) m.2.2.2.1.length 0 0 (by omega) trivial
 have e':ak iW (k,(m.1,m.2.1,m.2.2.1,m.2.2.2.1,()),(0:Int),(0:Int),())=_:=e
 unfold tI
 simp only[e']
 rfl
theorem aht(m:aA.T)(k:Int)(hl:m.2.2.2.1.length≤1000):∃l,rm (m,k,())=some (l,())∧qk (l,())=some (Sm m.2.2.2.1 k,()):=by
 have e:=F5 (B:=ik) m.2.2.2.1 (fun(s:List az.T) i=>(k,s,m.2.2.2.1,(m.2.2.2.1.length:Int),(i:Int),())) (fun s v=>if(v.1==k)=true then s++ [v]else s) (fun s=>.inl (s,())) (fun i s=>s.length≤i) (fun i h s hs=>by
  show List.length (if _ then _ else _)≤_
  split
  ·simp;omega
  ·omega) (fun s=>by simp only[ik,bQ]) (fun s i h hs=>by
  simp only[ik,bH h,a7 h (show m.2.2.2.1.length≤1099511627776 by omega),aJ h,ac]
  cases (m.2.2.2.1[i].1==k)
  ·rfl
  ·simp only
   rw[aU (by simp;omega)]
   rfl) m.2.2.2.1.length 0 [] (by omega) (by simp)
 have e':ak ik (k,([]:List az.T),m.2.2.2.1,(m.2.2.2.1.length:Int),(0:Int),())=_:=e
 have hflt:∀(l acc:List az.T),l.foldl (fun s v=>if(v.1==k)=true then s++ [v]else s) acc=acc++l.filter (fun v=>v.1==k):=by
  intro l
  induction l with
  |nil=>intro acc;simp
  |cons v l ih=>
   intro acc
   rw[List.foldl_cons,ih,List.filter_cons]
   split<;>simp
 refine⟨m.2.2.2.1.filter (fun v=>v.1==k), ?_, ?_⟩
 ·unfold rm
  simp only[e',List.drop_zero,hflt,List.nil_append]
 ·have hle:=List.length_filter_le (fun v:az.T=>v.1==k) m.2.2.2.1
  generalize hq:m.2.2.2.1.filter (fun v=>v.1==k)=q at hle
  have e2:=F5 (B:=fo) q (fun(s:Int) i=>(s,q,(q.length:Int),(i:Int),())) (fun s v=>IntKind.i64.wrap (s+F6 v)) (fun s=>.inl (s,())) (fun _ _=>True) (fun _ _ _ _=>trivial) (fun s=>by simp only[fo,bQ]) (fun s i h _=>by
   simp only[fo,bH h,a7 h (show q.length≤1099511627776 by omega),aJ h,ac]
   rfl) q.length 0 0 (by omega) trivial
  have e2':ak fo ((0:Int),q,(q.length:Int),(0:Int),())=_:=e2
  unfold qk Sm
  simp only[e2',List.drop_zero]
  rw[←hq,List.foldl_filter]
  rfl
def oM(l:List az.T)(k:Nat):Bool:= !decide (Sm l (k:Int)>32000)
theorem afe(m:aA.T)(hl:m.2.2.2.1.length≤1000)(hn:m.2.2.1.length≤1000):wi (m,())=some ((List.range m.2.2.1.length).all (oM m.2.2.2.1),()):=by
 have e:=iz (B:=kj) m.2.2.1.length (fun i=>(m,(m.2.2.1.length:Int),(i:Int),())) (oM m.2.2.2.1) (.inl ()) (.inr (false,())) (by simp only[kj,bQ]) (fun i h=>by
  obtain⟨l,h1,h2⟩:=aht m (i:Int) hl
  have h1:rm ((m.1,m.2.1,m.2.2.1,m.2.2.2.1,()),(i:Int),())=some (l,()):=h1
  simp only[kj,bH h,a7 h (show m.2.2.1.length≤1099511627776 by omega),h1,h2,oM]
  rcases Bool.eq_false_or_eq_true (decide (Sm m.2.2.2.1 (i:Int)>32000))with g|g<;>simp only[g]<;>rfl)
 have e':ak kj ((m.1,m.2.1,m.2.2.1,m.2.2.2.1,()),(m.2.2.1.length:Int),(0:Int),())=_:=e
 unfold wi
 simp only[e']
 cases (List.range m.2.2.1.length).all (oM m.2.2.2.1)<;>rfl
theorem aff(m:aA.T)(hl:m.2.2.2.1.length≤1000)(hn:m.2.2.1.length≤1000):ak eV (m,(0:Int),())=some (if(List.range m.2.2.1.length).all (oM m.2.2.2.1)=true then .inl (m,())else .inr ((8:Int),())):=
 iz (B:=eV) m.2.2.1.length (fun i=>(m,(i:Int),())) (oM m.2.2.2.1) (.inl (m,())) (.inr ((8:Int),())) (by simp only[eV,bQ]) (fun i h=>by
  have h1:tI ((m.1,m.2.1,m.2.2.1,m.2.2.2.1,()),(i:Int),())=_:=ahs m (i:Int) (by omega)
  simp only[eV,bH h,a7 h (show m.2.2.1.length≤1099511627776 by omega),h1,oM]
  rcases Bool.eq_false_or_eq_true (decide (Sm m.2.2.2.1 (i:Int)>32000))with g|g<;>simp only[g]<;>rfl)
def vG(v:az.T):Bool:=if(v.2.2.2.1.2.1==(3:Int))=true then v.1 != (0:Int)else false
theorem agO(l:List az.T)(hl:l.length≤1000):cM (l,qi,())=some (l.any vG,()):=
 yc l (by omega) _ vG (fun i h=>by
  unfold qi vG
  cases (l[i].2.2.2.1.2.1==(3:Int))<;>rfl)
theorem agP(m:aA.T)(hl:m.2.2.2.1.length≤1000):ak dM (m,(0:Int),())=some (if m.2.2.2.1.any vG=true then .inr ((10:Int),())else .inl ()):=by
 have e:=l6 (B:=dM) m.2.2.2.1 (fun i=>(m,(i:Int),())) (fun v=> !vG v) (.inl ()) (.inr ((10:Int),())) (by simp only[dM,bQ]) (fun i h=>by
  simp only[dM,bH h,a7 h (show m.2.2.2.1.length≤1099511627776 by omega),aJ h,ac,vG]
  rcases Bool.eq_false_or_eq_true (m.2.2.2.1[i].2.2.2.1.2.1==(3:Int))with g|g<;>simp only[g]
  ·rcases Bool.eq_false_or_eq_true (m.2.2.2.1[i].1 != (0:Int))with g2|g2<;>simp only[g2]<;>rfl
  ·rfl)
 have e':ak dM (m,(0:Int),())=_:=e
 rw[e',EY]
 simp only[Bool.not_not]
 cases m.2.2.2.1.any vG<;>rfl
end Go.Proofs.YtnambbcafhnhpaaGreatDoor
namespace Go.Proofs.YtnambbcafhnhpaaGreatDoor
open Go.RowKit
set_option linter.unusedVariables false
set_option linter.unusedSimpArgs false
def Km(i r:Int)(s:Nat)(v:az.T):Nat:=if(v.1==i)=true then(if(v.2.1==r)=true then s|||2^v.2.2.2.1.1.toNat else s)else s
def vm(l:List az.T)(i r:Int):Nat:=l.foldl (Km i r) 0
theorem Sn {l:List az.T}(h:cT l=true)(i r:Int):∀s,∀v ∈ l,s<4294967296→Km i r s v<4294967296:=by
 intro s v hv hs
 obtain⟨k,hk,e⟩:=wF (jK h v hv)
 unfold Km
 split
 ·split
  ·rw[e];exact KR s k hs hk
  ·exact hs
 ·exact hs
theorem afg {l:List az.T}(h:cT l=true)(i r:Int):vm l i r<4294967296:=s5 (P:=fun s=>s<4294967296) l 0 (Sn h i r) (by omega)
theorem afh(m:aA.T)(hd:pb m=true)(i r:Int):∀k,(vm m.2.2.2.1 i r).testBit k=true→(dp m.2.1).testBit k=true:=by
 unfold pb at hd
 rw[List.all_eq_true]at hd
 refine s5 (P:=fun s=>∀k,Nat.testBit s k=true→(dp m.2.1).testBit k=true) m.2.2.2.1 0 ?_ (by simp)
 intro s v hv hs k hk
 unfold Km at hk
 have hv':=hd v hv
 rw[vl]at hv'
 split at hk
 ·split at hk
  ·rw[Nat.testBit_or,Nat.testBit_two_pow,Bool.or_eq_true]at hk
   rcases hk with hk|hk
   ·exact hs k hk
   ·have:=of_decide_eq_true hk
    rw[←this]
    exact hv'
  ·exact hs k hk
 ·exact hs k hk
theorem agQ(m:aA.T)(hd:pb m=true)(i r:Int):decide (dp m.2.1&&& vm m.2.2.2.1 i r=dp m.2.1)=decide (vm m.2.2.2.1 i r=dp m.2.1):=by
 have hs:=afh m hd i r
 rw[decide_eq_decide]
 constructor
 ·intro h
  apply Nat.eq_of_testBit_eq
  intro k
  have:=congrArg (fun z:Nat=>z.testBit k) h
  simp only[Nat.testBit_and]at this
  cases h1:(vm m.2.2.2.1 i r).testBit k with
  |true=>rw[hs k h1]
  |false=>
   rw[h1,Bool.and_false]at this
   exact this
 ·intro h
  rw[h,Nat.and_self]
theorem ahu(m:aA.T)(hs:cT m.2.2.2.1=true)(a i r:Int):ak d9 (m,a,i,r,(0:Int),(0:Int),())=some (.inl (m,a,i,r,(vm m.2.2.2.1 i r:Int),())):=by
 have hlen:=iJ hs
 have e:=pZ (B:=d9) m.2.2.2.1 (fun(s:Nat) j=>(m,a,i,r,(s:Int),(j:Int),())) (Km i r) (fun s=>.inl (m,a,i,r,(s:Int),())) (fun s=>s<4294967296) (Sn hs i r) (fun s _=>by simp only[d9,bQ]) (fun s j hj hv=>by
  obtain⟨k,hk,e⟩:=wF (jK hs _ (List.getElem_mem hj))
  have ho:=aaw s k hv hk
  simp only[d9,bH hj,a7 hj (show m.2.2.2.1.length≤1099511627776 by omega),aJ hj,ac,e,ho,Km,Int.toNat_natCast]
  rcases Bool.eq_false_or_eq_true (m.2.2.2.1[j].1==i)with g|g<;>simp only[g]
  ·rcases Bool.eq_false_or_eq_true (m.2.2.2.1[j].2.1==r)with g2|g2<;>simp only[g2]<;>rfl
  ·rfl) m.2.2.2.1.length 0 0 (by omega) (by omega)
 have e':ak d9 (m,a,i,r,(0:Int),(0:Int),())=_:=e
 rw[e',List.drop_zero]
 rfl
theorem ahv(m:aA.T)(hs:cT m.2.2.2.1=true)(i r:Int)(ms:List aR.T)(n i2 R r2:Int):ak gD (m,i,r,(0:Int),ms,n,i2,R,r2,m.2.2.2.1,(m.2.2.2.1.length:Int),(0:Int),())=some (.inl (m,i,(vm m.2.2.2.1 i r:Int),ms,n,i2,R,r2,())):=by
 have hlen:=iJ hs
 have e:=pZ (B:=gD) m.2.2.2.1 (fun(s:Nat) j=>(m,i,r,(s:Int),ms,n,i2,R,r2,m.2.2.2.1,(m.2.2.2.1.length:Int),(j:Int),())) (Km i r) (fun s=>.inl (m,i,(s:Int),ms,n,i2,R,r2,())) (fun s=>s<4294967296) (Sn hs i r) (fun s _=>by simp only[gD,bQ]) (fun s j hj hv=>by
  obtain⟨k,hk,e⟩:=wF (jK hs _ (List.getElem_mem hj))
  have hn:¬((k:Int)<0):=by omega
  have hp:2^k<2^32:=Nat.pow_lt_pow_right (by omega) hk
  have ho:=WT s (2^k) (by omega) (by omega)
  simp only[gD,bH hj,a7 hj (show m.2.2.2.1.length≤1099511627776 by omega),aJ hj,ac,e,hn,if_false,Qx k hk,ho,Km,Int.toNat_natCast]
  rcases Bool.eq_false_or_eq_true (m.2.2.2.1[j].1==i)with g|g<;>simp only[g]
  ·rcases Bool.eq_false_or_eq_true (m.2.2.2.1[j].2.1==r)with g2|g2<;>simp only[g2]<;>rfl
  ·rfl) m.2.2.2.1.length 0 0 (by omega) (by omega)
 have e':ak gD (m,i,r,(0:Int),ms,n,i2,R,r2,m.2.2.2.1,(m.2.2.2.1.length:Int),(0:Int),())=_:=e
 rw[e',List.drop_zero]
 rfl
def qw(m:aA.T)(i:Nat)(r:Nat):Bool:=decide (vm m.2.2.2.1 (i:Int) (r:Int)=dp m.2.1)
def sz(m:aA.T)(i:Nat):Bool:=match m.2.2.1[i]? with
 |none=>false
 |some v=>(List.range v.1.toNat).all (qw m i)
def vn(m:aA.T):Bool:=(List.range m.2.2.1.length).all (sz m)
theorem agR(a b:Nat):((a:Int) != (b:Int))= !decide (a=b):=by
 by_cases h:a=b
 ·subst h;simp
 ·rw[decide_eq_false h]
  simp
  omega
theorem adH(m:aA.T)(hn:iv m.2.1=true)(hm:gy m.2.2.1=true)(hs:cT m.2.2.2.1=true):rk (m,())=some (vn m,()):=by
 obtain⟨hl16,hg⟩:=gI hm
 have inner:∀i (hi:i<m.2.2.1.length),ak f4 (m,(dp m.2.1:Int),(i:Int),(0:Int),())=some (if(List.range m.2.2.1[i].1.toNat).all (qw m i)=true then .inl (m,(dp m.2.1:Int),(i:Int),())else .inr (false,())):=fun i hi=>by
  have hgi:=pY (hg _ (List.getElem_mem hi))
  have e:=iz (B:=f4) m.2.2.1[i].1.toNat (fun r=>(m,(dp m.2.1:Int),(i:Int),(r:Int),())) (qw m i) (.inl (m,(dp m.2.1:Int),(i:Int),())) (.inr (false,())) (by
   simp only[f4,aJ hi,ac]
   have:decide ((m.2.2.1[i].1.toNat:Int)<m.2.2.1[i].1)=false:=by rw[←hgi.2.2.1];exact decide_eq_false (Int.lt_irrefl _)
   rw[this]) (fun r hr=>by
   have hlt:decide ((r:Int)<m.2.2.1[i].1)=true:=by rw[hgi.2.2.1];exact bH hr
   have hv:ak d9 ((m.1,m.2.1,m.2.2.1,m.2.2.2.1,()),(dp m.2.1:Int),(i:Int),(r:Int),(0:Int),(0:Int),())=_:=ahu m hs (dp m.2.1:Int) (i:Int) (r:Int)
   simp only[f4,aJ hi,ac,hlt,hv,agR,qw,a7 hr (show m.2.2.1[i].1.toNat≤1099511627776 by have:=hgi.1.2;omega)]
   rcases Bool.eq_false_or_eq_true (decide (vm m.2.2.2.1 (i:Int) (r:Int)=dp m.2.1))with g|g<;>simp only[g]<;>rfl)
  exact e
 have e:=iz (B:=ij) m.2.2.1.length (fun i=>(m,(dp m.2.1:Int),(i:Int),())) (sz m) (.inl ()) (.inr (false,())) (by simp only[ij,bQ]) (fun i hi=>by
  have h6:ak f4 ((m.1,m.2.1,m.2.2.1,m.2.2.2.1,()),(dp m.2.1:Int),(i:Int),(0:Int),())=_:=inner i hi
  simp only[ij,bH hi,h6,sz,List.getElem?_eq_getElem hi]
  rcases Bool.eq_false_or_eq_true ((List.range m.2.2.1[i].1.toNat).all (qw m i))with g|g<;>simp only[g,if_true,a7 hi (show m.2.2.1.length≤1099511627776 by omega)]<;>rfl)
 have e':ak ij ((m.1,m.2.1,m.2.2.1,m.2.2.2.1,()),(dp m.2.1:Int),(0:Int),())=_:=e
 unfold rk vn
 simp only[Ux m.2.1 hn,e']
 cases (List.range m.2.2.1.length).all (sz m)<;>rfl
theorem adI(m:aA.T)(hn:iv m.2.1=true)(hm:gy m.2.2.1=true)(hs:cT m.2.2.2.1=true)(hd:pb m=true):wj (m,())=some (vn m,()):=by
 obtain⟨hl16,hg⟩:=gI hm
 have inner:∀i (hi:i<m.2.2.1.length),ak iG (m,(i:Int),m.2.2.1,(m.2.2.1.length:Int),(i:Int),m.2.2.1[i].1,(0:Int),())=some (if(List.range m.2.2.1[i].1.toNat).all (qw m i)=true then .inl (m,m.2.2.1,(m.2.2.1.length:Int),(i:Int),())else .inr (false,())):=fun i hi=>by
  have hgi:=pY (hg _ (List.getElem_mem hi))
  have e:=iz (B:=iG) m.2.2.1[i].1.toNat (fun r=>(m,(i:Int),m.2.2.1,(m.2.2.1.length:Int),(i:Int),m.2.2.1[i].1,(r:Int),())) (qw m i) (.inl (m,m.2.2.1,(m.2.2.1.length:Int),(i:Int),())) (.inr (false,())) (by
   have:decide ((m.2.2.1[i].1.toNat:Int)<m.2.2.1[i].1)=false:=by rw[←hgi.2.2.1];exact decide_eq_false (Int.lt_irrefl _)
   simp only[iG,this]) (fun r hr=>by
   have hlt:decide ((r:Int)<m.2.2.1[i].1)=true:=by rw[hgi.2.2.1];exact bH hr
   have hv:ak gD ((m.1,m.2.1,m.2.2.1,m.2.2.2.1,()),(i:Int),(r:Int),(0:Int),m.2.2.1,(m.2.2.1.length:Int),(i:Int),m.2.2.1[i].1,(r:Int),m.2.2.2.1,(m.2.2.2.1.length:Int),(0:Int),())=_:=ahv m hs (i:Int) (r:Int) m.2.2.1 (m.2.2.1.length:Int) (i:Int) m.2.2.1[i].1 (r:Int)
   have hz:=Mq (dp m.2.1) (vm m.2.2.2.1 (i:Int) (r:Int)) (by have:=E8 hn;omega) (by have:=afg hs (i:Int) (r:Int);omega)
   rw[agQ m hd]at hz
   have hz':(bits BinOp.andNot .i64 (dp m.2.1:Int) (vm m.2.2.2.1 (i:Int) (r:Int):Int) != 0)= !decide (vm m.2.2.2.1 (i:Int) (r:Int)=dp m.2.1):=by rw[←hz];rfl
   simp only[iG,hlt,hv,aax m.2.1 hn,hz',qw,a7 hr (show m.2.2.1[i].1.toNat≤1099511627776 by have:=hgi.1.2;omega)]
   rcases Bool.eq_false_or_eq_true (decide (vm m.2.2.2.1 (i:Int) (r:Int)=dp m.2.1))with g|g<;>simp only[g]<;>rfl)
  exact e
 have e:=iz (B:=kk) m.2.2.1.length (fun i=>(m,m.2.2.1,(m.2.2.1.length:Int),(i:Int),())) (sz m) (.inl ()) (.inr (false,())) (by simp only[kk,bQ]) (fun i hi=>by
  have h6:ak iG ((m.1,m.2.1,m.2.2.1,m.2.2.2.1,()),(i:Int),m.2.2.1,(m.2.2.1.length:Int),(i:Int),m.2.2.1[i].1,(0:Int),())=_:=inner i hi
  simp only[kk,bH hi,aJ hi,ac,h6,sz,List.getElem?_eq_getElem hi]
  rcases Bool.eq_false_or_eq_true ((List.range m.2.2.1[i].1.toNat).all (qw m i))with g|g<;>simp only[g,if_true,a7 hi (show m.2.2.1.length≤1099511627776 by omega)]<;>rfl)
 have e':ak kk ((m.1,m.2.1,m.2.2.1,m.2.2.2.1,()),m.2.2.1,(m.2.2.1.length:Int),(0:Int),())=_:=e
 unfold wj vn
 simp only[e']
 cases (List.range m.2.2.1.length).all (sz m)<;>rfl
def ex(m:aA.T):Prop:=m.2.1.length≤1099511627776∧(∀v ∈ m.2.1,v.2.1.length≤1099511627776)∧m.2.2.1.length≤1099511627776∧(∀v ∈ m.2.2.1,v.2.2.1.length≤1099511627776)∧m.2.2.2.1.length≤1099511627776
noncomputable def Ap(m:aA.T):Int:=
 if bf m.1 1 16777215=false then 1 else if iv m.2.1=false then 2 else if gy m.2.2.1=false then 3 else if cT m.2.2.2.1=false then 4 else
 if fx m=false then 5 else if pb m=false then 6 else if Kl m.2.2.2.1=false then 7 else if(List.range m.2.2.1.length).all (oM m.2.2.2.1)=false then 8 else
 if vn m=false then 9 else if m.2.2.2.1.any vG=true then 10 else 0
theorem afi(m:aA.T)(hz:ex m):pq (m,())=some (Ap m,()):=by
 unfold pq Ap
 simp only[lG,aeZ m.2.1 hz.1 hz.2.1,ae3 m.2.2.1 hz.2.2.1 hz.2.2.2.1,ae9 m.2.2.2.1 hz.2.2.2.2]
 rcases Bool.eq_false_or_eq_true (bf m.1 1 16777215)with h1|h1<;>simp only[h1,Bool.not_true,Bool.not_false,if_true,if_false,Bool.true_eq_false]
 rcases Bool.eq_false_or_eq_true (iv m.2.1)with h2|h2<;>simp only[h2,Bool.not_true,Bool.not_false,if_true,if_false,Bool.true_eq_false]
 rcases Bool.eq_false_or_eq_true (gy m.2.2.1)with h3|h3<;>simp only[h3,Bool.not_true,Bool.not_false,if_true,if_false,Bool.true_eq_false]
 rcases Bool.eq_false_or_eq_true (cT m.2.2.2.1)with h4|h4<;>simp only[h4,Bool.not_true,Bool.not_false,if_true,if_false,Bool.true_eq_false]
 have hl:=iJ h4
 have hn:=(gI h3).1
 have f5:om ((m.1,m.2.1,m.2.2.1,m.2.2.2.1,()),())=_:=aav m h4 h3
 have f6:po ((m.1,m.2.1,m.2.2.1,m.2.2.2.1,()),())=_:=agM m h2 h4
 have f7:m5 ((m.1,m.2.1,m.2.2.1,m.2.2.2.1,()),())=_:=ahr m hz.2.2.2.2
 have f8:ak eV ((m.1,m.2.1,m.2.2.1,m.2.2.2.1,()),(0:Int),())=_:=aff m (by omega) (by omega)
 have f9:rk ((m.1,m.2.1,m.2.2.1,m.2.2.2.1,()),())=_:=adH m h2 h3 h4
 have f10:ak dM ((m.1,m.2.1,m.2.2.1,m.2.2.2.1,()),(0:Int),())=_:=agP m (by omega)
 simp only[f5,f6,f7,f8]
 rcases Bool.eq_false_or_eq_true (fx m)with h5|h5<;>simp only[h5,Bool.not_true,Bool.not_false,if_true,if_false,Bool.true_eq_false]
 rcases Bool.eq_false_or_eq_true (pb m)with h6|h6<;>simp only[h6,Bool.not_true,Bool.not_false,if_true,if_false,Bool.true_eq_false]
 rcases Bool.eq_false_or_eq_true (Kl m.2.2.2.1)with h7|h7<;>simp only[h7,Bool.not_true,Bool.not_false,if_true,if_false,Bool.true_eq_false]
 rcases Bool.eq_false_or_eq_true ((List.range m.2.2.1.length).all (oM m.2.2.2.1))with h8|h8<;>simp only[h8,Bool.not_true,Bool.not_false,if_true,if_false,Bool.true_eq_false,Bool.false_eq_true,f9,f10]
 rcases Bool.eq_false_or_eq_true (vn m)with h9|h9<;>simp only[h9,Bool.not_true,Bool.not_false,if_true,if_false,Bool.true_eq_false]
 rcases Bool.eq_false_or_eq_true (m.2.2.2.1.any vG)with h10|h10<;>simp only[h10,if_true,if_false,Bool.false_eq_true]
theorem afj(m:aA.T)(hz:ex m):pD (m,())=some (Ap m,()):=by
 unfold pD Ap
 simp only[oV,ae0 m.2.1 hz.1,ae4 m.2.2.1 hz.2.2.1 hz.2.2.2.1,afa m.2.2.2.1 hz.2.2.2.2]
 rcases Bool.eq_false_or_eq_true (bf m.1 1 16777215)with h1|h1<;>simp only[h1,Bool.not_true,Bool.not_false,if_true,if_false,Bool.true_eq_false]
 rcases Bool.eq_false_or_eq_true (iv m.2.1)with h2|h2<;>simp only[h2,Bool.not_true,Bool.not_false,if_true,if_false,Bool.true_eq_false]
 rcases Bool.eq_false_or_eq_true (gy m.2.2.1)with h3|h3<;>simp only[h3,Bool.not_true,Bool.not_false,if_true,if_false,Bool.true_eq_false]
 rcases Bool.eq_false_or_eq_true (cT m.2.2.2.1)with h4|h4<;>simp only[h4,Bool.not_true,Bool.not_false,if_true,if_false,Bool.true_eq_false]
 have hl:=iJ h4
 have hn:=(gI h3).1
 have f5:pB ((m.1,m.2.1,m.2.2.1,m.2.2.2.1,()),())=_:=aau m h4 h3
 have f6:=agN m h2 h4
 have f8:wi ((m.1,m.2.1,m.2.2.1,m.2.2.2.1,()),())=_:=afe m (by omega) (by omega)
 have f10:=agO m.2.2.2.1 (by omega)
 simp only[f5]
 rcases Bool.eq_false_or_eq_true (fx m)with h5|h5<;>simp only[h5,Bool.not_true,Bool.not_false,if_true,if_false,Bool.true_eq_false]
 have f7:tS ((m.1,m.2.1,m.2.2.1,m.2.2.2.1,()),())=_:=adE m h4 h3 h5
 rw[aay m h4 h3 h5]at f7
 simp only[f6,f7,f8]
 rcases Bool.eq_false_or_eq_true (pb m)with h6|h6<;>simp only[h6,Bool.not_true,Bool.not_false,if_true,if_false,Bool.true_eq_false]
 have f9:wj ((m.1,m.2.1,m.2.2.1,m.2.2.2.1,()),())=_:=adI m h2 h3 h4 h6
 simp only[f9,f10]
 rcases Bool.eq_false_or_eq_true (Kl m.2.2.2.1)with h7|h7<;>simp only[h7,Bool.not_true,Bool.not_false,if_true,if_false,Bool.true_eq_false]
 rcases Bool.eq_false_or_eq_true ((List.range m.2.2.1.length).all (oM m.2.2.2.1))with h8|h8<;>simp only[h8,Bool.not_true,Bool.not_false,if_true,if_false,Bool.true_eq_false]
 rcases Bool.eq_false_or_eq_true (vn m)with h9|h9<;>simp only[h9,Bool.not_true,Bool.not_false,if_true,if_false,Bool.true_eq_false]
 rcases Bool.eq_false_or_eq_true (m.2.2.2.1.any vG)with h10|h10<;>simp only[h10,if_true,if_false,Bool.false_eq_true]
noncomputable def bK(m:aA.T):Bool:=Ap m==0
theorem ab6(m:aA.T)(hz:ex m):pr (m,())=some (bK m,()):=by
 have h:pq ((m.1,m.2.1,m.2.2.1,m.2.2.2.1,()),())=_:=afi m hz
 unfold pr bK
 simp only[h]
theorem Qy(m:aA.T)(hz:ex m):la (m,())=some (bK m,()):=by
 have h:pD ((m.1,m.2.1,m.2.2.1,m.2.2.2.1,()),())=_:=afj m hz
 unfold la bK
 simp only[h]
theorem kG {m:aA.T}(h:bK m=true):(1≤m.1∧m.1≤16777215)∧iv m.2.1=true∧gy m.2.2.1=true∧cT m.2.2.2.1=true∧fx m=true:=by
 unfold bK Ap at h
 rcases Bool.eq_false_or_eq_true (bf m.1 1 16777215)with h1|h1
 ·rcases Bool.eq_false_or_eq_true (iv m.2.1)with h2|h2
  ·rcases Bool.eq_false_or_eq_true (gy m.2.2.1)with h3|h3
   ·rcases Bool.eq_false_or_eq_true (cT m.2.2.2.1)with h4|h4
    ·rcases Bool.eq_false_or_eq_true (fx m)with h5|h5
     ·exact⟨bl.1 h1,h2,h3,h4,h5⟩
     ·simp[h1,h2,h3,h4,h5]at h
    ·simp[h1,h2,h3,h4]at h
   ·simp[h1,h2,h3]at h
  ·simp[h1,h2]at h
 ·simp[h1]at h
end Go.Proofs.YtnambbcafhnhpaaGreatDoor
namespace Go.Proofs.YtnambbcafhnhpaaGreatDoor
open Go.RowKit
set_option linter.unusedVariables false
set_option linter.unusedSimpArgs false
noncomputable def bc(m:aA.T)(st:ao.T):Bool:=co st&&(match m.2.2.1[st.2.1.toNat]? with
 |none=>false
 |some v=>decide (st.2.2.1<v.1)&&(decide (st.2.2.2.1<v.2.1)&&decide (st.2.2.2.2.1.toNat&&& dp m.2.1=st.2.2.2.2.1.toNat)))
theorem Aq {st:ao.T}(h:co st=true):∃a b c d:Nat,st.2.1=(a:Int)∧st.2.2.1=(b:Int)∧st.2.2.2.1=(c:Int)∧st.2.2.2.2.1=(d:Int)∧a≤15∧b≤15∧c≤255∧d≤4294967295:=by
 unfold co at h
 simp only[Bool.and_eq_true,bl]at h
 obtain⟨⟨⟨⟨h1,h2⟩,h3⟩,h4⟩,h5⟩:=h
 have key:∀(z:Int) (n:Nat),0≤z→z≤(n:Int)→∃k:Nat,z=(k:Int)∧k≤n:=fun z n h0 h1=>⟨z.toNat,by omega,by omega⟩
 obtain⟨a,ea,ha⟩:=key _ 15 h2.1 h2.2
 obtain⟨b,eb,hb⟩:=key _ 15 h3.1 h3.2
 obtain⟨c,ec,hc⟩:=key _ 255 h4.1 h4.2
 obtain⟨d,ed,hd⟩:=key _ 4294967295 h5.1 h5.2
 exact⟨a,b,c,d,ea,eb,ec,ed,ha,hb,hc,hd⟩
theorem ahw(m:aA.T)(st:ao.T)(h:bK m=true):pO (m,st,())=some (bc m st,()):=by
 obtain⟨_,hn,hm,hs,_⟩:=kG h
 have hl16:=(gI hm).1
 have hst:nG ((st.1,st.2.1,st.2.2.1,st.2.2.2.1,st.2.2.2.2.1,()),())=some (co st,()):=YS (st,())
 unfold pO bc JG
 simp only[hst,lG,Ux m.2.1 hn]
 rcases Bool.eq_false_or_eq_true (co st)with h1|h1<;>simp only[h1,Bool.not_true,Bool.not_false,Bool.true_and,Bool.false_and]
 obtain⟨a,b,c,d,ea,eb,ec,ed,ha,hb,hc,hd⟩:=Aq h1
 rw[ea,eb,ec,ed]
 have hw:IntKind.i64.wrap ((m.2.2.1.length:Int)-1)=(m.2.2.1.length:Int)-1:=by rw[wrap_i64]<;>omega
 have hand:=yR d (dp m.2.1) (by omega) (by have:=E8 hn;omega)
 have hbe:(((d&&& dp m.2.1:Nat):Int)==(d:Int))=decide (d&&& dp m.2.1=d):=by
  by_cases h:d&&& dp m.2.1=d
  ·rw[decide_eq_true h,h];simp
  ·rw[decide_eq_false h,beq_eq_false_iff_ne];omega
 simp only[hw,hand,hbe,Int.toNat_natCast]
 by_cases hal:a<m.2.2.1.length
 ·have hin:bf (a:Int) 0 ((m.2.2.1.length:Int)-1)=true:=bl.2 ⟨by omega,by omega⟩
  simp only[hin,Bool.not_true,aJ hal,ac,List.getElem?_eq_getElem hal]
  have n1:decide ((b:Int)≥m.2.2.1[a].1)= !decide ((b:Int)<m.2.2.1[a].1):=by
   by_cases g:(b:Int)<m.2.2.1[a].1
   ·rw[decide_eq_true g,decide_eq_false (Int.not_le.2 g)];rfl
   ·rw[decide_eq_false g,decide_eq_true (Int.not_lt.1 g)];rfl
  have n2:decide ((c:Int)≥m.2.2.1[a].2.1)= !decide ((c:Int)<m.2.2.1[a].2.1):=by
   by_cases g:(c:Int)<m.2.2.1[a].2.1
   ·rw[decide_eq_true g,decide_eq_false (Int.not_le.2 g)];rfl
   ·rw[decide_eq_false g,decide_eq_true (Int.not_lt.1 g)];rfl
  simp only[n1,n2]
  rcases Bool.eq_false_or_eq_true (decide ((b:Int)<m.2.2.1[a].1))with g1|g1<;>simp only[g1,Bool.not_true,Bool.not_false,Bool.true_and,Bool.false_and]
  rcases Bool.eq_false_or_eq_true (decide ((c:Int)<m.2.2.1[a].2.1))with g2|g2<;>simp only[g2,Bool.not_true,Bool.not_false,Bool.true_and,Bool.false_and]
 ·have hin:bf (a:Int) 0 ((m.2.2.1.length:Int)-1)=false:=by
   rw[Bool.eq_false_iff]
   intro g
   have:=bl.1 g
   omega
  simp only[hin,Bool.not_false,List.getElem?_eq_none (Nat.not_lt.1 hal)]
theorem Uy(m:aA.T)(st:ao.T)(h:bK m=true):lX (m,st,())=some (bc m st,()):=by
 obtain⟨_,hn,hm,hs,_⟩:=kG h
 have hst:gU ((st.1,st.2.1,st.2.2.1,st.2.2.2.1,st.2.2.2.2.1,()),())=some (co st,()):=KM (st,())
 unfold lX bc
 simp only[hst,aax m.2.1 hn]
 rcases Bool.eq_false_or_eq_true (co st)with h1|h1<;>simp only[h1,Bool.not_true,Bool.not_false,Bool.true_and,Bool.false_and]
 obtain⟨a,b,c,d,ea,eb,ec,ed,ha,hb,hc,hd⟩:=Aq h1
 rw[ea,eb,ec,ed]
 have hz:=Mq d (dp m.2.1) (by omega) (by have:=E8 hn;omega)
 simp only[hz,Int.toNat_natCast]
 by_cases hal:a<m.2.2.1.length
 ·have hin:decide ((a:Int)≥(m.2.2.1.length:Int))=false:=decide_eq_false (by omega)
  simp only[hin,aJ hal,ac,List.getElem?_eq_getElem hal]
  rcases Bool.eq_false_or_eq_true (decide ((b:Int)<m.2.2.1[a].1))with g1|g1<;>simp only[g1,Bool.true_and,Bool.false_and]
  rcases Bool.eq_false_or_eq_true (decide ((c:Int)<m.2.2.1[a].2.1))with g2|g2<;>simp only[g2,Bool.true_and,Bool.false_and]
 ·have hin:decide ((a:Int)≥(m.2.2.1.length:Int))=true:=decide_eq_true (by omega)
  simp only[hin,List.getElem?_eq_none (Nat.not_lt.1 hal)]
theorem WW:∀(ms:List aR.T) (i j:Nat) (h:j<ms.length) (r s:Nat),r<ms[j].1.toNat→s<ms[j].2.1.toNat→iw ((i+j:Nat):Int) (r:Int) (s:Int) ∈ kF i ms
 |m::ms,i,0,h,r,s,hr,hs=>by
  simp only[kF,List.mem_append]
  left
  simp only[ln,List.mem_flatMap,List.mem_map,List.mem_range]
  exact⟨r,hr,s,hs,rfl⟩
 |m::ms,i,j+1,h,r,s,hr,hs=>by
  simp only[kF,List.mem_append]
  right
  have:=WW ms (i+1) j (by simpa using h) r s hr hs
  have e:i+1+j=i+(j+1):=by omega
  rw[e]at this
  exact this
theorem Y6(m:aA.T)(st:ao.T)(h:bK m=true)(hb:bc m st=true):∃(j:Nat) (hj:j<m.2.2.2.1.length),vF m.2.2.2.1 st.2.1 st.2.2.1 st.2.2.2.1=(j:Int):=by
 obtain⟨_,hn,hm,hs,hc⟩:=kG h
 have hg:=(gI hm).2
 unfold bc at hb
 rw[Bool.and_eq_true]at hb
 obtain⟨a,b,c,d,ea,eb,ec,ed,ha,hb',hc',hd⟩:=Aq hb.1
 have hb2:=hb.2
 rw[ea,eb,ec,ed]at hb2
 rw[ea,eb,ec]
 rw[Int.toNat_natCast]at hb2
 by_cases hal:a<m.2.2.1.length
 ·simp only[List.getElem?_eq_getElem hal,Bool.and_eq_true,decide_eq_true_eq]at hb2
  have hgi:=pY (hg _ (List.getElem_mem hal))
  obtain⟨h1,h2,_⟩:=hb2
  rw[hgi.2.2.1]at h1
  rw[hgi.2.2.2]at h2
  have h1:b<m.2.2.1[a].1.toNat:=Int.ofNat_lt.1 h1
  have h2:c<m.2.2.1[a].2.1.toNat:=Int.ofNat_lt.1 h2
  have hk:=WW m.2.2.1 0 a hal b c h1 h2
  rw[Nat.zero_add]at hk
  have hK:m.2.2.2.1.map dI=kF 0 m.2.2.1:=by
   unfold fx at hc
   exact of_decide_eq_true hc
  rw[←hK]at hk
  have hq:=WS (l:=m.2.2.2.1) (fun v hv=>vk (jK hs v hv)) (a:=(a:Int)) (b:=(b:Int)) (c:=(c:Int)) ⟨by omega,by have:=hgi.1.2;omega⟩ ⟨by omega,by have:=hgi.2.1.2;omega⟩
  rw[decide_eq_true hk]at hq
  unfold vF at hq ⊢
  cases hf:cn (lH (a:Int) (b:Int) (c:Int)) 0 m.2.2.2.1 with
  |none=>rw[hf]at hq;cases hq
  |some j=>
   obtain⟨n,hn,e,_⟩:=C0 _ _ _ _ hf
   have:j=n:=by omega
   subst this
   exact⟨j,hn,rfl⟩
 ·simp only[List.getElem?_eq_none (Nat.not_lt.1 hal)]at hb2
  cases hb2
def cp(m:aA.T)(st:ao.T):cq.T:=match m.2.2.2.1[(vF m.2.2.2.1 st.2.1 st.2.2.1 st.2.2.2.1).toNat]? with
 |none=>((0:Int),(0:Int),(0:Int),(0:Int),false,())
 |some v=>v.2.2.2.1
theorem fL(m:aA.T)(st:ao.T)(h:bK m=true)(hb:bc m st=true):dJ (m,st,())=some (cp m st,())∧aN (m,st,())=some (cp m st,())∧og (cp m st)=true:=by
 obtain⟨_,hn,hm,hs,hc⟩:=kG h
 have hlen:=iJ hs
 obtain⟨j,hj,e⟩:=Y6 m st h hb
 have h1:=Y4 m.2.2.2.1 st.2.1 st.2.2.1 st.2.2.2.1 (by omega)
 have h2:=Y5 m.2.2.2.1 st.2.1 st.2.2.1 st.2.2.2.1 (by omega)
 have h3:=jK hs _ (List.getElem_mem hj)
 unfold dJ aN cp
 simp only[h1,h2,e,aJ hj,ac,Int.toNat_natCast,List.getElem?_eq_getElem hj]
 refine⟨trivial,trivial, ?_⟩
 unfold o9 at h3
 simp only[Bool.and_eq_true]at h3
 exact h3.2.2.2
def lE(d:cq.T)(f:bp.T):Bool:=(f.1==d.2.1)&&(((f.2.2.2.1.length:Int)==d.2.2.1)&&((f.2.1==(0:Int))||d.2.2.2.2.1))
theorem Y7(x):zH x=some (lE x.1 x.2.1,()):=by
 unfold zH lE
 rcases Bool.eq_false_or_eq_true (x.2.1.1==x.1.2.1)with h1|h1<;>simp only[h1,Bool.true_and,Bool.false_and]
 rcases Bool.eq_false_or_eq_true ((x.2.1.2.2.2.1.length:Int)==x.1.2.2.1)with h2|h2<;>simp only[h2,Bool.true_and,Bool.false_and]
 rcases Bool.eq_false_or_eq_true (x.2.1.2.1==(0:Int))with h3|h3<;>simp only[h3,Bool.true_or,Bool.false_or]
theorem Y8(d:cq.T)(f:bp.T)(hd:og d=true)(hf:bZ f=true)(hl:f.2.2.2.1.length≤1099511627776):em (d,f,())=some (lE d f,()):=by
 have h1:fF ((d.1,d.2.1,d.2.2.1,d.2.2.2.1,d.2.2.2.2.1,()),())=some (true,()):=by
  rw[←hd];exact WM (d,())
 have h2:dt ((f.1,f.2.1,(f.2.2.1.1,f.2.2.1.2.1,f.2.2.1.2.2.1,f.2.2.1.2.2.2.1,f.2.2.1.2.2.2.2.1,()),f.2.2.2.1,()),())=some (true,()):=by
  rw[←hf];exact Sh (f,()) hl
 unfold em lE
 simp only[h1,h2]
 rcases Bool.eq_false_or_eq_true (f.1==d.2.1)with h1|h1<;>simp only[h1,Bool.true_and,Bool.false_and]
 rcases Bool.eq_false_or_eq_true ((f.2.2.2.1.length:Int)==d.2.2.1)with h2|h2<;>simp only[h2,Bool.true_and,Bool.false_and]
 rcases Bool.eq_false_or_eq_true d.2.2.2.2.1 with h3|h3<;>simp only[h3,Bool.or_true,Bool.or_false]
theorem Kn {l:List Int}(h:(cV l).2=true):bZ (cV l).1=true:=by
 cases l with
 |nil=>cases h
 |cons b r=>
  have fin:∀st q,(vi (b::r) b st q).2=true→bZ (vi (b::r) b st q).1=true:=fun st q h=>by
   unfold vi at h ⊢
   split at h
   ·split at h
    ·cases h
    ·simp only[wB,Bool.and_eq_true]at h
     exact h.1
   ·simp only[wB,Bool.and_eq_true]at h
    exact h.1
  simp only[cV]at h ⊢
  split at h
  ·split at h
   ·cases h
   ·exact fin _ _ h
  ·exact fin _ _ h
theorem s6 {f:bp.T}(h:bZ f=true):f.2.2.2.1.length≤32:=by
 unfold bZ at h
 simp only[Bool.and_eq_true]at h
 have hd:=h.2.2.1
 unfold kw at hd
 split at hd
 ·have:=bl.1 hd;omega
 ·split at hd
  ·have:=bl.1 hd;omega
  ·have:(f.2.2.2.1.length:Int)=0:=by simpa using hd
   omega
theorem So {l:List Int}{r:Nat}{st:ao.T}(h:iu l r st=true):(cV (aH l)).2=true:=by
 unfold iu at h
 split at h
 ·cases h
 ·simp only[Bool.and_eq_true]at h
  exact h.2.2.1
noncomputable def ut(m:aA.T)(st:ao.T)(l:List Int):cP.T:=match iu l m.1.toNat st&&lE (cp m st) (cV (aH l)).1 with
 |true=>((3:Int),(cV (aH l)).1,())
 |false=>((2:Int),dX,())
theorem vo {m:aA.T}(h:bK m=true):∃r:Nat,m.1=(r:Int)∧r<16777216:=by
 obtain⟨⟨h1,h2⟩,_⟩:=kG h
 have key:∀z:Int,1≤z→z≤16777215→∃r:Nat,z=(r:Int)∧r<16777216:=fun z a b=>⟨z.toNat,by omega,by omega⟩
 exact key m.1 h1 h2
theorem adJ(m:aA.T)(st:ao.T)(l:List Int)(h:bK m=true)(hb:bc m st=true)(hl:l.length≤10000)(hv:∀v ∈ l,0≤v∧v≤255):∃c:Int,D2 (m,st,l,())=some (ut m st l,c,()):=by
 obtain⟨r,er,hr⟩:=vo h
 have hst:co st=true:=by unfold bc at hb;rw[Bool.and_eq_true]at hb;exact hb.1
 obtain⟨c,hc,ho⟩:=agB l r st hl hv hr hst
 obtain⟨_,hd,_⟩:=fL m st h hb
 have ho':rr (l,(r:Int),(st.1,st.2.1,st.2.2.1,st.2.2.2.1,st.2.2.2.2.1,()),())=_:=ho
 have hd':aN ((m.1,m.2.1,m.2.2.1,m.2.2.2.1,()),(st.1,st.2.1,st.2.2.1,st.2.2.2.1,st.2.2.2.2.1,()),())=_:=hd
 unfold D2 ut
 rw[er]at hd'
 simp only[er,ho',hd',Y7,Int.toNat_natCast]
 rcases Bool.eq_false_or_eq_true (iu l r st)with h1|h1
 ·simp only[h1,if_true,Bool.true_and]
  have hz:((0:Int)==0)=true:=rfl
  have hfe:lE (cp m st) ((cV (aH l)).1.1,(cV (aH l)).1.2.1,((cV (aH l)).1.2.2.1.1,(cV (aH l)).1.2.2.1.2.1,(cV (aH l)).1.2.2.1.2.2.1,(cV (aH l)).1.2.2.1.2.2.2.1,(cV (aH l)).1.2.2.1.2.2.2.2.1,()),(cV (aH l)).1.2.2.2.1,())=lE (cp m st) (cV (aH l)).1:=rfl
  simp only[hz,hfe]
  rcases Bool.eq_false_or_eq_true (lE (cp m st) (cV (aH l)).1)with h2|h2
  ·exact⟨0,by simp only[h2];rfl⟩
  ·exact⟨5,by simp only[h2];rfl⟩
 ·have hz:(c==0)=false:=by simpa using hc
  have hz2:(c != 0)=true:=by simpa using hc
  simp only[h1,Bool.false_eq_true,if_false,Bool.false_and,hz,hz2]
  exact⟨c,rfl⟩
theorem adK(m:aA.T)(st:ao.T)(l:List Int)(h:bK m=true)(hb:bc m st=true)(hl:l.length≤10000)(hv:∀v ∈ l,0≤v∧v≤255):∃c:Int,um (m,st,l,())=some (ut m st l,c,()):=by
 obtain⟨r,er,hr⟩:=vo h
 have hst:co st=true:=by unfold bc at hb;rw[Bool.and_eq_true]at hb;exact hb.1
 obtain⟨c,hc,ho⟩:=agA l r st hl hv hr hst
 obtain⟨hd,_,hdc⟩:=fL m st h hb
 have ho':sY (l,(r:Int),(st.1,st.2.1,st.2.2.1,st.2.2.2.1,st.2.2.2.2.1,()),())=_:=ho
 have hd':dJ ((m.1,m.2.1,m.2.2.1,m.2.2.2.1,()),(st.1,st.2.1,st.2.2.1,st.2.2.2.1,st.2.2.2.2.1,()),())=_:=hd
 unfold um ut
 rw[er]at hd'
 simp only[er,ho',hd',Int.toNat_natCast]
 rcases Bool.eq_false_or_eq_true (iu l r st)with h1|h1
 ·have hz:((0:Int)==0)=true:=rfl
  have hfr:=Kn (So h1)
  have hfe:em (cp m st,((cV (aH l)).1.1,(cV (aH l)).1.2.1,((cV (aH l)).1.2.2.1.1,(cV (aH l)).1.2.2.1.2.1,(cV (aH l)).1.2.2.1.2.2.1,(cV (aH l)).1.2.2.1.2.2.2.1,(cV (aH l)).1.2.2.1.2.2.2.2.1,()),(cV (aH l)).1.2.2.2.1,()),())=some (lE (cp m st) (cV (aH l)).1,()):=Y8 _ _ hdc hfr (Nat.le_trans (s6 hfr) (by omega))
  simp only[h1,if_true,Bool.true_and,hz,hfe]
  rcases Bool.eq_false_or_eq_true (lE (cp m st) (cV (aH l)).1)with h2|h2
  ·exact⟨0,by simp only[h2];rfl⟩
  ·exact⟨5,by simp only[h2];rfl⟩
 ·have hz:(c==0)=false:=by simpa using hc
  have hz2:(c != 0)=true:=by simpa using hc
  simp only[h1,Bool.false_eq_true,if_false,Bool.false_and,hz,hz2]
  exact⟨c,rfl⟩
noncomputable def gb(m:aA.T)(st:ao.T)(l:List Int):cP.T:=if(dd l).2.1=0 then ut m st (dd l).1 else if(dd l).2.1=4 then((0:Int),dX,())else((1:Int),dX,())
theorem agS(m:aA.T)(st:ao.T)(l:List Int)(h:bK m=true)(hb:bc m st=true)(hl:cG l=true):∃c:Int,wv (m,st,l,())=some (gb m st l,c,()):=by
 obtain⟨h1,h2⟩:=Ql (dS hl)
 obtain⟨c,hj⟩:=adJ m st (dd l).1 h hb (by omega) h2
 have hj':D2 ((m.1,m.2.1,m.2.2.1,m.2.2.2.1,()),(st.1,st.2.1,st.2.2.1,st.2.2.2.1,st.2.2.2.2.1,()),(dd l).1,())=_:=hj
 unfold wv gb
 simp only[abO hl,hj']
 by_cases h0:(dd l).2.1=0
 ·have g:((dd l).2.1==0)=true:=by rw[h0];rfl
  simp only[g,if_pos h0]
  exact⟨c,rfl⟩
 ·have g:((dd l).2.1==0)=false:=by simpa using h0
  simp only[g,if_neg h0]
  by_cases h4:(dd l).2.1=4
  ·have g4:((dd l).2.1==4)=true:=by rw[h4];rfl
   simp only[g4,if_pos h4]
   exact⟨_,rfl⟩
  ·have g4:((dd l).2.1==4)=false:=by simpa using h4
   simp only[g4,if_neg h4]
   exact⟨_,rfl⟩
theorem ab7(m:aA.T)(st:ao.T)(l:List Int)(h:bK m=true)(hb:bc m st=true)(hl:cG l=true):∃c:Int,ip (m,st,l,())=some (gb m st l,c,()):=by
 obtain⟨h1,h2⟩:=Ql (dS hl)
 obtain⟨c,hj⟩:=adK m st (dd l).1 h hb (by omega) h2
 have hj':um ((m.1,m.2.1,m.2.2.1,m.2.2.2.1,()),(st.1,st.2.1,st.2.2.1,st.2.2.2.1,st.2.2.2.2.1,()),(dd l).1,())=_:=hj
 unfold ip gb
 simp only[ady hl,hj']
 by_cases h0:(dd l).2.1=0
 ·have g:((dd l).2.1==0)=true:=by rw[h0];rfl
  simp only[g,if_pos h0]
  exact⟨c,rfl⟩
 ·have g:((dd l).2.1==0)=false:=by simpa using h0
  simp only[g,if_neg h0]
  by_cases h4:(dd l).2.1=4
  ·have g4:((dd l).2.1==4)=true:=by rw[h4];rfl
   simp only[g4,if_pos h4]
   exact⟨_,rfl⟩
  ·have g4:((dd l).2.1==4)=false:=by simpa using h4
   simp only[g4,if_neg h4]
   exact⟨_,rfl⟩
noncomputable def ka(m:aA.T)(st:ao.T)(l:List Int):cP.T×Int×Unit:=match bK m with
 |false=>(((0:Int),dX,()),(1:Int),())
 |true=>match bc m st with
  |false=>(((0:Int),dX,()),(2:Int),())
  |true=>match cG l with
   |false=>(((0:Int),dX,()),(2:Int),())
   |true=>(gb m st l,(0:Int),())
theorem Te(m:aA.T)(st:ao.T)(l:List Int)(hz:ex m)(hl:l.length≤1099511627776):gM (m,st,l,())=some (ka m st l):=by
 have hM:la ((m.1,m.2.1,m.2.2.1,m.2.2.2.1,()),())=_:=Qy m hz
 unfold gM xa ej ka
 simp only[Qj l hl,hM]
 rcases Bool.eq_false_or_eq_true (bK m)with h1|h1<;>simp only[h1,Bool.not_true,Bool.not_false]
 ·have hB:lX ((m.1,m.2.1,m.2.2.1,m.2.2.2.1,()),(st.1,st.2.1,st.2.2.1,st.2.2.2.1,st.2.2.2.2.1,()),())=_:=Uy m st h1
  simp only[hB]
  rcases Bool.eq_false_or_eq_true (bc m st)with h2|h2<;>simp only[h2,Bool.not_true,Bool.not_false]
  ·rcases Bool.eq_false_or_eq_true (cG l)with h3|h3<;>simp only[h3,Bool.not_true,Bool.not_false]
   ·obtain⟨c,hr⟩:=agS m st l h1 h2 h3
    have hr':wv ((m.1,m.2.1,m.2.2.1,m.2.2.2.1,()),(st.1,st.2.1,st.2.2.1,st.2.2.2.1,st.2.2.2.2.1,()),l,())=_:=hr
    simp only[hr']
    rfl
   ·rfl
  ·rfl
 ·rfl
end Go.Proofs.YtnambbcafhnhpaaGreatDoor
namespace Go.Proofs.YtnambbcafhnhpaaGreatDoor
open Go.RowKit
set_option linter.unusedVariables false
set_option linter.unusedSimpArgs false
abbrev aaz(v:cP.T):List Int:=v.2.1.2.2.2.1
theorem Yi(x)(h:x.1.2.2.2.1.length≤1099511627776):wA x=some (cU x.1 x.2.1,()):=by
 have hs:cw (x.1.2.2.2.1,x.2.1.2.2.2.1,())=_:=abQ x.1.2.2.2.1 x.2.1.2.2.2.1 h
 have e0:wA x=match(x.1.1==x.2.1.1)with
  |true=>match(x.1.2.1==x.2.1.2.1)with
   |true=>match et ao x.1.2.2.1 x.2.1.2.2.1 with
    |true=>match cw (x.1.2.2.2.1,x.2.1.2.2.2.1,())with
     |none=>none
     |some v1=>some (v1.1,())
    |false=>some (false,())
   |false=>some (false,())
  |false=>some (false,()):=rfl
 rw[e0,hs]
 unfold cU
 rcases Bool.eq_false_or_eq_true (x.1.1==x.2.1.1)with h1|h1<;>rcases Bool.eq_false_or_eq_true (x.1.2.1==x.2.1.2.1)with h2|h2<;>rcases Bool.eq_false_or_eq_true (et ao x.1.2.2.1 x.2.1.2.2.1)with h3|h3<;>simp only[h1,h2,h3]<;>rfl
theorem WX(x)(h:x.1.2.2.2.1.length≤1099511627776):ru x=some (cU x.1 x.2.1,()):=by
 have hs:bW (x.1.2.2.2.1,x.2.1.2.2.2.1,())=_:=WE x.1.2.2.2.1 x.2.1.2.2.2.1 h
 have e0:ru x=match(x.1.1==x.2.1.1)with
  |true=>match(x.1.2.1==x.2.1.2.1)with
   |true=>match et ao x.1.2.2.1 x.2.1.2.2.1 with
    |true=>match bW (x.1.2.2.2.1,x.2.1.2.2.2.1,())with
     |none=>none
     |some v1=>some (v1.1,())
    |false=>some (false,())
   |false=>some (false,())
  |false=>some (false,()):=rfl
 rw[e0,hs]
 unfold cU
 rcases Bool.eq_false_or_eq_true (x.1.1==x.2.1.1)with h1|h1<;>rcases Bool.eq_false_or_eq_true (x.1.2.1==x.2.1.2.1)with h2|h2<;>rcases Bool.eq_false_or_eq_true (et ao x.1.2.2.1 x.2.1.2.2.1)with h3|h3<;>simp only[h1,h2,h3]<;>rfl
theorem Un(x)(h:x.1.2.1.2.2.2.1.length≤1099511627776):ov x=some (ir x.1 x.2.1,()):=by
 have e0:ov x=match(x.1.1==x.2.1.1)with
  |true=>match ru (x.1.2.1,x.2.1.2.1,())with
   |none=>none
   |some v1=>some (v1.1,())
  |false=>some (false,()):=rfl
 rw[e0,WX (x.1.2.1,x.2.1.2.1,()) h]
 unfold ir
 rcases Bool.eq_false_or_eq_true (x.1.1==x.2.1.1)with h1|h1<;>simp only[h1]<;>rfl
theorem rB(x y:ao.T):et ao x y=true↔x=y:=by
 obtain⟨(a:Int),(b:Int),(c:Int),(d:Int),(e:Int),⟨⟩⟩:=x
 obtain⟨(a':Int),(b':Int),(c':Int),(d':Int),(e':Int),⟨⟩⟩:=y
 have h:et ao (a,b,c,d,e,()) (a',b',c',d',e',())=((a==a')&&((b==b')&&((c==c')&&((d==d')&&((e==e')&&true))))):=rfl
 rw[h]
 simp only[Bool.and_eq_true,beq_iff_eq,and_true]
 constructor
 ·rintro ⟨rfl,rfl,rfl,rfl,rfl⟩;rfl
 ·intro h
  cases h
  exact⟨rfl,rfl,rfl,rfl,rfl⟩
theorem HD(x y:bp.T):cU x y=true↔x=y:=by
 obtain⟨(a:Int),(b:Int),c,(d:List Int),⟨⟩⟩:=x
 obtain⟨(a':Int),(b':Int),c',(d':List Int),⟨⟩⟩:=y
 have h:cU (a,b,c,d,()) (a',b',c',d',())=((a==a')&&((b==b')&&(et ao c c'&&decide (d=d')))):=rfl
 rw[h]
 simp only[Bool.and_eq_true,beq_iff_eq,rB,decide_eq_true_eq]
 constructor
 ·rintro ⟨rfl,rfl,rfl,rfl⟩;rfl
 ·intro h
  cases h
  exact⟨rfl,rfl,rfl,rfl⟩
def gJ(s:Int):cP.T:=(s,dX,())
theorem oG {v:cP.T}(h:jg v=true):(∃f,v=((3:Int),f,())∧bZ f=true)∨(∃s:Int,v=gJ s∧0≤s∧s≤4∧s≠3):=by
 obtain⟨(s:Int),f,⟨⟩⟩:=v
 have h:(if s==(3:Int)then bZ f else bf s 0 4&&cU f dX)=true:=h
 by_cases hs:s=3
 ·subst hs
  exact .inl ⟨f,rfl,by simpa using h⟩
 ·have hb:(s==(3:Int))=false:=by simp[hs]
  rw[hb]at h
  simp only[Bool.false_eq_true,if_false,Bool.and_eq_true,HD]at h
  obtain⟨h1,rfl⟩:=h
  have:=bl.1 h1
  exact .inr ⟨s,rfl,this.1,this.2,hs⟩
theorem KU {s:Int}(h0:0≤s)(h4:s≤4)(h3:s≠3):jg (gJ s)=true:=by
 have e:jg (gJ s)=if s==(3:Int)then bZ dX else bf s 0 4&&cU dX dX:=rfl
 have hb:(s==(3:Int))=false:=by simp[h3]
 rw[e,hb,(HD dX dX).2 rfl,bl.2 ⟨h0,h4⟩]
 rfl
noncomputable def lp(a b:cP.T):cP.T:=if(a.1==(3:Int))&&((b.1==(3:Int))&&cU a.2.1 b.2.1)then a else if((a.1==(3:Int))&&(b.1==(3:Int)))||((a.1==(4:Int))||(b.1==(4:Int)))then gJ 4 else if a.1==(3:Int)then a else if b.1==(3:Int)then b else gJ (if b.1>a.1 then b.1 else a.1)
noncomputable def Ar(a b:cP.T):cP.T:=if(a.1==(3:Int))&&ir a b then a else if((a.1==(3:Int))&&(b.1==(3:Int)))||((a.1==(4:Int))||(b.1==(4:Int)))then gJ 4 else if decide (a.1≥b.1)then a else b
theorem afk(a b:cP.T)(h:(aaz a).length≤1099511627776):nX (a,b,())=some (lp a b,()):=by
 have hs:wA (a.2.1,b.2.1,())=some (cU a.2.1 b.2.1,()):=Yi _ h
 obtain⟨(s:Int),⟨(k:Int),(r:Int),⟨(t1:Int),(t2:Int),(t3:Int),(t4:Int),(t5:Int),⟨⟩⟩,(d:List Int),⟨⟩⟩,⟨⟩⟩:=a
 obtain⟨(s':Int),⟨(k':Int),(r':Int),⟨(u1:Int),(u2:Int),(u3:Int),(u4:Int),(u5:Int),⟨⟩⟩,(d':List Int),⟨⟩⟩,⟨⟩⟩:=b
 unfold nX lp
 simp only at hs ⊢
 rw[hs]
 rcases Bool.eq_false_or_eq_true (s==(3:Int))with h1|h1<;>rcases Bool.eq_false_or_eq_true (s'==(3:Int))with h2|h2<;>rcases Bool.eq_false_or_eq_true (s==(4:Int))with h3|h3<;>rcases Bool.eq_false_or_eq_true (s'==(4:Int))with h4|h4<;>(try (rcases Bool.eq_false_or_eq_true (cU (k,r,(t1,t2,t3,t4,t5,()),d,()) (k',r',(u1,u2,u3,u4,u5,()),d',()))with h5|h5))<;>simp only[h1,h2,h3,h4,h5]<;>rfl
theorem aaA(a b:cP.T)(h:(aaz a).length≤1099511627776):KK (a,b,())=some (Ar a b,()):=by
 have hs:ov (a,b,())=some (ir a b,()):=Un _ h
 obtain⟨(s:Int),⟨(k:Int),(r:Int),⟨(t1:Int),(t2:Int),(t3:Int),(t4:Int),(t5:Int),⟨⟩⟩,(d:List Int),⟨⟩⟩,⟨⟩⟩:=a
 obtain⟨(s':Int),⟨(k':Int),(r':Int),⟨(u1:Int),(u2:Int),(u3:Int),(u4:Int),(u5:Int),⟨⟩⟩,(d':List Int),⟨⟩⟩,⟨⟩⟩:=b
 unfold KK Ar
 simp only at hs ⊢
 rw[hs]
 generalize ir (s,(k,r,(t1,t2,t3,t4,t5,()),d,()),()) (s',(k',r',(u1,u2,u3,u4,u5,()),d',()),())=q
 rcases Bool.eq_false_or_eq_true (s==(3:Int))with h1|h1<;>rcases Bool.eq_false_or_eq_true (s'==(3:Int))with h2|h2<;>rcases Bool.eq_false_or_eq_true (s==(4:Int))with h3|h3<;>rcases Bool.eq_false_or_eq_true (s'==(4:Int))with h4|h4<;>rcases Bool.eq_false_or_eq_true (decide (s≥s'))with h6|h6<;>cases q<;>simp only[h1,h2,h3,h4,h6]<;>rfl
theorem aaB {a b:cP.T}(ha:jg a=true)(hb:jg b=true):Ar a b=lp a b:=by
 rcases oG ha with⟨f,rfl,hf⟩|⟨s,rfl,h0,h4,h3⟩<;>rcases oG hb with⟨g,rfl,hg⟩|⟨s',rfl,h0',h4',h3'⟩
 ·have e:ir ((3:Int),f,()) ((3:Int),g,())=cU f g:=by
   show(((3:Int)==3)&&cU f g)=_
   simp
  unfold Ar lp
  rw[e]
  cases cU f g<;>rfl
 ·have e:ir ((3:Int),f,()) (gJ s')=false:=by
   show(((3:Int)==s')&&cU f dX)=_
   have:((3:Int)==s')=false:=by simp;omega
   rw[this];rfl
  have e3:(s'==(3:Int))=false:=by simp[h3']
  unfold Ar lp
  rw[e]
  show(if((3:Int)==3&&false)=true then _ else if(((3:Int)==3&&s'==(3:Int))||((3:Int)==4||s'==(4:Int)))=true then gJ 4 else if decide ((3:Int)≥s')=true then _ else gJ s')=(if((3:Int)==3&&(s'==(3:Int)&&cU f dX))=true then _ else if(((3:Int)==3&&s'==(3:Int))||((3:Int)==4||s'==(4:Int)))=true then gJ 4 else if((3:Int)==3)=true then _ else if(s'==(3:Int))=true then _ else _)
  rw[e3]
  rcases Bool.eq_false_or_eq_true (s'==(4:Int))with h|h
  ·rw[h];rfl
  ·have:s'≠4:=by simpa using h
   have hd:decide ((3:Int)≥s')=true:=by simp;omega
   rw[h,hd];rfl
 ·have e3:(s==(3:Int))=false:=by simp[h3]
  unfold Ar lp
  show(if(s==(3:Int)&&ir (gJ s) ((3:Int),g,()))=true then _ else if((s==(3:Int)&&(3:Int)==(3:Int))||(s==(4:Int)||(3:Int)==(4:Int)))=true then gJ 4 else if decide (s≥(3:Int))=true then _ else _)=(if(s==(3:Int)&&((3:Int)==(3:Int)&&cU dX g))=true then _ else if((s==(3:Int)&&(3:Int)==(3:Int))||(s==(4:Int)||(3:Int)==(4:Int)))=true then gJ 4 else if(s==(3:Int))=true then _ else if((3:Int)==(3:Int))=true then _ else _)
  rw[e3]
  rcases Bool.eq_false_or_eq_true (s==(4:Int))with h|h
  ·rw[h];rfl
  ·have:s≠4:=by simpa using h
   have hd:decide (s≥(3:Int))=false:=by simp;omega
   rw[h,hd];rfl
 ·have e3:(s==(3:Int))=false:=by simp[h3]
  have e3':(s'==(3:Int))=false:=by simp[h3']
  unfold Ar lp
  show(if(s==(3:Int)&&ir (gJ s) (gJ s'))=true then _ else if((s==(3:Int)&&s'==(3:Int))||(s==(4:Int)||s'==(4:Int)))=true then gJ 4 else if decide (s≥s')=true then gJ s else gJ s')=(if(s==(3:Int)&&(s'==(3:Int)&&cU dX dX))=true then _ else if((s==(3:Int)&&s'==(3:Int))||(s==(4:Int)||s'==(4:Int)))=true then gJ 4 else if(s==(3:Int))=true then gJ s else if(s'==(3:Int))=true then gJ s' else gJ (if s'>s then s' else s))
  rw[e3,e3']
  simp only[Bool.false_and,Bool.false_eq_true,if_false,Bool.false_or]
  rcases Bool.eq_false_or_eq_true (s==(4:Int)||s'==(4:Int))with h|h
  ·simp only[h,if_true]
  ·simp only[h,Bool.false_eq_true,if_false]
   by_cases hg:s'>s
   ·have hd:decide (s≥s')=false:=by simp;omega
    simp[hd,hg]
   ·have hd:decide (s≥s')=true:=by simp;omega
    simp[hd,hg]
theorem Yj {a b:cP.T}(ha:jg a=true)(hb:jg b=true):jg (lp a b)=true:=by
 unfold lp
 split
 ·exact ha
 ·split
  ·exact KU (by omega) (by omega) (by omega)
  ·split
   ·exact ha
   ·split
    ·exact hb
    ·rename_i h1 h2 h3 h4
     rcases oG ha with⟨f,rfl,hf⟩|⟨s,rfl,h0,h4,h3⟩
     ·exact absurd rfl h3
     ·rcases oG hb with⟨g,rfl,hg⟩|⟨s',rfl,h0',h4',h3'⟩
      ·exact absurd rfl h4
      ·show jg (gJ (if s'>s then s' else s))=true
       split
       ·exact KU (by assumption) (by assumption) (by assumption)
       ·exact KU (by assumption) (by assumption) (by assumption)
end Go.Proofs.YtnambbcafhnhpaaGreatDoor
namespace Go.Proofs.YtnambbcafhnhpaaGreatDoor
open Go.RowKit
set_option linter.unusedVariables false
set_option linter.unusedSimpArgs false
noncomputable def Uz(m:aA.T)(st:ao.T)(l l2:List Int):cP.T×Int×Unit:=match(ka m st l).2.1 != (0:Int)with
 |true=>(gJ 0,(ka m st l).2.1,())
 |false=>match(ka m st l2).2.1 != (0:Int)with
  |true=>(gJ 0,(ka m st l2).2.1,())
  |false=>(lp (ka m st l).1 (ka m st l2).1,(0:Int),())
theorem Tf(m:aA.T)(st:ao.T)(l:List Int):(ka m st l).1.2.1.2.2.2.1.length≤32:=by
 unfold ka
 split
 ·exact Nat.zero_le _
 ·split
  ·exact Nat.zero_le _
  ·split
   ·exact Nat.zero_le _
   ·show(gb m st l).2.1.2.2.2.1.length≤32
    unfold gb
    split
    ·unfold ut
     split
     ·rename_i h
      rw[Bool.and_eq_true]at h
      exact s6 (Kn (So h.1))
     ·exact Nat.zero_le _
    ·split<;>exact Nat.zero_le _
theorem yH(m:aA.T)(st:ao.T)(l:List Int):jg (ka m st l).1=true:=by
 have h0:∀s:Int,0≤s→s≤4→s≠3→jg ((s,dX,()):cP.T)=true:=fun s a b c=>KU a b c
 unfold ka
 split
 ·exact h0 0 (by omega) (by omega) (by omega)
 ·split
  ·exact h0 0 (by omega) (by omega) (by omega)
  ·split
   ·exact h0 0 (by omega) (by omega) (by omega)
   ·show jg (gb m st l)=true
    unfold gb
    split
    ·unfold ut
     split
     ·rename_i h
      rw[Bool.and_eq_true]at h
      exact Kn (So h.1)
     ·exact h0 2 (by omega) (by omega) (by omega)
    ·split
     ·exact h0 0 (by omega) (by omega) (by omega)
     ·exact h0 1 (by omega) (by omega) (by omega)
theorem agT(m:aA.T)(st:ao.T)(l l2:List Int)(hz:ex m)(hl:l.length≤1099511627776)(hl2:l2.length≤1099511627776):lP (m,st,l,l2,())=some (Uz m st l l2):=by
 have h1:gM ((m.1,m.2.1,m.2.2.1,m.2.2.2.1,()),(st.1,st.2.1,st.2.2.1,st.2.2.2.1,st.2.2.2.2.1,()),l,())=_:=Te m st l hz hl
 have h2:gM ((m.1,m.2.1,m.2.2.1,m.2.2.2.1,()),(st.1,st.2.1,st.2.2.1,st.2.2.2.1,st.2.2.2.2.1,()),l2,())=_:=Te m st l2 hz hl2
 have hd1:=Tf m st l
 have hv1:=yH m st l
 have hv2:=yH m st l2
 have hm:=aaA (ka m st l).1 (ka m st l2).1 (Nat.le_trans hd1 (by omega))
 rw[aaB hv1 hv2]at hm
 unfold lP Uz
 simp only[h1,h2]
 rcases Bool.eq_false_or_eq_true ((ka m st l).2.1 != (0:Int))with g|g<;>simp only[g]
 ·rfl
 ·rcases Bool.eq_false_or_eq_true ((ka m st l2).2.1 != (0:Int))with g2|g2<;>simp only[g2]
  ·rfl
  ·generalize ka m st l=r1 at hm ⊢
   generalize ka m st l2=r2 at hm ⊢
   obtain⟨⟨(s1:Int),⟨(f1:Int),(q1:Int),⟨(t11:Int),(t12:Int),(t13:Int),(t14:Int),(t15:Int),⟨⟩⟩,(da:List Int),⟨⟩⟩,⟨⟩⟩,(c1:Int),⟨⟩⟩:=r1
   obtain⟨⟨(s2:Int),⟨(f2:Int),(q2:Int),⟨(t21:Int),(t22:Int),(t23:Int),(t24:Int),(t25:Int),⟨⟩⟩,(db:List Int),⟨⟩⟩,⟨⟩⟩,(c2:Int),⟨⟩⟩:=r2
   simp only at hm ⊢
   simp only[hm]
end Go.Proofs.YtnambbcafhnhpaaGreatDoor
