import Derived.Test.YtkgcbbkodalfmaaGreatDoorQ1
namespace Go.Proofs.YtkgcbbkodalfmaaGreatDoor
open Go.RowKit
set_option linter.unusedVariables false
set_option linter.unusedSimpArgs false
theorem XY(x):tF x=some (aP x.1 0 31,()):=by
 unfold tF
 simp only[jS]
theorem XZ(x):xz x=some (aP x.1 0 31,()):=by
 unfold xz
 simp only[rG]
end Go.Proofs.YtkgcbbkodalfmaaGreatDoor
namespace Go.Proofs.YtkgcbbkodalfmaaGreatDoor
open Go.RowKit
set_option linter.unusedVariables false
set_option linter.unusedSimpArgs false
theorem X0 {α:Type}(p:α→Bool):∀l:List α,(∀x ∈ l.dropWhile p,p x=true)→l.dropWhile p= []
 | [],_=>rfl
 |a::l,h=>by
  by_cases ha:p a=true
  ·rw[List.dropWhile_cons_of_pos ha]at h ⊢
   exact X0 p l h
  ·rw[List.dropWhile_cons_of_neg ha]at h
   exact absurd (h a (by simp)) ha
theorem MB {α:Type}(p:α→Bool):∀l:List α,l.dropWhile p= []↔∀x ∈ l,p x=true
 | []=>by simp
 |a::l=>by
  by_cases ha:p a=true
  ·rw[List.dropWhile_cons_of_pos ha,MB p l]
   simp[ha]
  ·rw[List.dropWhile_cons_of_neg ha]
   simp[ha]
theorem Zv(s cs:List UInt8):(Lib.trimS s cs== [])=s.all (fun b=>cs.contains b):=by
 have e:Lib.trimS s cs= []↔∀b ∈ s,cs.contains b=true:=by
  unfold Lib.trimS Lib.trimLeftS Lib.trimRightS
  constructor
  ·intro h
   have h1:=(MB _ _).1 h
   have h2:=X0 (fun b=>cs.contains b) s.reverse (fun x hx=>h1 x (by simpa using hx))
   have h3:=(MB _ _).1 h2
   exact fun b hb=>h3 b (by simpa using hb)
  ·intro h
   have:s.reverse.dropWhile (fun b=>cs.contains b)= []:=(MB _ _).2 (fun b hb=>h b (by simpa using hb))
   rw[this]
   rfl
 by_cases h:Lib.trimS s cs= []
 ·rw[h,List.all_eq_true.2 (e.1 h)];rfl
 ·have h2:¬(s.all (fun b=>cs.contains b)=true):=fun h3=>h (e.2 (List.all_eq_true.1 h3))
  have h3:(Lib.trimS s cs== [])=false:=by simpa using h
  rw[h3]
  simpa using h2
def zq(b:UInt8):Bool:=if(b.toNat:Int)<97 then(if(b.toNat:Int)<48 then false else if(b.toNat:Int)>57 then false else true)else if(b.toNat:Int)>122 then(if(b.toNat:Int)<48 then false else if(b.toNat:Int)>57 then false else true)else true
def MC:List UInt8:=[97,98,99,100,101,102,103,104,105,106,107,108,109,110,111,112,113,114,115,116,117,118,119,120,121,122,48,49,50,51,52,53,54,55,56,57]
theorem aaR(b:UInt8):MC.contains b=zq b:=by
 have h:∀n:Fin 256,MC.contains (UInt8.ofNat n.1)=zq (UInt8.ofNat n.1):=by decide+kernel
 have:=h ⟨b.toNat,b.toNat_lt⟩
 simpa using this
def MD(s:List UInt8):Bool:=s.all zq&&(decide ((s.length:Int)≥1)&&decide ((s.length:Int)≤6))
theorem acB(s:List UInt8)(hs:s.length≤1099511627776):yO (s,())=some (MD s,()):=by
 have e:=ki (B:=iL) s (fun i=>(s,(i:Int),())) zq (.inl (s,())) (.inr (false,())) (by simp only[iL,bp]) (fun i h=>by
  simp only[iL,a7 h,aG h hs,am h,ab]
  generalize s[i]=b
  unfold zq
  by_cases h1:(b.toNat:Int)<97<;>by_cases h2:(b.toNat:Int)>122<;>by_cases h3:(b.toNat:Int)<48<;>by_cases h4:(b.toNat:Int)>57<;>simp[h1,h2,h3,h4])
 have e':ac iL (s,(0:Int),())=_:=e
 unfold yO MD
 simp only[e']
 rcases Bool.eq_false_or_eq_true (s.all zq)with h|h<;>simp only[h,Bool.true_and,Bool.false_and,if_true]
 ·rcases Bool.eq_false_or_eq_true (decide ((s.length:Int)≥1))with h1|h1<;>simp only[h1,Bool.true_and,Bool.false_and]
 ·rfl
def wE(v:au.T):Bool:=aP v.1 0 31&&(MD v.2.1&&aP v.2.2.1 0 1000)
theorem Wk(x)(h:x.1.2.1.length≤1099511627776):qJ x=some (wE x.1,()):=by
 have hn:=acB x.1.2.1 h
 unfold qJ wE
 simp only[XY,hn,jS]
 rcases Bool.eq_false_or_eq_true (aP x.1.1 0 31)with h1|h1<;>rcases Bool.eq_false_or_eq_true (MD x.1.2.1)with h2|h2<;>simp only[h1,h2]<;>rfl
theorem Wl(x):mK x=some (wE x.1,()):=by
 unfold mK wE MD
 simp only[XZ,rG]
 rcases Bool.eq_false_or_eq_true (decide ((x.1.2.1.length:Int)≥1))with h1|h1<;>simp only[h1,Bool.true_and,Bool.false_and,Bool.and_false]
 rcases Bool.eq_false_or_eq_true (decide ((x.1.2.1.length:Int)≤6))with h2|h2<;>simp only[h2,Bool.true_and,Bool.false_and,Bool.and_false,Bool.and_true]
 have h6:x.1.2.1.length≤1048576:=by
  have:=of_decide_eq_true h2
  omega
 have ht:xA (x.1.2.1,([97,98,99,100,101,102,103,104,105,106,107,108,109,110,111,112,113,114,115,116,117,118,119,120,121,122,48,49,50,51,52,53,54,55,56,57]:List UInt8),())=some (Lib.trimS x.1.2.1 MC,()):=by
  show ab (KV x.1.2.1 MC) (fun s=>some (s,()))=_
  unfold KV
  rw[if_pos ⟨h6,by decide,by decide⟩]
  rfl
 have hc:x.1.2.1.all (fun b=>MC.contains b)=x.1.2.1.all zq:=by
  congr 1
  funext b
  exact aaR b
 simp only[ht,Zv,hc]
 rcases Bool.eq_false_or_eq_true (x.1.2.1.all zq)with h3|h3<;>rcases Bool.eq_false_or_eq_true (aP x.1.1 0 31)with h4|h4<;>simp only[h3,h4]<;>rfl
def um(l:List au.T)(i:Nat):Bool:=match l[i]? with
 |none=>false
 |some v=>wE v&&((match i with
  |0=>true
  |k+1=>match l[k]? with
   |none=>false
   |some u=> !decide (v.1≤u.1))&& !(l.take i).any (fun u=>u.2.1==v.2.1))
def ge(l:List au.T):Bool:=aP (l.length:Int) 1 32&&(List.range l.length).all (um l)
theorem aaS(l:List au.T)(hl:l.length≤1099511627776)(i:Nat)(hi:i<l.length):ac dr (l,(i:Int),(0:Int),())=some (if(l.take i).any (fun u=>u.2.1==l[i].2.1)then .inr (false,())else .inl (l,(i:Int),())):=by
 have e:=ki (B:=dr) (l.take i) (fun j=>(l,(i:Int),(j:Int),())) (fun u=> !(u.2.1==l[i].2.1)) (.inl (l,(i:Int),())) (.inr (false,())) (by
  rw[List.length_take,Nat.min_eq_left (Nat.le_of_lt hi)]
  simp only[dr,bp]) (fun j hj=>by
  have hj':j<i:=by rw[List.length_take]at hj;omega
  have hjl:j<l.length:=by omega
  have hg:(l.take i)[j]=l[j]:=by simp
  rw[hg]
  simp only[dr,a7 hj',aG hjl hl,am hjl,am hi,ab]
  rcases Bool.eq_false_or_eq_true (l[j].2.1==l[i].2.1)with h1|h1<;>simp only[h1]<;>rfl)
 have e':ac dr (l,(i:Int),(0:Int),())=_:=e
 rw[e',BC]
 simp only[Bool.not_not]
 cases (l.take i).any (fun u=>u.2.1==l[i].2.1)<;>rfl
theorem BJ {i:Nat}(h:i+1≤1099511627776):IntKind.i64.wrap (((i+1:Nat):Int)-1)=(i:Int):=by rw[wrap_i64]<;>omega
theorem Hb(i:Nat):decide (((i+1:Nat):Int)>0)=true:=decide_eq_true (by omega)
theorem aaT(l:List au.T)(hl:l.length≤1099511627776)(hn:∀v ∈ l,v.2.1.length≤1099511627776):oY (l,())=some (ge l,()):=by
 have e:=gA (B:=fj) l.length (fun i=>(l,(i:Int),())) (um l) (.inl ()) (.inr (false,())) (by simp only[fj,bp]) (fun i h=>by
  have hv:=Wk (l[i],()) (hn _ (List.getElem_mem h))
  have hc:=aaS l hl i h
  simp only[fj,a7 h,aG h hl,am h,ab,hv,um,List.getElem?_eq_getElem h]
  rcases Bool.eq_false_or_eq_true (wE l[i])with h1|h1<;>simp only[h1,Bool.not_true,Bool.not_false,Bool.true_and,Bool.false_and]
  ·cases i with
   |zero=>
    have z:decide (((0:Nat):Int)>0)=false:=rfl
    simp only[z,hc,Bool.true_and]
    rfl
   |succ k=>
    have hk:k<l.length:=by omega
    simp only[Hb,BJ (show k+1≤1099511627776 by omega),am hk,List.getElem?_eq_getElem hk]
    rcases Bool.eq_false_or_eq_true (decide (l[k+1].1≤l[k].1))with h2|h2<;>simp only[h2,Bool.not_true,Bool.not_false,Bool.true_and,Bool.false_and]
    ·rfl
    ·simp only[hc]
     cases (l.take (k+1)).any (fun u=>u.2.1==l[k+1].2.1)
     ·show some (Sum.inl (l,IntKind.i64.wrap (((k+1:Nat):Int)+1),()))=some (.inl (l,((k+1+1:Nat):Int),()))
      rw[aG h hl]
     ·rfl
  ·rfl)
 have e':ac fj (l,(0:Int),())=_:=e
 unfold oY ge
 simp only[jS,e']
 rcases Bool.eq_false_or_eq_true (aP (l.length:Int) 1 32)with h1|h1<;>simp only[h1]<;>rcases Bool.eq_false_or_eq_true ((List.range l.length).all (um l))with h2|h2<;>simp only[h2]<;>rfl
theorem aaU(l:List au.T)(hl:l.length≤1099511627776):o8 (l,())=some (ge l,()):=by
 have e:=gA (B:=fq) l.length (fun i=>(l,l,(l.length:Int),(i:Int),())) (um l) (.inl (l,())) (.inr (false,())) (by simp only[fq,bp]) (fun i h=>by
  have hv:mK ((l[i].1,l[i].2.1,l[i].2.2.1,l[i].2.2.2.1,()),())=some (wE l[i],()):=Wl (l[i],())
  have hb:aH l.length none (some (.dat (.int .i64) (i:Int)))=some (0,i):=by
   simp only[aH,jY,js]
   rw[if_pos ⟨by omega,by omega,by omega⟩]
   simp
  have hc:=HY (l.take i) (by rw[List.length_take];omega) (fun z=>ke (z.1,(l[i].1,l[i].2.1,l[i].2.2.1,l[i].2.2.2.1,()),())) (fun u=>u.2.1==l[i].2.1) (fun j hj=>rfl)
  have hc:cQ (List.drop 0 (List.take i l),(fun z=>ke (z.1,(l[i].1,l[i].2.1,l[i].2.2.1,l[i].2.2.2.1,()),())),())=_:=hc
  simp only[fq,a7 h,aG h hl,am h,ab,hv,hb,hc,um,List.getElem?_eq_getElem h]
  rcases Bool.eq_false_or_eq_true (wE l[i])with h1|h1<;>simp only[h1,Bool.not_true,Bool.not_false,Bool.true_and,Bool.false_and]
  ·cases i with
   |zero=>rfl
   |succ k=>
    have hk:k<l.length:=by omega
    have hge:decide (l[k].1≥l[k+1].1)=decide (l[k+1].1≤l[k].1):=rfl
    simp only[Hb,BJ (show k+1≤1099511627776 by omega),am hk,List.getElem?_eq_getElem hk,hge]
    rcases Bool.eq_false_or_eq_true (decide (l[k+1].1≤l[k].1))with h2|h2<;>simp only[h2,Bool.not_true,Bool.not_false,Bool.true_and,Bool.false_and]
    ·rfl
    ·cases (l.take (k+1)).any (fun u=>u.2.1==l[k+1].2.1)
     ·rfl
     ·rfl
  ·rfl)
 have e':ac fq (l,l,(l.length:Int),(0:Int),())=_:=e
 unfold o8 ge aP
 simp only[e']
 rcases Bool.eq_false_or_eq_true ((List.range l.length).all (um l))with h2|h2<;>simp only[h2,if_true,Bool.and_true,Bool.and_false]
 ·rcases Bool.eq_false_or_eq_true (decide ((l.length:Int)≥1))with h1|h1<;>simp only[h1]<;>rfl
 ·rfl
end Go.Proofs.YtkgcbbkodalfmaaGreatDoor
namespace Go.Proofs.YtkgcbbkodalfmaaGreatDoor
open Go.RowKit
set_option linter.unusedVariables false
set_option linter.unusedSimpArgs false
def ye(l:List Int)(n:Nat)(i:Nat):Bool:=match l[i]? with
 |none=>false
 |some v=>aP v 0 ((n:Int)-1)&&(match i with
  |0=>true
  |k+1=>match l[k]? with
   |none=>false
   |some u=> !decide (v≤u))
def yf(l:List Int)(n:Nat):Bool:=(List.range l.length).all (ye l n)
theorem aaV(l:List Int)(n:Nat)(hl:l.length≤1099511627776)(hn:n≤1099511627776):wg (l,(n:Int),())=some (yf l n,()):=by
 have hw:IntKind.i64.wrap ((n:Int)-1)=(n:Int)-1:=by rw[wrap_i64]<;>omega
 have e:=gA (B:=gN) l.length (fun i=>(l,(n:Int),(i:Int),())) (ye l n) (.inl ()) (.inr (false,())) (by simp only[gN,bp]) (fun i h=>by
  simp only[gN,a7 h,aG h hl,am h,ab,jS,hw,ye,List.getElem?_eq_getElem h]
  rcases Bool.eq_false_or_eq_true (aP l[i] 0 ((n:Int)-1))with h1|h1<;>simp only[h1,Bool.not_true,Bool.not_false,Bool.true_and,Bool.false_and]
  ·cases i with
   |zero=>rfl
   |succ k=>
    have hk:k<l.length:=by omega
    simp only[Hb,BJ (show k+1≤1099511627776 by omega),am hk,List.getElem?_eq_getElem hk]
    rcases Bool.eq_false_or_eq_true (decide (l[k+1]≤l[k]))with h2|h2<;>simp only[h2]<;>rfl
  ·rfl)
 have e':ac gN (l,(n:Int),(0:Int),())=_:=e
 unfold wg yf
 simp only[e']
 rcases Bool.eq_false_or_eq_true ((List.range l.length).all (ye l n))with h2|h2<;>simp only[h2]<;>rfl
theorem aaW(l:List Int)(n:Nat)(hl:l.length≤1099511627776)(hn:n≤1099511627776):wi (l,(n:Int),())=some (yf l n,()):=by
 have e:=gA (B:=gR) l.length (fun i=>(l,(n:Int),l,(l.length:Int),(i:Int),())) (ye l n) (.inl ()) (.inr (false,())) (by simp only[gR,bp]) (fun i h=>by
  have hin:aP l[i] 0 ((n:Int)-1)=(!decide (l[i]<0)&& !decide (l[i]≥(n:Int))):=by
   unfold aP
   by_cases h1:l[i]<0<;>by_cases h2:l[i]≥(n:Int)<;>simp[h1,h2]<;>omega
  simp only[gR,a7 h,aG h hl,am h,ab,ye,List.getElem?_eq_getElem h,hin]
  rcases Bool.eq_false_or_eq_true (decide (l[i]<0))with h1|h1<;>simp only[h1,Bool.not_true,Bool.not_false,Bool.true_and,Bool.false_and]
  ·rfl
  ·rcases Bool.eq_false_or_eq_true (decide (l[i]≥(n:Int)))with h3|h3<;>simp only[h3,Bool.not_true,Bool.not_false,Bool.true_and,Bool.false_and]
   ·rfl
   ·cases i with
    |zero=>rfl
    |succ k=>
     have hk:k<l.length:=by omega
     have hge:decide (l[k]≥l[k+1])=decide (l[k+1]≤l[k]):=rfl
     simp only[Hb,BJ (show k+1≤1099511627776 by omega),am hk,List.getElem?_eq_getElem hk,hge]
     rcases Bool.eq_false_or_eq_true (decide (l[k+1]≤l[k]))with h2|h2<;>simp only[h2]<;>rfl)
 have e':ac gR (l,(n:Int),l,(l.length:Int),(0:Int),())=_:=e
 unfold wi yf
 simp only[e']
 rcases Bool.eq_false_or_eq_true ((List.range l.length).all (ye l n))with h2|h2<;>simp only[h2]<;>rfl
theorem acC(l:List Int)(v:Int)(hl:l.length≤1099511627776):Cj (l,v,())=some (l.any (fun u=>u==v),()):=by
 have e:=sI (B:=jw) l (fun i=>(l,v,(i:Int),())) (fun u=>u==v) (.inl ()) (fun _=>.inr (true,())) (by simp only[jw,bp]) (fun i h=>by
  simp only[jw,a7 h,aG h hl,am h,ab]
  rcases Bool.eq_false_or_eq_true (l[i]==v)with h1|h1<;>simp only[h1]<;>rfl)
 have e':ac jw (l,v,(0:Int),())=_:=e
 unfold Cj
 rw[←kh (fun u=>u==v) 0 l]
 simp only[e']
 cases cd (fun u=>u==v) 0 l<;>rfl
theorem Uk(l:List Int)(v:Int)(hl:l.length≤1099511627776):iE (l,v,())=some (l.any (fun u=>u==v),()):=by
 have e:=sI (B:=di) l (fun i=>(l,v,(l.length:Int),(i:Int),())) (fun u=>u==v) (.inl ()) (fun j=>.inr ((j:Int),())) (by simp only[di,bp]) (fun i h=>by
  have hc:(v==l[i])=(l[i]==v):=by
   by_cases h:v=l[i]
   ·rw[h]
   ·have h1:(v==l[i])=false:=by simpa using h
    have h2:(l[i]==v)=false:=by simpa using fun e:l[i]=v=>h e.symm
    rw[h1,h2]
  simp only[di,a7 h,aG h hl,am h,ab,hc]
  rcases Bool.eq_false_or_eq_true (l[i]==v)with h1|h1<;>simp only[h1]<;>rfl)
 have e':ac di (l,v,(l.length:Int),(0:Int),())=_:=e
 unfold iE mL
 rw[←kh (fun u=>u==v) 0 l]
 simp only[e']
 cases cd (fun u=>u==v) 0 l with
 |none=>rfl
 |some j=>
  have:decide ((j:Int)≥0)=true:=decide_eq_true (by omega)
  simp only[this,Option.isSome]
def un(l:List ay.T)(i:Nat):Bool:=match l[i]? with
 |none=>false
 |some v=>aP v.1 1 8&&(aP v.2.1 1 16&&(yf v.2.2.1 l.length&& !v.2.2.1.any (fun u=>u==(i:Int))))
def fG(l:List ay.T):Bool:=aP (l.length:Int) 1 16&&(List.range l.length).all (un l)
theorem aaX(l:List ay.T)(hl:l.length≤1099511627776)(hn:∀v ∈ l,v.2.2.1.length≤1099511627776):oZ (l,())=some (fG l,()):=by
 have e:=gA (B:=fk) l.length (fun i=>(l,(i:Int),())) (un l) (.inl ()) (.inr (false,())) (by simp only[fk,bp]) (fun i h=>by
  have h1:=aaV l[i].2.2.1 l.length (hn _ (List.getElem_mem h)) hl
  have h2:=acC l[i].2.2.1 (i:Int) (hn _ (List.getElem_mem h))
  simp only[fk,a7 h,aG h hl,am h,ab,jS,h1,h2,un,List.getElem?_eq_getElem h]
  rcases Bool.eq_false_or_eq_true (aP l[i].1 1 8)with g1|g1<;>simp only[g1,Bool.not_true,Bool.not_false,Bool.true_and,Bool.false_and]
  ·rcases Bool.eq_false_or_eq_true (aP l[i].2.1 1 16)with g2|g2<;>simp only[g2,Bool.not_true,Bool.not_false,Bool.true_and,Bool.false_and]
   ·rcases Bool.eq_false_or_eq_true (yf l[i].2.2.1 l.length)with g3|g3<;>simp only[g3,Bool.not_true,Bool.not_false,Bool.true_and,Bool.false_and]
    ·rcases Bool.eq_false_or_eq_true (l[i].2.2.1.any (fun u=>u==(i:Int)))with g4|g4<;>simp only[g4]<;>rfl
    ·rfl
   ·rfl
  ·rfl)
 have e':ac fk (l,(0:Int),())=_:=e
 unfold oZ fG
 simp only[jS,e']
 rcases Bool.eq_false_or_eq_true (aP (l.length:Int) 1 16)with h1|h1<;>simp only[h1]<;>rcases Bool.eq_false_or_eq_true ((List.range l.length).all (un l))with h2|h2<;>simp only[h2]<;>rfl
theorem aaY(l:List ay.T)(hl:l.length≤1099511627776)(hn:∀v ∈ l,v.2.2.1.length≤1099511627776):o9 (l,())=some (fG l,()):=by
 have e:=gA (B:=fu) l.length (fun i=>(l,l,(l.length:Int),(i:Int),())) (un l) (.inl (l,())) (.inr (false,())) (by simp only[fu,bp]) (fun i h=>by
  have h1:=aaW l[i].2.2.1 l.length (hn _ (List.getElem_mem h)) hl
  have h2:=Uk l[i].2.2.1 (i:Int) (hn _ (List.getElem_mem h))
  simp only[fu,a7 h,aG h hl,am h,ab,rG,h1,h2,un,List.getElem?_eq_getElem h]
  rcases Bool.eq_false_or_eq_true (aP l[i].1 1 8)with g1|g1<;>simp only[g1,Bool.not_true,Bool.not_false,Bool.true_and,Bool.false_and]
  ·rcases Bool.eq_false_or_eq_true (aP l[i].2.1 1 16)with g2|g2<;>simp only[g2,Bool.not_true,Bool.not_false,Bool.true_and,Bool.false_and]
   ·rcases Bool.eq_false_or_eq_true (yf l[i].2.2.1 l.length)with g3|g3<;>simp only[g3,Bool.not_true,Bool.not_false,Bool.true_and,Bool.false_and]
    ·rcases Bool.eq_false_or_eq_true (l[i].2.2.1.any (fun u=>u==(i:Int)))with g4|g4<;>simp only[g4]<;>rfl
    ·rfl
   ·rfl
  ·rfl)
 have e':ac fu (l,l,(l.length:Int),(0:Int),())=_:=e
 unfold o9 fG aP
 simp only[e']
 rcases Bool.eq_false_or_eq_true ((List.range l.length).all (un l))with h2|h2<;>simp only[h2,if_true,Bool.and_true,Bool.and_false]
 ·rcases Bool.eq_false_or_eq_true (decide ((l.length:Int)≥1))with h1|h1<;>simp only[h1]<;>rfl
 ·rfl
end Go.Proofs.YtkgcbbkodalfmaaGreatDoor
namespace Go.Proofs.YtkgcbbkodalfmaaGreatDoor
open Go.RowKit
set_option linter.unusedVariables false
set_option linter.unusedSimpArgs false
def nD(k n:Int):Int:=1+(if k != 0 then 8 else 0)+(if dn k then 1+n else 0)
theorem aaZ(k n:Int)(h0:0≤n)(h1:n≤1000):wj (k,n,())=some (nD k n,()):=by
 have w1:IntKind.i64.wrap ((1:Int)+8)=9:=by decide
 have w2:IntKind.i64.wrap ((1:Int)+n)=1+n:=by rw[wrap_i64]<;>omega
 have w3:IntKind.i64.wrap (9+(1+n))=1+8+(1+n):=by rw[wrap_i64]<;>omega
 have w4:IntKind.i64.wrap (1+(1+n))=1+0+(1+n):=by rw[wrap_i64]<;>omega
 unfold wj nD
 simp only[ic,MA,w1,w2,w3,w4]
 rcases Bool.eq_false_or_eq_true (k != (0:Int))with h|h<;>rcases Bool.eq_false_or_eq_true (dn k)with h2|h2<;>simp only[h,h2]<;>rfl
theorem aa0(k n:Int)(h0:0≤n)(h1:n≤1000):jV (k,n,())=some (nD k n,()):=by
 have w1:IntKind.i64.wrap ((1:Int)+8)=9:=by decide
 have w2:IntKind.i64.wrap ((9:Int)+1)=10:=by decide
 have w5:IntKind.i64.wrap ((1:Int)+1)=2:=by decide
 have w3:IntKind.i64.wrap (10+n)=1+8+(1+n):=by rw[wrap_i64]<;>omega
 have w4:IntKind.i64.wrap (2+n)=1+0+(1+n):=by rw[wrap_i64]<;>omega
 unfold jV nD
 simp only[dP,ui,w1,w2,w3,w4,w5]
 rcases Bool.eq_false_or_eq_true (k != (0:Int))with h|h<;>rcases Bool.eq_false_or_eq_true (dn k)with h2|h2<;>simp only[h,h2]<;>rfl
def BK(k n:Int):Int:=11+10*(nD k n+3)
theorem Kr(k n:Int)(h0:0≤n)(h1:n≤1000):1≤nD k n∧nD k n≤1010:=by
 unfold nD
 split<;>split<;>omega
theorem U0(b:Int)(h:1≤b∧b≤1010):IntKind.i64.wrap (11+IntKind.i64.wrap (10*IntKind.i64.wrap (b+3)))=11+10*(b+3):=by
 rw[wrap_i64 (n:=b+3) (by omega) (by omega),wrap_i64 (n:=10*(b+3)) (by omega) (by omega),wrap_i64 (by omega) (by omega)]
theorem aa1(k n:Int)(h0:0≤n)(h1:n≤1000):lI (k,n,())=some (BK k n,()):=by
 unfold lI BK
 simp only[aaZ k n h0 h1,U0 _ (Kr k n h0 h1)]
theorem aa2(k n:Int)(h0:0≤n)(h1:n≤1000):eA (k,n,())=some (BK k n,()):=by
 unfold eA BK
 simp only[aa0 k n h0 h1,U0 _ (Kr k n h0 h1)]
theorem CI {k n:Int}(h:gr k n=true):0≤n∧n≤1000:=by
 unfold gr at h
 split at h
 ·have:=aY.1 h;omega
 ·split at h
  ·have:=aY.1 h;omega
  ·have:n=0:=by simpa using h
   omega
def pH(d:dE.T):Bool:=aP d.1 0 31&&(aP d.2.1 0 3&&(gr d.2.1 d.2.2.1&&(!((d.2.1==(3:Int))&&d.2.2.2.2.1)&&aP d.2.2.2.1 (IntKind.i64.wrap (BK d.2.1 d.2.2.1+20)) 1000)))
theorem SO(x):eZ x=some (pH x.1,()):=by
 obtain⟨⟨(a:Int),(k:Int),(n:Int),(t:Int),(c:Bool),u⟩,u'⟩:=x
 unfold eZ pH
 simp only[XY,XP,XR,jS]
 rcases Bool.eq_false_or_eq_true (aP a 0 31)with h1|h1<;>simp only[h1,Bool.not_true,Bool.not_false,Bool.true_and,Bool.false_and]
 rcases Bool.eq_false_or_eq_true (aP k 0 3)with h2|h2<;>simp only[h2,Bool.not_true,Bool.not_false,Bool.true_and,Bool.false_and]
 rcases Bool.eq_false_or_eq_true (gr k n)with h3|h3<;>simp only[h3,Bool.not_true,Bool.not_false,Bool.true_and,Bool.false_and]
 have hn:=CI h3
 simp only[aa2 k n hn.1 hn.2]
 rcases Bool.eq_false_or_eq_true (k==(3:Int))with h4|h4<;>cases c<;>simp only[h4]<;>rfl
theorem X1(x):gb x=some (pH x.1,()):=by
 obtain⟨⟨(a:Int),(k:Int),(n:Int),(t:Int),(c:Bool),u⟩,u'⟩:=x
 unfold gb pH
 simp only[XZ,XQ,XS,rG]
 rcases Bool.eq_false_or_eq_true (aP a 0 31)with h1|h1<;>simp only[h1,Bool.not_true,Bool.not_false,Bool.true_and,Bool.false_and]
 rcases Bool.eq_false_or_eq_true (aP k 0 3)with h2|h2<;>simp only[h2,Bool.not_true,Bool.not_false,Bool.true_and,Bool.false_and]
 rcases Bool.eq_false_or_eq_true (gr k n)with h3|h3<;>simp only[h3,Bool.not_true,Bool.not_false,Bool.true_and,Bool.false_and]
 have hn:=CI h3
 simp only[aa1 k n hn.1 hn.2]
 rcases Bool.eq_false_or_eq_true (k==(3:Int))with h4|h4<;>cases c<;>simp only[h4]<;>rfl
def mg(v:al.T):Bool:=aP v.1 0 15&&(aP v.2.1 0 7&&(aP v.2.2.1 0 15&&pH v.2.2.2.1))
theorem acD(x):G6 x=some (mg x.1,()):=by
 have hd:eZ ((x.1.2.2.2.1.1,x.1.2.2.2.1.2.1,x.1.2.2.2.1.2.2.1,x.1.2.2.2.1.2.2.2.1,x.1.2.2.2.1.2.2.2.2.1,()),())=some (pH x.1.2.2.2.1,()):=SO (x.1.2.2.2.1,())
 unfold G6 mg
 simp only[jS,hd]
 rcases Bool.eq_false_or_eq_true (aP x.1.1 0 15)with h1|h1<;>rcases Bool.eq_false_or_eq_true (aP x.1.2.1 0 7)with h2|h2<;>rcases Bool.eq_false_or_eq_true (aP x.1.2.2.1 0 15)with h3|h3<;>simp only[h1,h2,h3]<;>rfl
theorem acE(x):mN x=some (mg x.1,()):=by
 have hd:gb ((x.1.2.2.2.1.1,x.1.2.2.2.1.2.1,x.1.2.2.2.1.2.2.1,x.1.2.2.2.1.2.2.2.1,x.1.2.2.2.1.2.2.2.2.1,()),())=some (pH x.1.2.2.2.1,()):=X1 (x.1.2.2.2.1,())
 unfold mN mg
 simp only[rG,hd]
 rcases Bool.eq_false_or_eq_true (aP x.1.1 0 15)with h1|h1<;>rcases Bool.eq_false_or_eq_true (aP x.1.2.1 0 7)with h2|h2<;>rcases Bool.eq_false_or_eq_true (aP x.1.2.2.1 0 15)with h3|h3<;>simp only[h1,h2,h3]<;>rfl
def sM(a b:Int):Int:=if a<b then -1 else if a>b then 1 else 0
def ot(u v:al.T):Int:=if u.1=v.1 then(if u.2.1=v.2.1 then sM u.2.2.1 v.2.2.1 else sM u.2.1 v.2.1)else sM u.1 v.1
theorem ado(x):qd x=some (sM x.1 x.2.1,()):=by
 obtain⟨(a:Int),(b:Int),u⟩:=x
 unfold qd sM
 by_cases h1:a<b
 ·simp only[decide_eq_true h1,if_pos h1]
 ·by_cases h2:a>b
  ·simp only[decide_eq_false h1,decide_eq_true h2,if_neg h1,if_pos h2]
  ·simp only[decide_eq_false h1,decide_eq_false h2,if_neg h1,if_neg h2]
theorem X2(x):jo x=some (ot x.1 x.2.1,()):=by
 obtain⟨u,v,w⟩:=x
 unfold jo ot
 simp only[ado]
 by_cases h1:u.1=v.1
 ·have g1:(u.1 != v.1)=false:=by rw[h1];exact nA _
  simp only[g1,if_pos h1]
  by_cases h2:u.2.1=v.2.1
  ·have g2:(u.2.1 != v.2.1)=false:=by rw[h2];exact nA _
   simp only[g2,if_pos h2]
  ·have g2:(u.2.1 != v.2.1)=true:=by simpa using h2
   simp only[g2,if_neg h2]
 ·have g1:(u.1 != v.1)=true:=by simpa using h1
  simp only[g1,if_neg h1]
theorem Ks(l m:List Int)(i:Nat)(hl:i<l.length)(hm:i<m.length)(h3:i<3):cB (l,m,(i:Int),())=if l[i]<m[i]then some (.inr (.inr ((-1:Int),())))else if l[i]>m[i]then some (.inr (.inr ((1:Int),())))else some (.inl (l,m,((i+1:Nat):Int),())):=by
 have hd:decide ((i:Int)<3)=true:=decide_eq_true (by omega)
 simp only[cB,hd,am hl,am hm,ab,Int.toNat_natCast,List.getElem?_eq_getElem hl,List.getElem?_eq_getElem hm,aG h3 (by omega)]
 by_cases h1:l[i]<m[i]
 ·simp only[if_pos h1,decide_eq_true h1]
 ·by_cases h2:l[i]>m[i]
  ·simp only[if_neg h1,if_pos h2,decide_eq_false h1,decide_eq_true h2]
  ·simp only[if_neg h1,if_neg h2,decide_eq_false h1,decide_eq_false h2]
theorem acF(x):ni x=some (ot x.1 x.2.1,()):=by
 obtain⟨⟨(a:Int),(b:Int),(c:Int),d⟩,⟨(a':Int),(b':Int),(c':Int),d'⟩,w⟩:=x
 have e0:=Ks [a,b,c] [a',b',c'] 0 (by simp) (by simp) (by omega)
 have e1:=Ks [a,b,c] [a',b',c'] 1 (by simp) (by simp) (by omega)
 have e2:=Ks [a,b,c] [a',b',c'] 2 (by simp) (by simp) (by omega)
 have e3:cB ([a,b,c],[a',b',c'],((3:Nat):Int),())=some (.inr (.inl ())):=rfl
 have e0:cB ([a,b,c],[a',b',c'],(0:Int),())=if a<a' then some (.inr (.inr ((-1:Int),())))else if a>a' then some (.inr (.inr ((1:Int),())))else some (.inl ([a,b,c],[a',b',c'],((1:Nat):Int),())):=e0
 have e1:cB ([a,b,c],[a',b',c'],((1:Nat):Int),())=if b<b' then some (.inr (.inr ((-1:Int),())))else if b>b' then some (.inr (.inr ((1:Int),())))else some (.inl ([a,b,c],[a',b',c'],((2:Nat):Int),())):=e1
 have e2:cB ([a,b,c],[a',b',c'],((2:Nat):Int),())=if c<c' then some (.inr (.inr ((-1:Int),())))else if c>c' then some (.inr (.inr ((1:Int),())))else some (.inl ([a,b,c],[a',b',c'],((3:Nat):Int),())):=e2
 have hL:ac cB ([a,b,c],[a',b',c'],(0:Int),())=some (if ot (a,b,c,d) (a',b',c',d')=0 then .inl ()else .inr (ot (a,b,c,d) (a',b',c',d'),())):=by
  unfold ot sM
  rw[ag,e0]
  by_cases h1:a<a'
  ·simp[h1,Int.ne_of_lt h1]
  ·by_cases h2:a>a'
   ·have:¬a=a':=by omega
    simp[h1,h2,this]
   ·have:a=a':=by omega
    simp only[if_neg h1,if_neg h2,if_pos this]
    rw[ag,e1]
    by_cases h1:b<b'
    ·simp[h1,Int.ne_of_lt h1]
    ·by_cases h2:b>b'
     ·have:¬b=b':=by omega
      simp[h1,h2,this]
     ·have:b=b':=by omega
      simp only[if_neg h1,if_neg h2,if_pos this]
      rw[ag,e2]
      by_cases h1:c<c'
      ·simp[h1]
      ·by_cases h2:c>c'
       ·simp[h1,h2]
       ·simp only[if_neg h1,if_neg h2]
        rw[ag,e3]
        simp
 unfold ni
 simp only[hL,cW]
 by_cases h:ot (a,b,c,d) (a',b',c',d')=0
 ·simp only[h,if_true]
 ·simp only[if_neg h]
def rJ(l:List al.T)(i:Nat):Bool:=match l[i]? with
 |none=>false
 |some v=>mg v&&(match i with
  |0=>true
  |k+1=>match l[k]? with
   |none=>false
   |some u=> !decide (ot u v≥0))
def cE(l:List al.T):Bool:= !decide ((l.length:Int)>120)&&(List.range l.length).all (rJ l)
theorem aa3(l:List al.T)(hl:l.length≤1099511627776):o5 (l,())=some (cE l,()):=by
 have e:=gA (B:=fm) l.length (fun i=>(l,(i:Int),())) (rJ l) (.inl ()) (.inr (false,())) (by simp only[fm,bp]) (fun i h=>by
  simp only[fm,a7 h,aG h hl,am h,ab,acD,rJ,List.getElem?_eq_getElem h]
  rcases Bool.eq_false_or_eq_true (mg l[i])with h1|h1<;>simp only[h1,Bool.not_true,Bool.not_false,Bool.true_and,Bool.false_and]
  ·cases i with
   |zero=>rfl
   |succ k=>
    have hk:k<l.length:=by omega
    simp only[Hb,BJ (show k+1≤1099511627776 by omega),am hk,List.getElem?_eq_getElem hk,acF]
    rcases Bool.eq_false_or_eq_true (decide (ot l[k] l[k+1]≥0))with h2|h2<;>simp only[h2]<;>rfl
  ·rfl)
 have e':ac fm (l,(0:Int),())=_:=e
 unfold o5 cE
 simp only[e']
 rcases Bool.eq_false_or_eq_true (decide ((l.length:Int)>120))with h1|h1<;>simp only[h1]<;>rcases Bool.eq_false_or_eq_true ((List.range l.length).all (rJ l))with h2|h2<;>simp only[h2]<;>rfl
theorem aa4(l:List al.T)(hl:l.length≤1099511627776):pb (l,())=some (cE l,()):=by
 have e:=gA (B:=fv) l.length (fun i=>(l,l,(l.length:Int),(i:Int),())) (rJ l) (.inl (l,())) (.inr (false,())) (by simp only[fv,bp]) (fun i h=>by
  have hv:mN ((l[i].1,l[i].2.1,l[i].2.2.1,(l[i].2.2.2.1.1,l[i].2.2.2.1.2.1,l[i].2.2.2.1.2.2.1,l[i].2.2.2.1.2.2.2.1,l[i].2.2.2.1.2.2.2.2.1,()),()),())=some (mg l[i],()):=acE (l[i],())
  simp only[fv,a7 h,aG h hl,am h,ab,hv,rJ,List.getElem?_eq_getElem h]
  rcases Bool.eq_false_or_eq_true (mg l[i])with h1|h1<;>simp only[h1,Bool.not_true,Bool.not_false,Bool.true_and,Bool.false_and]
  ·cases i with
   |zero=>rfl
   |succ k=>
    have hk:k<l.length:=by omega
    have hc:jo (l[k],(l[k+1].1,l[k+1].2.1,l[k+1].2.2.1,(l[k+1].2.2.2.1.1,l[k+1].2.2.2.1.2.1,l[k+1].2.2.2.1.2.2.1,l[k+1].2.2.2.1.2.2.2.1,l[k+1].2.2.2.1.2.2.2.2.1,()),()),())=some (ot l[k] l[k+1],()):=X2 (l[k],l[k+1],())
    simp only[Hb,BJ (show k+1≤1099511627776 by omega),am hk,List.getElem?_eq_getElem hk,hc]
    rcases Bool.eq_false_or_eq_true (decide (ot l[k] l[k+1]≥0))with h2|h2<;>simp only[h2]<;>rfl
  ·rfl)
 have e':ac fv (l,l,(l.length:Int),(0:Int),())=_:=e
 have hn:decide ((l.length:Int)≤120)= !decide ((l.length:Int)>120):=by
  by_cases h:(l.length:Int)≤120
  ·rw[decide_eq_true h,decide_eq_false (by omega)];rfl
  ·rw[decide_eq_false h,decide_eq_true (by omega)];rfl
 unfold pb cE
 simp only[e']
 rcases Bool.eq_false_or_eq_true ((List.range l.length).all (rJ l))with h2|h2<;>simp only[h2,if_true,Bool.and_true,Bool.and_false,hn]
 rfl
end Go.Proofs.YtkgcbbkodalfmaaGreatDoor
namespace Go.Proofs.YtkgcbbkodalfmaaGreatDoor
open Go.RowKit
set_option linter.unusedVariables false
set_option linter.unusedSimpArgs false
def gx(i r s:Int):Int:=(i*8+r)*16+s
def dq(v:al.T):Int:=gx v.1 v.2.1 v.2.2.1
def SP(v:al.T):Prop:=(0≤v.1∧v.1≤15)∧(0≤v.2.1∧v.2.1≤7)∧(0≤v.2.2.1∧v.2.2.1≤15)
theorem sN {v:al.T}(h:mg v=true):SP v:=by
 unfold mg at h
 simp only[Bool.and_eq_true,aY]at h
 exact⟨h.1,h.2.1,h.2.2.1⟩
def Zw(a b c a' b' c':Int):Int:=if a=a' then(if b=b' then sM c c' else sM b b')else sM a a'
theorem SQ(a b:Int):(a<b∧sM a b= -1)∨(a=b∧sM a b=0)∨(b<a∧sM a b=1):=by
 unfold sM
 by_cases h1:a<b
 ·exact .inl ⟨h1,if_pos h1⟩
 ·by_cases h2:a>b
  ·exact .inr (.inr ⟨h2,by rw[if_neg h1,if_pos h2]⟩)
  ·exact .inr (.inl ⟨by omega,by rw[if_neg h1,if_neg h2]⟩)
theorem U1(a b c a' b' c':Int)(hb:0≤b∧b≤7)(hc:0≤c∧c≤15)(hb':0≤b'∧b'≤7)(hc':0≤c'∧c'≤15):
  (Zw a b c a' b' c'=0↔gx a b c=gx a' b' c')∧(¬Zw a b c a' b' c'≥0→gx a b c<gx a' b' c'):=by
 unfold Zw gx
 by_cases h1:a=a'
 ·rw[if_pos h1]
  by_cases h2:b=b'
  ·rw[if_pos h2]
   rcases SQ c c' with⟨h,e⟩|⟨h,e⟩|⟨h,e⟩<;>rw[e]<;>omega
  ·rw[if_neg h2]
   rcases SQ b b' with⟨h,e⟩|⟨h,e⟩|⟨h,e⟩<;>rw[e]<;>omega
 ·rw[if_neg h1]
  rcases SQ a a' with⟨h,e⟩|⟨h,e⟩|⟨h,e⟩<;>rw[e]<;>omega
theorem Zx {u v:al.T}(hu:SP u)(hv:SP v):ot u v=0↔dq u=dq v:=
 (U1 u.1 u.2.1 u.2.2.1 v.1 v.2.1 v.2.2.1 hu.2.1 hu.2.2 hv.2.1 hv.2.2).1
theorem acG {u v:al.T}(hu:SP u)(hv:SP v)(h:¬ot u v≥0):dq u<dq v:=
 (U1 u.1 u.2.1 u.2.2.1 v.1 v.2.1 v.2.2.1 hu.2.1 hu.2.2 hv.2.1 hv.2.2).2 h
theorem iy {l:List al.T}(h:cE l=true):∀v ∈ l,mg v=true:=by
 intro v hv
 unfold cE at h
 rw[Bool.and_eq_true,List.all_eq_true]at h
 obtain⟨i,hi,rfl⟩:=List.getElem_of_mem hv
 have:=h.2 i (by simpa using hi)
 unfold rJ at this
 simp only[List.getElem?_eq_getElem hi,Bool.and_eq_true]at this
 exact this.1
theorem gG {l:List al.T}(h:cE l=true):l.length≤120:=by
 unfold cE at h
 rw[Bool.and_eq_true]at h
 have:=h.1
 simp at this
 omega
theorem ME {l:List al.T}(h:cE l=true)(k:Nat)(hk:k+1<l.length):dq l[k]<dq l[k+1]:=by
 have hm:=iy h
 unfold cE at h
 rw[Bool.and_eq_true,List.all_eq_true]at h
 have:=h.2 (k+1) (by simpa using hk)
 unfold rJ at this
 simp only[List.getElem?_eq_getElem hk,List.getElem?_eq_getElem (show k<l.length by omega),Bool.and_eq_true]at this
 refine acG (sN (hm _ (List.getElem_mem _))) (sN (hm _ (List.getElem_mem _))) ?_
 simpa using this.2
theorem SR {l:List al.T}(h:cE l=true):∀(d i:Nat) (hd:i+d+1<l.length),dq l[i]<dq l[i+d+1]
 |0,i,hd=>ME h i hd
 |d+1,i,hd=>Int.lt_trans (SR h d i (by omega)) (ME h (i+d+1) hd)
theorem SS {l:List al.T}(h:cE l=true):(l.map dq).Pairwise (· < ·):=by
 rw[List.pairwise_iff_getElem]
 intro i j hi hj hij
 rw[List.length_map]at hi hj
 obtain⟨d,rfl⟩:∃d,j=i+d+1:=⟨j-i-1,by omega⟩
 rw[List.getElem_map,List.getElem_map]
 exact SR h d i hj
def jI(i R S:Nat):List Int:=(List.range R).flatMap fun(r:Nat)=>(List.range S).map fun(s:Nat)=>gx (i:Int) (r:Int) (s:Int)
def jh:Nat→List ay.T→List Int
 |_,[]=>[]
 |i,m::ms=>jI i m.1.toNat m.2.1.toNat++jh (i+1) ms
theorem OG(i S:Nat)(hS:0<S):∀R,jI i R S=(List.range (R*S)).map fun(q:Nat)=>gx (i:Int) ((q / S:Nat):Int) ((q % S:Nat):Int)
 |0=>by simp[jI]
 |R+1=>by
  have ih:=OG i S hS R
  unfold jI at ih ⊢
  rw[List.range_succ,List.flatMap_append,ih,Nat.add_mul,Nat.one_mul,List.range_add,List.map_append,List.map_map]
  congr 1
  rw[List.flatMap_cons,List.flatMap_nil,List.append_nil]
  apply List.map_congr_left
  intro s hs
  have hs:s<S:=by simpa using hs
  have h1:(R*S+s) / S=R:=by rw[Nat.mul_comm,Nat.mul_add_div hS,Nat.div_eq_of_lt hs,Nat.add_zero]
  have h2:(R*S+s) % S=s:=by rw[Nat.mul_comm,Nat.mul_add_mod,Nat.mod_eq_of_lt hs]
  simp only[Function.comp,h1,h2]
theorem CJ(i R S:Nat)(hS:0<S):(jI i R S).length=R*S:=by rw[OG i S hS,List.length_map,List.length_range]
theorem U2 {i R S:Nat}(hR:R≤8)(hS:S≤16):∀k ∈ jI i R S,(i:Int)*128≤k∧k<((i:Int)+1)*128:=by
 intro k hk
 simp only[jI,List.mem_flatMap,List.mem_map,List.mem_range]at hk
 obtain⟨r,hr,s,hs,rfl⟩:=hk
 unfold gx
 omega
theorem Ul {i R S:Nat}(hS:S≤16):(jI i R S).Pairwise (· < ·):=by
 unfold jI
 rw[List.pairwise_flatMap]
 constructor
 ·intro r hr
  rw[List.pairwise_map]
  exact List.Pairwise.imp (fun {a b} h=>by unfold gx;omega) List.pairwise_lt_range
 ·refine List.Pairwise.imp (fun {a b} h x hx y hy=> ?_) List.pairwise_lt_range
  simp only[List.mem_map,List.mem_range]at hx hy
  obtain⟨s,hs,rfl⟩:=hx
  obtain⟨t,ht,rfl⟩:=hy
  unfold gx
  omega
def MF(m:ay.T):Prop:=(1≤m.1∧m.1≤8)∧(1≤m.2.1∧m.2.1≤16)
theorem nc {m:ay.T}(h:MF m):(1≤m.1.toNat∧m.1.toNat≤8)∧(1≤m.2.1.toNat∧m.2.1.toNat≤16)∧(m.1=((m.1.toNat:Nat):Int)∧m.2.1=((m.2.1.toNat:Nat):Int)):=by
 obtain⟨(a:Int),(b:Int),c⟩:=m
 obtain⟨⟨h1,h2⟩,h3,h4⟩:=h
 have h1:(1:Int)≤a:=h1
 have h2:a≤(8:Int):=h2
 have h3:(1:Int)≤b:=h3
 have h4:b≤(16:Int):=h4
 exact⟨⟨by show 1≤a.toNat;omega,by show a.toNat≤8;omega⟩,⟨by show 1≤b.toNat;omega,by show b.toNat≤16;omega⟩,(Int.toNat_of_nonneg (show(0:Int)≤a by omega)).symm,(Int.toNat_of_nonneg (show(0:Int)≤b by omega)).symm⟩
theorem U3:∀(ms:List ay.T) (i:Nat),(∀m ∈ ms,MF m)→∀k ∈ jh i ms,(i:Int)*128≤k
 | [],i,_,k,hk=>by simp[jh]at hk
 |m::ms,i,h,k,hk=>by
  simp only[jh,List.mem_append]at hk
  have hm:=nc (h m (by simp))
  rcases hk with hk|hk
  ·exact(U2 (by omega) (by omega) k hk).1
  ·have:=U3 ms (i+1) (fun m hm=>h m (by simp[hm])) k hk
   omega
theorem IQ:∀(ms:List ay.T) (i:Nat),(∀m ∈ ms,MF m)→(jh i ms).Pairwise (· < ·)
 | [],i,_=>List.Pairwise.nil
 |m::ms,i,h=>by
  have hm:=nc (h m (by simp))
  simp only[jh]
  rw[List.pairwise_append]
  refine⟨Ul (by omega),IQ ms (i+1) (fun m hm=>h m (by simp[hm])),fun a ha b hb=> ?_⟩
  have h1:=U2 (R:=m.1.toNat) (S:=m.2.1.toNat) (by omega) (by omega) a ha
  have h2:=U3 ms (i+1) (fun m hm=>h m (by simp[hm])) b hb
  omega
theorem ST:∀(K E:List Int),K.Pairwise (· < ·)→E.Pairwise (· < ·)→(∀x ∈ E,x ∈ K)→E.length≤K.length∧(E.length=K.length→K=E)
 | [],[],_,_,_=>⟨Nat.le_refl _,fun _=>rfl⟩
 | [],e::E,_,_,h=>absurd (h e (by simp)) (by simp)
 |k::K,[],_,_,_=>⟨by simp,fun h=>by simp at h⟩
 |k::K,e::E,hK,hE,h=>by
  rw[List.pairwise_cons]at hK hE
  by_cases he:e=k
  ·subst he
   have:=ST K E hK.2 hE.2 (fun x hx=>by
    have h1:=h x (by simp[hx])
    have h2:=hE.1 x hx
    rw[List.mem_cons]at h1
    rcases h1 with h1|h1
    ·omega
    ·exact h1)
   refine⟨by simp;exact this.1,fun hl=> ?_⟩
   rw[this.2 (by simpa using hl)]
  ·have hek:k<e:=by
    have h1:=h e (by simp)
    rw[List.mem_cons]at h1
    rcases h1 with h1|h1
    ·exact absurd h1 he
    ·exact hK.1 e h1
   have:=ST K (e::E) hK.2 (List.pairwise_cons.2 hE) (fun x hx=>by
    have h1:=h x hx
    rw[List.mem_cons]at h1
    rcases h1 with h1|h1
    ·rw[List.mem_cons]at hx
     rcases hx with hx|hx
     ·omega
     ·have:=hE.1 x hx
      omega
    ·exact h1)
   refine⟨by simp at this ⊢;omega,fun hl=> ?_⟩
   have h1:=this.1
   simp at h1 hl
   omega
theorem aa5(K E:List Int)(hK:K.Pairwise (· < ·))(hE:E.Pairwise (· < ·)):decide (K=E)=(E.all (fun x=>decide (x ∈ K))&&decide (E.length=K.length)):=by
 by_cases h:K=E
 ·subst h
  rw[decide_eq_true rfl,decide_eq_true rfl]
  simp
 ·rw[decide_eq_false h]
  by_cases h1:E.all (fun x=>decide (x ∈ K))=true
  ·have h2:∀x ∈ E,x ∈ K:=fun x hx=>by
    have:=List.all_eq_true.1 h1 x hx
    simpa using this
   have h3:=(ST K E hK hE h2).2
   have h4:¬E.length=K.length:=fun e=>h (h3 e)
   rw[decide_eq_false h4,Bool.and_false]
  ·rw[Bool.eq_false_iff.2 h1,Bool.false_and]
end Go.Proofs.YtkgcbbkodalfmaaGreatDoor
namespace Go.Proofs.YtkgcbbkodalfmaaGreatDoor
open Go.RowKit
set_option linter.unusedVariables false
set_option linter.unusedSimpArgs false
theorem gy {l:List ay.T}(h:fG l=true):l.length≤16∧∀m ∈ l,MF m:=by
 unfold fG at h
 rw[Bool.and_eq_true,List.all_eq_true]at h
 refine⟨by have:=(aY.1 h.1).2;omega,fun m hm=> ?_⟩
 obtain⟨i,hi,rfl⟩:=List.getElem_of_mem hm
 have:=h.2 i (by simpa using hi)
 unfold un at this
 simp only[List.getElem?_eq_getElem hi,Bool.and_eq_true,aY]at this
 exact⟨this.1,this.2.1⟩
def jT(a b c:Int)(v:al.T):Bool:=(v.1==a)&&((v.2.1==b)&&(v.2.2.1==c))
def tk(l:List al.T)(a b c:Int):Int:=match cd (jT a b c) 0 l with
 |none=>-1
 |some j=>(j:Int)
theorem U4(l:List al.T)(a b c:Int)(hl:l.length≤1099511627776):tJ (l,a,b,c,())=some (tk l a b c,()):=by
 have e:=sI (B:=iM) l (fun i=>(l,a,b,c,(i:Int),())) (jT a b c) (.inl ()) (fun j=>.inr ((j:Int),())) (by simp only[iM,bp]) (fun i h=>by
  simp only[iM,a7 h,aG h hl,am h,ab,jT]
  rcases Bool.eq_false_or_eq_true (l[i].1==a)with h1|h1<;>rcases Bool.eq_false_or_eq_true (l[i].2.1==b)with h2|h2<;>rcases Bool.eq_false_or_eq_true (l[i].2.2.1==c)with h3|h3<;>simp only[h1,h2,h3]<;>rfl)
 have e':ac iM (l,a,b,c,(0:Int),())=_:=e
 unfold tJ tk
 simp only[e']
 cases cd (jT a b c) 0 l<;>rfl
theorem U5(l:List al.T)(a b c:Int)(hl:l.length≤1099511627776):nl (l,a,b,c,())=some (tk l a b c,()):=by
 have e:=BD l hl (fun z=>rc (z.1,a,b,c,())) (jT a b c) (fun i h=>by
  unfold rc jT
  rcases Bool.eq_false_or_eq_true (l[i].1==a)with h1|h1<;>rcases Bool.eq_false_or_eq_true (l[i].2.1==b)with h2|h2<;>rcases Bool.eq_false_or_eq_true (l[i].2.2.1==c)with h3|h3<;>simp only[h1,h2,h3]<;>rfl)
 unfold nl tk
 simp only[e]
 cases cd (jT a b c) 0 l<;>rfl
theorem Hd {a b c:Int}{v:al.T}(hv:SP v)(hb:0≤b∧b≤7)(hc:0≤c∧c≤15):jT a b c v=true↔dq v=gx a b c:=by
 obtain⟨(a':Int),(b':Int),(c':Int),d⟩:=v
 have h2:0≤b'∧b'≤7:=hv.2.1
 have h3:0≤c'∧c'≤15:=hv.2.2
 unfold jT dq gx
 simp only[Bool.and_eq_true,beq_iff_eq]
 constructor
 ·rintro ⟨h1,h2,h3⟩
  have h1:a'=a:=h1
  have h2:b'=b:=h2
  have h3:c'=c:=h3
  rw[h1,h2,h3]
 ·intro h
  have h1:a'=a:=by omega
  have h2:b'=b:=by omega
  have h3:c'=c:=by omega
  exact⟨h1,h2,h3⟩
theorem SU {l:List al.T}(hl:∀v ∈ l,SP v){a b c:Int}(hb:0≤b∧b≤7)(hc:0≤c∧c≤15):decide (tk l a b c<0)= !decide (gx a b c ∈ l.map dq):=by
 have h:=kh (jT a b c) 0 l
 have e:l.any (jT a b c)=decide (gx a b c ∈ l.map dq):=by
  by_cases hm:gx a b c ∈ l.map dq
  ·rw[decide_eq_true hm,List.any_eq_true]
   obtain⟨v,hv,e⟩:=List.mem_map.1 hm
   exact⟨v,hv,(Hd (hl v hv) hb hc).2 e⟩
  ·rw[decide_eq_false hm,Bool.eq_false_iff]
   intro h
   obtain⟨v,hv,e⟩:=List.any_eq_true.1 h
   exact hm (List.mem_map.2 ⟨v,hv,(Hd (hl v hv) hb hc).1 e⟩)
 rw[←e,←h]
 unfold tk
 cases cd (jT a b c) 0 l with
 |none=>rfl
 |some j=>simp
def Wm(o:(Ty.pair (.box an) (.pair (.int .i64) .unit)).T ⊕ (Ty.pair .bool .unit).T):Bool:=match o with
 | .inl v=>v.2.1==(v.1.2.2.2.1.length:Int)
 | .inr v=>v.1
theorem adp(m:an.T)(hs:cE m.2.2.2.1=true)(i R S:Nat)(hi:i≤15)(hR:R≤8)(hS:1≤S∧S≤16)(sw:List Int)(ms:List ay.T)(N:Int):
  ∀(n k j:Nat),k+n=R*S→j≤m.2.2.2.1.length→ac eL (m,(j:Int),(i:Int),((R:Int),(S:Int),sw,()),ms,N,(i:Int),((R*S:Nat):Int),(k:Int),())=some (if((m.2.2.2.1.map dq).drop j).take n=(List.range' k n).map (fun(q:Nat)=>gx (i:Int) ((q / S:Nat):Int) ((q % S:Nat):Int))then .inl (m,((j+n:Nat):Int),ms,N,(i:Int),())else .inr (false,())):=by
 have hRS:R*S≤128:=Nat.le_trans (Nat.mul_le_mul hR hS.2) (by omega)
 have hlen:=gG hs
 have hmem:=iy hs
 intro n
 induction n with
 |zero=>
  intro k j hk hj
  have hk:k=R*S:=by omega
  subst hk
  rw[ag]
  simp only[eL,bp]
  simp
 |succ n ih=>
  intro k j hk hj
  have hkT:k<R*S:=by omega
  have hS0:¬((S:Int)=0):=by omega
  have d1:IntKind.i64.wrap (Int.tdiv (k:Int) (S:Int))=((k / S:Nat):Int):=by
   rw[Int.tdiv_eq_ediv_of_nonneg (by omega),←Int.natCast_ediv]
   have:k / S≤k:=Nat.div_le_self _ _
   generalize k / S=q at this ⊢
   rw[wrap_i64]<;>omega
  have d2:Int.tmod (k:Int) (S:Int)=((k % S:Nat):Int):=by
   rw[Int.tmod_eq_emod_of_nonneg (by omega),←Int.natCast_emod]
  have hq1:k / S<R:=(Nat.div_lt_iff_lt_mul (by omega)).2 (by omega)
  have hq2:k % S<S:=Nat.mod_lt _ (by omega)
  have q7:k / S≤7:=Nat.le_of_lt_succ (Nat.lt_of_lt_of_le hq1 hR)
  have q15:k % S≤15:=Nat.le_of_lt_succ (Nat.lt_of_lt_of_le hq2 hS.2)
  by_cases hjl:j=m.2.2.2.1.length
  ·subst hjl
   have e1:((m.2.2.2.1.length:Int)==(m.2.2.2.1.length:Int))=true:=by simp
   rw[ag]
   simp only[eL,a7 hkT,e1]
   rw[if_neg]
   rw[List.drop_of_length_le (by simp)]
   simp[List.range'_succ]
  ·have hjl:j<m.2.2.2.1.length:=by omega
   have e1:((j:Int)==(m.2.2.2.1.length:Int))=false:=by rw[beq_eq_false_iff_ne];omega
   have hin:=sN (hmem _ (List.getElem_mem hjl))
   have hz:=Zx (u:=m.2.2.2.1[j]) (v:=((i:Int),((k / S:Nat):Int),((k % S:Nat):Int),((0:Int),(0:Int),(0:Int),(0:Int),false,()),())) hin ⟨⟨by show(0:Int)≤(i:Int);omega,by show(i:Int)≤15;omega⟩,⟨Int.natCast_nonneg (k / S),Int.ofNat_le.2 q7⟩,Int.natCast_nonneg (k % S),Int.ofNat_le.2 q15⟩
   have hK:(m.2.2.2.1.map dq).drop j=dq m.2.2.2.1[j]::(m.2.2.2.1.map dq).drop (j+1):=by
    rw[List.drop_eq_getElem_cons (by simpa using hjl),List.getElem_map]
   have hkey:dq ((i:Int),((k / S:Nat):Int),((k % S:Nat):Int),((0:Int),(0:Int),(0:Int),(0:Int),false,()),())=gx (i:Int) ((k / S:Nat):Int) ((k % S:Nat):Int):=rfl
   rw[hkey]at hz
   have hih:=ih (k+1) (j+1) (by omega) (by omega)
   rw[hK,List.take_succ_cons,List.range'_succ,List.map_cons,ag]
   simp only[eL,a7 hkT,e1,am hjl,ab,hS0,if_false,d1,d2,X2,aG hkT (by omega),aG hjl (by omega)]
   by_cases hc:ot m.2.2.2.1[j] ((i:Int),((k / S:Nat):Int),((k % S:Nat):Int),((0:Int),(0:Int),(0:Int),(0:Int),false,()),())=0
   ·have g:(ot m.2.2.2.1[j] ((i:Int),((k / S:Nat):Int),((k % S:Nat):Int),((0:Int),(0:Int),(0:Int),(0:Int),false,()),()) != 0)=false:=by rw[hc];rfl
    have g2:=hz.1 hc
    simp only[g,g2,List.cons.injEq,true_and]
    have ha:j+1+n=j+(n+1):=by omega
    rw[ha]at hih
    exact hih
   ·have g:(ot m.2.2.2.1[j] ((i:Int),((k / S:Nat):Int),((k % S:Nat):Int),((0:Int),(0:Int),(0:Int),(0:Int),false,()),()) != 0)=true:=by simpa using hc
    have g2:¬dq m.2.2.2.1[j]=gx (i:Int) ((k / S:Nat):Int) ((k % S:Nat):Int):=fun e=>hc (hz.2 e)
    simp only[g,List.cons.injEq,g2,false_and,if_false]
theorem acH(m:an.T)(hs:cE m.2.2.2.1=true)(hm:fG m.2.2.1=true):
  ∀(n i j:Nat),i+n=m.2.2.1.length→j≤m.2.2.2.1.length→∃o,ac dS (m,(j:Int),m.2.2.1,(m.2.2.1.length:Int),(i:Int),())=some o∧Wm o=decide ((m.2.2.2.1.map dq).drop j=jh i (m.2.2.1.drop i)):=by
 obtain⟨hl16,hg⟩:=gy hm
 have hlen:=gG hs
 intro n
 induction n with
 |zero=>
  intro i j hi hj
  have hi:i=m.2.2.1.length:=by omega
  subst hi
  refine⟨.inl (m,(j:Int),()), ?_, ?_⟩
  ·rw[ag]
   simp only[dS,bp]
  ·rw[List.drop_length]
   show((j:Int)==(m.2.2.2.1.length:Int))=decide ((m.2.2.2.1.map dq).drop j= [])
   have:(m.2.2.2.1.map dq).drop j= []↔j=m.2.2.2.1.length:=by
    rw[List.drop_eq_nil_iff,List.length_map]
    omega
   by_cases h:j=m.2.2.2.1.length
   ·rw[decide_eq_true (this.2 h),h];simp
   ·rw[decide_eq_false (fun e=>h (this.1 e)),beq_eq_false_iff_ne];omega
 |succ n ih=>
  intro i j hi hj
  have hil:i<m.2.2.1.length:=by omega
  have hgi:=nc (hg _ (List.getElem_mem hil))
  obtain⟨R,hR⟩:∃R,R=m.2.2.1[i].1.toNat:=⟨_,rfl⟩
  obtain⟨S,hS⟩:∃S,S=m.2.2.1[i].2.1.toNat:=⟨_,rfl⟩
  rw[←hR,←hS]at hgi
  have hRS:R*S≤128:=Nat.le_trans (Nat.mul_le_mul hgi.1.2 hgi.2.1.2) (by omega)
  have hw:IntKind.i64.wrap ((R:Int)*(S:Int))=((R*S:Nat):Int):=by
   rw[←Int.natCast_mul,wrap_i64]<;>omega
  have h0:=adp m hs i R S (by omega) hgi.1.2 hgi.2.1 m.2.2.1[i].2.2.1 m.2.2.1 (m.2.2.1.length:Int) (R*S) 0 j (by omega) hj
  rw[←List.range_eq_range',←OG i S (by omega) R]at h0
  have hE:jh i (m.2.2.1.drop i)=jI i R S++jh (i+1) (m.2.2.1.drop (i+1)):=by
   rw[List.drop_eq_getElem_cons hil,hR,hS]
   rfl
  have hstep:ac dS (m,(j:Int),m.2.2.1,(m.2.2.1.length:Int),(i:Int),())=if((m.2.2.2.1.map dq).drop j).take (R*S)=jI i R S then ac dS (m,((j+R*S:Nat):Int),m.2.2.1,(m.2.2.1.length:Int),((i+1:Nat):Int),())else some (.inr (false,())):=by
   have h0':ac eL (m,(j:Int),(i:Int),((R:Int),(S:Int),m.2.2.1[i].2.2.1,()),m.2.2.1,(m.2.2.1.length:Int),(i:Int),((R*S:Nat):Int),(0:Int),())=_:=h0
   rw[ag]
   simp only[dS,a7 hil,am hil,ab,hgi.2.2.1,hgi.2.2.2,hw]
   rw[h0']
   by_cases hc:((m.2.2.2.1.map dq).drop j).take (R*S)=jI i R S
   ·simp only[if_pos hc,aG hil (show m.2.2.1.length≤1099511627776 by omega)]
   ·simp only[if_neg hc]
  rw[hstep]
  by_cases hc:((m.2.2.2.1.map dq).drop j).take (R*S)=jI i R S
  ·have hj2:j+R*S≤m.2.2.2.1.length:=by
    have:=congrArg List.length hc
    rw[CJ i R S (by omega),List.length_take,List.length_drop,List.length_map]at this
    have h1:1≤R*S:=Nat.mul_pos hgi.1.1 hgi.2.1.1
    omega
   obtain⟨o,ho1,ho2⟩:=ih (i+1) (j+R*S) (by omega) hj2
   refine⟨o,by rw[if_pos hc];exact ho1, ?_⟩
   rw[ho2,hE,decide_eq_decide]
   have e:(m.2.2.2.1.map dq).drop j=jI i R S++(m.2.2.2.1.map dq).drop (j+R*S):=by
    rw[←hc,←List.drop_drop]
    exact(List.take_append_drop _ _).symm
   rw[e]
   exact(List.append_right_inj _).symm
  ·refine⟨.inr (false,()),by rw[if_neg hc], ?_⟩
   show false=_
   rw[hE,eq_comm,decide_eq_false_iff_not]
   intro e
   apply hc
   rw[e,List.take_append_of_le_length (by rw[CJ i R S (by omega)];exact Nat.le_refl _),List.take_of_length_le (by rw[CJ i R S (by omega)];exact Nat.le_refl _)]
noncomputable def eR(m:an.T):Bool:=decide (m.2.2.2.1.map dq=jh 0 m.2.2.1)
theorem Wn(m:an.T)(hs:cE m.2.2.2.1=true)(hm:fG m.2.2.1=true):mO (m,())=some (eR m,()):=by
 obtain⟨o,h1,h2⟩:=acH m hs hm m.2.2.1.length 0 0 (by omega) (by omega)
 have h1:ac dS ((m.1,m.2.1,m.2.2.1,m.2.2.2.1,()),(0:Int),m.2.2.1,(m.2.2.1.length:Int),(0:Int),())=some o:=h1
 have h2:Wm o=eR m:=h2
 rw[←h2]
 unfold mO
 simp only[h1]
 cases o<;>rfl
end Go.Proofs.YtkgcbbkodalfmaaGreatDoor
namespace Go.Proofs.YtkgcbbkodalfmaaGreatDoor
open Go.RowKit
set_option linter.unusedVariables false
set_option linter.unusedSimpArgs false
def IR(K:List Int)(k:Int):Bool:=decide (k ∈ K)
theorem aa6(K:List Int)(i R S:Nat):(jI i R S).all (IR K)=(List.range' 0 R).all (fun(r:Nat)=>(List.range' 0 S).all (fun(s:Nat)=>IR K (gx (i:Int) (r:Int) (s:Int)))):=by
 unfold jI
 rw[List.all_flatMap,List.range_eq_range']
 congr 1
 funext r
 rw[List.all_map,List.range_eq_range']
 rfl
theorem acI(m:an.T)(hs:cE m.2.2.2.1=true)(i r S:Nat)(hil:i<m.2.2.1.length)(hr:r≤7)(hS:S≤16)(hm:m.2.2.1[i].2.1=(S:Int)):
  ∀(n s c:Nat),s+n=S→c+n≤1000100→ac fo (m,(c:Int),(i:Int),(r:Int),(s:Int),())=some (if(List.range' s n).all (fun(s:Nat)=>IR (m.2.2.2.1.map dq) (gx (i:Int) (r:Int) (s:Int)))=true then .inl (m,((c+n:Nat):Int),(i:Int),(r:Int),())else .inr (false,())):=by
 have hlen:=gG hs
 have hmem:=iy hs
 intro n
 induction n with
 |zero=>
  intro s c h hc
  have h:s=S:=by omega
  subst h
  rw[ag]
  simp only[fo,am hil,ab,hm,bp]
  simp
 |succ n ih=>
  intro s c h hc
  have hsS:s<S:=by omega
  have hf:=U4 m.2.2.2.1 (i:Int) (r:Int) (s:Int) (by omega)
  have hn:=SU (fun v hv=>sN (hmem v hv)) (a:=(i:Int)) (b:=(r:Int)) (c:=(s:Int)) ⟨by omega,by omega⟩ ⟨by omega,by omega⟩
  have hih:=ih (s+1) (c+1) (by omega) (by omega)
  have hw:IntKind.i64.wrap ((c:Int)+1)=((c+1:Nat):Int):=by rw[wrap_i64]<;>omega
  rw[List.range'_succ,List.all_cons,ag]
  simp only[fo,am hil,ab,hm,a7 hsS,hf,hn,hw,aG hsS (show S≤1099511627776 by omega)]
  have hp:IR (m.2.2.2.1.map dq) (gx (i:Int) (r:Int) (s:Int))=decide (gx (i:Int) (r:Int) (s:Int) ∈ m.2.2.2.1.map dq):=rfl
  rw[hp]
  rcases Bool.eq_false_or_eq_true (decide (gx (i:Int) (r:Int) (s:Int) ∈ m.2.2.2.1.map dq))with g|g<;>simp only[g,Bool.not_true,Bool.not_false,Bool.true_and,Bool.false_and]
  ·have ha:c+1+n=c+(n+1):=by omega
   rw[ha]at hih
   exact hih
  ·rfl
theorem acJ(m:an.T)(hs:cE m.2.2.2.1=true)(i R S:Nat)(hil:i<m.2.2.1.length)(hR:R≤8)(hS:S≤16)(hm1:m.2.2.1[i].1=(R:Int))(hm:m.2.2.1[i].2.1=(S:Int)):
  ∀(n r c:Nat),r+n=R→c+n*16≤1000000→ac fp (m,(c:Int),(i:Int),(r:Int),())=some (if(List.range' r n).all (fun(r:Nat)=>(List.range' 0 S).all (fun(s:Nat)=>IR (m.2.2.2.1.map dq) (gx (i:Int) (r:Int) (s:Int))))=true then .inl (m,((c+n*S:Nat):Int),(i:Int),())else .inr (false,())):=by
 intro n
 induction n with
 |zero=>
  intro r c h hc
  have h:r=R:=by omega
  subst h
  rw[ag]
  simp only[fp,am hil,ab,hm1,bp]
  simp
 |succ n ih=>
  intro r c h hc
  have hrR:r<R:=by omega
  have h9:=acI m hs i r S hil (by omega) hS hm S 0 c (by omega) (by omega)
  have h9':ac fo ((m.1,m.2.1,m.2.2.1,m.2.2.2.1,()),(c:Int),(i:Int),(r:Int),(0:Int),())=_:=h9
  have hnS:n*S≤n*16:=Nat.mul_le_mul_left n hS
  have hih:=ih (r+1) (c+S) (by omega) (by rw[Nat.add_mul]at hc;omega)
  rw[List.range'_succ,List.all_cons,ag]
  simp only[fp,am hil,ab,hm1,a7 hrR]
  rw[h9']
  rcases Bool.eq_false_or_eq_true ((List.range' 0 S).all (fun(s:Nat)=>IR (m.2.2.2.1.map dq) (gx (i:Int) (r:Int) (s:Int))))with g|g<;>simp only[g,Bool.true_and,Bool.false_and,if_true,aG hrR (show R≤1099511627776 by omega)]
  ·have ha:c+S+n*S=c+(n+1)*S:=by rw[Nat.add_mul];omega
   rw[ha]at hih
   exact hih
  ·rfl
theorem acK(m:an.T)(hs:cE m.2.2.2.1=true)(hm:fG m.2.2.1=true):
  ∀(n i c:Nat),i+n=m.2.2.1.length→c≤128*i→∃o,ac dt (m,(c:Int),(i:Int),())=some o∧Wm o=((jh i (m.2.2.1.drop i)).all (IR (m.2.2.2.1.map dq))&&decide (c+(jh i (m.2.2.1.drop i)).length=m.2.2.2.1.length)):=by
 obtain⟨hl16,hg⟩:=gy hm
 have hlen:=gG hs
 intro n
 induction n with
 |zero=>
  intro i c hi hc
  have hi:i=m.2.2.1.length:=by omega
  subst hi
  refine⟨.inl (m,(c:Int),()), ?_, ?_⟩
  ·rw[ag]
   simp only[dt,bp]
  ·rw[List.drop_length]
   show((c:Int)==(m.2.2.2.1.length:Int))=(true&&decide (c+0=m.2.2.2.1.length))
   rw[Bool.true_and,Nat.add_zero]
   by_cases h:c=m.2.2.2.1.length
   ·rw[decide_eq_true h,h];simp
   ·rw[decide_eq_false h,beq_eq_false_iff_ne];omega
 |succ n ih=>
  intro i c hi hc
  have hil:i<m.2.2.1.length:=by omega
  have hgi:=nc (hg _ (List.getElem_mem hil))
  obtain⟨R,hR⟩:∃R,R=m.2.2.1[i].1.toNat:=⟨_,rfl⟩
  obtain⟨S,hS⟩:∃S,S=m.2.2.1[i].2.1.toNat:=⟨_,rfl⟩
  rw[←hR,←hS]at hgi
  have hRS:R*S≤128:=Nat.le_trans (Nat.mul_le_mul hgi.1.2 hgi.2.1.2) (by omega)
  have h6:=acJ m hs i R S hil hgi.1.2 hgi.2.1.2 hgi.2.2.1 hgi.2.2.2 R 0 c (by omega) (by omega)
  have h6':ac fp ((m.1,m.2.1,m.2.2.1,m.2.2.2.1,()),(c:Int),(i:Int),(0:Int),())=_:=h6
  rw[←aa6]at h6'
  have hE:jh i (m.2.2.1.drop i)=jI i R S++jh (i+1) (m.2.2.1.drop (i+1)):=by
   rw[List.drop_eq_getElem_cons hil,hR,hS]
   rfl
  have hstep:ac dt (m,(c:Int),(i:Int),())=if(jI i R S).all (IR (m.2.2.2.1.map dq))=true then ac dt (m,((c+R*S:Nat):Int),((i+1:Nat):Int),())else some (.inr (false,())):=by
   rw[ag]
   simp only[dt,a7 hil]
   rw[h6']
   by_cases hc:(jI i R S).all (IR (m.2.2.2.1.map dq))=true
   ·simp only[if_pos hc,aG hil (show m.2.2.1.length≤1099511627776 by omega)]
   ·simp only[if_neg hc]
  rw[hstep,hE,List.all_append,List.length_append,CJ i R S (by omega)]
  by_cases hq:(jI i R S).all (IR (m.2.2.2.1.map dq))=true
  ·obtain⟨o,ho1,ho2⟩:=ih (i+1) (c+R*S) (by omega) (by omega)
   refine⟨o,by rw[if_pos hq];exact ho1, ?_⟩
   rw[ho2,hq,Bool.true_and,Nat.add_assoc]
  ·refine⟨.inr (false,()),by rw[if_neg hq], ?_⟩
   rw[Bool.eq_false_iff.2 hq,Bool.false_and,Bool.false_and]
   rfl
theorem Wo(m:an.T)(hs:cE m.2.2.2.1=true)(hm:fG m.2.2.1=true):lD (m,())=some (eR m,()):=by
 obtain⟨o,h1,h2⟩:=acK m hs hm m.2.2.1.length 0 0 (by omega) (by omega)
 have h1:ac dt ((m.1,m.2.1,m.2.2.1,m.2.2.2.1,()),(0:Int),(0:Int),())=some o:=h1
 have h3:eR m=Wm o:=by
  rw[h2]
  unfold eR
  rw[aa5 _ _ (SS hs) (IQ _ 0 (gy hm).2),Nat.zero_add,List.length_map]
  rfl
 rw[h3]
 unfold lD
 simp only[h1]
 cases o<;>rfl
end Go.Proofs.YtkgcbbkodalfmaaGreatDoor
namespace Go.Proofs.YtkgcbbkodalfmaaGreatDoor
open Go.RowKit
set_option linter.unusedVariables false
set_option linter.unusedSimpArgs false
theorem nd {S X O T:Type}{B:X→Option (X ⊕ O)}(l:List T)(e:S→Nat→X)(g:S→T→S)(fin:S→O)(P:S→Prop)(hP:∀s,∀v ∈ l,P s→P (g s v))(hend:∀s,P s→B (e s l.length)=some (.inr (fin s)))
  (hstep:∀s i (h:i<l.length),P s→B (e s i)=some (.inl (e (g s l[i]) (i+1)))):∀(n i:Nat) (s:S),i+n=l.length→P s→ac B (e s i)=some (fin ((l.drop i).foldl g s))
 |0,i,s,hi,hs=>by
  have hi:i=l.length:=by omega
  subst hi
  rw[ag,hend s hs,List.drop_length]
  rfl
 |n+1,i,s,hi,hs=>by
  have h:i<l.length:=by omega
  rw[ag,hstep s i h hs,List.drop_eq_getElem_cons h]
  exact nd l e g fin P hP hend hstep n (i+1) _ (by omega) (hP s _ (List.getElem_mem h) hs)
theorem nf {S T:Type}{g:S→T→S}{P:S→Prop}:∀(l:List T) (s:S),(∀s,∀v ∈ l,P s→P (g s v))→P s→P (l.foldl g s)
 | [],s,_,h=>h
 |v::l,s,hP,h=>nf l _ (fun s u hu=>hP s u (by simp[hu])) (hP s v (by simp) h)
theorem X3(a b:Nat)(ha:a<9223372036854775808)(hb:b<9223372036854775808):bits .or .i64 (a:Int) (b:Int)=((a|||b:Nat):Int):=by
 have hx:a|||b<2^63:=Nat.or_lt_two_pow (by omega) (by omega)
 have h1:(BitVec.ofInt 64 (a:Int)).toNat=a:=by
  rw[BitVec.ofInt_natCast,BitVec.toNat_ofNat];exact Nat.mod_eq_of_lt (by omega)
 have h2:(BitVec.ofInt 64 (b:Int)).toNat=b:=by
  rw[BitVec.ofInt_natCast,BitVec.toNat_ofNat];exact Nat.mod_eq_of_lt (by omega)
 show IntKind.i64.wrap ((BitVec.ofInt 64 (a:Int)|||BitVec.ofInt 64 (b:Int)).toNat:Int)=_
 rw[BitVec.toNat_or,h1,h2,wrap_i64]<;>omega
theorem IU(a b:Nat)(ha:a<9223372036854775808)(hb:b<9223372036854775808):(bits .andNot .i64 (a:Int) (b:Int)==0)=decide (a&&& b=a):=by
 have h1:BitVec.ofInt 64 (a:Int)=BitVec.ofNat 64 a:=BitVec.ofInt_natCast ..
 have h2:BitVec.ofInt 64 (b:Int)=BitVec.ofNat 64 b:=BitVec.ofInt_natCast ..
 have e:bits .andNot .i64 (a:Int) (b:Int)=IntKind.i64.wrap ((BitVec.ofNat 64 a&&& ~~~ BitVec.ofNat 64 b).toNat:Int):=by
  rw[←h1,←h2];rfl
 have ha':(BitVec.ofNat 64 a).toNat=a:=by rw[BitVec.toNat_ofNat];exact Nat.mod_eq_of_lt (by omega)
 have hle:(BitVec.ofNat 64 a&&& ~~~ BitVec.ofNat 64 b).toNat≤a:=by
  rw[BitVec.toNat_and,ha']
  exact Nat.and_le_left
 have hz:(BitVec.ofNat 64 a&&& ~~~ BitVec.ofNat 64 b).toNat=0↔a&&& b=a:=by
  constructor
  ·intro h
   have h0:BitVec.ofNat 64 a&&& ~~~ BitVec.ofNat 64 b=0#64:=BitVec.eq_of_toNat_eq (by rw[h];rfl)
   apply Nat.eq_of_testBit_eq
   intro i
   rw[Nat.testBit_and]
   by_cases hi:i<64
   ·have:=congrArg (fun z:BitVec 64=>z.getLsbD i) h0
    simp only[BitVec.getLsbD_and,BitVec.getLsbD_not,BitVec.getLsbD_ofNat,BitVec.getLsbD_zero,hi,decide_true,Bool.true_and]at this
    cases h5:a.testBit i<;>cases h6:b.testBit i<;>simp[h5,h6]at this ⊢
   ·have:a.testBit i=false:=Nat.testBit_lt_two_pow (Nat.lt_of_lt_of_le ha (Nat.le_trans (by decide:9223372036854775808≤2^64) (Nat.pow_le_pow_right (by omega) (by omega))))
    rw[this];rfl
  ·intro h
   have h0:BitVec.ofNat 64 a&&& ~~~ BitVec.ofNat 64 b=0#64:=by
    apply BitVec.eq_of_getLsbD_eq
    intro i hi
    have:=congrArg (fun z:Nat=>z.testBit i) h
    simp only[Nat.testBit_and]at this
    simp only[BitVec.getLsbD_and,BitVec.getLsbD_not,BitVec.getLsbD_ofNat,BitVec.getLsbD_zero,hi,decide_true,Bool.true_and]
    cases h5:a.testBit i<;>cases h6:b.testBit i<;>simp[h5,h6]at this ⊢
   rw[h0];rfl
 rw[e,wrap_i64 (by omega) (by omega)]
 by_cases h:a&&& b=a
 ·rw[decide_eq_true h,hz.2 h];rfl
 ·rw[decide_eq_false h,beq_eq_false_iff_ne]
  intro h2
  exact h (hz.1 (by omega))
theorem Pq(k:Nat)(hk:k<32):IntKind.i64.wrap ((1:Int)*2^min (k:Int).toNat IntKind.i64.bits)=((2^k:Nat):Int):=by
 have h:min (k:Int).toNat IntKind.i64.bits=k:=pF (by omega)
 have hp:2^k<2^32:=Nat.pow_lt_pow_right (by omega) hk
 have e:(2:Int)^k=((2^k:Nat):Int):=by norm_cast
 rw[h,Int.one_mul,e]
 generalize (2:Nat)^k=p at hp ⊢
 rw[wrap_i64]<;>omega
theorem MG(k:Nat)(hk:k<32):IntKind.i64.wrap ((1:Int)*2^min k IntKind.i64.bits)=((2^k:Nat):Int):=Pq k hk
theorem SV(z:Int)(h0:0≤z)(h1:z≤31):∃k:Nat,k<32∧z=(k:Int):=⟨z.toNat,by omega,by omega⟩
theorem OH(v k:Nat)(hv:v<4294967296)(hk:k<32):v|||2^k<4294967296:=
 Nat.or_lt_two_pow (n:=32) (by omega) (Nat.pow_lt_pow_right (by omega) hk)
def ou(v k:Nat):Bool:=(v / 2^k) % 2==1
theorem Kt(v k:Nat):ou v k=v.testBit k:=by
 unfold ou
 rw[Nat.testBit_eq_decide_div_mod_eq,Bool.eq_iff_iff]
 simp
theorem Wp(v k:Nat)(hv:v<4294967296)(hk:k<32):w9 ((v:Int),(k:Int),true,())=some (((v|||2^k:Nat):Int),()):=by
 have hh:=Wj v k hv hk
 have hu:IntKind.u64.wrap (k:Int)=(k:Int):=GL (by omega)
 have hn:¬((k:Int)<0):=by omega
 have hp:2^k<2^32:=Nat.pow_lt_pow_right (by omega) hk
 have hx:=BG v (2^k) (by omega) (by omega)
 unfold w9
 simp only[hh,hu,hn,if_false,Pq k hk,hx]
 have hb:(v / 2^k % 2==1)=v.testBit k:=Kt v k
 rw[hb]
 cases h:v.testBit k with
 |true=>
  have:v|||2^k=v:=by
   apply Nat.eq_of_testBit_eq
   intro i
   rw[Nat.testBit_or,Nat.testBit_two_pow]
   by_cases hi:k=i
   ·subst hi;simp[h]
   ·simp[hi]
  rw[this]
  rfl
 |false=>
  have:v|||2^k=v^^^2^k:=by
   apply Nat.eq_of_testBit_eq
   intro i
   rw[Nat.testBit_or,Nat.testBit_xor,Nat.testBit_two_pow]
   by_cases hi:k=i
   ·subst hi;simp[h]
   ·simp[hi]
  rw[this]
  rfl
theorem acL(v k:Nat)(hv:v<4294967296)(hk:k<32):QF ((v:Int),(k:Int),())=some (ou v k,()):=by
 have hb:=yd v k (by omega)
 unfold bt at hb
 have hn:¬((k:Int)<0):=by omega
 unfold QF ou
 simp only[hn,if_false,pF (show k≤64 by omega),hb]
 generalize v / 2^k=z
 have:(((z % 2:Nat):Int)==1)=(z % 2==1):=by
  rw[Bool.eq_iff_iff]
  simp
  omega
 rw[this]
def pI(v:Nat)(n:au.T):Nat:=if n.2.2.2.1=true then v else v|||2^n.1.toNat
def cS(l:List au.T):Nat:=l.foldl pI 0
theorem CK {l:List au.T}(h:ge l=true):l.length≤32∧∀n ∈ l,∃k:Nat,k<32∧n.1=(k:Int):=by
 unfold ge at h
 rw[Bool.and_eq_true,List.all_eq_true]at h
 refine⟨by have:=(aY.1 h.1).2;omega,fun n hn=> ?_⟩
 obtain⟨i,hi,rfl⟩:=List.getElem_of_mem hn
 have:=h.2 i (by simpa using hi)
 unfold um wE at this
 simp only[List.getElem?_eq_getElem hi,Bool.and_eq_true,aY]at this
 obtain⟨⟨⟨h1,h2⟩,_⟩,_⟩:=this
 exact SV _ h1 h2
theorem OI {l:List au.T}(h:ge l=true):∀s,∀n ∈ l,s<4294967296→pI s n<4294967296:=by
 intro s n hn hs
 obtain⟨k,hk,e⟩:=(CK h).2 n hn
 unfold pI
 split
 ·exact hs
 ·rw[e];exact OH s k hs hk
theorem BL {l:List au.T}(h:ge l=true):cS l<4294967296:=nf (P:=fun s=>s<4294967296) l 0 (OI h) (by omega)
theorem Wq(l:List au.T)(h:ge l=true):jn (l,())=some ((cS l:Int),()):=by
 have hid:=CK h
 have e:=nd (B:=eK) l (fun(s:Nat) i=>((s:Int),l,(l.length:Int),(i:Int),())) pI (fun s=>.inl ((s:Int),())) (fun s=>s<4294967296) (OI h) (fun s _=>by simp only[eK,bp]) (fun s i hi hs=>by
  obtain⟨k,hk,e⟩:=hid.2 _ (List.getElem_mem hi)
  have hn:¬((k:Int)<0):=by omega
  have hp:2^k<2^32:=Nat.pow_lt_pow_right (by omega) hk
  have ho:=X3 s (2^k) (by omega) (by omega)
  simp only[eK,a7 hi,aG hi (show l.length≤1099511627776 by omega),am hi,ab,e,hn,if_false,MG k hk,ho,pI,Int.toNat_natCast]
  cases l[i].2.2.2.1<;>rfl) l.length 0 0 (by omega) (by omega)
 have e':ac eK ((0:Int),l,(l.length:Int),(0:Int),())=_:=e
 unfold jn
 simp only[e',List.drop_zero]
 rfl
theorem QH(l:List au.T)(h:ge l=true):cV (l,())=some ((cS l:Int),()):=by
 have hid:=CK h
 have e:=nd (B:=cX) l (fun(s:Nat) i=>(l,(s:Int),(i:Int),())) pI (fun s=>.inl ((s:Int),())) (fun s=>s<4294967296) (OI h) (fun s _=>by simp only[cX,bp]) (fun s i hi hs=>by
  obtain⟨k,hk,e⟩:=hid.2 _ (List.getElem_mem hi)
  have ho:=Wp s k hs hk
  simp only[cX,a7 hi,aG hi (show l.length≤1099511627776 by omega),am hi,ab,e,ho,pI,Int.toNat_natCast]
  cases l[i].2.2.2.1<;>rfl) l.length 0 0 (by omega) (by omega)
 have e':ac cX (l,(0:Int),(0:Int),())=_:=e
 unfold cV
 simp only[e',List.drop_zero]
 rfl
theorem uo {v:al.T}(h:mg v=true):∃k:Nat,k<32∧v.2.2.2.1.1=(k:Int):=by
 unfold mg pH at h
 simp only[Bool.and_eq_true,aY]at h
 obtain⟨h1,h2⟩:=h.2.2.2.1
 exact SV _ h1 h2
def rK(m:an.T):Bool:=m.2.2.2.1.all (fun v=>ou (cS m.2.1) v.2.2.2.1.1.toNat)
theorem acM(m:an.T)(hn:ge m.2.1=true)(hs:cE m.2.2.2.1=true):my (m,())=some (rK m,()):=by
 have hlen:=gG hs
 have e:=ki (B:=fR) m.2.2.2.1 (fun i=>(m,(cS m.2.1:Int),(i:Int),())) (fun v=>ou (cS m.2.1) v.2.2.2.1.1.toNat) (.inl ()) (.inr (false,())) (by simp only[fR,bp]) (fun i h=>by
  obtain⟨k,hk,e⟩:=uo (iy hs _ (List.getElem_mem h))
  have hh:pm ((cS m.2.1:Int),(k:Int),())=some (ou (cS m.2.1) k,()):=Wj (cS m.2.1) k (BL hn) hk
  simp only[fR,a7 h,aG h (show m.2.2.2.1.length≤1099511627776 by omega),am h,ab,e,hh,Int.toNat_natCast]
  cases ou (cS m.2.1) k<;>rfl)
 have e':ac fR ((m.1,m.2.1,m.2.2.1,m.2.2.2.1,()),(cS m.2.1:Int),(0:Int),())=_:=e
 unfold my rK
 simp only[QH m.2.1 hn,e']
 cases m.2.2.2.1.all (fun v=>ou (cS m.2.1) v.2.2.2.1.1.toNat)<;>rfl
theorem acN(m:an.T)(hn:ge m.2.1=true)(hs:cE m.2.2.2.1=true):ct (m.2.2.2.1,(fun z=>nm (z.1,(m.1,m.2.1,m.2.2.1,m.2.2.2.1,()),())),())=some (!rK m,()):=by
 have hlen:=gG hs
 rw[vU m.2.2.2.1 (by omega) _ (fun v=> !ou (cS m.2.1) v.2.2.2.1.1.toNat) (fun i h=>by
  obtain⟨k,hk,e⟩:=uo (iy hs _ (List.getElem_mem h))
  have hh:=acL (cS m.2.1) k (BL hn) hk
  unfold nm
  simp only[Wq m.2.1 hn,e,hh,Int.toNat_natCast])]
 unfold rK
 rw[BC,Bool.not_not]
end Go.Proofs.YtkgcbbkodalfmaaGreatDoor
namespace Go.Proofs.YtkgcbbkodalfmaaGreatDoor
open Go.RowKit
set_option linter.unusedVariables false
set_option linter.unusedSimpArgs false
theorem CL {S X O T:Type}{B:X→Option (X ⊕ O)}(l:List T)(e:S→Nat→X)(g:S→T→S)(fin:S→O)(P:Nat→S→Prop)(hP:∀i (h:i<l.length) s,P i s→P (i+1) (g s l[i]))(hend:∀s,B (e s l.length)=some (.inr (fin s)))
  (hstep:∀s i (h:i<l.length),P i s→B (e s i)=some (.inl (e (g s l[i]) (i+1)))):∀(n i:Nat) (s:S),i+n=l.length→P i s→ac B (e s i)=some (fin ((l.drop i).foldl g s))
 |0,i,s,hi,hs=>by
  have hi:i=l.length:=by omega
  subst hi
  rw[ag,hend s,List.drop_length]
  rfl
 |n+1,i,s,hi,hs=>by
  have h:i<l.length:=by omega
  rw[ag,hstep s i h hs,List.drop_eq_getElem_cons h]
  exact CL l e g fin P hP hend hstep n (i+1) _ (by omega) (hP i h s hs)
theorem zZ {α:Type}(q:α→Bool):∀(l:List α) (i j:Nat),cd q i l=some j→∃(n:Nat) (h:n<l.length),j=i+n∧q l[n]=true
 | [],_,_,h=>by cases h
 |v::r,i,j,h=>by
  unfold cd at h
  cases hq:q v with
  |true=>
   rw[hq]at h
   cases h
   exact⟨0,by simp,by omega,hq⟩
  |false=>
   rw[hq]at h
   obtain⟨n,hn,e,h2⟩:=zZ q r (i+1) j h
   exact⟨n+1,by simpa using hn,by omega,by simpa using h2⟩
def CM(v:al.T):Int:=v.2.2.2.1.2.2.2.1
def He(u v:al.T):Bool:=(u.1==v.1)&&(u.2.2.1==v.2.2.1)
def nF(u v:al.T):Bool:= !He u v||(CM u==CM v)
def Hf(l:List al.T)(i:Nat):Bool:=match l[i]? with
 |none=>false
 |some v=>(l.take i).all (nF v)
def GP(l:List al.T):Bool:=(List.range l.length).all (Hf l)
theorem adq(m:an.T)(hl:m.2.2.2.1.length≤1099511627776):kN (m,())=some (GP m.2.2.2.1,()):=by
 have inner:∀i (h:i<m.2.2.2.1.length),ac eH (m,(i:Int),(0:Int),())=some (if(m.2.2.2.1.take i).all (nF m.2.2.2.1[i])then .inl (m,(i:Int),())else .inr (false,())):=fun i h=>by
  have e:=ki (B:=eH) (m.2.2.2.1.take i) (fun j=>(m,(i:Int),(j:Int),())) (nF m.2.2.2.1[i]) (.inl (m,(i:Int),())) (.inr (false,())) (by
   rw[List.length_take,Nat.min_eq_left (Nat.le_of_lt h)]
   simp only[eH,bp]) (fun j hj=>by
   have hj':j<i:=by rw[List.length_take]at hj;omega
   have hjl:j<m.2.2.2.1.length:=by omega
   have hg:(m.2.2.2.1.take i)[j]=m.2.2.2.1[j]:=by simp
   rw[hg]
   simp only[eH,a7 hj',aG hjl hl,am hjl,am h,ab,sK,nF,He,CM]
   generalize m.2.2.2.1[i]=u
   generalize m.2.2.2.1[j]=v
   rcases Bool.eq_false_or_eq_true (u.1==v.1)with h1|h1<;>simp only[h1,Bool.true_and,Bool.false_and,Bool.not_false,Bool.true_or,if_true]
   rcases Bool.eq_false_or_eq_true (u.2.2.1==v.2.2.1)with h2|h2<;>simp only[h2,Bool.not_true,Bool.not_false,Bool.true_or,Bool.false_or,if_true]
   have hne:(u.2.2.2.1.2.2.2.1 != v.2.2.2.1.2.2.2.1)= !(u.2.2.2.1.2.2.2.1==v.2.2.2.1.2.2.2.1):=rfl
   rw[hne]
   cases (u.2.2.2.1.2.2.2.1==v.2.2.2.1.2.2.2.1)<;>rfl)
  exact e
 have e:=gA (B:=eI) m.2.2.2.1.length (fun i=>(m,(i:Int),())) (Hf m.2.2.2.1) (.inl ()) (.inr (false,())) (by simp only[eI,bp]) (fun i h=>by
  simp only[eI,a7 h,aG h hl,inner i h,Hf,List.getElem?_eq_getElem h]
  cases (m.2.2.2.1.take i).all (nF m.2.2.2.1[i])
  ·rfl
  ·show some (Sum.inl (m,IntKind.i64.wrap ((i:Int)+1),()))=some (.inl (m,((i+1:Nat):Int),()))
   rw[aG h hl])
 have e':ac eI ((m.1,m.2.1,m.2.2.1,m.2.2.2.1,()),(0:Int),())=_:=e
 unfold kN GP
 simp only[e']
 cases (List.range m.2.2.2.1.length).all (Hf m.2.2.2.1)<;>rfl
theorem Pr:∀(ms:List ay.T) (i:Nat),(∀m ∈ ms,MF m)→∀k ∈ jh i ms,∃a r s:Nat,k=gx (a:Int) (r:Int) (s:Int)∧r≤7∧s≤15∧gx (a:Int) 0 (s:Int) ∈ jh i ms
 | [],i,_,k,hk=>by simp[jh]at hk
 |m::ms,i,h,k,hk=>by
  simp only[jh,List.mem_append]at hk ⊢
  rcases hk with hk|hk
  ·have hm:=nc (h m (by simp))
   simp only[jI,List.mem_flatMap,List.mem_map,List.mem_range]at hk
   obtain⟨r,hr,s,hs,rfl⟩:=hk
   refine⟨i,r,s,rfl,by omega,by omega,.inl ?_⟩
   simp only[jI,List.mem_flatMap,List.mem_map,List.mem_range]
   exact⟨0,by omega,s,hs,rfl⟩
  ·obtain⟨a,r,s,e,h1,h2,h3⟩:=Pr ms (i+1) (fun m hm=>h m (by simp[hm])) k hk
   exact⟨a,r,s,e,h1,h2,.inr h3⟩
theorem SW(m:an.T)(hs:cE m.2.2.2.1=true)(hm:fG m.2.2.1=true)(hc:eR m=true):∀v ∈ m.2.2.2.1,∃(j:Nat) (h:j<m.2.2.2.1.length),cd (jT v.1 0 v.2.2.1) 0 m.2.2.2.1=some j∧jT v.1 0 v.2.2.1 m.2.2.2.1[j]=true:=by
 intro v hv
 have hmem:=iy hs
 have hvk:=sN (hmem v hv)
 have hK:m.2.2.2.1.map dq=jh 0 m.2.2.1:=by
  unfold eR at hc
  exact of_decide_eq_true hc
 have h1:dq v ∈ jh 0 m.2.2.1:=by rw[←hK];exact List.mem_map.2 ⟨v,hv,rfl⟩
 obtain⟨a,r,s,e,hr,hs',h2⟩:=Pr _ 0 (gy hm).2 _ h1
 rw[←hK]at h2
 obtain⟨u,hu,e2⟩:=List.mem_map.1 h2
 have huk:=sN (hmem u hu)
 have hv0:jT (a:Int) (r:Int) (s:Int) v=true:=(Hd hvk ⟨by omega,by omega⟩ ⟨by omega,by omega⟩).2 e
 have hu0:jT (a:Int) 0 (s:Int) u=true:=(Hd huk ⟨by omega,by omega⟩ ⟨by omega,by omega⟩).2 e2
 have hva:v.1=(a:Int)∧v.2.2.1=(s:Int):=by
  unfold jT at hv0
  simp only[Bool.and_eq_true,beq_iff_eq]at hv0
  exact⟨hv0.1,hv0.2.2⟩
 have hx:m.2.2.2.1.any (jT v.1 0 v.2.2.1)=true:=List.any_eq_true.2 ⟨u,hu,by rw[hva.1,hva.2];exact hu0⟩
 rw[←kh (jT v.1 0 v.2.2.1) 0 m.2.2.2.1]at hx
 obtain⟨j,hj⟩:=Option.isSome_iff_exists.1 hx
 obtain⟨n,hn,e3,h4⟩:=zZ _ _ _ _ hj
 have:j=n:=by omega
 subst this
 exact⟨j,hn,hj,h4⟩
def pJ(l:List al.T)(v:al.T):Bool:=match cd (jT v.1 0 v.2.2.1) 0 l with
 |none=>false
 |some j=>match l[j]? with
  |none=>false
  |some u=>CM v==CM u
theorem Zy(m:an.T)(hs:cE m.2.2.2.1=true)(hm:fG m.2.2.1=true)(hc:eR m=true):rj (m,())=some (m.2.2.2.1.all (pJ m.2.2.2.1),()):=by
 have hlen:=gG hs
 have e:=ki (B:=gS) m.2.2.2.1 (fun i=>(m,m.2.2.2.1,(m.2.2.2.1.length:Int),(i:Int),())) (pJ m.2.2.2.1) (.inl ()) (.inr (false,())) (by simp only[gS,bp]) (fun i h=>by
  obtain⟨j,hj,h1,h2⟩:=SW m hs hm hc _ (List.getElem_mem h)
  have hf:nl (m.2.2.2.1,m.2.2.2.1[i].1,(0:Int),m.2.2.2.1[i].2.2.1,())=some ((j:Int),()):=by
   rw[U5 _ _ _ _ (by omega)]
   unfold tk
   rw[h1]
  simp only[gS,a7 h,aG h (show m.2.2.2.1.length≤1099511627776 by omega),am h,ab,hf,am hj,sK,cW,pJ,h1,List.getElem?_eq_getElem hj,CM]
  have hne:(m.2.2.2.1[i].2.2.2.1.2.2.2.1 != m.2.2.2.1[j].2.2.2.1.2.2.2.1)= !(m.2.2.2.1[i].2.2.2.1.2.2.2.1==m.2.2.2.1[j].2.2.2.1.2.2.2.1):=rfl
  rw[hne]
  cases (m.2.2.2.1[i].2.2.2.1.2.2.2.1==m.2.2.2.1[j].2.2.2.1.2.2.2.1)<;>rfl)
 have e':ac gS ((m.1,m.2.1,m.2.2.1,m.2.2.2.1,()),m.2.2.2.1,(m.2.2.2.1.length:Int),(0:Int),())=_:=e
 unfold rj
 simp only[e']
 cases m.2.2.2.1.all (pJ m.2.2.2.1)<;>rfl
theorem Zz {u v:al.T}(h:nF u v=true):nF v u=true:=by
 unfold nF He at h ⊢
 simp only[Bool.or_eq_true,Bool.not_eq_true',Bool.and_eq_false_iff,beq_iff_eq,beq_eq_false_iff_ne]at h ⊢
 rcases h with(h|h)|h
 ·exact .inl (.inl fun e=>h e.symm)
 ·exact .inl (.inr fun e=>h e.symm)
 ·exact .inr h.symm
theorem aa7 {l:List al.T}:GP l=true↔∀u ∈ l,∀v ∈ l,nF u v=true:=by
 unfold GP
 rw[List.all_eq_true]
 constructor
 ·intro h
  have key:∀i j (hi:i<l.length) (hj:j<i),nF l[i] l[j]=true:=fun i j hi hj=>by
   have:=h i (by simpa using hi)
   unfold Hf at this
   simp only[List.getElem?_eq_getElem hi,List.all_eq_true]at this
   exact this _ (List.mem_take_iff_getElem.2 ⟨j,by omega,rfl⟩)
  intro u hu v hv
  obtain⟨i,hi,rfl⟩:=List.getElem_of_mem hu
  obtain⟨j,hj,rfl⟩:=List.getElem_of_mem hv
  rcases Nat.lt_trichotomy i j with h1|h1|h1
  ·exact Zz (key j i hj h1)
  ·subst h1
   unfold nF
   simp
  ·exact key i j hi h1
 ·intro h i hi
  have hi:i<l.length:=by simpa using hi
  unfold Hf
  simp only[List.getElem?_eq_getElem hi,List.all_eq_true]
  exact fun v hv=>h _ (List.getElem_mem hi) v (List.mem_of_mem_take hv)
theorem Ws(m:an.T)(hs:cE m.2.2.2.1=true)(hm:fG m.2.2.1=true)(hc:eR m=true):m.2.2.2.1.all (pJ m.2.2.2.1)=GP m.2.2.2.1:=by
 have hf:=SW m hs hm hc
 rw[Bool.eq_iff_iff,aa7,List.all_eq_true]
 constructor
 ·intro h u hu v hv
  unfold nF
  cases hsm:He u v with
  |false=>rfl
  |true=>
   unfold He at hsm
   simp only[Bool.and_eq_true,beq_iff_eq]at hsm
   obtain⟨j,hj,h1,h2⟩:=hf u hu
   have hu':=h u hu
   have hv':=h v hv
   unfold pJ at hu' hv'
   rw[←hsm.1,←hsm.2]at hv'
   simp only[h1,List.getElem?_eq_getElem hj,beq_iff_eq]at hu' hv'
   rw[hu',hv']
   simp
 ·intro h v hv
  obtain⟨j,hj,h1,h2⟩:=hf v hv
  unfold pJ
  simp only[h1,List.getElem?_eq_getElem hj]
  have h3:=h v hv _ (List.getElem_mem hj)
  unfold jT at h2
  simp only[Bool.and_eq_true,beq_iff_eq]at h2
  unfold nF He at h3
  rw[h2.1,h2.2.2]at h3
  simpa using h3
def ZA(k:Int)(a:Int)(v:al.T):Int:=if(v.1==k)=true then IntKind.i64.wrap (a+CM v)else a
def OJ(l:List al.T)(k:Int):Int:=l.foldl (ZA k) 0
theorem adr(m:an.T)(k:Int)(hl:m.2.2.2.1.length≤1099511627776):qK (m,k,())=some (OJ m.2.2.2.1 k,()):=by
 have e:=CL (B:=gO) m.2.2.2.1 (fun(s:Int) i=>(k,m,s,(i:Int),())) (ZA k) (fun s=>.inl (s,())) (fun _ _=>True) (fun _ _ _ _=>trivial) (fun s=>by simp only[gO,bp]) (fun s i h _=>by
  simp only[gO,a7 h,aG h hl,am h,ab,ZA,CM]
  cases (m.2.2.2.1[i].1==k)<;>rfl) m.2.2.2.1.length 0 0 (by omega) trivial
 have e':ac gO (k,(m.1,m.2.1,m.2.2.1,m.2.2.2.1,()),(0:Int),(0:Int),())=_:=e
 unfold qK
 simp only[e']
 rfl
theorem ads(m:an.T)(k:Int)(hl:m.2.2.2.1.length≤1000):∃l,oE (m,k,())=some (l,())∧np (l,())=some (OJ m.2.2.2.1 k,()):=by
 have e:=CL (B:=gp) m.2.2.2.1 (fun(s:List al.T) i=>(k,s,m.2.2.2.1,(m.2.2.2.1.length:Int),(i:Int),())) (fun s v=>if(v.1==k)=true then s++ [v]else s) (fun s=>.inl (s,())) (fun i s=>s.length≤i) (fun i h s hs=>by
  show List.length (if _ then _ else _)≤_
  split
  ·simp;omega
  ·omega) (fun s=>by simp only[gp,bp]) (fun s i h hs=>by
  simp only[gp,a7 h,aG h (show m.2.2.2.1.length≤1099511627776 by omega),am h,ab]
  cases (m.2.2.2.1[i].1==k)
  ·rfl
  ·simp only
   rw[aA (by simp;omega)]
   rfl) m.2.2.2.1.length 0 [] (by omega) (by simp)
 have e':ac gp (k,([]:List al.T),m.2.2.2.1,(m.2.2.2.1.length:Int),(0:Int),())=_:=e
 have hflt:∀(l acc:List al.T),l.foldl (fun s v=>if(v.1==k)=true then s++ [v]else s) acc=acc++l.filter (fun v=>v.1==k):=by
  intro l
  induction l with
  |nil=>intro acc;simp
  |cons v l ih=>
   intro acc
   rw[List.foldl_cons,ih,List.filter_cons]
   split<;>simp
 refine⟨m.2.2.2.1.filter (fun v=>v.1==k), ?_, ?_⟩
 ·unfold oE
  simp only[e',List.drop_zero,hflt,List.nil_append]
 ·have hle:=List.length_filter_le (fun v:al.T=>v.1==k) m.2.2.2.1
  generalize hq:m.2.2.2.1.filter (fun v=>v.1==k)=q at hle
  have e2:=CL (B:=eM) q (fun(s:Int) i=>(s,q,(q.length:Int),(i:Int),())) (fun s v=>IntKind.i64.wrap (s+CM v)) (fun s=>.inl (s,())) (fun _ _=>True) (fun _ _ _ _=>trivial) (fun s=>by simp only[eM,bp]) (fun s i h _=>by
   simp only[eM,a7 h,aG h (show q.length≤1099511627776 by omega),am h,ab]
   rfl) q.length 0 0 (by omega) trivial
  have e2':ac eM ((0:Int),q,(q.length:Int),(0:Int),())=_:=e2
  unfold np OJ
  simp only[e2',List.drop_zero]
  rw[←hq,List.foldl_filter]
  rfl
def lV(l:List al.T)(k:Nat):Bool:= !decide (OJ l (k:Int)>32000)
theorem aa8(m:an.T)(hl:m.2.2.2.1.length≤1000)(hn:m.2.2.1.length≤1000):tY (m,())=some ((List.range m.2.2.1.length).all (lV m.2.2.2.1),()):=by
 have e:=gA (B:=iW) m.2.2.1.length (fun i=>(m,(m.2.2.1.length:Int),(i:Int),())) (lV m.2.2.2.1) (.inl ()) (.inr (false,())) (by simp only[iW,bp]) (fun i h=>by
  obtain⟨l,h1,h2⟩:=ads m (i:Int) hl
  have h1:oE ((m.1,m.2.1,m.2.2.1,m.2.2.2.1,()),(i:Int),())=some (l,()):=h1
  simp only[iW,a7 h,aG h (show m.2.2.1.length≤1099511627776 by omega),h1,h2,lV]
  rcases Bool.eq_false_or_eq_true (decide (OJ m.2.2.2.1 (i:Int)>32000))with g|g<;>simp only[g]<;>rfl)
 have e':ac iW ((m.1,m.2.1,m.2.2.1,m.2.2.2.1,()),(m.2.2.1.length:Int),(0:Int),())=_:=e
 unfold tY
 simp only[e']
 cases (List.range m.2.2.1.length).all (lV m.2.2.2.1)<;>rfl
theorem aa9(m:an.T)(hl:m.2.2.2.1.length≤1000)(hn:m.2.2.1.length≤1000):ac et (m,(0:Int),())=some (if(List.range m.2.2.1.length).all (lV m.2.2.2.1)=true then .inl (m,())else .inr ((8:Int),())):=
 gA (B:=et) m.2.2.1.length (fun i=>(m,(i:Int),())) (lV m.2.2.2.1) (.inl (m,())) (.inr ((8:Int),())) (by simp only[et,bp]) (fun i h=>by
  have h1:qK ((m.1,m.2.1,m.2.2.1,m.2.2.2.1,()),(i:Int),())=_:=adr m (i:Int) (by omega)
  simp only[et,a7 h,aG h (show m.2.2.1.length≤1099511627776 by omega),h1,lV]
  rcases Bool.eq_false_or_eq_true (decide (OJ m.2.2.2.1 (i:Int)>32000))with g|g<;>simp only[g]<;>rfl)
def tm(v:al.T):Bool:=if(v.2.2.2.1.2.1==(3:Int))=true then v.1 != (0:Int)else false
theorem acO(l:List al.T)(hl:l.length≤1000):ct (l,nn,())=some (l.any tm,()):=
 vU l (by omega) _ tm (fun i h=>by
  unfold nn tm
  cases (l[i].2.2.2.1.2.1==(3:Int))<;>rfl)
theorem acP(m:an.T)(hl:m.2.2.2.1.length≤1000):ac du (m,(0:Int),())=some (if m.2.2.2.1.any tm=true then .inr ((10:Int),())else .inl ()):=by
 have e:=ki (B:=du) m.2.2.2.1 (fun i=>(m,(i:Int),())) (fun v=> !tm v) (.inl ()) (.inr ((10:Int),())) (by simp only[du,bp]) (fun i h=>by
  simp only[du,a7 h,aG h (show m.2.2.2.1.length≤1099511627776 by omega),am h,ab,tm]
  rcases Bool.eq_false_or_eq_true (m.2.2.2.1[i].2.2.2.1.2.1==(3:Int))with g|g<;>simp only[g]
  ·rcases Bool.eq_false_or_eq_true (m.2.2.2.1[i].1 != (0:Int))with g2|g2<;>simp only[g2]<;>rfl
  ·rfl)
 have e':ac du (m,(0:Int),())=_:=e
 rw[e',BC]
 simp only[Bool.not_not]
 cases m.2.2.2.1.any tm<;>rfl
end Go.Proofs.YtkgcbbkodalfmaaGreatDoor
namespace Go.Proofs.YtkgcbbkodalfmaaGreatDoor
open Go.RowKit
set_option linter.unusedVariables false
set_option linter.unusedSimpArgs false
def GQ(i r:Int)(s:Nat)(v:al.T):Nat:=if(v.1==i)=true then(if(v.2.1==r)=true then s|||2^v.2.2.2.1.1.toNat else s)else s
def sO(l:List al.T)(i r:Int):Nat:=l.foldl (GQ i r) 0
theorem OK {l:List al.T}(h:cE l=true)(i r:Int):∀s,∀v ∈ l,s<4294967296→GQ i r s v<4294967296:=by
 intro s v hv hs
 obtain⟨k,hk,e⟩:=uo (iy h v hv)
 unfold GQ
 split
 ·split
  ·rw[e];exact OH s k hs hk
  ·exact hs
 ·exact hs
theorem aba {l:List al.T}(h:cE l=true)(i r:Int):sO l i r<4294967296:=nf (P:=fun s=>s<4294967296) l 0 (OK h i r) (by omega)
theorem abb(m:an.T)(hd:rK m=true)(i r:Int):∀k,(sO m.2.2.2.1 i r).testBit k=true→(cS m.2.1).testBit k=true:=by
 unfold rK at hd
 rw[List.all_eq_true]at hd
 refine nf (P:=fun s=>∀k,Nat.testBit s k=true→(cS m.2.1).testBit k=true) m.2.2.2.1 0 ?_ (by simp)
 intro s v hv hs k hk
 unfold GQ at hk
 have hv':=hd v hv
 rw[Kt]at hv'
 split at hk
 ·split at hk
  ·rw[Nat.testBit_or,Nat.testBit_two_pow,Bool.or_eq_true]at hk
   rcases hk with hk|hk
   ·exact hs k hk
   ·have:=of_decide_eq_true hk
    rw[←this]
    exact hv'
  ·exact hs k hk
 ·exact hs k hk
theorem acQ(m:an.T)(hd:rK m=true)(i r:Int):decide (cS m.2.1&&& sO m.2.2.2.1 i r=cS m.2.1)=decide (sO m.2.2.2.1 i r=cS m.2.1):=by
 have hs:=abb m hd i r
 rw[decide_eq_decide]
 constructor
 ·intro h
  apply Nat.eq_of_testBit_eq
  intro k
  have:=congrArg (fun z:Nat=>z.testBit k) h
  simp only[Nat.testBit_and]at this
  cases h1:(sO m.2.2.2.1 i r).testBit k with
  |true=>rw[hs k h1]
  |false=>
   rw[h1,Bool.and_false]at this
   exact this
 ·intro h
  rw[h,Nat.and_self]
theorem adt(m:an.T)(hs:cE m.2.2.2.1=true)(a i r:Int):ac dQ (m,a,i,r,(0:Int),(0:Int),())=some (.inl (m,a,i,r,(sO m.2.2.2.1 i r:Int),())):=by
 have hlen:=gG hs
 have e:=nd (B:=dQ) m.2.2.2.1 (fun(s:Nat) j=>(m,a,i,r,(s:Int),(j:Int),())) (GQ i r) (fun s=>.inl (m,a,i,r,(s:Int),())) (fun s=>s<4294967296) (OK hs i r) (fun s _=>by simp only[dQ,bp]) (fun s j hj hv=>by
  obtain⟨k,hk,e⟩:=uo (iy hs _ (List.getElem_mem hj))
  have ho:=Wp s k hv hk
  simp only[dQ,a7 hj,aG hj (show m.2.2.2.1.length≤1099511627776 by omega),am hj,ab,e,ho,GQ,Int.toNat_natCast]
  rcases Bool.eq_false_or_eq_true (m.2.2.2.1[j].1==i)with g|g<;>simp only[g]
  ·rcases Bool.eq_false_or_eq_true (m.2.2.2.1[j].2.1==r)with g2|g2<;>simp only[g2]<;>rfl
  ·rfl) m.2.2.2.1.length 0 0 (by omega) (by omega)
 have e':ac dQ (m,a,i,r,(0:Int),(0:Int),())=_:=e
 rw[e',List.drop_zero]
 rfl
theorem adu(m:an.T)(hs:cE m.2.2.2.1=true)(i r:Int)(ms:List ay.T)(n i2 R r2:Int):ac fN (m,i,r,(0:Int),ms,n,i2,R,r2,m.2.2.2.1,(m.2.2.2.1.length:Int),(0:Int),())=some (.inl (m,i,(sO m.2.2.2.1 i r:Int),ms,n,i2,R,r2,())):=by
 have hlen:=gG hs
 have e:=nd (B:=fN) m.2.2.2.1 (fun(s:Nat) j=>(m,i,r,(s:Int),ms,n,i2,R,r2,m.2.2.2.1,(m.2.2.2.1.length:Int),(j:Int),())) (GQ i r) (fun s=>.inl (m,i,(s:Int),ms,n,i2,R,r2,())) (fun s=>s<4294967296) (OK hs i r) (fun s _=>by simp only[fN,bp]) (fun s j hj hv=>by
  obtain⟨k,hk,e⟩:=uo (iy hs _ (List.getElem_mem hj))
  have hn:¬((k:Int)<0):=by omega
  have hp:2^k<2^32:=Nat.pow_lt_pow_right (by omega) hk
  have ho:=X3 s (2^k) (by omega) (by omega)
  simp only[fN,a7 hj,aG hj (show m.2.2.2.1.length≤1099511627776 by omega),am hj,ab,e,hn,if_false,MG k hk,ho,GQ,Int.toNat_natCast]
  rcases Bool.eq_false_or_eq_true (m.2.2.2.1[j].1==i)with g|g<;>simp only[g]
  ·rcases Bool.eq_false_or_eq_true (m.2.2.2.1[j].2.1==r)with g2|g2<;>simp only[g2]<;>rfl
  ·rfl) m.2.2.2.1.length 0 0 (by omega) (by omega)
 have e':ac fN (m,i,r,(0:Int),ms,n,i2,R,r2,m.2.2.2.1,(m.2.2.2.1.length:Int),(0:Int),())=_:=e
 rw[e',List.drop_zero]
 rfl
def nG(m:an.T)(i:Nat)(r:Nat):Bool:=decide (sO m.2.2.2.1 (i:Int) (r:Int)=cS m.2.1)
def pK(m:an.T)(i:Nat):Bool:=match m.2.2.1[i]? with
 |none=>false
 |some v=>(List.range v.1.toNat).all (nG m i)
def sP(m:an.T):Bool:=(List.range m.2.2.1.length).all (pK m)
theorem acR(a b:Nat):((a:Int) != (b:Int))= !decide (a=b):=by
 by_cases h:a=b
 ·subst h;simp
 ·rw[decide_eq_false h]
  simp
  omega
theorem ZB(m:an.T)(hn:ge m.2.1=true)(hm:fG m.2.2.1=true)(hs:cE m.2.2.2.1=true):oB (m,())=some (sP m,()):=by
 obtain⟨hl16,hg⟩:=gy hm
 have inner:∀i (hi:i<m.2.2.1.length),ac fB (m,(cS m.2.1:Int),(i:Int),(0:Int),())=some (if(List.range m.2.2.1[i].1.toNat).all (nG m i)=true then .inl (m,(cS m.2.1:Int),(i:Int),())else .inr (false,())):=fun i hi=>by
  have hgi:=nc (hg _ (List.getElem_mem hi))
  have e:=gA (B:=fB) m.2.2.1[i].1.toNat (fun r=>(m,(cS m.2.1:Int),(i:Int),(r:Int),())) (nG m i) (.inl (m,(cS m.2.1:Int),(i:Int),())) (.inr (false,())) (by
   simp only[fB,am hi,ab]
   have:decide ((m.2.2.1[i].1.toNat:Int)<m.2.2.1[i].1)=false:=by rw[←hgi.2.2.1];exact decide_eq_false (Int.lt_irrefl _)
   rw[this]) (fun r hr=>by
   have hlt:decide ((r:Int)<m.2.2.1[i].1)=true:=by rw[hgi.2.2.1];exact a7 hr
   have hv:ac dQ ((m.1,m.2.1,m.2.2.1,m.2.2.2.1,()),(cS m.2.1:Int),(i:Int),(r:Int),(0:Int),(0:Int),())=_:=adt m hs (cS m.2.1:Int) (i:Int) (r:Int)
   simp only[fB,am hi,ab,hlt,hv,acR,nG,aG hr (show m.2.2.1[i].1.toNat≤1099511627776 by have:=hgi.1.2;omega)]
   rcases Bool.eq_false_or_eq_true (decide (sO m.2.2.2.1 (i:Int) (r:Int)=cS m.2.1))with g|g<;>simp only[g]<;>rfl)
  exact e
 have e:=gA (B:=gk) m.2.2.1.length (fun i=>(m,(cS m.2.1:Int),(i:Int),())) (pK m) (.inl ()) (.inr (false,())) (by simp only[gk,bp]) (fun i hi=>by
  have h6:ac fB ((m.1,m.2.1,m.2.2.1,m.2.2.2.1,()),(cS m.2.1:Int),(i:Int),(0:Int),())=_:=inner i hi
  simp only[gk,a7 hi,h6,pK,List.getElem?_eq_getElem hi]
  rcases Bool.eq_false_or_eq_true ((List.range m.2.2.1[i].1.toNat).all (nG m i))with g|g<;>simp only[g,if_true,aG hi (show m.2.2.1.length≤1099511627776 by omega)]<;>rfl)
 have e':ac gk ((m.1,m.2.1,m.2.2.1,m.2.2.2.1,()),(cS m.2.1:Int),(0:Int),())=_:=e
 unfold oB sP
 simp only[QH m.2.1 hn,e']
 cases (List.range m.2.2.1.length).all (pK m)<;>rfl
theorem ZC(m:an.T)(hn:ge m.2.1=true)(hm:fG m.2.2.1=true)(hs:cE m.2.2.2.1=true)(hd:rK m=true):tZ (m,())=some (sP m,()):=by
 obtain⟨hl16,hg⟩:=gy hm
 have inner:∀i (hi:i<m.2.2.1.length),ac gE (m,(i:Int),m.2.2.1,(m.2.2.1.length:Int),(i:Int),m.2.2.1[i].1,(0:Int),())=some (if(List.range m.2.2.1[i].1.toNat).all (nG m i)=true then .inl (m,m.2.2.1,(m.2.2.1.length:Int),(i:Int),())else .inr (false,())):=fun i hi=>by
  have hgi:=nc (hg _ (List.getElem_mem hi))
  have e:=gA (B:=gE) m.2.2.1[i].1.toNat (fun r=>(m,(i:Int),m.2.2.1,(m.2.2.1.length:Int),(i:Int),m.2.2.1[i].1,(r:Int),())) (nG m i) (.inl (m,m.2.2.1,(m.2.2.1.length:Int),(i:Int),())) (.inr (false,())) (by
   have:decide ((m.2.2.1[i].1.toNat:Int)<m.2.2.1[i].1)=false:=by rw[←hgi.2.2.1];exact decide_eq_false (Int.lt_irrefl _)
   simp only[gE,this]) (fun r hr=>by
   have hlt:decide ((r:Int)<m.2.2.1[i].1)=true:=by rw[hgi.2.2.1];exact a7 hr
   have hv:ac fN ((m.1,m.2.1,m.2.2.1,m.2.2.2.1,()),(i:Int),(r:Int),(0:Int),m.2.2.1,(m.2.2.1.length:Int),(i:Int),m.2.2.1[i].1,(r:Int),m.2.2.2.1,(m.2.2.2.1.length:Int),(0:Int),())=_:=adu m hs (i:Int) (r:Int) m.2.2.1 (m.2.2.1.length:Int) (i:Int) m.2.2.1[i].1 (r:Int)
   have hz:=IU (cS m.2.1) (sO m.2.2.2.1 (i:Int) (r:Int)) (by have:=BL hn;omega) (by have:=aba hs (i:Int) (r:Int);omega)
   rw[acQ m hd]at hz
   have hz':(bits BinOp.andNot .i64 (cS m.2.1:Int) (sO m.2.2.2.1 (i:Int) (r:Int):Int) != 0)= !decide (sO m.2.2.2.1 (i:Int) (r:Int)=cS m.2.1):=by rw[←hz];rfl
   simp only[gE,hlt,hv,Wq m.2.1 hn,hz',nG,aG hr (show m.2.2.1[i].1.toNat≤1099511627776 by have:=hgi.1.2;omega)]
   rcases Bool.eq_false_or_eq_true (decide (sO m.2.2.2.1 (i:Int) (r:Int)=cS m.2.1))with g|g<;>simp only[g]<;>rfl)
  exact e
 have e:=gA (B:=iX) m.2.2.1.length (fun i=>(m,m.2.2.1,(m.2.2.1.length:Int),(i:Int),())) (pK m) (.inl ()) (.inr (false,())) (by simp only[iX,bp]) (fun i hi=>by
  have h6:ac gE ((m.1,m.2.1,m.2.2.1,m.2.2.2.1,()),(i:Int),m.2.2.1,(m.2.2.1.length:Int),(i:Int),m.2.2.1[i].1,(0:Int),())=_:=inner i hi
  simp only[iX,a7 hi,am hi,ab,h6,pK,List.getElem?_eq_getElem hi]
  rcases Bool.eq_false_or_eq_true ((List.range m.2.2.1[i].1.toNat).all (nG m i))with g|g<;>simp only[g,if_true,aG hi (show m.2.2.1.length≤1099511627776 by omega)]<;>rfl)
 have e':ac iX ((m.1,m.2.1,m.2.2.1,m.2.2.2.1,()),m.2.2.1,(m.2.2.1.length:Int),(0:Int),())=_:=e
 unfold tZ sP
 simp only[e']
 cases (List.range m.2.2.1.length).all (pK m)<;>rfl
def fH(m:an.T):Prop:=m.2.1.length≤1099511627776∧(∀v ∈ m.2.1,v.2.1.length≤1099511627776)∧m.2.2.1.length≤1099511627776∧(∀v ∈ m.2.2.1,v.2.2.1.length≤1099511627776)∧m.2.2.2.1.length≤1099511627776
noncomputable def BM(m:an.T):Int:=
 if aP m.1 1 16777215=false then 1 else if ge m.2.1=false then 2 else if fG m.2.2.1=false then 3 else if cE m.2.2.2.1=false then 4 else
 if eR m=false then 5 else if rK m=false then 6 else if GP m.2.2.2.1=false then 7 else if(List.range m.2.2.1.length).all (lV m.2.2.2.1)=false then 8 else
 if sP m=false then 9 else if m.2.2.2.1.any tm=true then 10 else 0
theorem abc(m:an.T)(hz:fH m):mA (m,())=some (BM m,()):=by
 unfold mA BM
 simp only[jS,aaT m.2.1 hz.1 hz.2.1,aaX m.2.2.1 hz.2.2.1 hz.2.2.2.1,aa3 m.2.2.2.1 hz.2.2.2.2]
 rcases Bool.eq_false_or_eq_true (aP m.1 1 16777215)with h1|h1<;>simp only[h1,Bool.not_true,Bool.not_false,if_true,if_false,Bool.true_eq_false]
 rcases Bool.eq_false_or_eq_true (ge m.2.1)with h2|h2<;>simp only[h2,Bool.not_true,Bool.not_false,if_true,if_false,Bool.true_eq_false]
 rcases Bool.eq_false_or_eq_true (fG m.2.2.1)with h3|h3<;>simp only[h3,Bool.not_true,Bool.not_false,if_true,if_false,Bool.true_eq_false]
 rcases Bool.eq_false_or_eq_true (cE m.2.2.2.1)with h4|h4<;>simp only[h4,Bool.not_true,Bool.not_false,if_true,if_false,Bool.true_eq_false]
 have hl:=gG h4
 have hn:=(gy h3).1
 have f5:lD ((m.1,m.2.1,m.2.2.1,m.2.2.2.1,()),())=_:=Wo m h4 h3
 have f6:my ((m.1,m.2.1,m.2.2.1,m.2.2.2.1,()),())=_:=acM m h2 h4
 have f7:kN ((m.1,m.2.1,m.2.2.1,m.2.2.2.1,()),())=_:=adq m hz.2.2.2.2
 have f8:ac et ((m.1,m.2.1,m.2.2.1,m.2.2.2.1,()),(0:Int),())=_:=aa9 m (by omega) (by omega)
 have f9:oB ((m.1,m.2.1,m.2.2.1,m.2.2.2.1,()),())=_:=ZB m h2 h3 h4
 have f10:ac du ((m.1,m.2.1,m.2.2.1,m.2.2.2.1,()),(0:Int),())=_:=acP m (by omega)
 simp only[f5,f6,f7,f8]
 rcases Bool.eq_false_or_eq_true (eR m)with h5|h5<;>simp only[h5,Bool.not_true,Bool.not_false,if_true,if_false,Bool.true_eq_false]
 rcases Bool.eq_false_or_eq_true (rK m)with h6|h6<;>simp only[h6,Bool.not_true,Bool.not_false,if_true,if_false,Bool.true_eq_false]
 rcases Bool.eq_false_or_eq_true (GP m.2.2.2.1)with h7|h7<;>simp only[h7,Bool.not_true,Bool.not_false,if_true,if_false,Bool.true_eq_false]
 rcases Bool.eq_false_or_eq_true ((List.range m.2.2.1.length).all (lV m.2.2.2.1))with h8|h8<;>simp only[h8,Bool.not_true,Bool.not_false,if_true,if_false,Bool.true_eq_false,Bool.false_eq_true,f9,f10]
 rcases Bool.eq_false_or_eq_true (sP m)with h9|h9<;>simp only[h9,Bool.not_true,Bool.not_false,if_true,if_false,Bool.true_eq_false]
 rcases Bool.eq_false_or_eq_true (m.2.2.2.1.any tm)with h10|h10<;>simp only[h10,if_true,if_false,Bool.false_eq_true]
theorem abd(m:an.T)(hz:fH m):mQ (m,())=some (BM m,()):=by
 unfold mQ BM
 simp only[rG,aaU m.2.1 hz.1,aaY m.2.2.1 hz.2.2.1 hz.2.2.2.1,aa4 m.2.2.2.1 hz.2.2.2.2]
 rcases Bool.eq_false_or_eq_true (aP m.1 1 16777215)with h1|h1<;>simp only[h1,Bool.not_true,Bool.not_false,if_true,if_false,Bool.true_eq_false]
 rcases Bool.eq_false_or_eq_true (ge m.2.1)with h2|h2<;>simp only[h2,Bool.not_true,Bool.not_false,if_true,if_false,Bool.true_eq_false]
 rcases Bool.eq_false_or_eq_true (fG m.2.2.1)with h3|h3<;>simp only[h3,Bool.not_true,Bool.not_false,if_true,if_false,Bool.true_eq_false]
 rcases Bool.eq_false_or_eq_true (cE m.2.2.2.1)with h4|h4<;>simp only[h4,Bool.not_true,Bool.not_false,if_true,if_false,Bool.true_eq_false]
 have hl:=gG h4
 have hn:=(gy h3).1
 have f5:mO ((m.1,m.2.1,m.2.2.1,m.2.2.2.1,()),())=_:=Wn m h4 h3
 have f6:=acN m h2 h4
 have f8:tY ((m.1,m.2.1,m.2.2.1,m.2.2.2.1,()),())=_:=aa8 m (by omega) (by omega)
 have f10:=acO m.2.2.2.1 (by omega)
 simp only[f5]
 rcases Bool.eq_false_or_eq_true (eR m)with h5|h5<;>simp only[h5,Bool.not_true,Bool.not_false,if_true,if_false,Bool.true_eq_false]
 have f7:rj ((m.1,m.2.1,m.2.2.1,m.2.2.2.1,()),())=_:=Zy m h4 h3 h5
 rw[Ws m h4 h3 h5]at f7
 simp only[f6,f7,f8]
 rcases Bool.eq_false_or_eq_true (rK m)with h6|h6<;>simp only[h6,Bool.not_true,Bool.not_false,if_true,if_false,Bool.true_eq_false]
 have f9:tZ ((m.1,m.2.1,m.2.2.1,m.2.2.2.1,()),())=_:=ZC m h2 h3 h4 h6
 simp only[f9,f10]
 rcases Bool.eq_false_or_eq_true (GP m.2.2.2.1)with h7|h7<;>simp only[h7,Bool.not_true,Bool.not_false,if_true,if_false,Bool.true_eq_false]
 rcases Bool.eq_false_or_eq_true ((List.range m.2.2.1.length).all (lV m.2.2.2.1))with h8|h8<;>simp only[h8,Bool.not_true,Bool.not_false,if_true,if_false,Bool.true_eq_false]
 rcases Bool.eq_false_or_eq_true (sP m)with h9|h9<;>simp only[h9,Bool.not_true,Bool.not_false,if_true,if_false,Bool.true_eq_false]
 rcases Bool.eq_false_or_eq_true (m.2.2.2.1.any tm)with h10|h10<;>simp only[h10,if_true,if_false,Bool.false_eq_true]
noncomputable def cu(m:an.T):Bool:=BM m==0
theorem MH(m:an.T)(hz:fH m):jx (m,())=some (cu m,()):=by
 have h:mA ((m.1,m.2.1,m.2.2.1,m.2.2.2.1,()),())=_:=abc m hz
 unfold jx cu
 simp only[h]
theorem X4(m:an.T)(hz:fH m):pw (m,())=some (cu m,()):=by
 have h:mQ ((m.1,m.2.1,m.2.2.1,m.2.2.2.1,()),())=_:=abd m hz
 unfold pw cu
 simp only[h]
theorem kk {m:an.T}(h:cu m=true):(1≤m.1∧m.1≤16777215)∧ge m.2.1=true∧fG m.2.2.1=true∧cE m.2.2.2.1=true∧eR m=true:=by
 unfold cu BM at h
 rcases Bool.eq_false_or_eq_true (aP m.1 1 16777215)with h1|h1
 ·rcases Bool.eq_false_or_eq_true (ge m.2.1)with h2|h2
  ·rcases Bool.eq_false_or_eq_true (fG m.2.2.1)with h3|h3
   ·rcases Bool.eq_false_or_eq_true (cE m.2.2.2.1)with h4|h4
    ·rcases Bool.eq_false_or_eq_true (eR m)with h5|h5
     ·exact⟨aY.1 h1,h2,h3,h4,h5⟩
     ·simp[h1,h2,h3,h4,h5]at h
    ·simp[h1,h2,h3,h4]at h
   ·simp[h1,h2,h3]at h
  ·simp[h1,h2]at h
 ·simp[h1]at h
end Go.Proofs.YtkgcbbkodalfmaaGreatDoor
namespace Go.Proofs.YtkgcbbkodalfmaaGreatDoor
open Go.RowKit
set_option linter.unusedVariables false
set_option linter.unusedSimpArgs false
noncomputable def bb(m:an.T)(st:ai.T):Bool:=bA st&&(match m.2.2.1[st.2.1.toNat]? with
 |none=>false
 |some v=>decide (st.2.2.1<v.1)&&(decide (st.2.2.2.1<v.2.1)&&decide (st.2.2.2.2.1.toNat&&& cS m.2.1=st.2.2.2.2.1.toNat)))
theorem CN {st:ai.T}(h:bA st=true):∃a b c d:Nat,st.2.1=(a:Int)∧st.2.2.1=(b:Int)∧st.2.2.2.1=(c:Int)∧st.2.2.2.2.1=(d:Int)∧a≤15∧b≤15∧c≤255∧d≤4294967295:=by
 unfold bA at h
 simp only[Bool.and_eq_true,aY]at h
 obtain⟨⟨⟨⟨h1,h2⟩,h3⟩,h4⟩,h5⟩:=h
 have key:∀(z:Int) (n:Nat),0≤z→z≤(n:Int)→∃k:Nat,z=(k:Int)∧k≤n:=fun z n h0 h1=>⟨z.toNat,by omega,by omega⟩
 obtain⟨a,ea,ha⟩:=key _ 15 h2.1 h2.2
 obtain⟨b,eb,hb⟩:=key _ 15 h3.1 h3.2
 obtain⟨c,ec,hc⟩:=key _ 255 h4.1 h4.2
 obtain⟨d,ed,hd⟩:=key _ 4294967295 h5.1 h5.2
 exact⟨a,b,c,d,ea,eb,ec,ed,ha,hb,hc,hd⟩
theorem Wt(m:an.T)(st:ai.T)(h:cu m=true):ir (m,st,())=some (bb m st,()):=by
 obtain⟨_,hn,hm,hs,_⟩:=kk h
 have hl16:=(gy hm).1
 have hst:lh ((st.1,st.2.1,st.2.2.1,st.2.2.2.1,st.2.2.2.2.1,()),())=some (bA st,()):=US (st,())
 unfold ir bb FF
 simp only[hst,jS,QH m.2.1 hn]
 rcases Bool.eq_false_or_eq_true (bA st)with h1|h1<;>simp only[h1,Bool.not_true,Bool.not_false,Bool.true_and,Bool.false_and]
 obtain⟨a,b,c,d,ea,eb,ec,ed,ha,hb,hc,hd⟩:=CN h1
 rw[ea,eb,ec,ed]
 have hw:IntKind.i64.wrap ((m.2.2.1.length:Int)-1)=(m.2.2.1.length:Int)-1:=by rw[wrap_i64]<;>omega
 have hand:=wQ d (cS m.2.1) (by omega) (by have:=BL hn;omega)
 have hbe:(((d&&& cS m.2.1:Nat):Int)==(d:Int))=decide (d&&& cS m.2.1=d):=by
  by_cases h:d&&& cS m.2.1=d
  ·rw[decide_eq_true h,h];simp
  ·rw[decide_eq_false h,beq_eq_false_iff_ne];omega
 simp only[hw,hand,hbe,Int.toNat_natCast]
 by_cases hal:a<m.2.2.1.length
 ·have hin:aP (a:Int) 0 ((m.2.2.1.length:Int)-1)=true:=aY.2 ⟨by omega,by omega⟩
  simp only[hin,Bool.not_true,am hal,ab,List.getElem?_eq_getElem hal]
  have n1:decide ((b:Int)≥m.2.2.1[a].1)= !decide ((b:Int)<m.2.2.1[a].1):=by
   by_cases g:(b:Int)<m.2.2.1[a].1
   ·rw[decide_eq_true g,decide_eq_false (Int.not_le.2 g)];rfl
   ·rw[decide_eq_false g,decide_eq_true (Int.not_lt.1 g)];rfl
  have n2:decide ((c:Int)≥m.2.2.1[a].2.1)= !decide ((c:Int)<m.2.2.1[a].2.1):=by
   by_cases g:(c:Int)<m.2.2.1[a].2.1
   ·rw[decide_eq_true g,decide_eq_false (Int.not_le.2 g)];rfl
   ·rw[decide_eq_false g,decide_eq_true (Int.not_lt.1 g)];rfl
  simp only[n1,n2]
  rcases Bool.eq_false_or_eq_true (decide ((b:Int)<m.2.2.1[a].1))with g1|g1<;>simp only[g1,Bool.not_true,Bool.not_false,Bool.true_and,Bool.false_and]
  rcases Bool.eq_false_or_eq_true (decide ((c:Int)<m.2.2.1[a].2.1))with g2|g2<;>simp only[g2,Bool.not_true,Bool.not_false,Bool.true_and,Bool.false_and]
 ·have hin:aP (a:Int) 0 ((m.2.2.1.length:Int)-1)=false:=by
   rw[Bool.eq_false_iff]
   intro g
   have:=aY.1 g
   omega
  simp only[hin,Bool.not_false,List.getElem?_eq_none (Nat.not_lt.1 hal)]
theorem aal(m:an.T)(st:ai.T)(h:cu m=true):qe (m,st,())=some (bb m st,()):=by
 obtain⟨_,hn,hm,hs,_⟩:=kk h
 have hst:iu ((st.1,st.2.1,st.2.2.1,st.2.2.2.1,st.2.2.2.2.1,()),())=some (bA st,()):=OB (st,())
 unfold qe bb
 simp only[hst,Wq m.2.1 hn]
 rcases Bool.eq_false_or_eq_true (bA st)with h1|h1<;>simp only[h1,Bool.not_true,Bool.not_false,Bool.true_and,Bool.false_and]
 obtain⟨a,b,c,d,ea,eb,ec,ed,ha,hb,hc,hd⟩:=CN h1
 rw[ea,eb,ec,ed]
 have hz:=IU d (cS m.2.1) (by omega) (by have:=BL hn;omega)
 simp only[hz,Int.toNat_natCast]
 by_cases hal:a<m.2.2.1.length
 ·have hin:decide ((a:Int)≥(m.2.2.1.length:Int))=false:=decide_eq_false (by omega)
  simp only[hin,am hal,ab,List.getElem?_eq_getElem hal]
  rcases Bool.eq_false_or_eq_true (decide ((b:Int)<m.2.2.1[a].1))with g1|g1<;>simp only[g1,Bool.true_and,Bool.false_and]
  rcases Bool.eq_false_or_eq_true (decide ((c:Int)<m.2.2.1[a].2.1))with g2|g2<;>simp only[g2,Bool.true_and,Bool.false_and]
 ·have hin:decide ((a:Int)≥(m.2.2.1.length:Int))=true:=decide_eq_true (by omega)
  simp only[hin,List.getElem?_eq_none (Nat.not_lt.1 hal)]
theorem SX:∀(ms:List ay.T) (i j:Nat) (h:j<ms.length) (r s:Nat),r<ms[j].1.toNat→s<ms[j].2.1.toNat→gx ((i+j:Nat):Int) (r:Int) (s:Int) ∈ jh i ms
 |m::ms,i,0,h,r,s,hr,hs=>by
  simp only[jh,List.mem_append]
  left
  simp only[jI,List.mem_flatMap,List.mem_map,List.mem_range]
  exact⟨r,hr,s,hs,rfl⟩
 |m::ms,i,j+1,h,r,s,hr,hs=>by
  simp only[jh,List.mem_append]
  right
  have:=SX ms (i+1) j (by simpa using h) r s hr hs
  have e:i+1+j=i+(j+1):=by omega
  rw[e]at this
  exact this
theorem abe(m:an.T)(st:ai.T)(h:cu m=true)(hb:bb m st=true):∃(j:Nat) (hj:j<m.2.2.2.1.length),tk m.2.2.2.1 st.2.1 st.2.2.1 st.2.2.2.1=(j:Int):=by
 obtain⟨_,hn,hm,hs,hc⟩:=kk h
 have hg:=(gy hm).2
 unfold bb at hb
 rw[Bool.and_eq_true]at hb
 obtain⟨a,b,c,d,ea,eb,ec,ed,ha,hb',hc',hd⟩:=CN hb.1
 have hb2:=hb.2
 rw[ea,eb,ec,ed]at hb2
 rw[ea,eb,ec]
 rw[Int.toNat_natCast]at hb2
 by_cases hal:a<m.2.2.1.length
 ·simp only[List.getElem?_eq_getElem hal,Bool.and_eq_true,decide_eq_true_eq]at hb2
  have hgi:=nc (hg _ (List.getElem_mem hal))
  obtain⟨h1,h2,_⟩:=hb2
  rw[hgi.2.2.1]at h1
  rw[hgi.2.2.2]at h2
  have h1:b<m.2.2.1[a].1.toNat:=Int.ofNat_lt.1 h1
  have h2:c<m.2.2.1[a].2.1.toNat:=Int.ofNat_lt.1 h2
  have hk:=SX m.2.2.1 0 a hal b c h1 h2
  rw[Nat.zero_add]at hk
  have hK:m.2.2.2.1.map dq=jh 0 m.2.2.1:=by
   unfold eR at hc
   exact of_decide_eq_true hc
  rw[←hK]at hk
  have hq:=SU (l:=m.2.2.2.1) (fun v hv=>sN (iy hs v hv)) (a:=(a:Int)) (b:=(b:Int)) (c:=(c:Int)) ⟨by omega,by have:=hgi.1.2;omega⟩ ⟨by omega,by have:=hgi.2.1.2;omega⟩
  rw[decide_eq_true hk]at hq
  unfold tk at hq ⊢
  cases hf:cd (jT (a:Int) (b:Int) (c:Int)) 0 m.2.2.2.1 with
  |none=>rw[hf]at hq;cases hq
  |some j=>
   obtain⟨n,hn,e,_⟩:=zZ _ _ _ _ hf
   have:j=n:=by omega
   subst this
   exact⟨j,hn,rfl⟩
 ·simp only[List.getElem?_eq_none (Nat.not_lt.1 hal)]at hb2
  cases hb2
def dW(m:an.T)(st:ai.T):dE.T:=match m.2.2.2.1[(tk m.2.2.2.1 st.2.1 st.2.2.1 st.2.2.2.1).toNat]? with
 |none=>((0:Int),(0:Int),(0:Int),(0:Int),false,())
 |some v=>v.2.2.2.1
theorem lW(m:an.T)(st:ai.T)(h:cu m=true)(hb:bb m st=true):iq (m,st,())=some (dW m st,())∧eC (m,st,())=some (dW m st,())∧pH (dW m st)=true:=by
 obtain⟨_,hn,hm,hs,hc⟩:=kk h
 have hlen:=gG hs
 obtain⟨j,hj,e⟩:=abe m st h hb
 have h1:=U4 m.2.2.2.1 st.2.1 st.2.2.1 st.2.2.2.1 (by omega)
 have h2:=U5 m.2.2.2.1 st.2.1 st.2.2.1 st.2.2.2.1 (by omega)
 have h3:=iy hs _ (List.getElem_mem hj)
 unfold iq eC dW
 simp only[h1,h2,e,am hj,ab,Int.toNat_natCast,List.getElem?_eq_getElem hj]
 refine⟨trivial,trivial, ?_⟩
 unfold mg at h3
 simp only[Bool.and_eq_true]at h3
 exact h3.2.2.2
def jQ(d:dE.T)(f:aB.T):Bool:=(f.1==d.2.1)&&(((f.2.2.2.1.length:Int)==d.2.2.1)&&((f.2.1==(0:Int))||d.2.2.2.2.1))
theorem U6(x):xR x=some (jQ x.1 x.2.1,()):=by
 unfold xR jQ
 rcases Bool.eq_false_or_eq_true (x.2.1.1==x.1.2.1)with h1|h1<;>simp only[h1,Bool.true_and,Bool.false_and]
 rcases Bool.eq_false_or_eq_true ((x.2.1.2.2.2.1.length:Int)==x.1.2.2.1)with h2|h2<;>simp only[h2,Bool.true_and,Bool.false_and]
 rcases Bool.eq_false_or_eq_true (x.2.1.2.1==(0:Int))with h3|h3<;>simp only[h3,Bool.true_or,Bool.false_or]
theorem U7(d:dE.T)(f:aB.T)(hd:pH d=true)(hf:bm f=true)(hl:f.2.2.2.1.length≤1099511627776):dR (d,f,())=some (jQ d f,()):=by
 have h1:eZ ((d.1,d.2.1,d.2.2.1,d.2.2.2.1,d.2.2.2.2.1,()),())=some (true,()):=by
  rw[←hd];exact SO (d,())
 have h2:cU ((f.1,f.2.1,(f.2.2.1.1,f.2.2.1.2.1,f.2.2.1.2.2.1,f.2.2.1.2.2.2.1,f.2.2.1.2.2.2.2.1,()),f.2.2.2.1,()),())=some (true,()):=by
  rw[←hf];exact OC (f,()) hl
 unfold dR jQ
 simp only[h1,h2]
 rcases Bool.eq_false_or_eq_true (f.1==d.2.1)with h1|h1<;>simp only[h1,Bool.true_and,Bool.false_and]
 rcases Bool.eq_false_or_eq_true ((f.2.2.2.1.length:Int)==d.2.2.1)with h2|h2<;>simp only[h2,Bool.true_and,Bool.false_and]
 rcases Bool.eq_false_or_eq_true d.2.2.2.2.1 with h3|h3<;>simp only[h3,Bool.or_true,Bool.or_false]
theorem GR {l:List Int}(h:(cH l).2=true):bm (cH l).1=true:=by
 cases l with
 |nil=>cases h
 |cons b r=>
  have fin:∀st q,(sL (b::r) b st q).2=true→bm (sL (b::r) b st q).1=true:=fun st q h=>by
   unfold sL at h ⊢
   split at h
   ·split at h
    ·cases h
    ·simp only[uk,Bool.and_eq_true]at h
     exact h.1
   ·simp only[uk,Bool.and_eq_true]at h
    exact h.1
  simp only[cH]at h ⊢
  split at h
  ·split at h
   ·cases h
   ·exact fin _ _ h
  ·exact fin _ _ h
theorem uq {f:aB.T}(h:bm f=true):f.2.2.2.1.length≤32:=by
 unfold bm at h
 simp only[Bool.and_eq_true]at h
 have hd:=h.2.2.1
 unfold gr at hd
 split at hd
 ·have:=aY.1 hd;omega
 ·split at hd
  ·have:=aY.1 hd;omega
  ·have:(f.2.2.2.1.length:Int)=0:=by simpa using hd
   omega
theorem OL {l:List Int}{r:Nat}{st:ai.T}(h:gu l r st=true):(cH (ap l)).2=true:=by
 unfold gu at h
 split at h
 ·cases h
 ·simp only[Bool.and_eq_true]at h
  exact h.2.2.1
noncomputable def rL(m:an.T)(st:ai.T)(l:List Int):cA.T:=match gu l m.1.toNat st&&jQ (dW m st) (cH (ap l)).1 with
 |true=>((3:Int),(cH (ap l)).1,())
 |false=>((2:Int),c9,())
theorem sQ {m:an.T}(h:cu m=true):∃r:Nat,m.1=(r:Int)∧r<16777216:=by
 obtain⟨⟨h1,h2⟩,_⟩:=kk h
 have key:∀z:Int,1≤z→z≤16777215→∃r:Nat,z=(r:Int)∧r<16777216:=fun z a b=>⟨z.toNat,by omega,by omega⟩
 exact key m.1 h1 h2
theorem ZD(m:an.T)(st:ai.T)(l:List Int)(h:cu m=true)(hb:bb m st=true)(hl:l.length≤10000)(hv:∀v ∈ l,0≤v∧v≤255):∃c:Int,Bl (m,st,l,())=some (rL m st l,c,()):=by
 obtain⟨r,er,hr⟩:=sQ h
 have hst:bA st=true:=by unfold bb at hb;rw[Bool.and_eq_true]at hb;exact hb.1
 obtain⟨c,hc,ho⟩:=acA l r st hl hv hr hst
 obtain⟨_,hd,_⟩:=lW m st h hb
 have ho':oL (l,(r:Int),(st.1,st.2.1,st.2.2.1,st.2.2.2.1,st.2.2.2.2.1,()),())=_:=ho
 have hd':eC ((m.1,m.2.1,m.2.2.1,m.2.2.2.1,()),(st.1,st.2.1,st.2.2.1,st.2.2.2.1,st.2.2.2.2.1,()),())=_:=hd
 unfold Bl rL
 rw[er]at hd'
 simp only[er,ho',hd',U6,Int.toNat_natCast]
 rcases Bool.eq_false_or_eq_true (gu l r st)with h1|h1
 ·simp only[h1,if_true,Bool.true_and]
  have hz:((0:Int)==0)=true:=rfl
  have hfe:jQ (dW m st) ((cH (ap l)).1.1,(cH (ap l)).1.2.1,((cH (ap l)).1.2.2.1.1,(cH (ap l)).1.2.2.1.2.1,(cH (ap l)).1.2.2.1.2.2.1,(cH (ap l)).1.2.2.1.2.2.2.1,(cH (ap l)).1.2.2.1.2.2.2.2.1,()),(cH (ap l)).1.2.2.2.1,())=jQ (dW m st) (cH (ap l)).1:=rfl
  simp only[hz,hfe]
  rcases Bool.eq_false_or_eq_true (jQ (dW m st) (cH (ap l)).1)with h2|h2
  ·exact⟨0,by simp only[h2];rfl⟩
  ·exact⟨5,by simp only[h2];rfl⟩
 ·have hz:(c==0)=false:=by simpa using hc
  have hz2:(c != 0)=true:=by simpa using hc
  simp only[h1,Bool.false_eq_true,if_false,Bool.false_and,hz,hz2]
  exact⟨c,rfl⟩
theorem ZE(m:an.T)(st:ai.T)(l:List Int)(h:cu m=true)(hb:bb m st=true)(hl:l.length≤10000)(hv:∀v ∈ l,0≤v∧v≤255):∃c:Int,rB (m,st,l,())=some (rL m st l,c,()):=by
 obtain⟨r,er,hr⟩:=sQ h
 have hst:bA st=true:=by unfold bb at hb;rw[Bool.and_eq_true]at hb;exact hb.1
 obtain⟨c,hc,ho⟩:=acz l r st hl hv hr hst
 obtain⟨hd,_,hdc⟩:=lW m st h hb
 have ho':qk (l,(r:Int),(st.1,st.2.1,st.2.2.1,st.2.2.2.1,st.2.2.2.2.1,()),())=_:=ho
 have hd':iq ((m.1,m.2.1,m.2.2.1,m.2.2.2.1,()),(st.1,st.2.1,st.2.2.1,st.2.2.2.1,st.2.2.2.2.1,()),())=_:=hd
 unfold rB rL
 rw[er]at hd'
 simp only[er,ho',hd',Int.toNat_natCast]
 rcases Bool.eq_false_or_eq_true (gu l r st)with h1|h1
 ·have hz:((0:Int)==0)=true:=rfl
  have hfr:=GR (OL h1)
  have hfe:dR (dW m st,((cH (ap l)).1.1,(cH (ap l)).1.2.1,((cH (ap l)).1.2.2.1.1,(cH (ap l)).1.2.2.1.2.1,(cH (ap l)).1.2.2.1.2.2.1,(cH (ap l)).1.2.2.1.2.2.2.1,(cH (ap l)).1.2.2.1.2.2.2.2.1,()),(cH (ap l)).1.2.2.2.1,()),())=some (jQ (dW m st) (cH (ap l)).1,()):=U7 _ _ hdc hfr (Nat.le_trans (uq hfr) (by omega))
  simp only[h1,if_true,Bool.true_and,hz,hfe]
  rcases Bool.eq_false_or_eq_true (jQ (dW m st) (cH (ap l)).1)with h2|h2
  ·exact⟨0,by simp only[h2];rfl⟩
  ·exact⟨5,by simp only[h2];rfl⟩
 ·have hz:(c==0)=false:=by simpa using hc
  have hz2:(c != 0)=true:=by simpa using hc
  simp only[h1,Bool.false_eq_true,if_false,Bool.false_and,hz,hz2]
  exact⟨c,rfl⟩
noncomputable def fP(m:an.T)(st:ai.T)(l:List Int):cA.T:=if(cG l).2.1=0 then rL m st (cG l).1 else if(cG l).2.1=4 then((0:Int),c9,())else((1:Int),c9,())
theorem acS(m:an.T)(st:ai.T)(l:List Int)(h:cu m=true)(hb:bb m st=true)(hl:bR l=true):∃c:Int,uf (m,st,l,())=some (fP m st l,c,()):=by
 obtain⟨h1,h2⟩:=Mx (eu hl)
 obtain⟨c,hj⟩:=ZD m st (cG l).1 h hb (by omega) h2
 have hj':Bl ((m.1,m.2.1,m.2.2.1,m.2.2.2.1,()),(st.1,st.2.1,st.2.2.1,st.2.2.2.1,st.2.2.2.2.1,()),(cG l).1,())=_:=hj
 unfold uf fP
 simp only[XM hl,hj']
 by_cases h0:(cG l).2.1=0
 ·have g:((cG l).2.1==0)=true:=by rw[h0];rfl
  simp only[g,if_pos h0]
  exact⟨c,rfl⟩
 ·have g:((cG l).2.1==0)=false:=by simpa using h0
  simp only[g,if_neg h0]
  by_cases h4:(cG l).2.1=4
  ·have g4:((cG l).2.1==4)=true:=by rw[h4];rfl
   simp only[g4,if_pos h4]
   exact⟨_,rfl⟩
  ·have g4:((cG l).2.1==4)=false:=by simpa using h4
   simp only[g4,if_neg h4]
   exact⟨_,rfl⟩
theorem acT(m:an.T)(st:ai.T)(l:List Int)(h:cu m=true)(hb:bb m st=true)(hl:bR l=true):∃c:Int,nb (m,st,l,())=some (fP m st l,c,()):=by
 obtain⟨h1,h2⟩:=Mx (eu hl)
 obtain⟨c,hj⟩:=ZE m st (cG l).1 h hb (by omega) h2
 have hj':rB ((m.1,m.2.1,m.2.2.1,m.2.2.2.1,()),(st.1,st.2.1,st.2.2.1,st.2.2.2.1,st.2.2.2.2.1,()),(cG l).1,())=_:=hj
 unfold nb fP
 simp only[Zs hl,hj']
 by_cases h0:(cG l).2.1=0
 ·have g:((cG l).2.1==0)=true:=by rw[h0];rfl
  simp only[g,if_pos h0]
  exact⟨c,rfl⟩
 ·have g:((cG l).2.1==0)=false:=by simpa using h0
  simp only[g,if_neg h0]
  by_cases h4:(cG l).2.1=4
  ·have g4:((cG l).2.1==4)=true:=by rw[h4];rfl
   simp only[g4,if_pos h4]
   exact⟨_,rfl⟩
  ·have g4:((cG l).2.1==4)=false:=by simpa using h4
   simp only[g4,if_neg h4]
   exact⟨_,rfl⟩
noncomputable def dH(m:an.T)(st:ai.T)(l:List Int):cA.T×Int×Unit:=match cu m with
 |false=>(((0:Int),c9,()),(1:Int),())
 |true=>match bb m st with
  |false=>(((0:Int),c9,()),(2:Int),())
  |true=>match bR l with
   |false=>(((0:Int),c9,()),(2:Int),())
   |true=>(fP m st l,(0:Int),())
theorem Ps(m:an.T)(st:ai.T)(l:List Int)(hz:fH m)(hl:l.length≤1099511627776):fU (m,st,l,())=some (dH m st l):=by
 have hM:pw ((m.1,m.2.1,m.2.2.1,m.2.2.2.1,()),())=_:=X4 m hz
 unfold fU uQ nq dH
 simp only[GH l hl,hM]
 rcases Bool.eq_false_or_eq_true (cu m)with h1|h1<;>simp only[h1,Bool.not_true,Bool.not_false]
 ·have hB:qe ((m.1,m.2.1,m.2.2.1,m.2.2.2.1,()),(st.1,st.2.1,st.2.2.1,st.2.2.2.1,st.2.2.2.2.1,()),())=_:=aal m st h1
  simp only[hB]
  rcases Bool.eq_false_or_eq_true (bb m st)with h2|h2<;>simp only[h2,Bool.not_true,Bool.not_false]
  ·rcases Bool.eq_false_or_eq_true (bR l)with h3|h3<;>simp only[h3,Bool.not_true,Bool.not_false]
   ·obtain⟨c,hr⟩:=acS m st l h1 h2 h3
    have hr':uf ((m.1,m.2.1,m.2.2.1,m.2.2.2.1,()),(st.1,st.2.1,st.2.2.1,st.2.2.2.1,st.2.2.2.2.1,()),l,())=_:=hr
    simp only[hr']
    rfl
   ·rfl
  ·rfl
 ·rfl
theorem Pt(m:an.T)(st:ai.T)(l:List Int)(hz:fH m)(hl:l.length≤1099511627776):fV (m,st,l,())=some (dH m st l):=by
 have hM:jx ((m.1,m.2.1,m.2.2.1,m.2.2.2.1,()),())=_:=MH m hz
 unfold fV GC pY dH
 simp only[Mv l hl,hM]
 rcases Bool.eq_false_or_eq_true (cu m)with h1|h1<;>simp only[h1,Bool.not_true,Bool.not_false]
 ·have hB:ir ((m.1,m.2.1,m.2.2.1,m.2.2.2.1,()),(st.1,st.2.1,st.2.2.1,st.2.2.2.1,st.2.2.2.2.1,()),())=_:=Wt m st h1
  simp only[hB]
  rcases Bool.eq_false_or_eq_true (bb m st)with h2|h2<;>simp only[h2,Bool.not_true,Bool.not_false]
  ·rcases Bool.eq_false_or_eq_true (bR l)with h3|h3<;>simp only[h3,Bool.not_true,Bool.not_false]
   ·obtain⟨c,hr⟩:=acT m st l h1 h2 h3
    have hr':nb ((m.1,m.2.1,m.2.2.1,m.2.2.2.1,()),(st.1,st.2.1,st.2.2.1,st.2.2.2.1,st.2.2.2.2.1,()),l,())=_:=hr
    simp only[hr']
    rfl
   ·rfl
  ·rfl
 ·rfl
end Go.Proofs.YtkgcbbkodalfmaaGreatDoor
namespace Go.Proofs.YtkgcbbkodalfmaaGreatDoor
open Go.RowKit
set_option linter.unusedVariables false
set_option linter.unusedSimpArgs false
abbrev MI(v:cA.T):List Int:=v.2.1.2.2.2.1
theorem z6(x y:ai.T):ex ai x y=true↔x=y:=by
 obtain⟨(a:Int),(b:Int),(c:Int),(d:Int),(e:Int),⟨⟩⟩:=x
 obtain⟨(a':Int),(b':Int),(c':Int),(d':Int),(e':Int),⟨⟩⟩:=y
 have h:ex ai (a,b,c,d,e,()) (a',b',c',d',e',())=((a==a')&&((b==b')&&((c==c')&&((d==d')&&((e==e')&&true))))):=rfl
 rw[h]
 simp only[Bool.and_eq_true,beq_iff_eq,and_true]
 constructor
 ·rintro ⟨rfl,rfl,rfl,rfl,rfl⟩;rfl
 ·intro h
  cases h
  exact⟨rfl,rfl,rfl,rfl,rfl⟩
theorem pg(x y:aB.T):ba x y=true↔x=y:=by
 obtain⟨(a:Int),(b:Int),c,(d:List Int),⟨⟩⟩:=x
 obtain⟨(a':Int),(b':Int),c',(d':List Int),⟨⟩⟩:=y
 have h:ba (a,b,c,d,()) (a',b',c',d',())=((a==a')&&((b==b')&&(ex ai c c'&&decide (d=d')))):=rfl
 rw[h]
 simp only[Bool.and_eq_true,beq_iff_eq,z6,decide_eq_true_eq]
 constructor
 ·rintro ⟨rfl,rfl,rfl,rfl⟩;rfl
 ·intro h
  cases h
  exact⟨rfl,rfl,rfl,rfl⟩
def cq(s:Int):cA.T:=(s,c9,())
theorem ph {v:cA.T}(h:jH v=true):(∃f,v=((3:Int),f,())∧bm f=true)∨(∃s:Int,v=cq s∧0≤s∧s≤4∧s≠3):=by
 obtain⟨(s:Int),f,⟨⟩⟩:=v
 have h:(if s==(3:Int)then bm f else aP s 0 4&&ba f c9)=true:=h
 by_cases hs:s=3
 ·subst hs
  exact .inl ⟨f,rfl,by simpa using h⟩
 ·have hb:(s==(3:Int))=false:=by simp[hs]
  rw[hb]at h
  simp only[Bool.false_eq_true,if_false,Bool.and_eq_true,pg]at h
  obtain⟨h1,rfl⟩:=h
  have:=aY.1 h1
  exact .inr ⟨s,rfl,this.1,this.2,hs⟩
theorem abf {s:Int}(h0:0≤s)(h4:s≤4)(h3:s≠3):jH (cq s)=true:=by
 have e:jH (cq s)=if s==(3:Int)then bm c9 else aP s 0 4&&ba c9 c9:=rfl
 have hb:(s==(3:Int))=false:=by simp[h3]
 rw[e,hb,(pg c9 c9).2 rfl,aY.2 ⟨h0,h4⟩]
 rfl
noncomputable def fI(a b:cA.T):cA.T:=if(a.1==(3:Int))&&((b.1==(3:Int))&&ba a.2.1 b.2.1)then a else if((a.1==(3:Int))&&(b.1==(3:Int)))||((a.1==(4:Int))||(b.1==(4:Int)))then cq 4 else if a.1==(3:Int)then a else if b.1==(3:Int)then b else cq (if b.1>a.1 then b.1 else a.1)
noncomputable def yg(a b:cA.T):cA.T:=if(a.1==(3:Int))&&gt a b then a else if((a.1==(3:Int))&&(b.1==(3:Int)))||((a.1==(4:Int))||(b.1==(4:Int)))then cq 4 else if decide (a.1≥b.1)then a else b
theorem abg(a b:cA.T)(h:(MI a).length≤1099511627776):wu (a,b,())=some (fI a b,()):=by
 have hs:ug (a.2.1,b.2.1,())=some (ba a.2.1 b.2.1,()):=Uh _ h
 obtain⟨(s:Int),⟨(k:Int),(r:Int),⟨(t1:Int),(t2:Int),(t3:Int),(t4:Int),(t5:Int),⟨⟩⟩,(d:List Int),⟨⟩⟩,⟨⟩⟩:=a
 obtain⟨(s':Int),⟨(k':Int),(r':Int),⟨(u1:Int),(u2:Int),(u3:Int),(u4:Int),(u5:Int),⟨⟩⟩,(d':List Int),⟨⟩⟩,⟨⟩⟩:=b
 unfold wu fI
 simp only at hs ⊢
 rw[hs]
 rcases Bool.eq_false_or_eq_true (s==(3:Int))with h1|h1<;>rcases Bool.eq_false_or_eq_true (s'==(3:Int))with h2|h2<;>rcases Bool.eq_false_or_eq_true (s==(4:Int))with h3|h3<;>rcases Bool.eq_false_or_eq_true (s'==(4:Int))with h4|h4<;>(try (rcases Bool.eq_false_or_eq_true (ba (k,r,(t1,t2,t3,t4,t5,()),d,()) (k',r',(u1,u2,u3,u4,u5,()),d',()))with h5|h5))<;>simp only[h1,h2,h3,h4,h5]<;>rfl
theorem Wu(a b:cA.T)(h:(MI a).length≤1099511627776):G7 (a,b,())=some (yg a b,()):=by
 have hs:lM (a,b,())=some (gt a b,()):=Qz _ h
 obtain⟨(s:Int),⟨(k:Int),(r:Int),⟨(t1:Int),(t2:Int),(t3:Int),(t4:Int),(t5:Int),⟨⟩⟩,(d:List Int),⟨⟩⟩,⟨⟩⟩:=a
 obtain⟨(s':Int),⟨(k':Int),(r':Int),⟨(u1:Int),(u2:Int),(u3:Int),(u4:Int),(u5:Int),⟨⟩⟩,(d':List Int),⟨⟩⟩,⟨⟩⟩:=b
 unfold G7 yg
 simp only at hs ⊢
 rw[hs]
 generalize gt (s,(k,r,(t1,t2,t3,t4,t5,()),d,()),()) (s',(k',r',(u1,u2,u3,u4,u5,()),d',()),())=q
 rcases Bool.eq_false_or_eq_true (s==(3:Int))with h1|h1<;>rcases Bool.eq_false_or_eq_true (s'==(3:Int))with h2|h2<;>rcases Bool.eq_false_or_eq_true (s==(4:Int))with h3|h3<;>rcases Bool.eq_false_or_eq_true (s'==(4:Int))with h4|h4<;>rcases Bool.eq_false_or_eq_true (decide (s≥s'))with h6|h6<;>cases q<;>simp only[h1,h2,h3,h4,h6]<;>rfl
theorem Wv {a b:cA.T}(ha:jH a=true)(hb:jH b=true):yg a b=fI a b:=by
 rcases ph ha with⟨f,rfl,hf⟩|⟨s,rfl,h0,h4,h3⟩<;>rcases ph hb with⟨g,rfl,hg⟩|⟨s',rfl,h0',h4',h3'⟩
 ·have e:gt ((3:Int),f,()) ((3:Int),g,())=ba f g:=by
   show(((3:Int)==3)&&ba f g)=_
   simp
  unfold yg fI
  rw[e]
  cases ba f g<;>rfl
 ·have e:gt ((3:Int),f,()) (cq s')=false:=by
   show(((3:Int)==s')&&ba f c9)=_
   have:((3:Int)==s')=false:=by simp;omega
   rw[this];rfl
  have e3:(s'==(3:Int))=false:=by simp[h3']
  unfold yg fI
  rw[e]
  show(if((3:Int)==3&&false)=true then _ else if(((3:Int)==3&&s'==(3:Int))||((3:Int)==4||s'==(4:Int)))=true then cq 4 else if decide ((3:Int)≥s')=true then _ else cq s')=(if((3:Int)==3&&(s'==(3:Int)&&ba f c9))=true then _ else if(((3:Int)==3&&s'==(3:Int))||((3:Int)==4||s'==(4:Int)))=true then cq 4 else if((3:Int)==3)=true then _ else if(s'==(3:Int))=true then _ else _)
  rw[e3]
  rcases Bool.eq_false_or_eq_true (s'==(4:Int))with h|h
  ·rw[h];rfl
  ·have:s'≠4:=by simpa using h
   have hd:decide ((3:Int)≥s')=true:=by simp;omega
   rw[h,hd];rfl
 ·have e3:(s==(3:Int))=false:=by simp[h3]
  unfold yg fI
  show(if(s==(3:Int)&&gt (cq s) ((3:Int),g,()))=true then _ else if((s==(3:Int)&&(3:Int)==(3:Int))||(s==(4:Int)||(3:Int)==(4:Int)))=true then cq 4 else if decide (s≥(3:Int))=true then _ else _)=(if(s==(3:Int)&&((3:Int)==(3:Int)&&ba c9 g))=true then _ else if((s==(3:Int)&&(3:Int)==(3:Int))||(s==(4:Int)||(3:Int)==(4:Int)))=true then cq 4 else if(s==(3:Int))=true then _ else if((3:Int)==(3:Int))=true then _ else _)
  rw[e3]
  rcases Bool.eq_false_or_eq_true (s==(4:Int))with h|h
  ·rw[h];rfl
  ·have:s≠4:=by simpa using h
   have hd:decide (s≥(3:Int))=false:=by simp;omega
   rw[h,hd];rfl
 ·have e3:(s==(3:Int))=false:=by simp[h3]
  have e3':(s'==(3:Int))=false:=by simp[h3']
  unfold yg fI
  show(if(s==(3:Int)&&gt (cq s) (cq s'))=true then _ else if((s==(3:Int)&&s'==(3:Int))||(s==(4:Int)||s'==(4:Int)))=true then cq 4 else if decide (s≥s')=true then cq s else cq s')=(if(s==(3:Int)&&(s'==(3:Int)&&ba c9 c9))=true then _ else if((s==(3:Int)&&s'==(3:Int))||(s==(4:Int)||s'==(4:Int)))=true then cq 4 else if(s==(3:Int))=true then cq s else if(s'==(3:Int))=true then cq s' else cq (if s'>s then s' else s))
  rw[e3,e3']
  simp only[Bool.false_and,Bool.false_eq_true,if_false,Bool.false_or]
  rcases Bool.eq_false_or_eq_true (s==(4:Int)||s'==(4:Int))with h|h
  ·simp only[h,if_true]
  ·simp only[h,Bool.false_eq_true,if_false]
   by_cases hg:s'>s
   ·have hd:decide (s≥s')=false:=by simp;omega
    simp[hd,hg]
   ·have hd:decide (s≥s')=true:=by simp;omega
    simp[hd,hg]
theorem Ww {a b:cA.T}{n:Nat}(ha:(MI a).length≤n)(hb:(MI b).length≤n):(MI (fI a b)).length≤n:=by
 unfold fI
 split
 ·exact ha
 ·split
  ·exact Nat.zero_le _
  ·split
   ·exact ha
   ·split
    ·exact hb
    ·exact Nat.zero_le _
end Go.Proofs.YtkgcbbkodalfmaaGreatDoor
namespace Go.Proofs.YtkgcbbkodalfmaaGreatDoor
open Go.RowKit
set_option linter.unusedVariables false
set_option linter.unusedSimpArgs false
noncomputable def zr(m:an.T)(st:ai.T)(l l2:List Int):cA.T×Int×Unit:=match(dH m st l).2.1 != (0:Int)with
 |true=>(cq 0,(dH m st l).2.1,())
 |false=>match(dH m st l2).2.1 != (0:Int)with
  |true=>(cq 0,(dH m st l2).2.1,())
  |false=>(fI (dH m st l).1 (dH m st l2).1,(0:Int),())
theorem zt(m:an.T)(st:ai.T)(l:List Int):(dH m st l).1.2.1.2.2.2.1.length≤32:=by
 unfold dH
 split
 ·exact Nat.zero_le _
 ·split
  ·exact Nat.zero_le _
  ·split
   ·exact Nat.zero_le _
   ·show(fP m st l).2.1.2.2.2.1.length≤32
    unfold fP
    split
    ·unfold rL
     split
     ·rename_i h
      rw[Bool.and_eq_true]at h
      exact uq (GR (OL h.1))
     ·exact Nat.zero_le _
    ·split<;>exact Nat.zero_le _
theorem CO(m:an.T)(st:ai.T)(l:List Int):jH (dH m st l).1=true:=by
 have h0:∀s:Int,0≤s→s≤4→s≠3→jH ((s,c9,()):cA.T)=true:=fun s a b c=>abf a b c
 unfold dH
 split
 ·exact h0 0 (by omega) (by omega) (by omega)
 ·split
  ·exact h0 0 (by omega) (by omega) (by omega)
  ·split
   ·exact h0 0 (by omega) (by omega) (by omega)
   ·show jH (fP m st l)=true
    unfold fP
    split
    ·unfold rL
     split
     ·rename_i h
      rw[Bool.and_eq_true]at h
      exact GR (OL h.1)
     ·exact h0 2 (by omega) (by omega) (by omega)
    ·split
     ·exact h0 0 (by omega) (by omega) (by omega)
     ·exact h0 1 (by omega) (by omega) (by omega)
theorem acU(m:an.T)(st:ai.T)(l l2:List Int)(hz:fH m)(hl:l.length≤1099511627776)(hl2:l2.length≤1099511627776):lN (m,st,l,l2,())=some (zr m st l l2):=by
 have h1:fU ((m.1,m.2.1,m.2.2.1,m.2.2.2.1,()),(st.1,st.2.1,st.2.2.1,st.2.2.2.1,st.2.2.2.2.1,()),l,())=_:=Ps m st l hz hl
 have h2:fU ((m.1,m.2.1,m.2.2.1,m.2.2.2.1,()),(st.1,st.2.1,st.2.2.1,st.2.2.2.1,st.2.2.2.2.1,()),l2,())=_:=Ps m st l2 hz hl2
 have hd1:=zt m st l
 have hv1:=CO m st l
 have hv2:=CO m st l2
 have hm:=Wu (dH m st l).1 (dH m st l2).1 (Nat.le_trans hd1 (by omega))
 rw[Wv hv1 hv2]at hm
 unfold lN zr
 simp only[h1,h2]
 rcases Bool.eq_false_or_eq_true ((dH m st l).2.1 != (0:Int))with g|g<;>simp only[g]
 ·rfl
 ·rcases Bool.eq_false_or_eq_true ((dH m st l2).2.1 != (0:Int))with g2|g2<;>simp only[g2]
  ·rfl
  ·generalize dH m st l=r1 at hm ⊢
   generalize dH m st l2=r2 at hm ⊢
   obtain⟨⟨(s1:Int),⟨(f1:Int),(q1:Int),⟨(t11:Int),(t12:Int),(t13:Int),(t14:Int),(t15:Int),⟨⟩⟩,(da:List Int),⟨⟩⟩,⟨⟩⟩,(c1:Int),⟨⟩⟩:=r1
   obtain⟨⟨(s2:Int),⟨(f2:Int),(q2:Int),⟨(t21:Int),(t22:Int),(t23:Int),(t24:Int),(t25:Int),⟨⟩⟩,(db:List Int),⟨⟩⟩,⟨⟩⟩,(c2:Int),⟨⟩⟩:=r2
   simp only at hm ⊢
   simp only[hm]
theorem acV(m:an.T)(st:ai.T)(l l2:List Int)(hz:fH m)(hl:l.length≤1099511627776)(hl2:l2.length≤1099511627776):lP (m,st,l,l2,())=some (zr m st l l2):=by
 have h1:fV ((m.1,m.2.1,m.2.2.1,m.2.2.2.1,()),(st.1,st.2.1,st.2.2.1,st.2.2.2.1,st.2.2.2.2.1,()),l,())=_:=Pt m st l hz hl
 have h2:fV ((m.1,m.2.1,m.2.2.1,m.2.2.2.1,()),(st.1,st.2.1,st.2.2.1,st.2.2.2.1,st.2.2.2.2.1,()),l2,())=_:=Pt m st l2 hz hl2
 have hd1:=zt m st l
 have hm:=abg (dH m st l).1 (dH m st l2).1 (Nat.le_trans hd1 (by omega))
 unfold lP zr
 simp only[h1,h2]
 rcases Bool.eq_false_or_eq_true ((dH m st l).2.1 != (0:Int))with g|g<;>simp only[g]
 ·rfl
 ·rcases Bool.eq_false_or_eq_true ((dH m st l2).2.1 != (0:Int))with g2|g2<;>simp only[g2]
  ·rfl
  ·generalize dH m st l=r1 at hm ⊢
   generalize dH m st l2=r2 at hm ⊢
   obtain⟨⟨(s1:Int),⟨(f1:Int),(q1:Int),⟨(t11:Int),(t12:Int),(t13:Int),(t14:Int),(t15:Int),⟨⟩⟩,(da:List Int),⟨⟩⟩,⟨⟩⟩,(c1:Int),⟨⟩⟩:=r1
   obtain⟨⟨(s2:Int),⟨(f2:Int),(q2:Int),⟨(t21:Int),(t22:Int),(t23:Int),(t24:Int),(t25:Int),⟨⟩⟩,(db:List Int),⟨⟩⟩,⟨⟩⟩,(c2:Int),⟨⟩⟩:=r2
   simp only at hm ⊢
   simp only[hm]
theorem X5(m:an.T)(st:ai.T)(l l2:List Int):(zr m st l l2).1.2.1.2.2.2.1.length≤32:=by
 unfold zr
 split
 ·exact Nat.zero_le _
 ·split
  ·exact Nat.zero_le _
  ·exact Ww (zt m st l) (zt m st l2)
end Go.Proofs.YtkgcbbkodalfmaaGreatDoor
