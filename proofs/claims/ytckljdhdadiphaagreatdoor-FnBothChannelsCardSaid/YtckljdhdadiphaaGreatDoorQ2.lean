import Derived.Test.YtckljdhdadiphaaGreatDoorQ1
namespace Go.Proofs.YtckljdhdadiphaaGreatDoor
open Go.RowKit
set_option linter.unusedVariables false
set_option linter.unusedSimpArgs false
theorem Wd(x):sL x=some (aY x.1 0 31,()):=by
 unfold sL
 simp only[gS]
theorem We(x):we x=some (aY x.1 0 31,()):=by
 unfold we
 simp only[oY]
end Go.Proofs.YtckljdhdadiphaaGreatDoor
namespace Go.Proofs.YtckljdhdadiphaaGreatDoor
open Go.RowKit
set_option linter.unusedVariables false
set_option linter.unusedSimpArgs false
theorem Wg {α:Type}(p:α→Bool):∀l:List α,(∀x ∈ l.dropWhile p,p x=true)→l.dropWhile p= []
 | [],_=>rfl
 |a::l,h=>by
  by_cases ha:p a=true
  ·rw[List.dropWhile_cons_of_pos ha]at h ⊢
   exact Wg p l h
  ·rw[List.dropWhile_cons_of_neg ha]at h
   exact absurd (h a (by simp)) ha
theorem LQ {α:Type}(p:α→Bool):∀l:List α,l.dropWhile p= []↔∀x ∈ l,p x=true
 | []=>by simp
 |a::l=>by
  by_cases ha:p a=true
  ·rw[List.dropWhile_cons_of_pos ha,LQ p l]
   simp[ha]
  ·rw[List.dropWhile_cons_of_neg ha]
   simp[ha]
theorem XG(s cs:List UInt8):(Lib.trimS s cs== [])=s.all (fun b=>cs.contains b):=by
 have e:Lib.trimS s cs= []↔∀b ∈ s,cs.contains b=true:=by
  unfold Lib.trimS Lib.trimLeftS Lib.trimRightS
  constructor
  ·intro h
   have h1:=(LQ _ _).1 h
   have h2:=Wg (fun b=>cs.contains b) s.reverse (fun x hx=>h1 x (by simpa using hx))
   have h3:=(LQ _ _).1 h2
   exact fun b hb=>h3 b (by simpa using hb)
  ·intro h
   have:s.reverse.dropWhile (fun b=>cs.contains b)= []:=(LQ _ _).2 (fun b hb=>h b (by simpa using hb))
   rw[this]
   rfl
 by_cases h:Lib.trimS s cs= []
 ·rw[h,List.all_eq_true.2 (e.1 h)];rfl
 ·have h2:¬(s.all (fun b=>cs.contains b)=true):=fun h3=>h (e.2 (List.all_eq_true.1 h3))
  have h3:(Lib.trimS s cs== [])=false:=by simpa using h
  rw[h3]
  simpa using h2
def yI(b:UInt8):Bool:=if(b.toNat:Int)<97 then(if(b.toNat:Int)<48 then false else if(b.toNat:Int)>57 then false else true)else if(b.toNat:Int)>122 then(if(b.toNat:Int)<48 then false else if(b.toNat:Int)>57 then false else true)else true
def LR:List UInt8:=[97,98,99,100,101,102,103,104,105,106,107,108,109,110,111,112,113,114,115,116,117,118,119,120,121,122,48,49,50,51,52,53,54,55,56,57]
theorem YT(b:UInt8):LR.contains b=yI b:=by
 have h:∀n:Fin 256,LR.contains (UInt8.ofNat n.1)=yI (UInt8.ofNat n.1):=by decide+kernel
 have:=h ⟨b.toNat,b.toNat_lt⟩
 simpa using this
def LS(s:List UInt8):Bool:=s.all yI&&(decide ((s.length:Int)≥1)&&decide ((s.length:Int)≤6))
theorem aay(s:List UInt8)(hs:s.length≤1099511627776):x5 (s,())=some (LS s,()):=by
 have e:=ju (B:=iu) s (fun i=>(s,(i:Int),())) yI (.inl (s,())) (.inr (false,())) (by simp only[iu,bu]) (fun i h=>by
  simp only[iu,bj h,aL h hs,au h,ab]
  generalize s[i]=b
  unfold yI
  by_cases h1:(b.toNat:Int)<97<;>by_cases h2:(b.toNat:Int)>122<;>by_cases h3:(b.toNat:Int)<48<;>by_cases h4:(b.toNat:Int)>57<;>simp[h1,h2,h3,h4])
 have e':ac iu (s,(0:Int),())=_:=e
 unfold x5 LS
 simp only[e']
 rcases Bool.eq_false_or_eq_true (s.all yI)with h|h<;>simp only[h,Bool.true_and,Bool.false_and,if_true]
 ·rcases Bool.eq_false_or_eq_true (decide ((s.length:Int)≥1))with h1|h1<;>simp only[h1,Bool.true_and,Bool.false_and]
 ·rfl
def vF(v:aA.T):Bool:=aY v.1 0 31&&(LS v.2.1&&aY v.2.2.1 0 1000)
theorem UT(x)(h:x.1.2.1.length≤1099511627776):qb x=some (vF x.1,()):=by
 have hn:=aay x.1.2.1 h
 unfold qb vF
 simp only[Wd,hn,gS]
 rcases Bool.eq_false_or_eq_true (aY x.1.1 0 31)with h1|h1<;>rcases Bool.eq_false_or_eq_true (LS x.1.2.1)with h2|h2<;>simp only[h1,h2]<;>rfl
theorem UU(x):lS x=some (vF x.1,()):=by
 unfold lS vF LS
 simp only[We,oY]
 rcases Bool.eq_false_or_eq_true (decide ((x.1.2.1.length:Int)≥1))with h1|h1<;>simp only[h1,Bool.true_and,Bool.false_and,Bool.and_false]
 rcases Bool.eq_false_or_eq_true (decide ((x.1.2.1.length:Int)≤6))with h2|h2<;>simp only[h2,Bool.true_and,Bool.false_and,Bool.and_false,Bool.and_true]
 have h6:x.1.2.1.length≤1048576:=by
  have:=of_decide_eq_true h2
  omega
 have ht:wg (x.1.2.1,([97,98,99,100,101,102,103,104,105,106,107,108,109,110,111,112,113,114,115,116,117,118,119,120,121,122,48,49,50,51,52,53,54,55,56,57]:List UInt8),())=some (Lib.trimS x.1.2.1 LR,()):=by
  show ab (Ki x.1.2.1 LR) (fun s=>some (s,()))=_
  unfold Ki
  rw[if_pos ⟨h6,by decide,by decide⟩]
  rfl
 have hc:x.1.2.1.all (fun b=>LR.contains b)=x.1.2.1.all yI:=by
  congr 1
  funext b
  exact YT b
 simp only[ht,XG,hc]
 rcases Bool.eq_false_or_eq_true (x.1.2.1.all yI)with h3|h3<;>rcases Bool.eq_false_or_eq_true (aY x.1.1 0 31)with h4|h4<;>simp only[h3,h4]<;>rfl
def tp(l:List aA.T)(i:Nat):Bool:=match l[i]? with
 |none=>false
 |some v=>vF v&&((match i with
  |0=>true
  |k+1=>match l[k]? with
   |none=>false
   |some u=> !decide (v.1≤u.1))&& !(l.take i).any (fun u=>u.2.1==v.2.1))
def fO(l:List aA.T):Bool:=aY (l.length:Int) 1 32&&(List.range l.length).all (tp l)
theorem YU(l:List aA.T)(hl:l.length≤1099511627776)(i:Nat)(hi:i<l.length):ac di (l,(i:Int),(0:Int),())=some (if(l.take i).any (fun u=>u.2.1==l[i].2.1)then .inr (false,())else .inl (l,(i:Int),())):=by
 have e:=ju (B:=di) (l.take i) (fun j=>(l,(i:Int),(j:Int),())) (fun u=> !(u.2.1==l[i].2.1)) (.inl (l,(i:Int),())) (.inr (false,())) (by
  rw[List.length_take,Nat.min_eq_left (Nat.le_of_lt hi)]
  simp only[di,bu]) (fun j hj=>by
  have hj':j<i:=by rw[List.length_take]at hj;omega
  have hjl:j<l.length:=by omega
  have hg:(l.take i)[j]=l[j]:=by simp
  rw[hg]
  simp only[di,bj hj',aL hjl hl,au hjl,au hi,ab]
  rcases Bool.eq_false_or_eq_true (l[j].2.1==l[i].2.1)with h1|h1<;>simp only[h1]<;>rfl)
 have e':ac di (l,(i:Int),(0:Int),())=_:=e
 rw[e',GB]
 simp only[Bool.not_not]
 cases (l.take i).any (fun u=>u.2.1==l[i].2.1)<;>rfl
theorem AU {i:Nat}(h:i+1≤1099511627776):IntKind.i64.wrap (((i+1:Nat):Int)-1)=(i:Int):=by rw[ai]<;>omega
theorem GI(i:Nat):decide (((i+1:Nat):Int)>0)=true:=decide_eq_true (by omega)
theorem YV(l:List aA.T)(hl:l.length≤1099511627776)(hn:∀v ∈ l,v.2.1.length≤1099511627776):oA (l,())=some (fO l,()):=by
 have e:=gn (B:=eU) l.length (fun i=>(l,(i:Int),())) (tp l) (.inl ()) (.inr (false,())) (by simp only[eU,bu]) (fun i h=>by
  have hv:=UT (l[i],()) (hn _ (List.getElem_mem h))
  have hc:=YU l hl i h
  simp only[eU,bj h,aL h hl,au h,ab,hv,tp,List.getElem?_eq_getElem h]
  rcases Bool.eq_false_or_eq_true (vF l[i])with h1|h1<;>simp only[h1,Bool.not_true,Bool.not_false,Bool.true_and,Bool.false_and]
  ·cases i with
   |zero=>
    have z:decide (((0:Nat):Int)>0)=false:=rfl
    simp only[z,hc,Bool.true_and]
    rfl
   |succ k=>
    have hk:k<l.length:=by omega
    simp only[GI,AU (show k+1≤1099511627776 by omega),au hk,List.getElem?_eq_getElem hk]
    rcases Bool.eq_false_or_eq_true (decide (l[k+1].1≤l[k].1))with h2|h2<;>simp only[h2,Bool.not_true,Bool.not_false,Bool.true_and,Bool.false_and]
    ·rfl
    ·simp only[hc]
     cases (l.take (k+1)).any (fun u=>u.2.1==l[k+1].2.1)
     ·show some (Sum.inl (l,IntKind.i64.wrap (((k+1:Nat):Int)+1),()))=some (.inl (l,((k+1+1:Nat):Int),()))
      rw[aL h hl]
     ·rfl
  ·rfl)
 have e':ac eU (l,(0:Int),())=_:=e
 unfold oA fO
 simp only[gS,e']
 rcases Bool.eq_false_or_eq_true (aY (l.length:Int) 1 32)with h1|h1<;>simp only[h1]<;>rcases Bool.eq_false_or_eq_true ((List.range l.length).all (tp l))with h2|h2<;>simp only[h2]<;>rfl
theorem YW(l:List aA.T)(hl:l.length≤1099511627776):oq (l,())=some (fO l,()):=by
 have e:=gn (B:=eO) l.length (fun i=>(l,l,(l.length:Int),(i:Int),())) (tp l) (.inl (l,())) (.inr (false,())) (by simp only[eO,bu]) (fun i h=>by
  have hv:lS ((l[i].1,l[i].2.1,l[i].2.2.1,l[i].2.2.2.1,()),())=some (vF l[i],()):=UU (l[i],())
  have hb:aM l.length none (some (.dat (.int .i64) (i:Int)))=some (0,i):=by
   simp only[aM,jJ,jl]
   rw[if_pos ⟨by omega,by omega,by omega⟩]
   simp
  have hc:=Hq (l.take i) (by rw[List.length_take];omega) (fun z=>jN (z.1,(l[i].1,l[i].2.1,l[i].2.2.1,l[i].2.2.2.1,()),())) (fun u=>u.2.1==l[i].2.1) (fun j hj=>rfl)
  have hc:cH (List.drop 0 (List.take i l),(fun z=>jN (z.1,(l[i].1,l[i].2.1,l[i].2.2.1,l[i].2.2.2.1,()),())),())=_:=hc
  simp only[eO,bj h,aL h hl,au h,ab,hv,hb,hc,tp,List.getElem?_eq_getElem h]
  rcases Bool.eq_false_or_eq_true (vF l[i])with h1|h1<;>simp only[h1,Bool.not_true,Bool.not_false,Bool.true_and,Bool.false_and]
  ·cases i with
   |zero=>rfl
   |succ k=>
    have hk:k<l.length:=by omega
    have hge:decide (l[k].1≥l[k+1].1)=decide (l[k+1].1≤l[k].1):=rfl
    simp only[GI,AU (show k+1≤1099511627776 by omega),au hk,List.getElem?_eq_getElem hk,hge]
    rcases Bool.eq_false_or_eq_true (decide (l[k+1].1≤l[k].1))with h2|h2<;>simp only[h2,Bool.not_true,Bool.not_false,Bool.true_and,Bool.false_and]
    ·rfl
    ·cases (l.take (k+1)).any (fun u=>u.2.1==l[k+1].2.1)
     ·rfl
     ·rfl
  ·rfl)
 have e':ac eO (l,l,(l.length:Int),(0:Int),())=_:=e
 unfold oq fO aY
 simp only[e']
 rcases Bool.eq_false_or_eq_true ((List.range l.length).all (tp l))with h2|h2<;>simp only[h2,if_true,Bool.and_true,Bool.and_false]
 ·rcases Bool.eq_false_or_eq_true (decide ((l.length:Int)≥1))with h1|h1<;>simp only[h1]<;>rfl
 ·rfl
end Go.Proofs.YtckljdhdadiphaaGreatDoor
namespace Go.Proofs.YtckljdhdadiphaaGreatDoor
open Go.RowKit
set_option linter.unusedVariables false
set_option linter.unusedSimpArgs false
def tq(l:List Int)(n:Nat)(i:Nat):Bool:=match l[i]? with
 |none=>false
 |some v=>aY v 0 ((n:Int)-1)&&(match i with
  |0=>true
  |k+1=>match l[k]? with
   |none=>false
   |some u=> !decide (v≤u))
def ol(l:List Int)(n:Nat):Bool:=(List.range l.length).all (tq l n)
theorem TJ(l:List Int)(n:Nat)(hl:l.length≤1099511627776)(hn:n≤1099511627776):mY (l,(n:Int),())=some (ol l n,()):=by
 have hw:IntKind.i64.wrap ((n:Int)-1)=(n:Int)-1:=by rw[ai]<;>omega
 have e:=gn (B:=gI) l.length (fun i=>(l,(n:Int),(i:Int),())) (tq l n) (.inl ()) (.inr (false,())) (by simp only[gI,bu]) (fun i h=>by
  simp only[gI,bj h,aL h hl,au h,ab,gS,hw,tq,List.getElem?_eq_getElem h]
  rcases Bool.eq_false_or_eq_true (aY l[i] 0 ((n:Int)-1))with h1|h1<;>simp only[h1,Bool.not_true,Bool.not_false,Bool.true_and,Bool.false_and]
  ·cases i with
   |zero=>rfl
   |succ k=>
    have hk:k<l.length:=by omega
    simp only[GI,AU (show k+1≤1099511627776 by omega),au hk,List.getElem?_eq_getElem hk]
    rcases Bool.eq_false_or_eq_true (decide (l[k+1]≤l[k]))with h2|h2<;>simp only[h2]<;>rfl
  ·rfl)
 have e':ac gI (l,(n:Int),(0:Int),())=_:=e
 unfold mY ol
 simp only[e']
 rcases Bool.eq_false_or_eq_true ((List.range l.length).all (tq l n))with h2|h2<;>simp only[h2]<;>rfl
theorem YX(l:List Int)(n:Nat)(hl:l.length≤1099511627776)(hn:n≤1099511627776):vr (l,(n:Int),())=some (ol l n,()):=by
 have e:=gn (B:=gE) l.length (fun i=>(l,(n:Int),l,(l.length:Int),(i:Int),())) (tq l n) (.inl ()) (.inr (false,())) (by simp only[gE,bu]) (fun i h=>by
  have hin:aY l[i] 0 ((n:Int)-1)=(!decide (l[i]<0)&& !decide (l[i]≥(n:Int))):=by
   unfold aY
   by_cases h1:l[i]<0<;>by_cases h2:l[i]≥(n:Int)<;>simp[h1,h2]<;>omega
  simp only[gE,bj h,aL h hl,au h,ab,tq,List.getElem?_eq_getElem h,hin]
  rcases Bool.eq_false_or_eq_true (decide (l[i]<0))with h1|h1<;>simp only[h1,Bool.not_true,Bool.not_false,Bool.true_and,Bool.false_and]
  ·rfl
  ·rcases Bool.eq_false_or_eq_true (decide (l[i]≥(n:Int)))with h3|h3<;>simp only[h3,Bool.not_true,Bool.not_false,Bool.true_and,Bool.false_and]
   ·rfl
   ·cases i with
    |zero=>rfl
    |succ k=>
     have hk:k<l.length:=by omega
     have hge:decide (l[k]≥l[k+1])=decide (l[k+1]≤l[k]):=rfl
     simp only[GI,AU (show k+1≤1099511627776 by omega),au hk,List.getElem?_eq_getElem hk,hge]
     rcases Bool.eq_false_or_eq_true (decide (l[k+1]≤l[k]))with h2|h2<;>simp only[h2]<;>rfl)
 have e':ac gE (l,(n:Int),l,(l.length:Int),(0:Int),())=_:=e
 unfold vr ol
 simp only[e']
 rcases Bool.eq_false_or_eq_true ((List.range l.length).all (tq l n))with h2|h2<;>simp only[h2]<;>rfl
theorem aaz(l:List Int)(v:Int)(hl:l.length≤1099511627776):BG (l,v,())=some (l.any (fun u=>u==v),()):=by
 have e:=xt (B:=jr) l (fun i=>(l,v,(i:Int),())) (fun u=>u==v) (.inl ()) (fun _=>.inr (true,())) (by simp only[jr,bu]) (fun i h=>by
  simp only[jr,bj h,aL h hl,au h,ab]
  rcases Bool.eq_false_or_eq_true (l[i]==v)with h1|h1<;>simp only[h1]<;>rfl)
 have e':ac jr (l,v,(0:Int),())=_:=e
 unfold BG
 rw[←lf (fun u=>u==v) 0 l]
 simp only[e']
 cases cj (fun u=>u==v) 0 l<;>rfl
theorem S3(l:List Int)(v:Int)(hl:l.length≤1099511627776):ii (l,v,())=some (l.any (fun u=>u==v),()):=by
 have e:=xt (B:=c7) l (fun i=>(l,v,(l.length:Int),(i:Int),())) (fun u=>u==v) (.inl ()) (fun j=>.inr ((j:Int),())) (by simp only[c7,bu]) (fun i h=>by
  have hc:(v==l[i])=(l[i]==v):=by
   by_cases h:v=l[i]
   ·rw[h]
   ·have h1:(v==l[i])=false:=by simpa using h
    have h2:(l[i]==v)=false:=by simpa using fun e:l[i]=v=>h e.symm
    rw[h1,h2]
  simp only[c7,bj h,aL h hl,au h,ab,hc]
  rcases Bool.eq_false_or_eq_true (l[i]==v)with h1|h1<;>simp only[h1]<;>rfl)
 have e':ac c7 (l,v,(l.length:Int),(0:Int),())=_:=e
 unfold ii lT
 rw[←lf (fun u=>u==v) 0 l]
 simp only[e']
 cases cj (fun u=>u==v) 0 l with
 |none=>rfl
 |some j=>
  have:decide ((j:Int)≥0)=true:=decide_eq_true (by omega)
  simp only[this,Option.isSome]
def tu(l:List aG.T)(i:Nat):Bool:=match l[i]? with
 |none=>false
 |some v=>aY v.1 1 8&&(aY v.2.1 1 16&&(ol v.2.2.1 l.length&& !v.2.2.1.any (fun u=>u==(i:Int))))
def fp(l:List aG.T):Bool:=aY (l.length:Int) 1 16&&(List.range l.length).all (tu l)
theorem YY(l:List aG.T)(hl:l.length≤1099511627776)(hn:∀v ∈ l,v.2.2.1.length≤1099511627776):oB (l,())=some (fp l,()):=by
 have e:=gn (B:=eV) l.length (fun i=>(l,(i:Int),())) (tu l) (.inl ()) (.inr (false,())) (by simp only[eV,bu]) (fun i h=>by
  have h1:=TJ l[i].2.2.1 l.length (hn _ (List.getElem_mem h)) hl
  have h2:=aaz l[i].2.2.1 (i:Int) (hn _ (List.getElem_mem h))
  simp only[eV,bj h,aL h hl,au h,ab,gS,h1,h2,tu,List.getElem?_eq_getElem h]
  rcases Bool.eq_false_or_eq_true (aY l[i].1 1 8)with g1|g1<;>simp only[g1,Bool.not_true,Bool.not_false,Bool.true_and,Bool.false_and]
  ·rcases Bool.eq_false_or_eq_true (aY l[i].2.1 1 16)with g2|g2<;>simp only[g2,Bool.not_true,Bool.not_false,Bool.true_and,Bool.false_and]
   ·rcases Bool.eq_false_or_eq_true (ol l[i].2.2.1 l.length)with g3|g3<;>simp only[g3,Bool.not_true,Bool.not_false,Bool.true_and,Bool.false_and]
    ·rcases Bool.eq_false_or_eq_true (l[i].2.2.1.any (fun u=>u==(i:Int)))with g4|g4<;>simp only[g4]<;>rfl
    ·rfl
   ·rfl
  ·rfl)
 have e':ac eV (l,(0:Int),())=_:=e
 unfold oB fp
 simp only[gS,e']
 rcases Bool.eq_false_or_eq_true (aY (l.length:Int) 1 16)with h1|h1<;>simp only[h1]<;>rcases Bool.eq_false_or_eq_true ((List.range l.length).all (tu l))with h2|h2<;>simp only[h2]<;>rfl
theorem YZ(l:List aG.T)(hl:l.length≤1099511627776)(hn:∀v ∈ l,v.2.2.1.length≤1099511627776):ot (l,())=some (fp l,()):=by
 have e:=gn (B:=eP) l.length (fun i=>(l,l,(l.length:Int),(i:Int),())) (tu l) (.inl (l,())) (.inr (false,())) (by simp only[eP,bu]) (fun i h=>by
  have h1:=YX l[i].2.2.1 l.length (hn _ (List.getElem_mem h)) hl
  have h2:=S3 l[i].2.2.1 (i:Int) (hn _ (List.getElem_mem h))
  simp only[eP,bj h,aL h hl,au h,ab,oY,h1,h2,tu,List.getElem?_eq_getElem h]
  rcases Bool.eq_false_or_eq_true (aY l[i].1 1 8)with g1|g1<;>simp only[g1,Bool.not_true,Bool.not_false,Bool.true_and,Bool.false_and]
  ·rcases Bool.eq_false_or_eq_true (aY l[i].2.1 1 16)with g2|g2<;>simp only[g2,Bool.not_true,Bool.not_false,Bool.true_and,Bool.false_and]
   ·rcases Bool.eq_false_or_eq_true (ol l[i].2.2.1 l.length)with g3|g3<;>simp only[g3,Bool.not_true,Bool.not_false,Bool.true_and,Bool.false_and]
    ·rcases Bool.eq_false_or_eq_true (l[i].2.2.1.any (fun u=>u==(i:Int)))with g4|g4<;>simp only[g4]<;>rfl
    ·rfl
   ·rfl
  ·rfl)
 have e':ac eP (l,l,(l.length:Int),(0:Int),())=_:=e
 unfold ot fp aY
 simp only[e']
 rcases Bool.eq_false_or_eq_true ((List.range l.length).all (tu l))with h2|h2<;>simp only[h2,if_true,Bool.and_true,Bool.and_false]
 ·rcases Bool.eq_false_or_eq_true (decide ((l.length:Int)≥1))with h1|h1<;>simp only[h1]<;>rfl
 ·rfl
end Go.Proofs.YtckljdhdadiphaaGreatDoor
namespace Go.Proofs.YtckljdhdadiphaaGreatDoor
open Go.RowKit
set_option linter.unusedVariables false
set_option linter.unusedSimpArgs false
def ng(k n:Int):Int:=1+(if k != 0 then 8 else 0)+(if fQ k then 1+n else 0)
theorem Y0(k n:Int)(h0:0≤n)(h1:n≤1000):vt (k,n,())=some (ng k n,()):=by
 have w1:IntKind.i64.wrap ((1:Int)+8)=9:=by decide
 have w2:IntKind.i64.wrap ((1:Int)+n)=1+n:=by rw[ai]<;>omega
 have w3:IntKind.i64.wrap (9+(1+n))=1+8+(1+n):=by rw[ai]<;>omega
 have w4:IntKind.i64.wrap (1+(1+n))=1+0+(1+n):=by rw[ai]<;>omega
 unfold vt ng
 simp only[fU,LP,w1,w2,w3,w4]
 rcases Bool.eq_false_or_eq_true (k != (0:Int))with h|h<;>rcases Bool.eq_false_or_eq_true (fQ k)with h2|h2<;>simp only[h,h2]<;>rfl
theorem Y1(k n:Int)(h0:0≤n)(h1:n≤1000):jE (k,n,())=some (ng k n,()):=by
 have w1:IntKind.i64.wrap ((1:Int)+8)=9:=by decide
 have w2:IntKind.i64.wrap ((9:Int)+1)=10:=by decide
 have w5:IntKind.i64.wrap ((1:Int)+1)=2:=by decide
 have w3:IntKind.i64.wrap (10+n)=1+8+(1+n):=by rw[ai]<;>omega
 have w4:IntKind.i64.wrap (2+n)=1+0+(1+n):=by rw[ai]<;>omega
 unfold jE ng
 simp only[dj,tn,w1,w2,w3,w4,w5]
 rcases Bool.eq_false_or_eq_true (k != (0:Int))with h|h<;>rcases Bool.eq_false_or_eq_true (fQ k)with h2|h2<;>simp only[h,h2]<;>rfl
def AW(k n:Int):Int:=11+10*(ng k n+3)
theorem JN(k n:Int)(h0:0≤n)(h1:n≤1000):1≤ng k n∧ng k n≤1010:=by
 unfold ng
 split<;>split<;>omega
theorem TK(b:Int)(h:1≤b∧b≤1010):IntKind.i64.wrap (11+IntKind.i64.wrap (10*IntKind.i64.wrap (b+3)))=11+10*(b+3):=by
 rw[ai (n:=b+3) (by omega) (by omega),ai (n:=10*(b+3)) (by omega) (by omega),ai (by omega) (by omega)]
theorem Y2(k n:Int)(h0:0≤n)(h1:n≤1000):ll (k,n,())=some (AW k n,()):=by
 unfold ll AW
 simp only[Y0 k n h0 h1,TK _ (JN k n h0 h1)]
theorem Y3(k n:Int)(h0:0≤n)(h1:n≤1000):dU (k,n,())=some (AW k n,()):=by
 unfold dU AW
 simp only[Y1 k n h0 h1,TK _ (JN k n h0 h1)]
theorem B0 {k n:Int}(h:gD k n=true):0≤n∧n≤1000:=by
 unfold gD at h
 split at h
 ·have:=bc.1 h;omega
 ·split at h
  ·have:=bc.1 h;omega
  ·have:n=0:=by simpa using h
   omega
def o8(d:cP.T):Bool:=aY d.1 0 31&&(aY d.2.1 0 3&&(gD d.2.1 d.2.2.1&&(!((d.2.1==(3:Int))&&d.2.2.2.2.1)&&aY d.2.2.2.1 (IntKind.i64.wrap (AW d.2.1 d.2.2.1+20)) 1000)))
theorem Rz(x):eI x=some (o8 x.1,()):=by
 obtain⟨⟨(a:Int),(k:Int),(n:Int),(t:Int),(c:Bool),u⟩,u'⟩:=x
 unfold eI o8
 simp only[Wd,V5,V7,gS]
 rcases Bool.eq_false_or_eq_true (aY a 0 31)with h1|h1<;>simp only[h1,Bool.not_true,Bool.not_false,Bool.true_and,Bool.false_and]
 rcases Bool.eq_false_or_eq_true (aY k 0 3)with h2|h2<;>simp only[h2,Bool.not_true,Bool.not_false,Bool.true_and,Bool.false_and]
 rcases Bool.eq_false_or_eq_true (gD k n)with h3|h3<;>simp only[h3,Bool.not_true,Bool.not_false,Bool.true_and,Bool.false_and]
 have hn:=B0 h3
 simp only[Y3 k n hn.1 hn.2]
 rcases Bool.eq_false_or_eq_true (k==(3:Int))with h4|h4<;>cases c<;>simp only[h4]<;>rfl
theorem Wh(x):fE x=some (o8 x.1,()):=by
 obtain⟨⟨(a:Int),(k:Int),(n:Int),(t:Int),(c:Bool),u⟩,u'⟩:=x
 unfold fE o8
 simp only[We,V6,V8,oY]
 rcases Bool.eq_false_or_eq_true (aY a 0 31)with h1|h1<;>simp only[h1,Bool.not_true,Bool.not_false,Bool.true_and,Bool.false_and]
 rcases Bool.eq_false_or_eq_true (aY k 0 3)with h2|h2<;>simp only[h2,Bool.not_true,Bool.not_false,Bool.true_and,Bool.false_and]
 rcases Bool.eq_false_or_eq_true (gD k n)with h3|h3<;>simp only[h3,Bool.not_true,Bool.not_false,Bool.true_and,Bool.false_and]
 have hn:=B0 h3
 simp only[Y2 k n hn.1 hn.2]
 rcases Bool.eq_false_or_eq_true (k==(3:Int))with h4|h4<;>cases c<;>simp only[h4]<;>rfl
def lJ(v:ao.T):Bool:=aY v.1 0 15&&(aY v.2.1 0 7&&(aY v.2.2.1 0 15&&o8 v.2.2.2.1))
theorem aaA(x):GA x=some (lJ x.1,()):=by
 have hd:eI ((x.1.2.2.2.1.1,x.1.2.2.2.1.2.1,x.1.2.2.2.1.2.2.1,x.1.2.2.2.1.2.2.2.1,x.1.2.2.2.1.2.2.2.2.1,()),())=some (o8 x.1.2.2.2.1,()):=Rz (x.1.2.2.2.1,())
 unfold GA lJ
 simp only[gS,hd]
 rcases Bool.eq_false_or_eq_true (aY x.1.1 0 15)with h1|h1<;>rcases Bool.eq_false_or_eq_true (aY x.1.2.1 0 7)with h2|h2<;>rcases Bool.eq_false_or_eq_true (aY x.1.2.2.1 0 15)with h3|h3<;>simp only[h1,h2,h3]<;>rfl
theorem aaB(x):lV x=some (lJ x.1,()):=by
 have hd:fE ((x.1.2.2.2.1.1,x.1.2.2.2.1.2.1,x.1.2.2.2.1.2.2.1,x.1.2.2.2.1.2.2.2.1,x.1.2.2.2.1.2.2.2.2.1,()),())=some (o8 x.1.2.2.2.1,()):=Wh (x.1.2.2.2.1,())
 unfold lV lJ
 simp only[oY,hd]
 rcases Bool.eq_false_or_eq_true (aY x.1.1 0 15)with h1|h1<;>rcases Bool.eq_false_or_eq_true (aY x.1.2.1 0 7)with h2|h2<;>rcases Bool.eq_false_or_eq_true (aY x.1.2.2.1 0 15)with h3|h3<;>simp only[h1,h2,h3]<;>rfl
def rK(a b:Int):Int:=if a<b then -1 else if a>b then 1 else 0
def nN(u v:ao.T):Int:=if u.1=v.1 then(if u.2.1=v.2.1 then rK u.2.2.1 v.2.2.1 else rK u.2.1 v.2.1)else rK u.1 v.1
theorem abc(x):pr x=some (rK x.1 x.2.1,()):=by
 obtain⟨(a:Int),(b:Int),u⟩:=x
 unfold pr rK
 by_cases h1:a<b
 ·simp only[decide_eq_true h1,if_pos h1]
 ·by_cases h2:a>b
  ·simp only[decide_eq_false h1,decide_eq_true h2,if_neg h1,if_pos h2]
  ·simp only[decide_eq_false h1,decide_eq_false h2,if_neg h1,if_neg h2]
theorem Wi(x):jf x=some (nN x.1 x.2.1,()):=by
 obtain⟨u,v,w⟩:=x
 unfold jf nN
 simp only[abc]
 by_cases h1:u.1=v.1
 ·have g1:(u.1 != v.1)=false:=by rw[h1];exact gW _
  simp only[g1,if_pos h1]
  by_cases h2:u.2.1=v.2.1
  ·have g2:(u.2.1 != v.2.1)=false:=by rw[h2];exact gW _
   simp only[g2,if_pos h2]
  ·have g2:(u.2.1 != v.2.1)=true:=by simpa using h2
   simp only[g2,if_neg h2]
 ·have g1:(u.1 != v.1)=true:=by simpa using h1
  simp only[g1,if_neg h1]
theorem JO(l m:List Int)(i:Nat)(hl:i<l.length)(hm:i<m.length)(h3:i<3):cp (l,m,(i:Int),())=if l[i]<m[i]then some (.inr (.inr ((-1:Int),())))else if l[i]>m[i]then some (.inr (.inr ((1:Int),())))else some (.inl (l,m,((i+1:Nat):Int),())):=by
 have hd:decide ((i:Int)<3)=true:=decide_eq_true (by omega)
 simp only[cp,hd,au hl,au hm,ab,Int.toNat_natCast,List.getElem?_eq_getElem hl,List.getElem?_eq_getElem hm,aL h3 (by omega)]
 by_cases h1:l[i]<m[i]
 ·simp only[if_pos h1,decide_eq_true h1]
 ·by_cases h2:l[i]>m[i]
  ·simp only[if_neg h1,if_pos h2,decide_eq_false h1,decide_eq_true h2]
  ·simp only[if_neg h1,if_neg h2,decide_eq_false h1,decide_eq_false h2]
theorem aaC(x):mZ x=some (nN x.1 x.2.1,()):=by
 obtain⟨⟨(a:Int),(b:Int),(c:Int),d⟩,⟨(a':Int),(b':Int),(c':Int),d'⟩,w⟩:=x
 have e0:=JO [a,b,c] [a',b',c'] 0 (by simp) (by simp) (by omega)
 have e1:=JO [a,b,c] [a',b',c'] 1 (by simp) (by simp) (by omega)
 have e2:=JO [a,b,c] [a',b',c'] 2 (by simp) (by simp) (by omega)
 have e3:cp ([a,b,c],[a',b',c'],((3:Nat):Int),())=some (.inr (.inl ())):=rfl
 have e0:cp ([a,b,c],[a',b',c'],(0:Int),())=if a<a' then some (.inr (.inr ((-1:Int),())))else if a>a' then some (.inr (.inr ((1:Int),())))else some (.inl ([a,b,c],[a',b',c'],((1:Nat):Int),())):=e0
 have e1:cp ([a,b,c],[a',b',c'],((1:Nat):Int),())=if b<b' then some (.inr (.inr ((-1:Int),())))else if b>b' then some (.inr (.inr ((1:Int),())))else some (.inl ([a,b,c],[a',b',c'],((2:Nat):Int),())):=e1
 have e2:cp ([a,b,c],[a',b',c'],((2:Nat):Int),())=if c<c' then some (.inr (.inr ((-1:Int),())))else if c>c' then some (.inr (.inr ((1:Int),())))else some (.inl ([a,b,c],[a',b',c'],((3:Nat):Int),())):=e2
 have hL:ac cp ([a,b,c],[a',b',c'],(0:Int),())=some (if nN (a,b,c,d) (a',b',c',d')=0 then .inl ()else .inr (nN (a,b,c,d) (a',b',c',d'),())):=by
  unfold nN rK
  rw[aj,e0]
  by_cases h1:a<a'
  ·simp[h1,Int.ne_of_lt h1]
  ·by_cases h2:a>a'
   ·have:¬a=a':=by omega
    simp[h1,h2,this]
   ·have:a=a':=by omega
    simp only[if_neg h1,if_neg h2,if_pos this]
    rw[aj,e1]
    by_cases h1:b<b'
    ·simp[h1,Int.ne_of_lt h1]
    ·by_cases h2:b>b'
     ·have:¬b=b':=by omega
      simp[h1,h2,this]
     ·have:b=b':=by omega
      simp only[if_neg h1,if_neg h2,if_pos this]
      rw[aj,e2]
      by_cases h1:c<c'
      ·simp[h1]
      ·by_cases h2:c>c'
       ·simp[h1,h2]
       ·simp only[if_neg h1,if_neg h2]
        rw[aj,e3]
        simp
 unfold mZ
 simp only[hL,cE]
 by_cases h:nN (a,b,c,d) (a',b',c',d')=0
 ·simp only[h,if_true]
 ·simp only[if_neg h]
def qF(l:List ao.T)(i:Nat):Bool:=match l[i]? with
 |none=>false
 |some v=>lJ v&&(match i with
  |0=>true
  |k+1=>match l[k]? with
   |none=>false
   |some u=> !decide (nN u v≥0))
def cq(l:List ao.T):Bool:= !decide ((l.length:Int)>120)&&(List.range l.length).all (qF l)
theorem Y4(l:List ao.T)(hl:l.length≤1099511627776):oC (l,())=some (cq l,()):=by
 have e:=gn (B:=eW) l.length (fun i=>(l,(i:Int),())) (qF l) (.inl ()) (.inr (false,())) (by simp only[eW,bu]) (fun i h=>by
  simp only[eW,bj h,aL h hl,au h,ab,aaA,qF,List.getElem?_eq_getElem h]
  rcases Bool.eq_false_or_eq_true (lJ l[i])with h1|h1<;>simp only[h1,Bool.not_true,Bool.not_false,Bool.true_and,Bool.false_and]
  ·cases i with
   |zero=>rfl
   |succ k=>
    have hk:k<l.length:=by omega
    simp only[GI,AU (show k+1≤1099511627776 by omega),au hk,List.getElem?_eq_getElem hk,aaC]
    rcases Bool.eq_false_or_eq_true (decide (nN l[k] l[k+1]≥0))with h2|h2<;>simp only[h2]<;>rfl
  ·rfl)
 have e':ac eW (l,(0:Int),())=_:=e
 unfold oC cq
 simp only[e']
 rcases Bool.eq_false_or_eq_true (decide ((l.length:Int)>120))with h1|h1<;>simp only[h1]<;>rcases Bool.eq_false_or_eq_true ((List.range l.length).all (qF l))with h2|h2<;>simp only[h2]<;>rfl
theorem Y5(l:List ao.T)(hl:l.length≤1099511627776):ou (l,())=some (cq l,()):=by
 have e:=gn (B:=eR) l.length (fun i=>(l,l,(l.length:Int),(i:Int),())) (qF l) (.inl (l,())) (.inr (false,())) (by simp only[eR,bu]) (fun i h=>by
  have hv:lV ((l[i].1,l[i].2.1,l[i].2.2.1,(l[i].2.2.2.1.1,l[i].2.2.2.1.2.1,l[i].2.2.2.1.2.2.1,l[i].2.2.2.1.2.2.2.1,l[i].2.2.2.1.2.2.2.2.1,()),()),())=some (lJ l[i],()):=aaB (l[i],())
  simp only[eR,bj h,aL h hl,au h,ab,hv,qF,List.getElem?_eq_getElem h]
  rcases Bool.eq_false_or_eq_true (lJ l[i])with h1|h1<;>simp only[h1,Bool.not_true,Bool.not_false,Bool.true_and,Bool.false_and]
  ·cases i with
   |zero=>rfl
   |succ k=>
    have hk:k<l.length:=by omega
    have hc:jf (l[k],(l[k+1].1,l[k+1].2.1,l[k+1].2.2.1,(l[k+1].2.2.2.1.1,l[k+1].2.2.2.1.2.1,l[k+1].2.2.2.1.2.2.1,l[k+1].2.2.2.1.2.2.2.1,l[k+1].2.2.2.1.2.2.2.2.1,()),()),())=some (nN l[k] l[k+1],()):=Wi (l[k],l[k+1],())
    simp only[GI,AU (show k+1≤1099511627776 by omega),au hk,List.getElem?_eq_getElem hk,hc]
    rcases Bool.eq_false_or_eq_true (decide (nN l[k] l[k+1]≥0))with h2|h2<;>simp only[h2]<;>rfl
  ·rfl)
 have e':ac eR (l,l,(l.length:Int),(0:Int),())=_:=e
 have hn:decide ((l.length:Int)≤120)= !decide ((l.length:Int)>120):=by
  by_cases h:(l.length:Int)≤120
  ·rw[decide_eq_true h,decide_eq_false (by omega)];rfl
  ·rw[decide_eq_false h,decide_eq_true (by omega)];rfl
 unfold ou cq
 simp only[e']
 rcases Bool.eq_false_or_eq_true ((List.range l.length).all (qF l))with h2|h2<;>simp only[h2,if_true,Bool.and_true,Bool.and_false,hn]
 rfl
end Go.Proofs.YtckljdhdadiphaaGreatDoor
namespace Go.Proofs.YtckljdhdadiphaaGreatDoor
open Go.RowKit
set_option linter.unusedVariables false
set_option linter.unusedSimpArgs false
def gj(i r s:Int):Int:=(i*8+r)*16+s
def dh(v:ao.T):Int:=gj v.1 v.2.1 v.2.2.1
def RA(v:ao.T):Prop:=(0≤v.1∧v.1≤15)∧(0≤v.2.1∧v.2.1≤7)∧(0≤v.2.2.1∧v.2.2.1≤15)
theorem rL {v:ao.T}(h:lJ v=true):RA v:=by
 unfold lJ at h
 simp only[Bool.and_eq_true,bc]at h
 exact⟨h.1,h.2.1,h.2.2.1⟩
def XH(a b c a' b' c':Int):Int:=if a=a' then(if b=b' then rK c c' else rK b b')else rK a a'
theorem RB(a b:Int):(a<b∧rK a b= -1)∨(a=b∧rK a b=0)∨(b<a∧rK a b=1):=by
 unfold rK
 by_cases h1:a<b
 ·exact .inl ⟨h1,if_pos h1⟩
 ·by_cases h2:a>b
  ·exact .inr (.inr ⟨h2,by rw[if_neg h1,if_pos h2]⟩)
  ·exact .inr (.inl ⟨by omega,by rw[if_neg h1,if_neg h2]⟩)
theorem TL(a b c a' b' c':Int)(hb:0≤b∧b≤7)(hc:0≤c∧c≤15)(hb':0≤b'∧b'≤7)(hc':0≤c'∧c'≤15):
  (XH a b c a' b' c'=0↔gj a b c=gj a' b' c')∧(¬XH a b c a' b' c'≥0→gj a b c<gj a' b' c'):=by
 unfold XH gj
 by_cases h1:a=a'
 ·rw[if_pos h1]
  by_cases h2:b=b'
  ·rw[if_pos h2]
   rcases RB c c' with⟨h,e⟩|⟨h,e⟩|⟨h,e⟩<;>rw[e]<;>omega
  ·rw[if_neg h2]
   rcases RB b b' with⟨h,e⟩|⟨h,e⟩|⟨h,e⟩<;>rw[e]<;>omega
 ·rw[if_neg h1]
  rcases RB a a' with⟨h,e⟩|⟨h,e⟩|⟨h,e⟩<;>rw[e]<;>omega
theorem XI {u v:ao.T}(hu:RA u)(hv:RA v):nN u v=0↔dh u=dh v:=
 (TL u.1 u.2.1 u.2.2.1 v.1 v.2.1 v.2.2.1 hu.2.1 hu.2.2 hv.2.1 hv.2.2).1
theorem aaD {u v:ao.T}(hu:RA u)(hv:RA v)(h:¬nN u v≥0):dh u<dh v:=
 (TL u.1 u.2.1 u.2.2.1 v.1 v.2.1 v.2.2.1 hu.2.1 hu.2.2 hv.2.1 hv.2.2).2 h
theorem ic {l:List ao.T}(h:cq l=true):∀v ∈ l,lJ v=true:=by
 intro v hv
 unfold cq at h
 rw[Bool.and_eq_true,List.all_eq_true]at h
 obtain⟨i,hi,rfl⟩:=List.getElem_of_mem hv
 have:=h.2 i (by simpa using hi)
 unfold qF at this
 simp only[List.getElem?_eq_getElem hi,Bool.and_eq_true]at this
 exact this.1
theorem gx {l:List ao.T}(h:cq l=true):l.length≤120:=by
 unfold cq at h
 rw[Bool.and_eq_true]at h
 have:=h.1
 simp at this
 omega
theorem LT {l:List ao.T}(h:cq l=true)(k:Nat)(hk:k+1<l.length):dh l[k]<dh l[k+1]:=by
 have hm:=ic h
 unfold cq at h
 rw[Bool.and_eq_true,List.all_eq_true]at h
 have:=h.2 (k+1) (by simpa using hk)
 unfold qF at this
 simp only[List.getElem?_eq_getElem hk,List.getElem?_eq_getElem (show k<l.length by omega),Bool.and_eq_true]at this
 refine aaD (rL (hm _ (List.getElem_mem _))) (rL (hm _ (List.getElem_mem _))) ?_
 simpa using this.2
theorem RC {l:List ao.T}(h:cq l=true):∀(d i:Nat) (hd:i+d+1<l.length),dh l[i]<dh l[i+d+1]
 |0,i,hd=>LT h i hd
 |d+1,i,hd=>Int.lt_trans (RC h d i (by omega)) (LT h (i+d+1) hd)
theorem RD {l:List ao.T}(h:cq l=true):(l.map dh).Pairwise (· < ·):=by
 rw[List.pairwise_iff_getElem]
 intro i j hi hj hij
 rw[List.length_map]at hi hj
 obtain⟨d,rfl⟩:∃d,j=i+d+1:=⟨j-i-1,by omega⟩
 rw[List.getElem_map,List.getElem_map]
 exact RC h d i hj
def jw(i R S:Nat):List Int:=(List.range R).flatMap fun(r:Nat)=>(List.range S).map fun(s:Nat)=>gj (i:Int) (r:Int) (s:Int)
def iZ:Nat→List aG.T→List Int
 |_,[]=>[]
 |i,m::ms=>jw i m.1.toNat m.2.1.toNat++iZ (i+1) ms
theorem NI(i S:Nat)(hS:0<S):∀R,jw i R S=(List.range (R*S)).map fun(q:Nat)=>gj (i:Int) ((q / S:Nat):Int) ((q % S:Nat):Int)
 |0=>by simp[jw]
 |R+1=>by
  have ih:=NI i S hS R
  unfold jw at ih ⊢
  rw[List.range_succ,List.flatMap_append,ih,Nat.add_mul,Nat.one_mul,List.range_add,List.map_append,List.map_map]
  congr 1
  rw[List.flatMap_cons,List.flatMap_nil,List.append_nil]
  apply List.map_congr_left
  intro s hs
  have hs:s<S:=by simpa using hs
  have h1:(R*S+s) / S=R:=by rw[Nat.mul_comm,Nat.mul_add_div hS,Nat.div_eq_of_lt hs,Nat.add_zero]
  have h2:(R*S+s) % S=s:=by rw[Nat.mul_comm,Nat.mul_add_mod,Nat.mod_eq_of_lt hs]
  simp only[Function.comp,h1,h2]
theorem B1(i R S:Nat)(hS:0<S):(jw i R S).length=R*S:=by rw[NI i S hS,List.length_map,List.length_range]
theorem TM {i R S:Nat}(hR:R≤8)(hS:S≤16):∀k ∈ jw i R S,(i:Int)*128≤k∧k<((i:Int)+1)*128:=by
 intro k hk
 simp only[jw,List.mem_flatMap,List.mem_map,List.mem_range]at hk
 obtain⟨r,hr,s,hs,rfl⟩:=hk
 unfold gj
 omega
theorem S4 {i R S:Nat}(hS:S≤16):(jw i R S).Pairwise (· < ·):=by
 unfold jw
 rw[List.pairwise_flatMap]
 constructor
 ·intro r hr
  rw[List.pairwise_map]
  exact List.Pairwise.imp (fun {a b} h=>by unfold gj;omega) List.pairwise_lt_range
 ·refine List.Pairwise.imp (fun {a b} h x hx y hy=> ?_) List.pairwise_lt_range
  simp only[List.mem_map,List.mem_range]at hx hy
  obtain⟨s,hs,rfl⟩:=hx
  obtain⟨t,ht,rfl⟩:=hy
  unfold gj
  omega
def LU(m:aG.T):Prop:=(1≤m.1∧m.1≤8)∧(1≤m.2.1∧m.2.1≤16)
theorem mK {m:aG.T}(h:LU m):(1≤m.1.toNat∧m.1.toNat≤8)∧(1≤m.2.1.toNat∧m.2.1.toNat≤16)∧(m.1=((m.1.toNat:Nat):Int)∧m.2.1=((m.2.1.toNat:Nat):Int)):=by
 obtain⟨(a:Int),(b:Int),c⟩:=m
 obtain⟨⟨h1,h2⟩,h3,h4⟩:=h
 have h1:(1:Int)≤a:=h1
 have h2:a≤(8:Int):=h2
 have h3:(1:Int)≤b:=h3
 have h4:b≤(16:Int):=h4
 exact⟨⟨by show 1≤a.toNat;omega,by show a.toNat≤8;omega⟩,⟨by show 1≤b.toNat;omega,by show b.toNat≤16;omega⟩,(Int.toNat_of_nonneg (show(0:Int)≤a by omega)).symm,(Int.toNat_of_nonneg (show(0:Int)≤b by omega)).symm⟩
theorem TN:∀(ms:List aG.T) (i:Nat),(∀m ∈ ms,LU m)→∀k ∈ iZ i ms,(i:Int)*128≤k
 | [],i,_,k,hk=>by simp[iZ]at hk
 |m::ms,i,h,k,hk=>by
  simp only[iZ,List.mem_append]at hk
  have hm:=mK (h m (by simp))
  rcases hk with hk|hk
  ·exact(TM (by omega) (by omega) k hk).1
  ·have:=TN ms (i+1) (fun m hm=>h m (by simp[hm])) k hk
   omega
theorem Ib:∀(ms:List aG.T) (i:Nat),(∀m ∈ ms,LU m)→(iZ i ms).Pairwise (· < ·)
 | [],i,_=>List.Pairwise.nil
 |m::ms,i,h=>by
  have hm:=mK (h m (by simp))
  simp only[iZ]
  rw[List.pairwise_append]
  refine⟨S4 (by omega),Ib ms (i+1) (fun m hm=>h m (by simp[hm])),fun a ha b hb=> ?_⟩
  have h1:=TM (R:=m.1.toNat) (S:=m.2.1.toNat) (by omega) (by omega) a ha
  have h2:=TN ms (i+1) (fun m hm=>h m (by simp[hm])) b hb
  omega
theorem RE:∀(K E:List Int),K.Pairwise (· < ·)→E.Pairwise (· < ·)→(∀x ∈ E,x ∈ K)→E.length≤K.length∧(E.length=K.length→K=E)
 | [],[],_,_,_=>⟨Nat.le_refl _,fun _=>rfl⟩
 | [],e::E,_,_,h=>absurd (h e (by simp)) (by simp)
 |k::K,[],_,_,_=>⟨by simp,fun h=>by simp at h⟩
 |k::K,e::E,hK,hE,h=>by
  rw[List.pairwise_cons]at hK hE
  by_cases he:e=k
  ·subst he
   have:=RE K E hK.2 hE.2 (fun x hx=>by
    have h1:=h x (by simp[hx])
    have h2:=hE.1 x hx
    rw[List.mem_cons]at h1
    rcases h1 with h1|h1
    ·omega
    ·exact h1)
   refine⟨by simp;exact this.1,fun hl=> ?_⟩
   rw[this.2 (by simpa using hl)]
  ·have hek:k<e:=by
    have h1:=h e (by simp)
    rw[List.mem_cons]at h1
    rcases h1 with h1|h1
    ·exact absurd h1 he
    ·exact hK.1 e h1
   have:=RE K (e::E) hK.2 (List.pairwise_cons.2 hE) (fun x hx=>by
    have h1:=h x hx
    rw[List.mem_cons]at h1
    rcases h1 with h1|h1
    ·rw[List.mem_cons]at hx
     rcases hx with hx|hx
     ·omega
     ·have:=hE.1 x hx
      omega
    ·exact h1)
   refine⟨by simp at this ⊢;omega,fun hl=> ?_⟩
   have h1:=this.1
   simp at h1 hl
   omega
theorem Y6(K E:List Int)(hK:K.Pairwise (· < ·))(hE:E.Pairwise (· < ·)):decide (K=E)=(E.all (fun x=>decide (x ∈ K))&&decide (E.length=K.length)):=by
 by_cases h:K=E
 ·subst h
  rw[decide_eq_true rfl,decide_eq_true rfl]
  simp
 ·rw[decide_eq_false h]
  by_cases h1:E.all (fun x=>decide (x ∈ K))=true
  ·have h2:∀x ∈ E,x ∈ K:=fun x hx=>by
    have:=List.all_eq_true.1 h1 x hx
    simpa using this
   have h3:=(RE K E hK hE h2).2
   have h4:¬E.length=K.length:=fun e=>h (h3 e)
   rw[decide_eq_false h4,Bool.and_false]
  ·rw[Bool.eq_false_iff.2 h1,Bool.false_and]
end Go.Proofs.YtckljdhdadiphaaGreatDoor
namespace Go.Proofs.YtckljdhdadiphaaGreatDoor
open Go.RowKit
set_option linter.unusedVariables false
set_option linter.unusedSimpArgs false
theorem gk {l:List aG.T}(h:fp l=true):l.length≤16∧∀m ∈ l,LU m:=by
 unfold fp at h
 rw[Bool.and_eq_true,List.all_eq_true]at h
 refine⟨by have:=(bc.1 h.1).2;omega,fun m hm=> ?_⟩
 obtain⟨i,hi,rfl⟩:=List.getElem_of_mem hm
 have:=h.2 i (by simpa using hi)
 unfold tu at this
 simp only[List.getElem?_eq_getElem hi,Bool.and_eq_true,bc]at this
 exact⟨this.1,this.2.1⟩
def jB(a b c:Int)(v:ao.T):Bool:=(v.1==a)&&((v.2.1==b)&&(v.2.2.1==c))
def sh(l:List ao.T)(a b c:Int):Int:=match cj (jB a b c) 0 l with
 |none=>-1
 |some j=>(j:Int)
theorem TO(l:List ao.T)(a b c:Int)(hl:l.length≤1099511627776):sP (l,a,b,c,())=some (sh l a b c,()):=by
 have e:=xt (B:=iw) l (fun i=>(l,a,b,c,(i:Int),())) (jB a b c) (.inl ()) (fun j=>.inr ((j:Int),())) (by simp only[iw,bu]) (fun i h=>by
  simp only[iw,bj h,aL h hl,au h,ab,jB]
  rcases Bool.eq_false_or_eq_true (l[i].1==a)with h1|h1<;>rcases Bool.eq_false_or_eq_true (l[i].2.1==b)with h2|h2<;>rcases Bool.eq_false_or_eq_true (l[i].2.2.1==c)with h3|h3<;>simp only[h1,h2,h3]<;>rfl)
 have e':ac iw (l,a,b,c,(0:Int),())=_:=e
 unfold sP sh
 simp only[e']
 cases cj (jB a b c) 0 l<;>rfl
theorem TP(l:List ao.T)(a b c:Int)(hl:l.length≤1099511627776):mU (l,a,b,c,())=some (sh l a b c,()):=by
 have e:=AM l hl (fun z=>p4 (z.1,a,b,c,())) (jB a b c) (fun i h=>by
  unfold p4 jB
  rcases Bool.eq_false_or_eq_true (l[i].1==a)with h1|h1<;>rcases Bool.eq_false_or_eq_true (l[i].2.1==b)with h2|h2<;>rcases Bool.eq_false_or_eq_true (l[i].2.2.1==c)with h3|h3<;>simp only[h1,h2,h3]<;>rfl)
 unfold mU sh
 simp only[e]
 cases cj (jB a b c) 0 l<;>rfl
theorem GJ {a b c:Int}{v:ao.T}(hv:RA v)(hb:0≤b∧b≤7)(hc:0≤c∧c≤15):jB a b c v=true↔dh v=gj a b c:=by
 obtain⟨(a':Int),(b':Int),(c':Int),d⟩:=v
 have h2:0≤b'∧b'≤7:=hv.2.1
 have h3:0≤c'∧c'≤15:=hv.2.2
 unfold jB dh gj
 simp only[Bool.and_eq_true,beq_iff_eq]
 constructor
 ·rintro ⟨h1,h2,h3⟩
  have h1:a'=a:=h1
  have h2:b'=b:=h2
  have h3:c'=c:=h3
  rw[h1,h2,h3]
 ·intro h
  have h1:a'=a:=by omega
  have h2:b'=b:=by omega
  have h3:c'=c:=by omega
  exact⟨h1,h2,h3⟩
theorem RF {l:List ao.T}(hl:∀v ∈ l,RA v){a b c:Int}(hb:0≤b∧b≤7)(hc:0≤c∧c≤15):decide (sh l a b c<0)= !decide (gj a b c ∈ l.map dh):=by
 have h:=lf (jB a b c) 0 l
 have e:l.any (jB a b c)=decide (gj a b c ∈ l.map dh):=by
  by_cases hm:gj a b c ∈ l.map dh
  ·rw[decide_eq_true hm,List.any_eq_true]
   obtain⟨v,hv,e⟩:=List.mem_map.1 hm
   exact⟨v,hv,(GJ (hl v hv) hb hc).2 e⟩
  ·rw[decide_eq_false hm,Bool.eq_false_iff]
   intro h
   obtain⟨v,hv,e⟩:=List.any_eq_true.1 h
   exact hm (List.mem_map.2 ⟨v,hv,(GJ (hl v hv) hb hc).1 e⟩)
 rw[←e,←h]
 unfold sh
 cases cj (jB a b c) 0 l with
 |none=>rfl
 |some j=>simp
def UV(o:(Ty.pair (.box ar) (.pair (.int .i64) .unit)).T ⊕ (Ty.pair .bool .unit).T):Bool:=match o with
 | .inl v=>v.2.1==(v.1.2.2.2.1.length:Int)
 | .inr v=>v.1
theorem abd(m:ar.T)(hs:cq m.2.2.2.1=true)(i R S:Nat)(hi:i≤15)(hR:R≤8)(hS:1≤S∧S≤16)(sw:List Int)(ms:List aG.T)(N:Int):
  ∀(n k j:Nat),k+n=R*S→j≤m.2.2.2.1.length→ac eh (m,(j:Int),(i:Int),((R:Int),(S:Int),sw,()),ms,N,(i:Int),((R*S:Nat):Int),(k:Int),())=some (if((m.2.2.2.1.map dh).drop j).take n=(List.range' k n).map (fun(q:Nat)=>gj (i:Int) ((q / S:Nat):Int) ((q % S:Nat):Int))then .inl (m,((j+n:Nat):Int),ms,N,(i:Int),())else .inr (false,())):=by
 have hRS:R*S≤128:=Nat.le_trans (Nat.mul_le_mul hR hS.2) (by omega)
 have hlen:=gx hs
 have hmem:=ic hs
 intro n
 induction n with
 |zero=>
  intro k j hk hj
  have hk:k=R*S:=by omega
  subst hk
  rw[aj]
  simp only[eh,bu]
  simp
 |succ n ih=>
  intro k j hk hj
  have hkT:k<R*S:=by omega
  have hS0:¬((S:Int)=0):=by omega
  have d1:IntKind.i64.wrap (Int.tdiv (k:Int) (S:Int))=((k / S:Nat):Int):=by
   rw[Int.tdiv_eq_ediv_of_nonneg (by omega),←Int.natCast_ediv]
   have:k / S≤k:=Nat.div_le_self _ _
   generalize k / S=q at this ⊢
   rw[ai]<;>omega
  have d2:Int.tmod (k:Int) (S:Int)=((k % S:Nat):Int):=by
   rw[Int.tmod_eq_emod_of_nonneg (by omega),←Int.natCast_emod]
  have hq1:k / S<R:=(Nat.div_lt_iff_lt_mul (by omega)).2 (by omega)
  have hq2:k % S<S:=Nat.mod_lt _ (by omega)
  have q7:k / S≤7:=Nat.le_of_lt_succ (Nat.lt_of_lt_of_le hq1 hR)
  have q15:k % S≤15:=Nat.le_of_lt_succ (Nat.lt_of_lt_of_le hq2 hS.2)
  by_cases hjl:j=m.2.2.2.1.length
  ·subst hjl
   have e1:((m.2.2.2.1.length:Int)==(m.2.2.2.1.length:Int))=true:=by simp
   rw[aj]
   simp only[eh,bj hkT,e1]
   rw[if_neg]
   rw[List.drop_of_length_le (by simp)]
   simp[List.range'_succ]
  ·have hjl:j<m.2.2.2.1.length:=by omega
   have e1:((j:Int)==(m.2.2.2.1.length:Int))=false:=by rw[beq_eq_false_iff_ne];omega
   have hin:=rL (hmem _ (List.getElem_mem hjl))
   have hz:=XI (u:=m.2.2.2.1[j]) (v:=((i:Int),((k / S:Nat):Int),((k % S:Nat):Int),((0:Int),(0:Int),(0:Int),(0:Int),false,()),())) hin ⟨⟨by show(0:Int)≤(i:Int);omega,by show(i:Int)≤15;omega⟩,⟨Int.natCast_nonneg (k / S),Int.ofNat_le.2 q7⟩,Int.natCast_nonneg (k % S),Int.ofNat_le.2 q15⟩
   have hK:(m.2.2.2.1.map dh).drop j=dh m.2.2.2.1[j]::(m.2.2.2.1.map dh).drop (j+1):=by
    rw[List.drop_eq_getElem_cons (by simpa using hjl),List.getElem_map]
   have hkey:dh ((i:Int),((k / S:Nat):Int),((k % S:Nat):Int),((0:Int),(0:Int),(0:Int),(0:Int),false,()),())=gj (i:Int) ((k / S:Nat):Int) ((k % S:Nat):Int):=rfl
   rw[hkey]at hz
   have hih:=ih (k+1) (j+1) (by omega) (by omega)
   rw[hK,List.take_succ_cons,List.range'_succ,List.map_cons,aj]
   simp only[eh,bj hkT,e1,au hjl,ab,hS0,if_false,d1,d2,Wi,aL hkT (by omega),aL hjl (by omega)]
   by_cases hc:nN m.2.2.2.1[j] ((i:Int),((k / S:Nat):Int),((k % S:Nat):Int),((0:Int),(0:Int),(0:Int),(0:Int),false,()),())=0
   ·have g:(nN m.2.2.2.1[j] ((i:Int),((k / S:Nat):Int),((k % S:Nat):Int),((0:Int),(0:Int),(0:Int),(0:Int),false,()),()) != 0)=false:=by rw[hc];rfl
    have g2:=hz.1 hc
    simp only[g,g2,List.cons.injEq,true_and]
    have ha:j+1+n=j+(n+1):=by omega
    rw[ha]at hih
    exact hih
   ·have g:(nN m.2.2.2.1[j] ((i:Int),((k / S:Nat):Int),((k % S:Nat):Int),((0:Int),(0:Int),(0:Int),(0:Int),false,()),()) != 0)=true:=by simpa using hc
    have g2:¬dh m.2.2.2.1[j]=gj (i:Int) ((k / S:Nat):Int) ((k % S:Nat):Int):=fun e=>hc (hz.2 e)
    simp only[g,List.cons.injEq,g2,false_and,if_false]
theorem aaE(m:ar.T)(hs:cq m.2.2.2.1=true)(hm:fp m.2.2.1=true):
  ∀(n i j:Nat),i+n=m.2.2.1.length→j≤m.2.2.2.1.length→∃o,ac dD (m,(j:Int),m.2.2.1,(m.2.2.1.length:Int),(i:Int),())=some o∧UV o=decide ((m.2.2.2.1.map dh).drop j=iZ i (m.2.2.1.drop i)):=by
 obtain⟨hl16,hg⟩:=gk hm
 have hlen:=gx hs
 intro n
 induction n with
 |zero=>
  intro i j hi hj
  have hi:i=m.2.2.1.length:=by omega
  subst hi
  refine⟨.inl (m,(j:Int),()), ?_, ?_⟩
  ·rw[aj]
   simp only[dD,bu]
  ·rw[List.drop_length]
   show((j:Int)==(m.2.2.2.1.length:Int))=decide ((m.2.2.2.1.map dh).drop j= [])
   have:(m.2.2.2.1.map dh).drop j= []↔j=m.2.2.2.1.length:=by
    rw[List.drop_eq_nil_iff,List.length_map]
    omega
   by_cases h:j=m.2.2.2.1.length
   ·rw[decide_eq_true (this.2 h),h];simp
   ·rw[decide_eq_false (fun e=>h (this.1 e)),beq_eq_false_iff_ne];omega
 |succ n ih=>
  intro i j hi hj
  have hil:i<m.2.2.1.length:=by omega
  have hgi:=mK (hg _ (List.getElem_mem hil))
  obtain⟨R,hR⟩:∃R,R=m.2.2.1[i].1.toNat:=⟨_,rfl⟩
  obtain⟨S,hS⟩:∃S,S=m.2.2.1[i].2.1.toNat:=⟨_,rfl⟩
  rw[←hR,←hS]at hgi
  have hRS:R*S≤128:=Nat.le_trans (Nat.mul_le_mul hgi.1.2 hgi.2.1.2) (by omega)
  have hw:IntKind.i64.wrap ((R:Int)*(S:Int))=((R*S:Nat):Int):=by
   rw[←Int.natCast_mul,ai]<;>omega
  have h0:=abd m hs i R S (by omega) hgi.1.2 hgi.2.1 m.2.2.1[i].2.2.1 m.2.2.1 (m.2.2.1.length:Int) (R*S) 0 j (by omega) hj
  rw[←List.range_eq_range',←NI i S (by omega) R]at h0
  have hE:iZ i (m.2.2.1.drop i)=jw i R S++iZ (i+1) (m.2.2.1.drop (i+1)):=by
   rw[List.drop_eq_getElem_cons hil,hR,hS]
   rfl
  have hstep:ac dD (m,(j:Int),m.2.2.1,(m.2.2.1.length:Int),(i:Int),())=if((m.2.2.2.1.map dh).drop j).take (R*S)=jw i R S then ac dD (m,((j+R*S:Nat):Int),m.2.2.1,(m.2.2.1.length:Int),((i+1:Nat):Int),())else some (.inr (false,())):=by
   have h0':ac eh (m,(j:Int),(i:Int),((R:Int),(S:Int),m.2.2.1[i].2.2.1,()),m.2.2.1,(m.2.2.1.length:Int),(i:Int),((R*S:Nat):Int),(0:Int),())=_:=h0
   rw[aj]
   simp only[dD,bj hil,au hil,ab,hgi.2.2.1,hgi.2.2.2,hw]
   rw[h0']
   by_cases hc:((m.2.2.2.1.map dh).drop j).take (R*S)=jw i R S
   ·simp only[if_pos hc,aL hil (show m.2.2.1.length≤1099511627776 by omega)]
   ·simp only[if_neg hc]
  rw[hstep]
  by_cases hc:((m.2.2.2.1.map dh).drop j).take (R*S)=jw i R S
  ·have hj2:j+R*S≤m.2.2.2.1.length:=by
    have:=congrArg List.length hc
    rw[B1 i R S (by omega),List.length_take,List.length_drop,List.length_map]at this
    have h1:1≤R*S:=Nat.mul_pos hgi.1.1 hgi.2.1.1
    omega
   obtain⟨o,ho1,ho2⟩:=ih (i+1) (j+R*S) (by omega) hj2
   refine⟨o,by rw[if_pos hc];exact ho1, ?_⟩
   rw[ho2,hE,decide_eq_decide]
   have e:(m.2.2.2.1.map dh).drop j=jw i R S++(m.2.2.2.1.map dh).drop (j+R*S):=by
    rw[←hc,←List.drop_drop]
    exact(List.take_append_drop _ _).symm
   rw[e]
   exact(List.append_right_inj _).symm
  ·refine⟨.inr (false,()),by rw[if_neg hc], ?_⟩
   show false=_
   rw[hE,eq_comm,decide_eq_false_iff_not]
   intro e
   apply hc
   rw[e,List.take_append_of_le_length (by rw[B1 i R S (by omega)];exact Nat.le_refl _),List.take_of_length_le (by rw[B1 i R S (by omega)];exact Nat.le_refl _)]
noncomputable def eB(m:ar.T):Bool:=decide (m.2.2.2.1.map dh=iZ 0 m.2.2.1)
theorem UW(m:ar.T)(hs:cq m.2.2.2.1=true)(hm:fp m.2.2.1=true):lW (m,())=some (eB m,()):=by
 obtain⟨o,h1,h2⟩:=aaE m hs hm m.2.2.1.length 0 0 (by omega) (by omega)
 have h1:ac dD ((m.1,m.2.1,m.2.2.1,m.2.2.2.1,()),(0:Int),m.2.2.1,(m.2.2.1.length:Int),(0:Int),())=some o:=h1
 have h2:UV o=eB m:=h2
 rw[←h2]
 unfold lW
 simp only[h1]
 cases o<;>rfl
end Go.Proofs.YtckljdhdadiphaaGreatDoor
namespace Go.Proofs.YtckljdhdadiphaaGreatDoor
open Go.RowKit
set_option linter.unusedVariables false
set_option linter.unusedSimpArgs false
def Ic(K:List Int)(k:Int):Bool:=decide (k ∈ K)
theorem Y7(K:List Int)(i R S:Nat):(jw i R S).all (Ic K)=(List.range' 0 R).all (fun(r:Nat)=>(List.range' 0 S).all (fun(s:Nat)=>Ic K (gj (i:Int) (r:Int) (s:Int)))):=by
 unfold jw
 rw[List.all_flatMap,List.range_eq_range']
 congr 1
 funext r
 rw[List.all_map,List.range_eq_range']
 rfl
theorem aaF(m:ar.T)(hs:cq m.2.2.2.1=true)(i r S:Nat)(hil:i<m.2.2.1.length)(hr:r≤7)(hS:S≤16)(hm:m.2.2.1[i].2.1=(S:Int)):
  ∀(n s c:Nat),s+n=S→c+n≤1000100→ac eZ (m,(c:Int),(i:Int),(r:Int),(s:Int),())=some (if(List.range' s n).all (fun(s:Nat)=>Ic (m.2.2.2.1.map dh) (gj (i:Int) (r:Int) (s:Int)))=true then .inl (m,((c+n:Nat):Int),(i:Int),(r:Int),())else .inr (false,())):=by
 have hlen:=gx hs
 have hmem:=ic hs
 intro n
 induction n with
 |zero=>
  intro s c h hc
  have h:s=S:=by omega
  subst h
  rw[aj]
  simp only[eZ,au hil,ab,hm,bu]
  simp
 |succ n ih=>
  intro s c h hc
  have hsS:s<S:=by omega
  have hf:=TO m.2.2.2.1 (i:Int) (r:Int) (s:Int) (by omega)
  have hn:=RF (fun v hv=>rL (hmem v hv)) (a:=(i:Int)) (b:=(r:Int)) (c:=(s:Int)) ⟨by omega,by omega⟩ ⟨by omega,by omega⟩
  have hih:=ih (s+1) (c+1) (by omega) (by omega)
  have hw:IntKind.i64.wrap ((c:Int)+1)=((c+1:Nat):Int):=by rw[ai]<;>omega
  rw[List.range'_succ,List.all_cons,aj]
  simp only[eZ,au hil,ab,hm,bj hsS,hf,hn,hw,aL hsS (show S≤1099511627776 by omega)]
  have hp:Ic (m.2.2.2.1.map dh) (gj (i:Int) (r:Int) (s:Int))=decide (gj (i:Int) (r:Int) (s:Int) ∈ m.2.2.2.1.map dh):=rfl
  rw[hp]
  rcases Bool.eq_false_or_eq_true (decide (gj (i:Int) (r:Int) (s:Int) ∈ m.2.2.2.1.map dh))with g|g<;>simp only[g,Bool.not_true,Bool.not_false,Bool.true_and,Bool.false_and]
  ·have ha:c+1+n=c+(n+1):=by omega
   rw[ha]at hih
   exact hih
  ·rfl
theorem aaG(m:ar.T)(hs:cq m.2.2.2.1=true)(i R S:Nat)(hil:i<m.2.2.1.length)(hR:R≤8)(hS:S≤16)(hm1:m.2.2.1[i].1=(R:Int))(hm:m.2.2.1[i].2.1=(S:Int)):
  ∀(n r c:Nat),r+n=R→c+n*16≤1000000→ac fb (m,(c:Int),(i:Int),(r:Int),())=some (if(List.range' r n).all (fun(r:Nat)=>(List.range' 0 S).all (fun(s:Nat)=>Ic (m.2.2.2.1.map dh) (gj (i:Int) (r:Int) (s:Int))))=true then .inl (m,((c+n*S:Nat):Int),(i:Int),())else .inr (false,())):=by
 intro n
 induction n with
 |zero=>
  intro r c h hc
  have h:r=R:=by omega
  subst h
  rw[aj]
  simp only[fb,au hil,ab,hm1,bu]
  simp
 |succ n ih=>
  intro r c h hc
  have hrR:r<R:=by omega
  have h9:=aaF m hs i r S hil (by omega) hS hm S 0 c (by omega) (by omega)
  have h9':ac eZ ((m.1,m.2.1,m.2.2.1,m.2.2.2.1,()),(c:Int),(i:Int),(r:Int),(0:Int),())=_:=h9
  have hnS:n*S≤n*16:=Nat.mul_le_mul_left n hS
  have hih:=ih (r+1) (c+S) (by omega) (by rw[Nat.add_mul]at hc;omega)
  rw[List.range'_succ,List.all_cons,aj]
  simp only[fb,au hil,ab,hm1,bj hrR]
  rw[h9']
  rcases Bool.eq_false_or_eq_true ((List.range' 0 S).all (fun(s:Nat)=>Ic (m.2.2.2.1.map dh) (gj (i:Int) (r:Int) (s:Int))))with g|g<;>simp only[g,Bool.true_and,Bool.false_and,if_true,aL hrR (show R≤1099511627776 by omega)]
  ·have ha:c+S+n*S=c+(n+1)*S:=by rw[Nat.add_mul];omega
   rw[ha]at hih
   exact hih
  ·rfl
theorem aaH(m:ar.T)(hs:cq m.2.2.2.1=true)(hm:fp m.2.2.1=true):
  ∀(n i c:Nat),i+n=m.2.2.1.length→c≤128*i→∃o,ac dk (m,(c:Int),(i:Int),())=some o∧UV o=((iZ i (m.2.2.1.drop i)).all (Ic (m.2.2.2.1.map dh))&&decide (c+(iZ i (m.2.2.1.drop i)).length=m.2.2.2.1.length)):=by
 obtain⟨hl16,hg⟩:=gk hm
 have hlen:=gx hs
 intro n
 induction n with
 |zero=>
  intro i c hi hc
  have hi:i=m.2.2.1.length:=by omega
  subst hi
  refine⟨.inl (m,(c:Int),()), ?_, ?_⟩
  ·rw[aj]
   simp only[dk,bu]
  ·rw[List.drop_length]
   show((c:Int)==(m.2.2.2.1.length:Int))=(true&&decide (c+0=m.2.2.2.1.length))
   rw[Bool.true_and,Nat.add_zero]
   by_cases h:c=m.2.2.2.1.length
   ·rw[decide_eq_true h,h];simp
   ·rw[decide_eq_false h,beq_eq_false_iff_ne];omega
 |succ n ih=>
  intro i c hi hc
  have hil:i<m.2.2.1.length:=by omega
  have hgi:=mK (hg _ (List.getElem_mem hil))
  obtain⟨R,hR⟩:∃R,R=m.2.2.1[i].1.toNat:=⟨_,rfl⟩
  obtain⟨S,hS⟩:∃S,S=m.2.2.1[i].2.1.toNat:=⟨_,rfl⟩
  rw[←hR,←hS]at hgi
  have hRS:R*S≤128:=Nat.le_trans (Nat.mul_le_mul hgi.1.2 hgi.2.1.2) (by omega)
  have h6:=aaG m hs i R S hil hgi.1.2 hgi.2.1.2 hgi.2.2.1 hgi.2.2.2 R 0 c (by omega) (by omega)
  have h6':ac fb ((m.1,m.2.1,m.2.2.1,m.2.2.2.1,()),(c:Int),(i:Int),(0:Int),())=_:=h6
  rw[←Y7]at h6'
  have hE:iZ i (m.2.2.1.drop i)=jw i R S++iZ (i+1) (m.2.2.1.drop (i+1)):=by
   rw[List.drop_eq_getElem_cons hil,hR,hS]
   rfl
  have hstep:ac dk (m,(c:Int),(i:Int),())=if(jw i R S).all (Ic (m.2.2.2.1.map dh))=true then ac dk (m,((c+R*S:Nat):Int),((i+1:Nat):Int),())else some (.inr (false,())):=by
   rw[aj]
   simp only[dk,bj hil]
   rw[h6']
   by_cases hc:(jw i R S).all (Ic (m.2.2.2.1.map dh))=true
   ·simp only[if_pos hc,aL hil (show m.2.2.1.length≤1099511627776 by omega)]
   ·simp only[if_neg hc]
  rw[hstep,hE,List.all_append,List.length_append,B1 i R S (by omega)]
  by_cases hq:(jw i R S).all (Ic (m.2.2.2.1.map dh))=true
  ·obtain⟨o,ho1,ho2⟩:=ih (i+1) (c+R*S) (by omega) (by omega)
   refine⟨o,by rw[if_pos hq];exact ho1, ?_⟩
   rw[ho2,hq,Bool.true_and,Nat.add_assoc]
  ·refine⟨.inr (false,()),by rw[if_neg hq], ?_⟩
   rw[Bool.eq_false_iff.2 hq,Bool.false_and,Bool.false_and]
   rfl
theorem UX(m:ar.T)(hs:cq m.2.2.2.1=true)(hm:fp m.2.2.1=true):lp (m,())=some (eB m,()):=by
 obtain⟨o,h1,h2⟩:=aaH m hs hm m.2.2.1.length 0 0 (by omega) (by omega)
 have h1:ac dk ((m.1,m.2.1,m.2.2.1,m.2.2.2.1,()),(0:Int),(0:Int),())=some o:=h1
 have h3:eB m=UV o:=by
  rw[h2]
  unfold eB
  rw[Y6 _ _ (RD hs) (Ib _ 0 (gk hm).2),Nat.zero_add,List.length_map]
  rfl
 rw[h3]
 unfold lp
 simp only[h1]
 cases o<;>rfl
end Go.Proofs.YtckljdhdadiphaaGreatDoor
namespace Go.Proofs.YtckljdhdadiphaaGreatDoor
open Go.RowKit
set_option linter.unusedVariables false
set_option linter.unusedSimpArgs false
theorem o9 {S X O T:Type}{B:X→Option (X ⊕ O)}(l:List T)(e:S→Nat→X)(g:S→T→S)(fin:S→O)(P:S→Prop)(hP:∀s,∀v ∈ l,P s→P (g s v))(hend:∀s,P s→B (e s l.length)=some (.inr (fin s)))
  (hstep:∀s i (h:i<l.length),P s→B (e s i)=some (.inl (e (g s l[i]) (i+1)))):∀(n i:Nat) (s:S),i+n=l.length→P s→ac B (e s i)=some (fin ((l.drop i).foldl g s))
 |0,i,s,hi,hs=>by
  have hi:i=l.length:=by omega
  subst hi
  rw[aj,hend s hs,List.drop_length]
  rfl
 |n+1,i,s,hi,hs=>by
  have h:i<l.length:=by omega
  rw[aj,hstep s i h hs,List.drop_eq_getElem_cons h]
  exact o9 l e g fin P hP hend hstep n (i+1) _ (by omega) (hP s _ (List.getElem_mem h) hs)
theorem pG {S T:Type}{g:S→T→S}{P:S→Prop}:∀(l:List T) (s:S),(∀s,∀v ∈ l,P s→P (g s v))→P s→P (l.foldl g s)
 | [],s,_,h=>h
 |v::l,s,hP,h=>pG l _ (fun s u hu=>hP s u (by simp[hu])) (hP s v (by simp) h)
theorem Wj(a b:Nat)(ha:a<9223372036854775808)(hb:b<9223372036854775808):bits .or .i64 (a:Int) (b:Int)=((a|||b:Nat):Int):=by
 have hx:a|||b<2^63:=Nat.or_lt_two_pow (by omega) (by omega)
 have h1:(BitVec.ofInt 64 (a:Int)).toNat=a:=by
  rw[BitVec.ofInt_natCast,BitVec.toNat_ofNat];exact Nat.mod_eq_of_lt (by omega)
 have h2:(BitVec.ofInt 64 (b:Int)).toNat=b:=by
  rw[BitVec.ofInt_natCast,BitVec.toNat_ofNat];exact Nat.mod_eq_of_lt (by omega)
 show IntKind.i64.wrap ((BitVec.ofInt 64 (a:Int)|||BitVec.ofInt 64 (b:Int)).toNat:Int)=_
 rw[BitVec.toNat_or,h1,h2,ai]<;>omega
theorem Ie(a b:Nat)(ha:a<9223372036854775808)(hb:b<9223372036854775808):(bits .andNot .i64 (a:Int) (b:Int)==0)=decide (a&&& b=a):=by
 have h1:BitVec.ofInt 64 (a:Int)=BitVec.ofNat 64 a:=BitVec.ofInt_natCast ..
 have h2:BitVec.ofInt 64 (b:Int)=BitVec.ofNat 64 b:=BitVec.ofInt_natCast ..
 have e:bits .andNot .i64 (a:Int) (b:Int)=IntKind.i64.wrap ((BitVec.ofNat 64 a&&& ~~~ BitVec.ofNat 64 b).toNat:Int):=by
  rw[←h1,←h2];rfl
 have ha':(BitVec.ofNat 64 a).toNat=a:=by rw[BitVec.toNat_ofNat];exact Nat.mod_eq_of_lt (by omega)
 have hle:(BitVec.ofNat 64 a&&& ~~~ BitVec.ofNat 64 b).toNat≤a:=by
  rw[BitVec.toNat_and,ha']
  exact Nat.and_le_left
 have hz:(BitVec.ofNat 64 a&&& ~~~ BitVec.ofNat 64 b).toNat=0↔a&&& b=a:=by
  constructor
  ·intro h
   have h0:BitVec.ofNat 64 a&&& ~~~ BitVec.ofNat 64 b=0#64:=BitVec.eq_of_toNat_eq (by rw[h];rfl)
   apply Nat.eq_of_testBit_eq
   intro i
   rw[Nat.testBit_and]
   by_cases hi:i<64
   ·have:=congrArg (fun z:BitVec 64=>z.getLsbD i) h0
    simp only[BitVec.getLsbD_and,BitVec.getLsbD_not,BitVec.getLsbD_ofNat,BitVec.getLsbD_zero,hi,decide_true,Bool.true_and]at this
    cases h5:a.testBit i<;>cases h6:b.testBit i<;>simp[h5,h6]at this ⊢
   ·have:a.testBit i=false:=Nat.testBit_lt_two_pow (Nat.lt_of_lt_of_le ha (Nat.le_trans (by decide:9223372036854775808≤2^64) (Nat.pow_le_pow_right (by omega) (by omega))))
    rw[this];rfl
  ·intro h
   have h0:BitVec.ofNat 64 a&&& ~~~ BitVec.ofNat 64 b=0#64:=by
    apply BitVec.eq_of_getLsbD_eq
    intro i hi
    have:=congrArg (fun z:Nat=>z.testBit i) h
    simp only[Nat.testBit_and]at this
    simp only[BitVec.getLsbD_and,BitVec.getLsbD_not,BitVec.getLsbD_ofNat,BitVec.getLsbD_zero,hi,decide_true,Bool.true_and]
    cases h5:a.testBit i<;>cases h6:b.testBit i<;>simp[h5,h6]at this ⊢
   rw[h0];rfl
 rw[e,ai (by omega) (by omega)]
 by_cases h:a&&& b=a
 ·rw[decide_eq_true h,hz.2 h];rfl
 ·rw[decide_eq_false h,beq_eq_false_iff_ne]
  intro h2
  exact h (hz.1 (by omega))
theorem OB(k:Nat)(hk:k<32):IntKind.i64.wrap ((1:Int)*2^min (k:Int).toNat IntKind.i64.bits)=((2^k:Nat):Int):=by
 have h:min (k:Int).toNat IntKind.i64.bits=k:=o5 (by omega)
 have hp:2^k<2^32:=Nat.pow_lt_pow_right (by omega) hk
 have e:(2:Int)^k=((2^k:Nat):Int):=by norm_cast
 rw[h,Int.one_mul,e]
 generalize (2:Nat)^k=p at hp ⊢
 rw[ai]<;>omega
theorem LV(k:Nat)(hk:k<32):IntKind.i64.wrap ((1:Int)*2^min k IntKind.i64.bits)=((2^k:Nat):Int):=OB k hk
theorem RG(z:Int)(h0:0≤z)(h1:z≤31):∃k:Nat,k<32∧z=(k:Int):=⟨z.toNat,by omega,by omega⟩
theorem NJ(v k:Nat)(hv:v<4294967296)(hk:k<32):v|||2^k<4294967296:=
 Nat.or_lt_two_pow (n:=32) (by omega) (Nat.pow_lt_pow_right (by omega) hk)
def nP(v k:Nat):Bool:=(v / 2^k) % 2==1
theorem JP(v k:Nat):nP v k=v.testBit k:=by
 unfold nP
 rw[Nat.testBit_eq_decide_div_mod_eq,Bool.eq_iff_iff]
 simp
theorem UY(v k:Nat)(hv:v<4294967296)(hk:k<32):wT ((v:Int),(k:Int),true,())=some (((v|||2^k:Nat):Int),()):=by
 have hh:=UR v k hv hk
 have hu:IntKind.u64.wrap (k:Int)=(k:Int):=F9 (by omega)
 have hn:¬((k:Int)<0):=by omega
 have hp:2^k<2^32:=Nat.pow_lt_pow_right (by omega) hk
 have hx:=AP v (2^k) (by omega) (by omega)
 unfold wT
 simp only[hh,hu,hn,if_false,OB k hk,hx]
 have hb:(v / 2^k % 2==1)=v.testBit k:=JP v k
 rw[hb]
 cases h:v.testBit k with
 |true=>
  have:v|||2^k=v:=by
   apply Nat.eq_of_testBit_eq
   intro i
   rw[Nat.testBit_or,Nat.testBit_two_pow]
   by_cases hi:k=i
   ·subst hi;simp[h]
   ·simp[hi]
  rw[this]
  rfl
 |false=>
  have:v|||2^k=v^^^2^k:=by
   apply Nat.eq_of_testBit_eq
   intro i
   rw[Nat.testBit_or,Nat.testBit_xor,Nat.testBit_two_pow]
   by_cases hi:k=i
   ·subst hi;simp[h]
   ·simp[hi]
  rw[this]
  rfl
theorem aaI(v k:Nat)(hv:v<4294967296)(hk:k<32):PG ((v:Int),(k:Int),())=some (nP v k,()):=by
 have hb:=Rr v k (by omega)
 unfold bt at hb
 have hn:¬((k:Int)<0):=by omega
 unfold PG nP
 simp only[hn,if_false,o5 (show k≤64 by omega),hb]
 generalize v / 2^k=z
 have:(((z % 2:Nat):Int)==1)=(z % 2==1):=by
  rw[Bool.eq_iff_iff]
  simp
  omega
 rw[this]
def pb(v:Nat)(n:aA.T):Nat:=if n.2.2.2.1=true then v else v|||2^n.1.toNat
def cL(l:List aA.T):Nat:=l.foldl pb 0
theorem B2 {l:List aA.T}(h:fO l=true):l.length≤32∧∀n ∈ l,∃k:Nat,k<32∧n.1=(k:Int):=by
 unfold fO at h
 rw[Bool.and_eq_true,List.all_eq_true]at h
 refine⟨by have:=(bc.1 h.1).2;omega,fun n hn=> ?_⟩
 obtain⟨i,hi,rfl⟩:=List.getElem_of_mem hn
 have:=h.2 i (by simpa using hi)
 unfold tp vF at this
 simp only[List.getElem?_eq_getElem hi,Bool.and_eq_true,bc]at this
 obtain⟨⟨⟨h1,h2⟩,_⟩,_⟩:=this
 exact RG _ h1 h2
theorem NK {l:List aA.T}(h:fO l=true):∀s,∀n ∈ l,s<4294967296→pb s n<4294967296:=by
 intro s n hn hs
 obtain⟨k,hk,e⟩:=(B2 h).2 n hn
 unfold pb
 split
 ·exact hs
 ·rw[e];exact NJ s k hs hk
theorem AX {l:List aA.T}(h:fO l=true):cL l<4294967296:=pG (P:=fun s=>s<4294967296) l 0 (NK h) (by omega)
theorem UZ(l:List aA.T)(h:fO l=true):je (l,())=some ((cL l:Int),()):=by
 have hid:=B2 h
 have e:=o9 (B:=ef) l (fun(s:Nat) i=>((s:Int),l,(l.length:Int),(i:Int),())) pb (fun s=>.inl ((s:Int),())) (fun s=>s<4294967296) (NK h) (fun s _=>by simp only[ef,bu]) (fun s i hi hs=>by
  obtain⟨k,hk,e⟩:=hid.2 _ (List.getElem_mem hi)
  have hn:¬((k:Int)<0):=by omega
  have hp:2^k<2^32:=Nat.pow_lt_pow_right (by omega) hk
  have ho:=Wj s (2^k) (by omega) (by omega)
  simp only[ef,bj hi,aL hi (show l.length≤1099511627776 by omega),au hi,ab,e,hn,if_false,LV k hk,ho,pb,Int.toNat_natCast]
  cases l[i].2.2.2.1<;>rfl) l.length 0 0 (by omega) (by omega)
 have e':ac ef ((0:Int),l,(l.length:Int),(0:Int),())=_:=e
 unfold je
 simp only[e',List.drop_zero]
 rfl
theorem PH(l:List aA.T)(h:fO l=true):cQ (l,())=some ((cL l:Int),()):=by
 have hid:=B2 h
 have e:=o9 (B:=cX) l (fun(s:Nat) i=>(l,(s:Int),(i:Int),())) pb (fun s=>.inl ((s:Int),())) (fun s=>s<4294967296) (NK h) (fun s _=>by simp only[cX,bu]) (fun s i hi hs=>by
  obtain⟨k,hk,e⟩:=hid.2 _ (List.getElem_mem hi)
  have ho:=UY s k hs hk
  simp only[cX,bj hi,aL hi (show l.length≤1099511627776 by omega),au hi,ab,e,ho,pb,Int.toNat_natCast]
  cases l[i].2.2.2.1<;>rfl) l.length 0 0 (by omega) (by omega)
 have e':ac cX (l,(0:Int),(0:Int),())=_:=e
 unfold cQ
 simp only[e',List.drop_zero]
 rfl
theorem tv {v:ao.T}(h:lJ v=true):∃k:Nat,k<32∧v.2.2.2.1.1=(k:Int):=by
 unfold lJ o8 at h
 simp only[Bool.and_eq_true,bc]at h
 obtain⟨h1,h2⟩:=h.2.2.2.1
 exact RG _ h1 h2
def qG(m:ar.T):Bool:=m.2.2.2.1.all (fun v=>nP (cL m.2.1) v.2.2.2.1.1.toNat)
theorem aaJ(m:ar.T)(hn:fO m.2.1=true)(hs:cq m.2.2.2.1=true):mk (m,())=some (qG m,()):=by
 have hlen:=gx hs
 have e:=ju (B:=fB) m.2.2.2.1 (fun i=>(m,(cL m.2.1:Int),(i:Int),())) (fun v=>nP (cL m.2.1) v.2.2.2.1.1.toNat) (.inl ()) (.inr (false,())) (by simp only[fB,bu]) (fun i h=>by
  obtain⟨k,hk,e⟩:=tv (ic hs _ (List.getElem_mem h))
  have hh:oV ((cL m.2.1:Int),(k:Int),())=some (nP (cL m.2.1) k,()):=UR (cL m.2.1) k (AX hn) hk
  simp only[fB,bj h,aL h (show m.2.2.2.1.length≤1099511627776 by omega),au h,ab,e,hh,Int.toNat_natCast]
  cases nP (cL m.2.1) k<;>rfl)
 have e':ac fB ((m.1,m.2.1,m.2.2.1,m.2.2.2.1,()),(cL m.2.1:Int),(0:Int),())=_:=e
 unfold mk qG
 simp only[PH m.2.1 hn,e']
 cases m.2.2.2.1.all (fun v=>nP (cL m.2.1) v.2.2.2.1.1.toNat)<;>rfl
theorem aaK(m:ar.T)(hn:fO m.2.1=true)(hs:cq m.2.2.2.1=true):cg (m.2.2.2.1,(fun z=>mR (z.1,(m.1,m.2.1,m.2.2.1,m.2.2.2.1,()),())),())=some (!qG m,()):=by
 have hlen:=gx hs
 rw[vh m.2.2.2.1 (by omega) _ (fun v=> !nP (cL m.2.1) v.2.2.2.1.1.toNat) (fun i h=>by
  obtain⟨k,hk,e⟩:=tv (ic hs _ (List.getElem_mem h))
  have hh:=aaI (cL m.2.1) k (AX hn) hk
  unfold mR
  simp only[UZ m.2.1 hn,e,hh,Int.toNat_natCast])]
 unfold qG
 rw[GB,Bool.not_not]
end Go.Proofs.YtckljdhdadiphaaGreatDoor
namespace Go.Proofs.YtckljdhdadiphaaGreatDoor
open Go.RowKit
set_option linter.unusedVariables false
set_option linter.unusedSimpArgs false
theorem B3 {S X O T:Type}{B:X→Option (X ⊕ O)}(l:List T)(e:S→Nat→X)(g:S→T→S)(fin:S→O)(P:Nat→S→Prop)(hP:∀i (h:i<l.length) s,P i s→P (i+1) (g s l[i]))(hend:∀s,B (e s l.length)=some (.inr (fin s)))
  (hstep:∀s i (h:i<l.length),P i s→B (e s i)=some (.inl (e (g s l[i]) (i+1)))):∀(n i:Nat) (s:S),i+n=l.length→P i s→ac B (e s i)=some (fin ((l.drop i).foldl g s))
 |0,i,s,hi,hs=>by
  have hi:i=l.length:=by omega
  subst hi
  rw[aj,hend s,List.drop_length]
  rfl
 |n+1,i,s,hi,hs=>by
  have h:i<l.length:=by omega
  rw[aj,hstep s i h hs,List.drop_eq_getElem_cons h]
  exact B3 l e g fin P hP hend hstep n (i+1) _ (by omega) (hP i h s hs)
theorem zi {α:Type}(q:α→Bool):∀(l:List α) (i j:Nat),cj q i l=some j→∃(n:Nat) (h:n<l.length),j=i+n∧q l[n]=true
 | [],_,_,h=>by cases h
 |v::r,i,j,h=>by
  unfold cj at h
  cases hq:q v with
  |true=>
   rw[hq]at h
   cases h
   exact⟨0,by simp,by omega,hq⟩
  |false=>
   rw[hq]at h
   obtain⟨n,hn,e,h2⟩:=zi q r (i+1) j h
   exact⟨n+1,by simpa using hn,by omega,by simpa using h2⟩
def B4(v:ao.T):Int:=v.2.2.2.1.2.2.2.1
def GK(u v:ao.T):Bool:=(u.1==v.1)&&(u.2.2.1==v.2.2.1)
def nh(u v:ao.T):Bool:= !GK u v||(B4 u==B4 v)
def GL(l:List ao.T)(i:Nat):Bool:=match l[i]? with
 |none=>false
 |some v=>(l.take i).all (nh v)
def Gd(l:List ao.T):Bool:=(List.range l.length).all (GL l)
theorem abe(m:ar.T)(hl:m.2.2.2.1.length≤1099511627776):kH (m,())=some (Gd m.2.2.2.1,()):=by
 have inner:∀i (h:i<m.2.2.2.1.length),ac eu (m,(i:Int),(0:Int),())=some (if(m.2.2.2.1.take i).all (nh m.2.2.2.1[i])then .inl (m,(i:Int),())else .inr (false,())):=fun i h=>by
  have e:=ju (B:=eu) (m.2.2.2.1.take i) (fun j=>(m,(i:Int),(j:Int),())) (nh m.2.2.2.1[i]) (.inl (m,(i:Int),())) (.inr (false,())) (by
   rw[List.length_take,Nat.min_eq_left (Nat.le_of_lt h)]
   simp only[eu,bu]) (fun j hj=>by
   have hj':j<i:=by rw[List.length_take]at hj;omega
   have hjl:j<m.2.2.2.1.length:=by omega
   have hg:(m.2.2.2.1.take i)[j]=m.2.2.2.1[j]:=by simp
   rw[hg]
   simp only[eu,bj hj',aL hjl hl,au hjl,au h,ab,rI,nh,GK,B4]
   generalize m.2.2.2.1[i]=u
   generalize m.2.2.2.1[j]=v
   rcases Bool.eq_false_or_eq_true (u.1==v.1)with h1|h1<;>simp only[h1,Bool.true_and,Bool.false_and,Bool.not_false,Bool.true_or,if_true]
   rcases Bool.eq_false_or_eq_true (u.2.2.1==v.2.2.1)with h2|h2<;>simp only[h2,Bool.not_true,Bool.not_false,Bool.true_or,Bool.false_or,if_true]
   have hne:(u.2.2.2.1.2.2.2.1 != v.2.2.2.1.2.2.2.1)= !(u.2.2.2.1.2.2.2.1==v.2.2.2.1.2.2.2.1):=rfl
   rw[hne]
   cases (u.2.2.2.1.2.2.2.1==v.2.2.2.1.2.2.2.1)<;>rfl)
  exact e
 have e:=gn (B:=ex) m.2.2.2.1.length (fun i=>(m,(i:Int),())) (GL m.2.2.2.1) (.inl ()) (.inr (false,())) (by simp only[ex,bu]) (fun i h=>by
  simp only[ex,bj h,aL h hl,inner i h,GL,List.getElem?_eq_getElem h]
  cases (m.2.2.2.1.take i).all (nh m.2.2.2.1[i])
  ·rfl
  ·show some (Sum.inl (m,IntKind.i64.wrap ((i:Int)+1),()))=some (.inl (m,((i+1:Nat):Int),()))
   rw[aL h hl])
 have e':ac ex ((m.1,m.2.1,m.2.2.1,m.2.2.2.1,()),(0:Int),())=_:=e
 unfold kH Gd
 simp only[e']
 cases (List.range m.2.2.2.1.length).all (GL m.2.2.2.1)<;>rfl
theorem OC:∀(ms:List aG.T) (i:Nat),(∀m ∈ ms,LU m)→∀k ∈ iZ i ms,∃a r s:Nat,k=gj (a:Int) (r:Int) (s:Int)∧r≤7∧s≤15∧gj (a:Int) 0 (s:Int) ∈ iZ i ms
 | [],i,_,k,hk=>by simp[iZ]at hk
 |m::ms,i,h,k,hk=>by
  simp only[iZ,List.mem_append]at hk ⊢
  rcases hk with hk|hk
  ·have hm:=mK (h m (by simp))
   simp only[jw,List.mem_flatMap,List.mem_map,List.mem_range]at hk
   obtain⟨r,hr,s,hs,rfl⟩:=hk
   refine⟨i,r,s,rfl,by omega,by omega,.inl ?_⟩
   simp only[jw,List.mem_flatMap,List.mem_map,List.mem_range]
   exact⟨0,by omega,s,hs,rfl⟩
  ·obtain⟨a,r,s,e,h1,h2,h3⟩:=OC ms (i+1) (fun m hm=>h m (by simp[hm])) k hk
   exact⟨a,r,s,e,h1,h2,.inr h3⟩
theorem RH(m:ar.T)(hs:cq m.2.2.2.1=true)(hm:fp m.2.2.1=true)(hc:eB m=true):∀v ∈ m.2.2.2.1,∃(j:Nat) (h:j<m.2.2.2.1.length),cj (jB v.1 0 v.2.2.1) 0 m.2.2.2.1=some j∧jB v.1 0 v.2.2.1 m.2.2.2.1[j]=true:=by
 intro v hv
 have hmem:=ic hs
 have hvk:=rL (hmem v hv)
 have hK:m.2.2.2.1.map dh=iZ 0 m.2.2.1:=by
  unfold eB at hc
  exact of_decide_eq_true hc
 have h1:dh v ∈ iZ 0 m.2.2.1:=by rw[←hK];exact List.mem_map.2 ⟨v,hv,rfl⟩
 obtain⟨a,r,s,e,hr,hs',h2⟩:=OC _ 0 (gk hm).2 _ h1
 rw[←hK]at h2
 obtain⟨u,hu,e2⟩:=List.mem_map.1 h2
 have huk:=rL (hmem u hu)
 have hv0:jB (a:Int) (r:Int) (s:Int) v=true:=(GJ hvk ⟨by omega,by omega⟩ ⟨by omega,by omega⟩).2 e
 have hu0:jB (a:Int) 0 (s:Int) u=true:=(GJ huk ⟨by omega,by omega⟩ ⟨by omega,by omega⟩).2 e2
 have hva:v.1=(a:Int)∧v.2.2.1=(s:Int):=by
  unfold jB at hv0
  simp only[Bool.and_eq_true,beq_iff_eq]at hv0
  exact⟨hv0.1,hv0.2.2⟩
 have hx:m.2.2.2.1.any (jB v.1 0 v.2.2.1)=true:=List.any_eq_true.2 ⟨u,hu,by rw[hva.1,hva.2];exact hu0⟩
 rw[←lf (jB v.1 0 v.2.2.1) 0 m.2.2.2.1]at hx
 obtain⟨j,hj⟩:=Option.isSome_iff_exists.1 hx
 obtain⟨n,hn,e3,h4⟩:=zi _ _ _ _ hj
 have:j=n:=by omega
 subst this
 exact⟨j,hn,hj,h4⟩
def pc(l:List ao.T)(v:ao.T):Bool:=match cj (jB v.1 0 v.2.2.1) 0 l with
 |none=>false
 |some j=>match l[j]? with
  |none=>false
  |some u=>B4 v==B4 u
theorem XJ(m:ar.T)(hs:cq m.2.2.2.1=true)(hm:fp m.2.2.1=true)(hc:eB m=true):p5 (m,())=some (m.2.2.2.1.all (pc m.2.2.2.1),()):=by
 have hlen:=gx hs
 have e:=ju (B:=gG) m.2.2.2.1 (fun i=>(m,m.2.2.2.1,(m.2.2.2.1.length:Int),(i:Int),())) (pc m.2.2.2.1) (.inl ()) (.inr (false,())) (by simp only[gG,bu]) (fun i h=>by
  obtain⟨j,hj,h1,h2⟩:=RH m hs hm hc _ (List.getElem_mem h)
  have hf:mU (m.2.2.2.1,m.2.2.2.1[i].1,(0:Int),m.2.2.2.1[i].2.2.1,())=some ((j:Int),()):=by
   rw[TP _ _ _ _ (by omega)]
   unfold sh
   rw[h1]
  simp only[gG,bj h,aL h (show m.2.2.2.1.length≤1099511627776 by omega),au h,ab,hf,au hj,rI,cE,pc,h1,List.getElem?_eq_getElem hj,B4]
  have hne:(m.2.2.2.1[i].2.2.2.1.2.2.2.1 != m.2.2.2.1[j].2.2.2.1.2.2.2.1)= !(m.2.2.2.1[i].2.2.2.1.2.2.2.1==m.2.2.2.1[j].2.2.2.1.2.2.2.1):=rfl
  rw[hne]
  cases (m.2.2.2.1[i].2.2.2.1.2.2.2.1==m.2.2.2.1[j].2.2.2.1.2.2.2.1)<;>rfl)
 have e':ac gG ((m.1,m.2.1,m.2.2.1,m.2.2.2.1,()),m.2.2.2.1,(m.2.2.2.1.length:Int),(0:Int),())=_:=e
 unfold p5
 simp only[e']
 cases m.2.2.2.1.all (pc m.2.2.2.1)<;>rfl
theorem XK {u v:ao.T}(h:nh u v=true):nh v u=true:=by
 unfold nh GK at h ⊢
 simp only[Bool.or_eq_true,Bool.not_eq_true',Bool.and_eq_false_iff,beq_iff_eq,beq_eq_false_iff_ne]at h ⊢
 rcases h with(h|h)|h
 ·exact .inl (.inl fun e=>h e.symm)
 ·exact .inl (.inr fun e=>h e.symm)
 ·exact .inr h.symm
theorem Y8 {l:List ao.T}:Gd l=true↔∀u ∈ l,∀v ∈ l,nh u v=true:=by
 unfold Gd
 rw[List.all_eq_true]
 constructor
 ·intro h
  have key:∀i j (hi:i<l.length) (hj:j<i),nh l[i] l[j]=true:=fun i j hi hj=>by
   have:=h i (by simpa using hi)
   unfold GL at this
   simp only[List.getElem?_eq_getElem hi,List.all_eq_true]at this
   exact this _ (List.mem_take_iff_getElem.2 ⟨j,by omega,rfl⟩)
  intro u hu v hv
  obtain⟨i,hi,rfl⟩:=List.getElem_of_mem hu
  obtain⟨j,hj,rfl⟩:=List.getElem_of_mem hv
  rcases Nat.lt_trichotomy i j with h1|h1|h1
  ·exact XK (key j i hj h1)
  ·subst h1
   unfold nh
   simp
  ·exact key i j hi h1
 ·intro h i hi
  have hi:i<l.length:=by simpa using hi
  unfold GL
  simp only[List.getElem?_eq_getElem hi,List.all_eq_true]
  exact fun v hv=>h _ (List.getElem_mem hi) v (List.mem_of_mem_take hv)
theorem U0(m:ar.T)(hs:cq m.2.2.2.1=true)(hm:fp m.2.2.1=true)(hc:eB m=true):m.2.2.2.1.all (pc m.2.2.2.1)=Gd m.2.2.2.1:=by
 have hf:=RH m hs hm hc
 rw[Bool.eq_iff_iff,Y8,List.all_eq_true]
 constructor
 ·intro h u hu v hv
  unfold nh
  cases hsm:GK u v with
  |false=>rfl
  |true=>
   unfold GK at hsm
   simp only[Bool.and_eq_true,beq_iff_eq]at hsm
   obtain⟨j,hj,h1,h2⟩:=hf u hu
   have hu':=h u hu
   have hv':=h v hv
   unfold pc at hu' hv'
   rw[←hsm.1,←hsm.2]at hv'
   simp only[h1,List.getElem?_eq_getElem hj,beq_iff_eq]at hu' hv'
   rw[hu',hv']
   simp
 ·intro h v hv
  obtain⟨j,hj,h1,h2⟩:=hf v hv
  unfold pc
  simp only[h1,List.getElem?_eq_getElem hj]
  have h3:=h v hv _ (List.getElem_mem hj)
  unfold jB at h2
  simp only[Bool.and_eq_true,beq_iff_eq]at h2
  unfold nh GK at h3
  rw[h2.1,h2.2.2]at h3
  simpa using h3
def XL(k:Int)(a:Int)(v:ao.T):Int:=if(v.1==k)=true then IntKind.i64.wrap (a+B4 v)else a
def NL(l:List ao.T)(k:Int):Int:=l.foldl (XL k) 0
theorem abf(m:ar.T)(k:Int)(hl:m.2.2.2.1.length≤1099511627776):qc (m,k,())=some (NL m.2.2.2.1 k,()):=by
 have e:=B3 (B:=gJ) m.2.2.2.1 (fun(s:Int) i=>(k,m,s,(i:Int),())) (XL k) (fun s=>.inl (s,())) (fun _ _=>True) (fun _ _ _ _=>trivial) (fun s=>by simp only[gJ,bu]) (fun s i h _=>by
  simp only[gJ,bj h,aL h hl,au h,ab,XL,B4]
  cases (m.2.2.2.1[i].1==k)<;>rfl) m.2.2.2.1.length 0 0 (by omega) trivial
 have e':ac gJ (k,(m.1,m.2.1,m.2.2.1,m.2.2.2.1,()),(0:Int),(0:Int),())=_:=e
 unfold qc
 simp only[e']
 rfl
theorem abg(m:ar.T)(k:Int)(hl:m.2.2.2.1.length≤1000):∃l,nU (m,k,())=some (l,())∧mV (l,())=some (NL m.2.2.2.1 k,()):=by
 have e:=B3 (B:=fV) m.2.2.2.1 (fun(s:List ao.T) i=>(k,s,m.2.2.2.1,(m.2.2.2.1.length:Int),(i:Int),())) (fun s v=>if(v.1==k)=true then s++ [v]else s) (fun s=>.inl (s,())) (fun i s=>s.length≤i) (fun i h s hs=>by
  show List.length (if _ then _ else _)≤_
  split
  ·simp;omega
  ·omega) (fun s=>by simp only[fV,bu]) (fun s i h hs=>by
  simp only[fV,bj h,aL h (show m.2.2.2.1.length≤1099511627776 by omega),au h,ab]
  cases (m.2.2.2.1[i].1==k)
  ·rfl
  ·simp only
   rw[aC (by simp;omega)]
   rfl) m.2.2.2.1.length 0 [] (by omega) (by simp)
 have e':ac fV (k,([]:List ao.T),m.2.2.2.1,(m.2.2.2.1.length:Int),(0:Int),())=_:=e
 have hflt:∀(l acc:List ao.T),l.foldl (fun s v=>if(v.1==k)=true then s++ [v]else s) acc=acc++l.filter (fun v=>v.1==k):=by
  intro l
  induction l with
  |nil=>intro acc;simp
  |cons v l ih=>
   intro acc
   rw[List.foldl_cons,ih,List.filter_cons]
   split<;>simp
 refine⟨m.2.2.2.1.filter (fun v=>v.1==k), ?_, ?_⟩
 ·unfold nU
  simp only[e',List.drop_zero,hflt,List.nil_append]
 ·have hle:=List.length_filter_le (fun v:ao.T=>v.1==k) m.2.2.2.1
  generalize hq:m.2.2.2.1.filter (fun v=>v.1==k)=q at hle
  have e2:=B3 (B:=ej) q (fun(s:Int) i=>(s,q,(q.length:Int),(i:Int),())) (fun s v=>IntKind.i64.wrap (s+B4 v)) (fun s=>.inl (s,())) (fun _ _=>True) (fun _ _ _ _=>trivial) (fun s=>by simp only[ej,bu]) (fun s i h _=>by
   simp only[ej,bj h,aL h (show q.length≤1099511627776 by omega),au h,ab]
   rfl) q.length 0 0 (by omega) trivial
  have e2':ac ej ((0:Int),q,(q.length:Int),(0:Int),())=_:=e2
  unfold mV NL
  simp only[e2',List.drop_zero]
  rw[←hq,List.foldl_filter]
  rfl
def lC(l:List ao.T)(k:Nat):Bool:= !decide (NL l (k:Int)>32000)
theorem Y9(m:ar.T)(hl:m.2.2.2.1.length≤1000)(hn:m.2.2.1.length≤1000):sD (m,())=some ((List.range m.2.2.1.length).all (lC m.2.2.2.1),()):=by
 have e:=gn (B:=io) m.2.2.1.length (fun i=>(m,(m.2.2.1.length:Int),(i:Int),())) (lC m.2.2.2.1) (.inl ()) (.inr (false,())) (by simp only[io,bu]) (fun i h=>by
  obtain⟨l,h1,h2⟩:=abg m (i:Int) hl
  have h1:nU ((m.1,m.2.1,m.2.2.1,m.2.2.2.1,()),(i:Int),())=some (l,()):=h1
  simp only[io,bj h,aL h (show m.2.2.1.length≤1099511627776 by omega),h1,h2,lC]
  rcases Bool.eq_false_or_eq_true (decide (NL m.2.2.2.1 (i:Int)>32000))with g|g<;>simp only[g]<;>rfl)
 have e':ac io ((m.1,m.2.1,m.2.2.1,m.2.2.2.1,()),(m.2.2.1.length:Int),(0:Int),())=_:=e
 unfold sD
 simp only[e']
 cases (List.range m.2.2.1.length).all (lC m.2.2.2.1)<;>rfl
theorem Za(m:ar.T)(hl:m.2.2.2.1.length≤1000)(hn:m.2.2.1.length≤1000):ac dQ (m,(0:Int),())=some (if(List.range m.2.2.1.length).all (lC m.2.2.2.1)=true then .inl (m,())else .inr ((8:Int),())):=
 gn (B:=dQ) m.2.2.1.length (fun i=>(m,(i:Int),())) (lC m.2.2.2.1) (.inl (m,())) (.inr ((8:Int),())) (by simp only[dQ,bu]) (fun i h=>by
  have h1:qc ((m.1,m.2.1,m.2.2.1,m.2.2.2.1,()),(i:Int),())=_:=abf m (i:Int) (by omega)
  simp only[dQ,bj h,aL h (show m.2.2.1.length≤1099511627776 by omega),h1,lC]
  rcases Bool.eq_false_or_eq_true (decide (NL m.2.2.2.1 (i:Int)>32000))with g|g<;>simp only[g]<;>rfl)
def si(v:ao.T):Bool:=if(v.2.2.2.1.2.1==(3:Int))=true then v.1 != (0:Int)else false
theorem aaL(l:List ao.T)(hl:l.length≤1000):cg (l,mS,())=some (l.any si,()):=
 vh l (by omega) _ si (fun i h=>by
  unfold mS si
  cases (l[i].2.2.2.1.2.1==(3:Int))<;>rfl)
theorem aaM(m:ar.T)(hl:m.2.2.2.1.length≤1000):ac dl (m,(0:Int),())=some (if m.2.2.2.1.any si=true then .inr ((10:Int),())else .inl ()):=by
 have e:=ju (B:=dl) m.2.2.2.1 (fun i=>(m,(i:Int),())) (fun v=> !si v) (.inl ()) (.inr ((10:Int),())) (by simp only[dl,bu]) (fun i h=>by
  simp only[dl,bj h,aL h (show m.2.2.2.1.length≤1099511627776 by omega),au h,ab,si]
  rcases Bool.eq_false_or_eq_true (m.2.2.2.1[i].2.2.2.1.2.1==(3:Int))with g|g<;>simp only[g]
  ·rcases Bool.eq_false_or_eq_true (m.2.2.2.1[i].1 != (0:Int))with g2|g2<;>simp only[g2]<;>rfl
  ·rfl)
 have e':ac dl (m,(0:Int),())=_:=e
 rw[e',GB]
 simp only[Bool.not_not]
 cases m.2.2.2.1.any si<;>rfl
end Go.Proofs.YtckljdhdadiphaaGreatDoor
namespace Go.Proofs.YtckljdhdadiphaaGreatDoor
open Go.RowKit
set_option linter.unusedVariables false
set_option linter.unusedSimpArgs false
def Ge(i r:Int)(s:Nat)(v:ao.T):Nat:=if(v.1==i)=true then(if(v.2.1==r)=true then s|||2^v.2.2.2.1.1.toNat else s)else s
def rM(l:List ao.T)(i r:Int):Nat:=l.foldl (Ge i r) 0
theorem NM {l:List ao.T}(h:cq l=true)(i r:Int):∀s,∀v ∈ l,s<4294967296→Ge i r s v<4294967296:=by
 intro s v hv hs
 obtain⟨k,hk,e⟩:=tv (ic h v hv)
 unfold Ge
 split
 ·split
  ·rw[e];exact NJ s k hs hk
  ·exact hs
 ·exact hs
theorem Zb {l:List ao.T}(h:cq l=true)(i r:Int):rM l i r<4294967296:=pG (P:=fun s=>s<4294967296) l 0 (NM h i r) (by omega)
theorem Zc(m:ar.T)(hd:qG m=true)(i r:Int):∀k,(rM m.2.2.2.1 i r).testBit k=true→(cL m.2.1).testBit k=true:=by
 unfold qG at hd
 rw[List.all_eq_true]at hd
 refine pG (P:=fun s=>∀k,Nat.testBit s k=true→(cL m.2.1).testBit k=true) m.2.2.2.1 0 ?_ (by simp)
 intro s v hv hs k hk
 unfold Ge at hk
 have hv':=hd v hv
 rw[JP]at hv'
 split at hk
 ·split at hk
  ·rw[Nat.testBit_or,Nat.testBit_two_pow,Bool.or_eq_true]at hk
   rcases hk with hk|hk
   ·exact hs k hk
   ·have:=of_decide_eq_true hk
    rw[←this]
    exact hv'
  ·exact hs k hk
 ·exact hs k hk
theorem aaN(m:ar.T)(hd:qG m=true)(i r:Int):decide (cL m.2.1&&& rM m.2.2.2.1 i r=cL m.2.1)=decide (rM m.2.2.2.1 i r=cL m.2.1):=by
 have hs:=Zc m hd i r
 rw[decide_eq_decide]
 constructor
 ·intro h
  apply Nat.eq_of_testBit_eq
  intro k
  have:=congrArg (fun z:Nat=>z.testBit k) h
  simp only[Nat.testBit_and]at this
  cases h1:(rM m.2.2.2.1 i r).testBit k with
  |true=>rw[hs k h1]
  |false=>
   rw[h1,Bool.and_false]at this
   exact this
 ·intro h
  rw[h,Nat.and_self]
theorem abh(m:ar.T)(hs:cq m.2.2.2.1=true)(a i r:Int):ac dE (m,a,i,r,(0:Int),(0:Int),())=some (.inl (m,a,i,r,(rM m.2.2.2.1 i r:Int),())):=by
 have hlen:=gx hs
 have e:=o9 (B:=dE) m.2.2.2.1 (fun(s:Nat) j=>(m,a,i,r,(s:Int),(j:Int),())) (Ge i r) (fun s=>.inl (m,a,i,r,(s:Int),())) (fun s=>s<4294967296) (NM hs i r) (fun s _=>by simp only[dE,bu]) (fun s j hj hv=>by
  obtain⟨k,hk,e⟩:=tv (ic hs _ (List.getElem_mem hj))
  have ho:=UY s k hv hk
  simp only[dE,bj hj,aL hj (show m.2.2.2.1.length≤1099511627776 by omega),au hj,ab,e,ho,Ge,Int.toNat_natCast]
  rcases Bool.eq_false_or_eq_true (m.2.2.2.1[j].1==i)with g|g<;>simp only[g]
  ·rcases Bool.eq_false_or_eq_true (m.2.2.2.1[j].2.1==r)with g2|g2<;>simp only[g2]<;>rfl
  ·rfl) m.2.2.2.1.length 0 0 (by omega) (by omega)
 have e':ac dE (m,a,i,r,(0:Int),(0:Int),())=_:=e
 rw[e',List.drop_zero]
 rfl
theorem abi(m:ar.T)(hs:cq m.2.2.2.1=true)(i r:Int)(ms:List aG.T)(n i2 R r2:Int):ac fv (m,i,r,(0:Int),ms,n,i2,R,r2,m.2.2.2.1,(m.2.2.2.1.length:Int),(0:Int),())=some (.inl (m,i,(rM m.2.2.2.1 i r:Int),ms,n,i2,R,r2,())):=by
 have hlen:=gx hs
 have e:=o9 (B:=fv) m.2.2.2.1 (fun(s:Nat) j=>(m,i,r,(s:Int),ms,n,i2,R,r2,m.2.2.2.1,(m.2.2.2.1.length:Int),(j:Int),())) (Ge i r) (fun s=>.inl (m,i,(s:Int),ms,n,i2,R,r2,())) (fun s=>s<4294967296) (NM hs i r) (fun s _=>by simp only[fv,bu]) (fun s j hj hv=>by
  obtain⟨k,hk,e⟩:=tv (ic hs _ (List.getElem_mem hj))
  have hn:¬((k:Int)<0):=by omega
  have hp:2^k<2^32:=Nat.pow_lt_pow_right (by omega) hk
  have ho:=Wj s (2^k) (by omega) (by omega)
  simp only[fv,bj hj,aL hj (show m.2.2.2.1.length≤1099511627776 by omega),au hj,ab,e,hn,if_false,LV k hk,ho,Ge,Int.toNat_natCast]
  rcases Bool.eq_false_or_eq_true (m.2.2.2.1[j].1==i)with g|g<;>simp only[g]
  ·rcases Bool.eq_false_or_eq_true (m.2.2.2.1[j].2.1==r)with g2|g2<;>simp only[g2]<;>rfl
  ·rfl) m.2.2.2.1.length 0 0 (by omega) (by omega)
 have e':ac fv (m,i,r,(0:Int),ms,n,i2,R,r2,m.2.2.2.1,(m.2.2.2.1.length:Int),(0:Int),())=_:=e
 rw[e',List.drop_zero]
 rfl
def ni(m:ar.T)(i:Nat)(r:Nat):Bool:=decide (rM m.2.2.2.1 (i:Int) (r:Int)=cL m.2.1)
def pd(m:ar.T)(i:Nat):Bool:=match m.2.2.1[i]? with
 |none=>false
 |some v=>(List.range v.1.toNat).all (ni m i)
def rN(m:ar.T):Bool:=(List.range m.2.2.1.length).all (pd m)
theorem aaO(a b:Nat):((a:Int) != (b:Int))= !decide (a=b):=by
 by_cases h:a=b
 ·subst h;simp
 ·rw[decide_eq_false h]
  simp
  omega
theorem XM(m:ar.T)(hn:fO m.2.1=true)(hm:fp m.2.2.1=true)(hs:cq m.2.2.2.1=true):nY (m,())=some (rN m,()):=by
 obtain⟨hl16,hg⟩:=gk hm
 have inner:∀i (hi:i<m.2.2.1.length),ac fj (m,(cL m.2.1:Int),(i:Int),(0:Int),())=some (if(List.range m.2.2.1[i].1.toNat).all (ni m i)=true then .inl (m,(cL m.2.1:Int),(i:Int),())else .inr (false,())):=fun i hi=>by
  have hgi:=mK (hg _ (List.getElem_mem hi))
  have e:=gn (B:=fj) m.2.2.1[i].1.toNat (fun r=>(m,(cL m.2.1:Int),(i:Int),(r:Int),())) (ni m i) (.inl (m,(cL m.2.1:Int),(i:Int),())) (.inr (false,())) (by
   simp only[fj,au hi,ab]
   have:decide ((m.2.2.1[i].1.toNat:Int)<m.2.2.1[i].1)=false:=by rw[←hgi.2.2.1];exact decide_eq_false (Int.lt_irrefl _)
   rw[this]) (fun r hr=>by
   have hlt:decide ((r:Int)<m.2.2.1[i].1)=true:=by rw[hgi.2.2.1];exact bj hr
   have hv:ac dE ((m.1,m.2.1,m.2.2.1,m.2.2.2.1,()),(cL m.2.1:Int),(i:Int),(r:Int),(0:Int),(0:Int),())=_:=abh m hs (cL m.2.1:Int) (i:Int) (r:Int)
   simp only[fj,au hi,ab,hlt,hv,aaO,ni,aL hr (show m.2.2.1[i].1.toNat≤1099511627776 by have:=hgi.1.2;omega)]
   rcases Bool.eq_false_or_eq_true (decide (rM m.2.2.2.1 (i:Int) (r:Int)=cL m.2.1))with g|g<;>simp only[g]<;>rfl)
  exact e
 have e:=gn (B:=fY) m.2.2.1.length (fun i=>(m,(cL m.2.1:Int),(i:Int),())) (pd m) (.inl ()) (.inr (false,())) (by simp only[fY,bu]) (fun i hi=>by
  have h6:ac fj ((m.1,m.2.1,m.2.2.1,m.2.2.2.1,()),(cL m.2.1:Int),(i:Int),(0:Int),())=_:=inner i hi
  simp only[fY,bj hi,h6,pd,List.getElem?_eq_getElem hi]
  rcases Bool.eq_false_or_eq_true ((List.range m.2.2.1[i].1.toNat).all (ni m i))with g|g<;>simp only[g,if_true,aL hi (show m.2.2.1.length≤1099511627776 by omega)]<;>rfl)
 have e':ac fY ((m.1,m.2.1,m.2.2.1,m.2.2.2.1,()),(cL m.2.1:Int),(0:Int),())=_:=e
 unfold nY rN
 simp only[PH m.2.1 hn,e']
 cases (List.range m.2.2.1.length).all (pd m)<;>rfl
theorem XN(m:ar.T)(hn:fO m.2.1=true)(hm:fp m.2.2.1=true)(hs:cq m.2.2.2.1=true)(hd:qG m=true):sE (m,())=some (rN m,()):=by
 obtain⟨hl16,hg⟩:=gk hm
 have inner:∀i (hi:i<m.2.2.1.length),ac gp (m,(i:Int),m.2.2.1,(m.2.2.1.length:Int),(i:Int),m.2.2.1[i].1,(0:Int),())=some (if(List.range m.2.2.1[i].1.toNat).all (ni m i)=true then .inl (m,m.2.2.1,(m.2.2.1.length:Int),(i:Int),())else .inr (false,())):=fun i hi=>by
  have hgi:=mK (hg _ (List.getElem_mem hi))
  have e:=gn (B:=gp) m.2.2.1[i].1.toNat (fun r=>(m,(i:Int),m.2.2.1,(m.2.2.1.length:Int),(i:Int),m.2.2.1[i].1,(r:Int),())) (ni m i) (.inl (m,m.2.2.1,(m.2.2.1.length:Int),(i:Int),())) (.inr (false,())) (by
   have:decide ((m.2.2.1[i].1.toNat:Int)<m.2.2.1[i].1)=false:=by rw[←hgi.2.2.1];exact decide_eq_false (Int.lt_irrefl _)
   simp only[gp,this]) (fun r hr=>by
   have hlt:decide ((r:Int)<m.2.2.1[i].1)=true:=by rw[hgi.2.2.1];exact bj hr
   have hv:ac fv ((m.1,m.2.1,m.2.2.1,m.2.2.2.1,()),(i:Int),(r:Int),(0:Int),m.2.2.1,(m.2.2.1.length:Int),(i:Int),m.2.2.1[i].1,(r:Int),m.2.2.2.1,(m.2.2.2.1.length:Int),(0:Int),())=_:=abi m hs (i:Int) (r:Int) m.2.2.1 (m.2.2.1.length:Int) (i:Int) m.2.2.1[i].1 (r:Int)
   have hz:=Ie (cL m.2.1) (rM m.2.2.2.1 (i:Int) (r:Int)) (by have:=AX hn;omega) (by have:=Zb hs (i:Int) (r:Int);omega)
   rw[aaN m hd]at hz
   have hz':(bits BinOp.andNot .i64 (cL m.2.1:Int) (rM m.2.2.2.1 (i:Int) (r:Int):Int) != 0)= !decide (rM m.2.2.2.1 (i:Int) (r:Int)=cL m.2.1):=by rw[←hz];rfl
   simp only[gp,hlt,hv,UZ m.2.1 hn,hz',ni,aL hr (show m.2.2.1[i].1.toNat≤1099511627776 by have:=hgi.1.2;omega)]
   rcases Bool.eq_false_or_eq_true (decide (rM m.2.2.2.1 (i:Int) (r:Int)=cL m.2.1))with g|g<;>simp only[g]<;>rfl)
  exact e
 have e:=gn (B:=ip) m.2.2.1.length (fun i=>(m,m.2.2.1,(m.2.2.1.length:Int),(i:Int),())) (pd m) (.inl ()) (.inr (false,())) (by simp only[ip,bu]) (fun i hi=>by
  have h6:ac gp ((m.1,m.2.1,m.2.2.1,m.2.2.2.1,()),(i:Int),m.2.2.1,(m.2.2.1.length:Int),(i:Int),m.2.2.1[i].1,(0:Int),())=_:=inner i hi
  simp only[ip,bj hi,au hi,ab,h6,pd,List.getElem?_eq_getElem hi]
  rcases Bool.eq_false_or_eq_true ((List.range m.2.2.1[i].1.toNat).all (ni m i))with g|g<;>simp only[g,if_true,aL hi (show m.2.2.1.length≤1099511627776 by omega)]<;>rfl)
 have e':ac ip ((m.1,m.2.1,m.2.2.1,m.2.2.2.1,()),m.2.2.1,(m.2.2.1.length:Int),(0:Int),())=_:=e
 unfold sE rN
 simp only[e']
 cases (List.range m.2.2.1.length).all (pd m)<;>rfl
def eM(m:ar.T):Prop:=m.2.1.length≤1099511627776∧(∀v ∈ m.2.1,v.2.1.length≤1099511627776)∧m.2.2.1.length≤1099511627776∧(∀v ∈ m.2.2.1,v.2.2.1.length≤1099511627776)∧m.2.2.2.1.length≤1099511627776
noncomputable def AY(m:ar.T):Int:=
 if aY m.1 1 16777215=false then 1 else if fO m.2.1=false then 2 else if fp m.2.2.1=false then 3 else if cq m.2.2.2.1=false then 4 else
 if eB m=false then 5 else if qG m=false then 6 else if Gd m.2.2.2.1=false then 7 else if(List.range m.2.2.1.length).all (lC m.2.2.2.1)=false then 8 else
 if rN m=false then 9 else if m.2.2.2.1.any si=true then 10 else 0
theorem Zd(m:ar.T)(hz:eM m):mm (m,())=some (AY m,()):=by
 unfold mm AY
 simp only[gS,YV m.2.1 hz.1 hz.2.1,YY m.2.2.1 hz.2.2.1 hz.2.2.2.1,Y4 m.2.2.2.1 hz.2.2.2.2]
 rcases Bool.eq_false_or_eq_true (aY m.1 1 16777215)with h1|h1<;>simp only[h1,Bool.not_true,Bool.not_false,if_true,if_false,Bool.true_eq_false]
 rcases Bool.eq_false_or_eq_true (fO m.2.1)with h2|h2<;>simp only[h2,Bool.not_true,Bool.not_false,if_true,if_false,Bool.true_eq_false]
 rcases Bool.eq_false_or_eq_true (fp m.2.2.1)with h3|h3<;>simp only[h3,Bool.not_true,Bool.not_false,if_true,if_false,Bool.true_eq_false]
 rcases Bool.eq_false_or_eq_true (cq m.2.2.2.1)with h4|h4<;>simp only[h4,Bool.not_true,Bool.not_false,if_true,if_false,Bool.true_eq_false]
 have hl:=gx h4
 have hn:=(gk h3).1
 have f5:lp ((m.1,m.2.1,m.2.2.1,m.2.2.2.1,()),())=_:=UX m h4 h3
 have f6:mk ((m.1,m.2.1,m.2.2.1,m.2.2.2.1,()),())=_:=aaJ m h2 h4
 have f7:kH ((m.1,m.2.1,m.2.2.1,m.2.2.2.1,()),())=_:=abe m hz.2.2.2.2
 have f8:ac dQ ((m.1,m.2.1,m.2.2.1,m.2.2.2.1,()),(0:Int),())=_:=Za m (by omega) (by omega)
 have f9:nY ((m.1,m.2.1,m.2.2.1,m.2.2.2.1,()),())=_:=XM m h2 h3 h4
 have f10:ac dl ((m.1,m.2.1,m.2.2.1,m.2.2.2.1,()),(0:Int),())=_:=aaM m (by omega)
 simp only[f5,f6,f7,f8]
 rcases Bool.eq_false_or_eq_true (eB m)with h5|h5<;>simp only[h5,Bool.not_true,Bool.not_false,if_true,if_false,Bool.true_eq_false]
 rcases Bool.eq_false_or_eq_true (qG m)with h6|h6<;>simp only[h6,Bool.not_true,Bool.not_false,if_true,if_false,Bool.true_eq_false]
 rcases Bool.eq_false_or_eq_true (Gd m.2.2.2.1)with h7|h7<;>simp only[h7,Bool.not_true,Bool.not_false,if_true,if_false,Bool.true_eq_false]
 rcases Bool.eq_false_or_eq_true ((List.range m.2.2.1.length).all (lC m.2.2.2.1))with h8|h8<;>simp only[h8,Bool.not_true,Bool.not_false,if_true,if_false,Bool.true_eq_false,Bool.false_eq_true,f9,f10]
 rcases Bool.eq_false_or_eq_true (rN m)with h9|h9<;>simp only[h9,Bool.not_true,Bool.not_false,if_true,if_false,Bool.true_eq_false]
 rcases Bool.eq_false_or_eq_true (m.2.2.2.1.any si)with h10|h10<;>simp only[h10,if_true,if_false,Bool.false_eq_true]
theorem Ze(m:ar.T)(hz:eM m):l0 (m,())=some (AY m,()):=by
 unfold l0 AY
 simp only[oY,YW m.2.1 hz.1,YZ m.2.2.1 hz.2.2.1 hz.2.2.2.1,Y5 m.2.2.2.1 hz.2.2.2.2]
 rcases Bool.eq_false_or_eq_true (aY m.1 1 16777215)with h1|h1<;>simp only[h1,Bool.not_true,Bool.not_false,if_true,if_false,Bool.true_eq_false]
 rcases Bool.eq_false_or_eq_true (fO m.2.1)with h2|h2<;>simp only[h2,Bool.not_true,Bool.not_false,if_true,if_false,Bool.true_eq_false]
 rcases Bool.eq_false_or_eq_true (fp m.2.2.1)with h3|h3<;>simp only[h3,Bool.not_true,Bool.not_false,if_true,if_false,Bool.true_eq_false]
 rcases Bool.eq_false_or_eq_true (cq m.2.2.2.1)with h4|h4<;>simp only[h4,Bool.not_true,Bool.not_false,if_true,if_false,Bool.true_eq_false]
 have hl:=gx h4
 have hn:=(gk h3).1
 have f5:lW ((m.1,m.2.1,m.2.2.1,m.2.2.2.1,()),())=_:=UW m h4 h3
 have f6:=aaK m h2 h4
 have f8:sD ((m.1,m.2.1,m.2.2.1,m.2.2.2.1,()),())=_:=Y9 m (by omega) (by omega)
 have f10:=aaL m.2.2.2.1 (by omega)
 simp only[f5]
 rcases Bool.eq_false_or_eq_true (eB m)with h5|h5<;>simp only[h5,Bool.not_true,Bool.not_false,if_true,if_false,Bool.true_eq_false]
 have f7:p5 ((m.1,m.2.1,m.2.2.1,m.2.2.2.1,()),())=_:=XJ m h4 h3 h5
 rw[U0 m h4 h3 h5]at f7
 simp only[f6,f7,f8]
 rcases Bool.eq_false_or_eq_true (qG m)with h6|h6<;>simp only[h6,Bool.not_true,Bool.not_false,if_true,if_false,Bool.true_eq_false]
 have f9:sE ((m.1,m.2.1,m.2.2.1,m.2.2.2.1,()),())=_:=XN m h2 h3 h4 h6
 simp only[f9,f10]
 rcases Bool.eq_false_or_eq_true (Gd m.2.2.2.1)with h7|h7<;>simp only[h7,Bool.not_true,Bool.not_false,if_true,if_false,Bool.true_eq_false]
 rcases Bool.eq_false_or_eq_true ((List.range m.2.2.1.length).all (lC m.2.2.2.1))with h8|h8<;>simp only[h8,Bool.not_true,Bool.not_false,if_true,if_false,Bool.true_eq_false]
 rcases Bool.eq_false_or_eq_true (rN m)with h9|h9<;>simp only[h9,Bool.not_true,Bool.not_false,if_true,if_false,Bool.true_eq_false]
 rcases Bool.eq_false_or_eq_true (m.2.2.2.1.any si)with h10|h10<;>simp only[h10,if_true,if_false,Bool.false_eq_true]
noncomputable def bL(m:ar.T):Bool:=AY m==0
theorem Gf(m:ar.T)(hz:eM m):ix (m,())=some (bL m,()):=by
 have h:mm ((m.1,m.2.1,m.2.2.1,m.2.2.2.1,()),())=_:=Zd m hz
 unfold ix bL
 simp only[h]
theorem Gg(m:ar.T)(hz:eM m):iq (m,())=some (bL m,()):=by
 have h:l0 ((m.1,m.2.1,m.2.2.1,m.2.2.2.1,()),())=_:=Ze m hz
 unfold iq bL
 simp only[h]
theorem jW {m:ar.T}(h:bL m=true):(1≤m.1∧m.1≤16777215)∧fO m.2.1=true∧fp m.2.2.1=true∧cq m.2.2.2.1=true∧eB m=true:=by
 unfold bL AY at h
 rcases Bool.eq_false_or_eq_true (aY m.1 1 16777215)with h1|h1
 ·rcases Bool.eq_false_or_eq_true (fO m.2.1)with h2|h2
  ·rcases Bool.eq_false_or_eq_true (fp m.2.2.1)with h3|h3
   ·rcases Bool.eq_false_or_eq_true (cq m.2.2.2.1)with h4|h4
    ·rcases Bool.eq_false_or_eq_true (eB m)with h5|h5
     ·exact⟨bc.1 h1,h2,h3,h4,h5⟩
     ·simp[h1,h2,h3,h4,h5]at h
    ·simp[h1,h2,h3,h4]at h
   ·simp[h1,h2,h3]at h
  ·simp[h1,h2]at h
 ·simp[h1]at h
end Go.Proofs.YtckljdhdadiphaaGreatDoor
namespace Go.Proofs.YtckljdhdadiphaaGreatDoor
open Go.RowKit
set_option linter.unusedVariables false
set_option linter.unusedSimpArgs false
noncomputable def aP(m:ar.T)(st:ak.T):Bool:=bq st&&(match m.2.2.1[st.2.1.toNat]? with
 |none=>false
 |some v=>decide (st.2.2.1<v.1)&&(decide (st.2.2.2.1<v.2.1)&&decide (st.2.2.2.2.1.toNat&&& cL m.2.1=st.2.2.2.2.1.toNat)))
theorem B5 {st:ak.T}(h:bq st=true):∃a b c d:Nat,st.2.1=(a:Int)∧st.2.2.1=(b:Int)∧st.2.2.2.1=(c:Int)∧st.2.2.2.2.1=(d:Int)∧a≤15∧b≤15∧c≤255∧d≤4294967295:=by
 unfold bq at h
 simp only[Bool.and_eq_true,bc]at h
 obtain⟨⟨⟨⟨h1,h2⟩,h3⟩,h4⟩,h5⟩:=h
 have key:∀(z:Int) (n:Nat),0≤z→z≤(n:Int)→∃k:Nat,z=(k:Int)∧k≤n:=fun z n h0 h1=>⟨z.toNat,by omega,by omega⟩
 obtain⟨a,ea,ha⟩:=key _ 15 h2.1 h2.2
 obtain⟨b,eb,hb⟩:=key _ 15 h3.1 h3.2
 obtain⟨c,ec,hc⟩:=key _ 255 h4.1 h4.2
 obtain⟨d,ed,hd⟩:=key _ 4294967295 h5.1 h5.2
 exact⟨a,b,c,d,ea,eb,ec,ed,ha,hb,hc,hd⟩
theorem PI(m:ar.T)(st:ak.T)(h:bL m=true):fZ (m,st,())=some (aP m st,()):=by
 obtain⟨_,hn,hm,hs,_⟩:=jW h
 have hl16:=(gk hm).1
 have hst:kO ((st.1,st.2.1,st.2.2.1,st.2.2.2.1,st.2.2.2.2.1,()),())=some (bq st,()):=TE (st,())
 unfold fZ aP Fi
 simp only[hst,gS,PH m.2.1 hn]
 rcases Bool.eq_false_or_eq_true (bq st)with h1|h1<;>simp only[h1,Bool.not_true,Bool.not_false,Bool.true_and,Bool.false_and]
 obtain⟨a,b,c,d,ea,eb,ec,ed,ha,hb,hc,hd⟩:=B5 h1
 rw[ea,eb,ec,ed]
 have hw:IntKind.i64.wrap ((m.2.2.1.length:Int)-1)=(m.2.2.1.length:Int)-1:=by rw[ai]<;>omega
 have hand:=vM d (cL m.2.1) (by omega) (by have:=AX hn;omega)
 have hbe:(((d&&& cL m.2.1:Nat):Int)==(d:Int))=decide (d&&& cL m.2.1=d):=by
  by_cases h:d&&& cL m.2.1=d
  ·rw[decide_eq_true h,h];simp
  ·rw[decide_eq_false h,beq_eq_false_iff_ne];omega
 simp only[hw,hand,hbe,Int.toNat_natCast]
 by_cases hal:a<m.2.2.1.length
 ·have hin:aY (a:Int) 0 ((m.2.2.1.length:Int)-1)=true:=bc.2 ⟨by omega,by omega⟩
  simp only[hin,Bool.not_true,au hal,ab,List.getElem?_eq_getElem hal]
  have n1:decide ((b:Int)≥m.2.2.1[a].1)= !decide ((b:Int)<m.2.2.1[a].1):=by
   by_cases g:(b:Int)<m.2.2.1[a].1
   ·rw[decide_eq_true g,decide_eq_false (Int.not_le.2 g)];rfl
   ·rw[decide_eq_false g,decide_eq_true (Int.not_lt.1 g)];rfl
  have n2:decide ((c:Int)≥m.2.2.1[a].2.1)= !decide ((c:Int)<m.2.2.1[a].2.1):=by
   by_cases g:(c:Int)<m.2.2.1[a].2.1
   ·rw[decide_eq_true g,decide_eq_false (Int.not_le.2 g)];rfl
   ·rw[decide_eq_false g,decide_eq_true (Int.not_lt.1 g)];rfl
  simp only[n1,n2]
  rcases Bool.eq_false_or_eq_true (decide ((b:Int)<m.2.2.1[a].1))with g1|g1<;>simp only[g1,Bool.not_true,Bool.not_false,Bool.true_and,Bool.false_and]
  rcases Bool.eq_false_or_eq_true (decide ((c:Int)<m.2.2.1[a].2.1))with g2|g2<;>simp only[g2,Bool.not_true,Bool.not_false,Bool.true_and,Bool.false_and]
 ·have hin:aY (a:Int) 0 ((m.2.2.1.length:Int)-1)=false:=by
   rw[Bool.eq_false_iff]
   intro g
   have:=bc.1 g
   omega
  simp only[hin,Bool.not_false,List.getElem?_eq_none (Nat.not_lt.1 hal)]
theorem LW(m:ar.T)(st:ak.T)(h:bL m=true):i7 (m,st,())=some (aP m st,()):=by
 obtain⟨_,hn,hm,hs,_⟩:=jW h
 have hst:fF ((st.1,st.2.1,st.2.2.1,st.2.2.2.1,st.2.2.2.2.1,()),())=some (bq st,()):=GD (st,())
 unfold i7 aP
 simp only[hst,UZ m.2.1 hn]
 rcases Bool.eq_false_or_eq_true (bq st)with h1|h1<;>simp only[h1,Bool.not_true,Bool.not_false,Bool.true_and,Bool.false_and]
 obtain⟨a,b,c,d,ea,eb,ec,ed,ha,hb,hc,hd⟩:=B5 h1
 rw[ea,eb,ec,ed]
 have hz:=Ie d (cL m.2.1) (by omega) (by have:=AX hn;omega)
 simp only[hz,Int.toNat_natCast]
 by_cases hal:a<m.2.2.1.length
 ·have hin:decide ((a:Int)≥(m.2.2.1.length:Int))=false:=decide_eq_false (by omega)
  simp only[hin,au hal,ab,List.getElem?_eq_getElem hal]
  rcases Bool.eq_false_or_eq_true (decide ((b:Int)<m.2.2.1[a].1))with g1|g1<;>simp only[g1,Bool.true_and,Bool.false_and]
  rcases Bool.eq_false_or_eq_true (decide ((c:Int)<m.2.2.1[a].2.1))with g2|g2<;>simp only[g2,Bool.true_and,Bool.false_and]
 ·have hin:decide ((a:Int)≥(m.2.2.1.length:Int))=true:=decide_eq_true (by omega)
  simp only[hin,List.getElem?_eq_none (Nat.not_lt.1 hal)]
theorem RI:∀(ms:List aG.T) (i j:Nat) (h:j<ms.length) (r s:Nat),r<ms[j].1.toNat→s<ms[j].2.1.toNat→gj ((i+j:Nat):Int) (r:Int) (s:Int) ∈ iZ i ms
 |m::ms,i,0,h,r,s,hr,hs=>by
  simp only[iZ,List.mem_append]
  left
  simp only[jw,List.mem_flatMap,List.mem_map,List.mem_range]
  exact⟨r,hr,s,hs,rfl⟩
 |m::ms,i,j+1,h,r,s,hr,hs=>by
  simp only[iZ,List.mem_append]
  right
  have:=RI ms (i+1) j (by simpa using h) r s hr hs
  have e:i+1+j=i+(j+1):=by omega
  rw[e]at this
  exact this
theorem Zf(m:ar.T)(st:ak.T)(h:bL m=true)(hb:aP m st=true):∃(j:Nat) (hj:j<m.2.2.2.1.length),sh m.2.2.2.1 st.2.1 st.2.2.1 st.2.2.2.1=(j:Int):=by
 obtain⟨_,hn,hm,hs,hc⟩:=jW h
 have hg:=(gk hm).2
 unfold aP at hb
 rw[Bool.and_eq_true]at hb
 obtain⟨a,b,c,d,ea,eb,ec,ed,ha,hb',hc',hd⟩:=B5 hb.1
 have hb2:=hb.2
 rw[ea,eb,ec,ed]at hb2
 rw[ea,eb,ec]
 rw[Int.toNat_natCast]at hb2
 by_cases hal:a<m.2.2.1.length
 ·simp only[List.getElem?_eq_getElem hal,Bool.and_eq_true,decide_eq_true_eq]at hb2
  have hgi:=mK (hg _ (List.getElem_mem hal))
  obtain⟨h1,h2,_⟩:=hb2
  rw[hgi.2.2.1]at h1
  rw[hgi.2.2.2]at h2
  have h1:b<m.2.2.1[a].1.toNat:=Int.ofNat_lt.1 h1
  have h2:c<m.2.2.1[a].2.1.toNat:=Int.ofNat_lt.1 h2
  have hk:=RI m.2.2.1 0 a hal b c h1 h2
  rw[Nat.zero_add]at hk
  have hK:m.2.2.2.1.map dh=iZ 0 m.2.2.1:=by
   unfold eB at hc
   exact of_decide_eq_true hc
  rw[←hK]at hk
  have hq:=RF (l:=m.2.2.2.1) (fun v hv=>rL (ic hs v hv)) (a:=(a:Int)) (b:=(b:Int)) (c:=(c:Int)) ⟨by omega,by have:=hgi.1.2;omega⟩ ⟨by omega,by have:=hgi.2.1.2;omega⟩
  rw[decide_eq_true hk]at hq
  unfold sh at hq ⊢
  cases hf:cj (jB (a:Int) (b:Int) (c:Int)) 0 m.2.2.2.1 with
  |none=>rw[hf]at hq;cases hq
  |some j=>
   obtain⟨n,hn,e,_⟩:=zi _ _ _ _ hf
   have:j=n:=by omega
   subst this
   exact⟨j,hn,rfl⟩
 ·simp only[List.getElem?_eq_none (Nat.not_lt.1 hal)]at hb2
  cases hb2
def cD(m:ar.T)(st:ak.T):cP.T:=match m.2.2.2.1[(sh m.2.2.2.1 st.2.1 st.2.2.1 st.2.2.2.1).toNat]? with
 |none=>((0:Int),(0:Int),(0:Int),(0:Int),false,())
 |some v=>v.2.2.2.1
theorem jj(m:ar.T)(st:ak.T)(h:bL m=true)(hb:aP m st=true):gr (m,st,())=some (cD m st,())∧dv (m,st,())=some (cD m st,())∧o8 (cD m st)=true:=by
 obtain⟨_,hn,hm,hs,hc⟩:=jW h
 have hlen:=gx hs
 obtain⟨j,hj,e⟩:=Zf m st h hb
 have h1:=TO m.2.2.2.1 st.2.1 st.2.2.1 st.2.2.2.1 (by omega)
 have h2:=TP m.2.2.2.1 st.2.1 st.2.2.1 st.2.2.2.1 (by omega)
 have h3:=ic hs _ (List.getElem_mem hj)
 unfold gr dv cD
 simp only[h1,h2,e,au hj,ab,Int.toNat_natCast,List.getElem?_eq_getElem hj]
 refine⟨trivial,trivial, ?_⟩
 unfold lJ at h3
 simp only[Bool.and_eq_true]at h3
 exact h3.2.2.2
def fk(d:cP.T)(f:ba.T):Bool:=(f.1==d.2.1)&&(((f.2.2.2.1.length:Int)==d.2.2.1)&&((f.2.1==(0:Int))||d.2.2.2.2.1))
theorem NN(x):wI x=some (fk x.1 x.2.1,()):=by
 unfold wI fk
 rcases Bool.eq_false_or_eq_true (x.2.1.1==x.1.2.1)with h1|h1<;>simp only[h1,Bool.true_and,Bool.false_and]
 rcases Bool.eq_false_or_eq_true ((x.2.1.2.2.2.1.length:Int)==x.1.2.2.1)with h2|h2<;>simp only[h2,Bool.true_and,Bool.false_and]
 rcases Bool.eq_false_or_eq_true (x.2.1.2.1==(0:Int))with h3|h3<;>simp only[h3,Bool.true_or,Bool.false_or]
theorem NP(d:cP.T)(f:ba.T)(hd:o8 d=true)(hf:bA f=true)(hl:f.2.2.2.1.length≤1099511627776):c9 (d,f,())=some (fk d f,()):=by
 have h1:eI ((d.1,d.2.1,d.2.2.1,d.2.2.2.1,d.2.2.2.2.1,()),())=some (true,()):=by
  rw[←hd];exact Rz (d,())
 have h2:cO ((f.1,f.2.1,(f.2.2.1.1,f.2.2.1.2.1,f.2.2.1.2.2.1,f.2.2.1.2.2.2.1,f.2.2.1.2.2.2.2.1,()),f.2.2.2.1,()),())=some (true,()):=by
  rw[←hf];exact ND (f,()) hl
 unfold c9 fk
 simp only[h1,h2]
 rcases Bool.eq_false_or_eq_true (f.1==d.2.1)with h1|h1<;>simp only[h1,Bool.true_and,Bool.false_and]
 rcases Bool.eq_false_or_eq_true ((f.2.2.2.1.length:Int)==d.2.2.1)with h2|h2<;>simp only[h2,Bool.true_and,Bool.false_and]
 rcases Bool.eq_false_or_eq_true d.2.2.2.2.1 with h3|h3<;>simp only[h3,Bool.or_true,Bool.or_false]
theorem tw {l:List Int}(h:(a8 l).2=true):bA (a8 l).1=true:=by
 cases l with
 |nil=>cases h
 |cons b r=>
  have fin:∀st q,(o7 (b::r) b st q).2=true→bA (o7 (b::r) b st q).1=true:=fun st q h=>by
   unfold o7 at h ⊢
   split at h
   ·split at h
    ·cases h
    ·simp only[vi,Bool.and_eq_true]at h
     exact h.1
   ·simp only[vi,Bool.and_eq_true]at h
    exact h.1
  simp only[a8]at h ⊢
  split at h
  ·split at h
   ·cases h
   ·exact fin _ _ h
  ·exact fin _ _ h
theorem pH {f:ba.T}(h:bA f=true):f.2.2.2.1.length≤32:=by
 unfold bA at h
 simp only[Bool.and_eq_true]at h
 have hd:=h.2.2.1
 unfold gD at hd
 split at hd
 ·have:=bc.1 hd;omega
 ·split at hd
  ·have:=bc.1 hd;omega
  ·have:(f.2.2.2.1.length:Int)=0:=by simpa using hd
   omega
theorem vO {l:List Int}{r:Nat}{st:ak.T}(h:ct l r st=true):(a8 (ag l)).2=true:=by
 unfold ct at h
 split at h
 ·cases h
 ·simp only[Bool.and_eq_true]at h
  exact h.2.2.1
noncomputable def kL(m:ar.T)(st:ak.T)(l:List Int):bI.T:=match ct l m.1.toNat st&&fk (cD m st) (a8 (ag l)).1 with
 |true=>((3:Int),(a8 (ag l)).1,())
 |false=>((2:Int),c6,())
theorem rO {m:ar.T}(h:bL m=true):∃r:Nat,m.1=(r:Int)∧r<16777216:=by
 obtain⟨⟨h1,h2⟩,_⟩:=jW h
 have key:∀z:Int,1≤z→z≤16777215→∃r:Nat,z=(r:Int)∧r<16777216:=fun z a b=>⟨z.toNat,by omega,by omega⟩
 exact key m.1 h1 h2
theorem XO(m:ar.T)(st:ak.T)(l:List Int)(h:bL m=true)(hb:aP m st=true)(hl:l.length≤10000)(hv:∀v ∈ l,0≤v∧v≤255):∃c:Int,pw (m,st,l,())=some (kL m st l,c,()):=by
 obtain⟨r,er,hr⟩:=rO h
 have hst:bq st=true:=by unfold aP at hb;rw[Bool.and_eq_true]at hb;exact hb.1
 obtain⟨c,hc,ho⟩:=aax l r st hl hv hr hst
 obtain⟨_,hd,_⟩:=jj m st h hb
 have ho':i8 (l,(r:Int),(st.1,st.2.1,st.2.2.1,st.2.2.2.1,st.2.2.2.2.1,()),())=_:=ho
 have hd':dv ((m.1,m.2.1,m.2.2.1,m.2.2.2.1,()),(st.1,st.2.1,st.2.2.1,st.2.2.2.1,st.2.2.2.2.1,()),())=_:=hd
 unfold pw kL
 rw[er]at hd'
 simp only[er,ho',hd',NN,Int.toNat_natCast]
 rcases Bool.eq_false_or_eq_true (ct l r st)with h1|h1
 ·simp only[h1,if_true,Bool.true_and]
  have hz:((0:Int)==0)=true:=rfl
  have hfe:fk (cD m st) ((a8 (ag l)).1.1,(a8 (ag l)).1.2.1,((a8 (ag l)).1.2.2.1.1,(a8 (ag l)).1.2.2.1.2.1,(a8 (ag l)).1.2.2.1.2.2.1,(a8 (ag l)).1.2.2.1.2.2.2.1,(a8 (ag l)).1.2.2.1.2.2.2.2.1,()),(a8 (ag l)).1.2.2.2.1,())=fk (cD m st) (a8 (ag l)).1:=rfl
  simp only[hz,hfe]
  rcases Bool.eq_false_or_eq_true (fk (cD m st) (a8 (ag l)).1)with h2|h2
  ·exact⟨0,by simp only[h2];rfl⟩
  ·exact⟨5,by simp only[h2];rfl⟩
 ·have hz:(c==0)=false:=by simpa using hc
  have hz2:(c != 0)=true:=by simpa using hc
  simp only[h1,Bool.false_eq_true,if_false,Bool.false_and,hz,hz2]
  exact⟨c,rfl⟩
theorem XP(m:ar.T)(st:ak.T)(l:List Int)(h:bL m=true)(hb:aP m st=true)(hl:l.length≤10000)(hv:∀v ∈ l,0≤v∧v≤255):∃c:Int,jT (m,st,l,())=some (kL m st l,c,()):=by
 obtain⟨r,er,hr⟩:=rO h
 have hst:bq st=true:=by unfold aP at hb;rw[Bool.and_eq_true]at hb;exact hb.1
 obtain⟨c,hc,ho⟩:=aaw l r st hl hv hr hst
 obtain⟨hd,_,hdc⟩:=jj m st h hb
 have ho':jc (l,(r:Int),(st.1,st.2.1,st.2.2.1,st.2.2.2.1,st.2.2.2.2.1,()),())=_:=ho
 have hd':gr ((m.1,m.2.1,m.2.2.1,m.2.2.2.1,()),(st.1,st.2.1,st.2.2.1,st.2.2.2.1,st.2.2.2.2.1,()),())=_:=hd
 unfold jT kL
 rw[er]at hd'
 simp only[er,ho',hd',Int.toNat_natCast]
 rcases Bool.eq_false_or_eq_true (ct l r st)with h1|h1
 ·have hz:((0:Int)==0)=true:=rfl
  have hfr:=tw (vO h1)
  have hfe:c9 (cD m st,((a8 (ag l)).1.1,(a8 (ag l)).1.2.1,((a8 (ag l)).1.2.2.1.1,(a8 (ag l)).1.2.2.1.2.1,(a8 (ag l)).1.2.2.1.2.2.1,(a8 (ag l)).1.2.2.1.2.2.2.1,(a8 (ag l)).1.2.2.1.2.2.2.2.1,()),(a8 (ag l)).1.2.2.2.1,()),())=some (fk (cD m st) (a8 (ag l)).1,()):=NP _ _ hdc hfr (Nat.le_trans (pH hfr) (by omega))
  simp only[h1,if_true,Bool.true_and,hz,hfe]
  rcases Bool.eq_false_or_eq_true (fk (cD m st) (a8 (ag l)).1)with h2|h2
  ·exact⟨0,by simp only[h2];rfl⟩
  ·exact⟨5,by simp only[h2];rfl⟩
 ·have hz:(c==0)=false:=by simpa using hc
  have hz2:(c != 0)=true:=by simpa using hc
  simp only[h1,Bool.false_eq_true,if_false,Bool.false_and,hz,hz2]
  exact⟨c,rfl⟩
noncomputable def dL(m:ar.T)(st:ak.T)(l:List Int):bI.T:=if(aW l).2.1=0 then kL m st (aW l).1 else if(aW l).2.1=4 then((0:Int),c6,())else((1:Int),c6,())
theorem aaP(m:ar.T)(st:ak.T)(l:List Int)(h:bL m=true)(hb:aP m st=true)(hl:bJ l=true):∃c:Int,jP (m,st,l,())=some (dL m st l,c,()):=by
 obtain⟨h1,h2⟩:=nd (cK hl)
 obtain⟨c,hj⟩:=XO m st (aW l).1 h hb (by omega) h2
 have hj':pw ((m.1,m.2.1,m.2.2.1,m.2.2.2.1,()),(st.1,st.2.1,st.2.2.1,st.2.2.2.1,st.2.2.2.2.1,()),(aW l).1,())=_:=hj
 unfold jP dL
 simp only[F7 hl,hj']
 by_cases h0:(aW l).2.1=0
 ·have g:((aW l).2.1==0)=true:=by rw[h0];rfl
  simp only[g,if_pos h0]
  exact⟨c,rfl⟩
 ·have g:((aW l).2.1==0)=false:=by simpa using h0
  simp only[g,if_neg h0]
  by_cases h4:(aW l).2.1=4
  ·have g4:((aW l).2.1==4)=true:=by rw[h4];rfl
   simp only[g4,if_pos h4]
   exact⟨_,rfl⟩
  ·have g4:((aW l).2.1==4)=false:=by simpa using h4
   simp only[g4,if_neg h4]
   exact⟨_,rfl⟩
theorem aaQ(m:ar.T)(st:ak.T)(l:List Int)(h:bL m=true)(hb:aP m st=true)(hl:bJ l=true):∃c:Int,gg (m,st,l,())=some (dL m st l,c,()):=by
 obtain⟨h1,h2⟩:=nd (cK hl)
 obtain⟨c,hj⟩:=XP m st (aW l).1 h hb (by omega) h2
 have hj':jT ((m.1,m.2.1,m.2.2.1,m.2.2.2.1,()),(st.1,st.2.1,st.2.2.1,st.2.2.2.1,st.2.2.2.2.1,()),(aW l).1,())=_:=hj
 unfold gg dL
 simp only[Rn hl,hj']
 by_cases h0:(aW l).2.1=0
 ·have g:((aW l).2.1==0)=true:=by rw[h0];rfl
  simp only[g,if_pos h0]
  exact⟨c,rfl⟩
 ·have g:((aW l).2.1==0)=false:=by simpa using h0
  simp only[g,if_neg h0]
  by_cases h4:(aW l).2.1=4
  ·have g4:((aW l).2.1==4)=true:=by rw[h4];rfl
   simp only[g4,if_pos h4]
   exact⟨_,rfl⟩
  ·have g4:((aW l).2.1==4)=false:=by simpa using h4
   simp only[g4,if_neg h4]
   exact⟨_,rfl⟩
noncomputable def bU(m:ar.T)(st:ak.T)(l:List Int):bI.T×Int×Unit:=match bL m with
 |false=>(((0:Int),c6,()),(1:Int),())
 |true=>match aP m st with
  |false=>(((0:Int),c6,()),(2:Int),())
  |true=>match bJ l with
   |false=>(((0:Int),c6,()),(2:Int),())
   |true=>(dL m st l,(0:Int),())
theorem tx(m:ar.T)(st:ak.T)(l:List Int)(hz:eM m)(hl:l.length≤1099511627776):ci (m,st,l,())=some (bU m st l):=by
 have hM:iq ((m.1,m.2.1,m.2.2.1,m.2.2.2.1,()),())=_:=Gg m hz
 unfold ci lm fW bU
 simp only[LI l hl,hM]
 rcases Bool.eq_false_or_eq_true (bL m)with h1|h1<;>simp only[h1,Bool.not_true,Bool.not_false]
 ·have hB:i7 ((m.1,m.2.1,m.2.2.1,m.2.2.2.1,()),(st.1,st.2.1,st.2.2.1,st.2.2.2.1,st.2.2.2.2.1,()),())=_:=LW m st h1
  simp only[hB]
  rcases Bool.eq_false_or_eq_true (aP m st)with h2|h2<;>simp only[h2,Bool.not_true,Bool.not_false]
  ·rcases Bool.eq_false_or_eq_true (bJ l)with h3|h3<;>simp only[h3,Bool.not_true,Bool.not_false]
   ·obtain⟨c,hr⟩:=aaP m st l h1 h2 h3
    have hr':jP ((m.1,m.2.1,m.2.2.1,m.2.2.2.1,()),(st.1,st.2.1,st.2.2.1,st.2.2.2.1,st.2.2.2.2.1,()),l,())=_:=hr
    simp only[hr']
    rfl
   ·rfl
  ·rfl
 ·rfl
theorem Gh(m:ar.T)(st:ak.T)(l:List Int)(hz:eM m)(hl:l.length≤1099511627776):dF (m,st,l,())=some (bU m st l):=by
 have hM:ix ((m.1,m.2.1,m.2.2.1,m.2.2.2.1,()),())=_:=Gf m hz
 unfold dF tg mn bU
 simp only[tk l hl,hM]
 rcases Bool.eq_false_or_eq_true (bL m)with h1|h1<;>simp only[h1,Bool.not_true,Bool.not_false]
 ·have hB:fZ ((m.1,m.2.1,m.2.2.1,m.2.2.2.1,()),(st.1,st.2.1,st.2.2.1,st.2.2.2.1,st.2.2.2.2.1,()),())=_:=PI m st h1
  simp only[hB]
  rcases Bool.eq_false_or_eq_true (aP m st)with h2|h2<;>simp only[h2,Bool.not_true,Bool.not_false]
  ·rcases Bool.eq_false_or_eq_true (bJ l)with h3|h3<;>simp only[h3,Bool.not_true,Bool.not_false]
   ·obtain⟨c,hr⟩:=aaQ m st l h1 h2 h3
    have hr':gg ((m.1,m.2.1,m.2.2.1,m.2.2.2.1,()),(st.1,st.2.1,st.2.2.1,st.2.2.2.1,st.2.2.2.2.1,()),l,())=_:=hr
    simp only[hr']
    rfl
   ·rfl
  ·rfl
 ·rfl
end Go.Proofs.YtckljdhdadiphaaGreatDoor
namespace Go.Proofs.YtckljdhdadiphaaGreatDoor
open Go.RowKit
set_option linter.unusedVariables false
set_option linter.unusedSimpArgs false
end Go.Proofs.YtckljdhdadiphaaGreatDoor
namespace Go.Proofs.YtckljdhdadiphaaGreatDoor
open Go.RowKit
set_option linter.unusedVariables false
set_option linter.unusedSimpArgs false
abbrev yJ(v:bI.T):List Int:=v.2.1.2.2.2.1
theorem S5(x y:ak.T):cS ak x y=true↔x=y:=by
 obtain⟨(a:Int),(b:Int),(c:Int),(d:Int),(e:Int),⟨⟩⟩:=x
 obtain⟨(a':Int),(b':Int),(c':Int),(d':Int),(e':Int),⟨⟩⟩:=y
 have h:cS ak (a,b,c,d,e,()) (a',b',c',d',e',())=((a==a')&&((b==b')&&((c==c')&&((d==d')&&((e==e')&&true))))):=rfl
 rw[h]
 simp only[Bool.and_eq_true,beq_iff_eq,and_true]
 constructor
 ·rintro ⟨rfl,rfl,rfl,rfl,rfl⟩;rfl
 ·intro h
  cases h
  exact⟨rfl,rfl,rfl,rfl,rfl⟩
theorem oG(x y:ba.T):bd x y=true↔x=y:=by
 obtain⟨(a:Int),(b:Int),c,(d:List Int),⟨⟩⟩:=x
 obtain⟨(a':Int),(b':Int),c',(d':List Int),⟨⟩⟩:=y
 have h:bd (a,b,c,d,()) (a',b',c',d',())=((a==a')&&((b==b')&&(cS ak c c'&&decide (d=d')))):=rfl
 rw[h]
 simp only[Bool.and_eq_true,beq_iff_eq,S5,decide_eq_true_eq]
 constructor
 ·rintro ⟨rfl,rfl,rfl,rfl⟩;rfl
 ·intro h
  cases h
  exact⟨rfl,rfl,rfl,rfl⟩
def cN(s:Int):bI.T:=(s,c6,())
theorem oH {v:bI.T}(h:fc v=true):(∃f,v=((3:Int),f,())∧bA f=true)∨(∃s:Int,v=cN s∧0≤s∧s≤4∧s≠3):=by
 obtain⟨(s:Int),f,⟨⟩⟩:=v
 have h:(if s==(3:Int)then bA f else aY s 0 4&&bd f c6)=true:=h
 by_cases hs:s=3
 ·subst hs
  exact .inl ⟨f,rfl,by simpa using h⟩
 ·have hb:(s==(3:Int))=false:=by simp[hs]
  rw[hb]at h
  simp only[Bool.false_eq_true,if_false,Bool.and_eq_true,oG]at h
  obtain⟨h1,rfl⟩:=h
  have:=bc.1 h1
  exact .inr ⟨s,rfl,this.1,this.2,hs⟩
theorem Zg {s:Int}(h0:0≤s)(h4:s≤4)(h3:s≠3):fc (cN s)=true:=by
 have e:fc (cN s)=if s==(3:Int)then bA c6 else aY s 0 4&&bd c6 c6:=rfl
 have hb:(s==(3:Int))=false:=by simp[h3]
 rw[e,hb,(oG c6 c6).2 rfl,bc.2 ⟨h0,h4⟩]
 rfl
noncomputable def fP(a b:bI.T):bI.T:=if(a.1==(3:Int))&&((b.1==(3:Int))&&bd a.2.1 b.2.1)then a else if((a.1==(3:Int))&&(b.1==(3:Int)))||((a.1==(4:Int))||(b.1==(4:Int)))then cN 4 else if a.1==(3:Int)then a else if b.1==(3:Int)then b else cN (if b.1>a.1 then b.1 else a.1)
noncomputable def xy(a b:bI.T):bI.T:=if(a.1==(3:Int))&&gi a b then a else if((a.1==(3:Int))&&(b.1==(3:Int)))||((a.1==(4:Int))||(b.1==(4:Int)))then cN 4 else if decide (a.1≥b.1)then a else b
theorem Zh(a b:bI.T)(h:(yJ a).length≤1099511627776):vA (a,b,())=some (fP a b,()):=by
 have hs:tj (a.2.1,b.2.1,())=some (bd a.2.1 b.2.1,()):=SX _ h
 obtain⟨(s:Int),⟨(k:Int),(r:Int),⟨(t1:Int),(t2:Int),(t3:Int),(t4:Int),(t5:Int),⟨⟩⟩,(d:List Int),⟨⟩⟩,⟨⟩⟩:=a
 obtain⟨(s':Int),⟨(k':Int),(r':Int),⟨(u1:Int),(u2:Int),(u3:Int),(u4:Int),(u5:Int),⟨⟩⟩,(d':List Int),⟨⟩⟩,⟨⟩⟩:=b
 unfold vA fP
 simp only at hs ⊢
 rw[hs]
 rcases Bool.eq_false_or_eq_true (s==(3:Int))with h1|h1<;>rcases Bool.eq_false_or_eq_true (s'==(3:Int))with h2|h2<;>rcases Bool.eq_false_or_eq_true (s==(4:Int))with h3|h3<;>rcases Bool.eq_false_or_eq_true (s'==(4:Int))with h4|h4<;>(try (rcases Bool.eq_false_or_eq_true (bd (k,r,(t1,t2,t3,t4,t5,()),d,()) (k',r',(u1,u2,u3,u4,u5,()),d',()))with h5|h5))<;>simp only[h1,h2,h3,h4,h5]<;>rfl
theorem LX(a b:bI.T)(h:(yJ a).length≤1099511627776):AL (a,b,())=some (xy a b,()):=by
 have hs:lx (a,b,())=some (gi a b,()):=PA _ h
 obtain⟨(s:Int),⟨(k:Int),(r:Int),⟨(t1:Int),(t2:Int),(t3:Int),(t4:Int),(t5:Int),⟨⟩⟩,(d:List Int),⟨⟩⟩,⟨⟩⟩:=a
 obtain⟨(s':Int),⟨(k':Int),(r':Int),⟨(u1:Int),(u2:Int),(u3:Int),(u4:Int),(u5:Int),⟨⟩⟩,(d':List Int),⟨⟩⟩,⟨⟩⟩:=b
 unfold AL xy
 simp only at hs ⊢
 rw[hs]
 generalize gi (s,(k,r,(t1,t2,t3,t4,t5,()),d,()),()) (s',(k',r',(u1,u2,u3,u4,u5,()),d',()),())=q
 rcases Bool.eq_false_or_eq_true (s==(3:Int))with h1|h1<;>rcases Bool.eq_false_or_eq_true (s'==(3:Int))with h2|h2<;>rcases Bool.eq_false_or_eq_true (s==(4:Int))with h3|h3<;>rcases Bool.eq_false_or_eq_true (s'==(4:Int))with h4|h4<;>rcases Bool.eq_false_or_eq_true (decide (s≥s'))with h6|h6<;>cases q<;>simp only[h1,h2,h3,h4,h6]<;>rfl
theorem LY {a b:bI.T}(ha:fc a=true)(hb:fc b=true):xy a b=fP a b:=by
 rcases oH ha with⟨f,rfl,hf⟩|⟨s,rfl,h0,h4,h3⟩<;>rcases oH hb with⟨g,rfl,hg⟩|⟨s',rfl,h0',h4',h3'⟩
 ·have e:gi ((3:Int),f,()) ((3:Int),g,())=bd f g:=by
   show(((3:Int)==3)&&bd f g)=_
   simp
  unfold xy fP
  rw[e]
  cases bd f g<;>rfl
 ·have e:gi ((3:Int),f,()) (cN s')=false:=by
   show(((3:Int)==s')&&bd f c6)=_
   have:((3:Int)==s')=false:=by simp;omega
   rw[this];rfl
  have e3:(s'==(3:Int))=false:=by simp[h3']
  unfold xy fP
  rw[e]
  show(if((3:Int)==3&&false)=true then _ else if(((3:Int)==3&&s'==(3:Int))||((3:Int)==4||s'==(4:Int)))=true then cN 4 else if decide ((3:Int)≥s')=true then _ else cN s')=(if((3:Int)==3&&(s'==(3:Int)&&bd f c6))=true then _ else if(((3:Int)==3&&s'==(3:Int))||((3:Int)==4||s'==(4:Int)))=true then cN 4 else if((3:Int)==3)=true then _ else if(s'==(3:Int))=true then _ else _)
  rw[e3]
  rcases Bool.eq_false_or_eq_true (s'==(4:Int))with h|h
  ·rw[h];rfl
  ·have:s'≠4:=by simpa using h
   have hd:decide ((3:Int)≥s')=true:=by simp;omega
   rw[h,hd];rfl
 ·have e3:(s==(3:Int))=false:=by simp[h3]
  unfold xy fP
  show(if(s==(3:Int)&&gi (cN s) ((3:Int),g,()))=true then _ else if((s==(3:Int)&&(3:Int)==(3:Int))||(s==(4:Int)||(3:Int)==(4:Int)))=true then cN 4 else if decide (s≥(3:Int))=true then _ else _)=(if(s==(3:Int)&&((3:Int)==(3:Int)&&bd c6 g))=true then _ else if((s==(3:Int)&&(3:Int)==(3:Int))||(s==(4:Int)||(3:Int)==(4:Int)))=true then cN 4 else if(s==(3:Int))=true then _ else if((3:Int)==(3:Int))=true then _ else _)
  rw[e3]
  rcases Bool.eq_false_or_eq_true (s==(4:Int))with h|h
  ·rw[h];rfl
  ·have:s≠4:=by simpa using h
   have hd:decide (s≥(3:Int))=false:=by simp;omega
   rw[h,hd];rfl
 ·have e3:(s==(3:Int))=false:=by simp[h3]
  have e3':(s'==(3:Int))=false:=by simp[h3']
  unfold xy fP
  show(if(s==(3:Int)&&gi (cN s) (cN s'))=true then _ else if((s==(3:Int)&&s'==(3:Int))||(s==(4:Int)||s'==(4:Int)))=true then cN 4 else if decide (s≥s')=true then cN s else cN s')=(if(s==(3:Int)&&(s'==(3:Int)&&bd c6 c6))=true then _ else if((s==(3:Int)&&s'==(3:Int))||(s==(4:Int)||s'==(4:Int)))=true then cN 4 else if(s==(3:Int))=true then cN s else if(s'==(3:Int))=true then cN s' else cN (if s'>s then s' else s))
  rw[e3,e3']
  simp only[Bool.false_and,Bool.false_eq_true,if_false,Bool.false_or]
  rcases Bool.eq_false_or_eq_true (s==(4:Int)||s'==(4:Int))with h|h
  ·simp only[h,if_true]
  ·simp only[h,Bool.false_eq_true,if_false]
   by_cases hg:s'>s
   ·have hd:decide (s≥s')=false:=by simp;omega
    simp[hd,hg]
   ·have hd:decide (s≥s')=true:=by simp;omega
    simp[hd,hg]
theorem LZ {a b:bI.T}{n:Nat}(ha:(yJ a).length≤n)(hb:(yJ b).length≤n):(yJ (fP a b)).length≤n:=by
 unfold fP
 split
 ·exact ha
 ·split
  ·exact Nat.zero_le _
  ·split
   ·exact ha
   ·split
    ·exact hb
    ·exact Nat.zero_le _
end Go.Proofs.YtckljdhdadiphaaGreatDoor
namespace Go.Proofs.YtckljdhdadiphaaGreatDoor
open Go.RowKit
set_option linter.unusedVariables false
set_option linter.unusedSimpArgs false
noncomputable def lK(m:ar.T)(st:ak.T)(l l2:List Int):bI.T×Int×Unit:=match(bU m st l).2.1 != (0:Int)with
 |true=>(cN 0,(bU m st l).2.1,())
 |false=>match(bU m st l2).2.1 != (0:Int)with
  |true=>(cN 0,(bU m st l2).2.1,())
  |false=>(fP (bU m st l).1 (bU m st l2).1,(0:Int),())
theorem mL(m:ar.T)(st:ak.T)(l:List Int):(bU m st l).1.2.1.2.2.2.1.length≤32:=by
 unfold bU
 split
 ·exact Nat.zero_le _
 ·split
  ·exact Nat.zero_le _
  ·split
   ·exact Nat.zero_le _
   ·show(dL m st l).2.1.2.2.2.1.length≤32
    unfold dL
    split
    ·unfold kL
     split
     ·rename_i h
      rw[Bool.and_eq_true]at h
      exact pH (tw (vO h.1))
     ·exact Nat.zero_le _
    ·split<;>exact Nat.zero_le _
theorem qH(m:ar.T)(st:ak.T)(l:List Int):fc (bU m st l).1=true:=by
 have h0:∀s:Int,0≤s→s≤4→s≠3→fc ((s,c6,()):bI.T)=true:=fun s a b c=>Zg a b c
 unfold bU
 split
 ·exact h0 0 (by omega) (by omega) (by omega)
 ·split
  ·exact h0 0 (by omega) (by omega) (by omega)
  ·split
   ·exact h0 0 (by omega) (by omega) (by omega)
   ·show fc (dL m st l)=true
    unfold dL
    split
    ·unfold kL
     split
     ·rename_i h
      rw[Bool.and_eq_true]at h
      exact tw (vO h.1)
     ·exact h0 2 (by omega) (by omega) (by omega)
    ·split
     ·exact h0 0 (by omega) (by omega) (by omega)
     ·exact h0 1 (by omega) (by omega) (by omega)
theorem Wk(m:ar.T)(st:ak.T)(l l2:List Int)(hz:eM m)(hl:l.length≤1099511627776)(hl2:l2.length≤1099511627776):iM (m,st,l,l2,())=some (lK m st l l2):=by
 have h1:ci ((m.1,m.2.1,m.2.2.1,m.2.2.2.1,()),(st.1,st.2.1,st.2.2.1,st.2.2.2.1,st.2.2.2.2.1,()),l,())=_:=tx m st l hz hl
 have h2:ci ((m.1,m.2.1,m.2.2.1,m.2.2.2.1,()),(st.1,st.2.1,st.2.2.1,st.2.2.2.1,st.2.2.2.2.1,()),l2,())=_:=tx m st l2 hz hl2
 have hd1:=mL m st l
 have hv1:=qH m st l
 have hv2:=qH m st l2
 have hm:=LX (bU m st l).1 (bU m st l2).1 (Nat.le_trans hd1 (by omega))
 rw[LY hv1 hv2]at hm
 unfold iM lK
 simp only[h1,h2]
 rcases Bool.eq_false_or_eq_true ((bU m st l).2.1 != (0:Int))with g|g<;>simp only[g]
 ·rfl
 ·rcases Bool.eq_false_or_eq_true ((bU m st l2).2.1 != (0:Int))with g2|g2<;>simp only[g2]
  ·rfl
  ·generalize bU m st l=r1 at hm ⊢
   generalize bU m st l2=r2 at hm ⊢
   obtain⟨⟨(s1:Int),⟨(f1:Int),(q1:Int),⟨(t11:Int),(t12:Int),(t13:Int),(t14:Int),(t15:Int),⟨⟩⟩,(da:List Int),⟨⟩⟩,⟨⟩⟩,(c1:Int),⟨⟩⟩:=r1
   obtain⟨⟨(s2:Int),⟨(f2:Int),(q2:Int),⟨(t21:Int),(t22:Int),(t23:Int),(t24:Int),(t25:Int),⟨⟩⟩,(db:List Int),⟨⟩⟩,⟨⟩⟩,(c2:Int),⟨⟩⟩:=r2
   simp only at hm ⊢
   simp only[hm]
theorem aaR(m:ar.T)(st:ak.T)(l l2:List Int)(hz:eM m)(hl:l.length≤1099511627776)(hl2:l2.length≤1099511627776):ly (m,st,l,l2,())=some (lK m st l l2):=by
 have h1:dF ((m.1,m.2.1,m.2.2.1,m.2.2.2.1,()),(st.1,st.2.1,st.2.2.1,st.2.2.2.1,st.2.2.2.2.1,()),l,())=_:=Gh m st l hz hl
 have h2:dF ((m.1,m.2.1,m.2.2.1,m.2.2.2.1,()),(st.1,st.2.1,st.2.2.1,st.2.2.2.1,st.2.2.2.2.1,()),l2,())=_:=Gh m st l2 hz hl2
 have hd1:=mL m st l
 have hm:=Zh (bU m st l).1 (bU m st l2).1 (Nat.le_trans hd1 (by omega))
 unfold ly lK
 simp only[h1,h2]
 rcases Bool.eq_false_or_eq_true ((bU m st l).2.1 != (0:Int))with g|g<;>simp only[g]
 ·rfl
 ·rcases Bool.eq_false_or_eq_true ((bU m st l2).2.1 != (0:Int))with g2|g2<;>simp only[g2]
  ·rfl
  ·generalize bU m st l=r1 at hm ⊢
   generalize bU m st l2=r2 at hm ⊢
   obtain⟨⟨(s1:Int),⟨(f1:Int),(q1:Int),⟨(t11:Int),(t12:Int),(t13:Int),(t14:Int),(t15:Int),⟨⟩⟩,(da:List Int),⟨⟩⟩,⟨⟩⟩,(c1:Int),⟨⟩⟩:=r1
   obtain⟨⟨(s2:Int),⟨(f2:Int),(q2:Int),⟨(t21:Int),(t22:Int),(t23:Int),(t24:Int),(t25:Int),⟨⟩⟩,(db:List Int),⟨⟩⟩,⟨⟩⟩,(c2:Int),⟨⟩⟩:=r2
   simp only at hm ⊢
   simp only[hm]
theorem Wl(m:ar.T)(st:ak.T)(l l2:List Int):(lK m st l l2).1.2.1.2.2.2.1.length≤32:=by
 unfold lK
 split
 ·exact Nat.zero_le _
 ·split
  ·exact Nat.zero_le _
  ·exact LZ (mL m st l) (mL m st l2)
end Go.Proofs.YtckljdhdadiphaaGreatDoor
