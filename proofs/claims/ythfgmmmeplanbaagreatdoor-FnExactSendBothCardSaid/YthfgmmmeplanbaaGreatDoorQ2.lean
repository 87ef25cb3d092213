import Derived.Test.YthfgmmmeplanbaaGreatDoorQ1
namespace Go.Proofs.YthfgmmmeplanbaaGreatDoor
open Go.RowKit
set_option linter.unusedVariables false
set_option linter.unusedSimpArgs false
theorem s_node(x):s_l05Node x=some (inB x.1 0 31,()):=by
 unfold s_l05Node
 simp only[s_in]
theorem i_node(x):i_isNode x=some (inB x.1 0 31,()):=by
 unfold i_isNode
 simp only[i_in]
end Go.Proofs.YthfgmmmeplanbaaGreatDoor
namespace Go.Proofs.YthfgmmmeplanbaaGreatDoor
open Go.RowKit
set_option linter.unusedVariables false
set_option linter.unusedSimpArgs false
theorem dw_nil {α:Type}(p:α→Bool):∀l:List α,(∀x ∈ l.dropWhile p,p x=true)→l.dropWhile p= []
 | [],_=>rfl
 |a::l,h=>by
  by_cases ha:p a=true
  ·rw[List.dropWhile_cons_of_pos ha]at h ⊢
   exact dw_nil p l h
  ·rw[List.dropWhile_cons_of_neg ha]at h
   exact absurd (h a (by simp)) ha
theorem dw_all {α:Type}(p:α→Bool):∀l:List α,l.dropWhile p= []↔∀x ∈ l,p x=true
 | []=>by simp
 |a::l=>by
  by_cases ha:p a=true
  ·rw[List.dropWhile_cons_of_pos ha,dw_all p l]
   simp[ha]
  ·rw[List.dropWhile_cons_of_neg ha]
   simp[ha]
theorem trim_nil(s cs:List UInt8):(Lib.trimS s cs== [])=s.all (fun b=>cs.contains b):=by
 have e:Lib.trimS s cs= []↔∀b ∈ s,cs.contains b=true:=by
  unfold Lib.trimS Lib.trimLeftS Lib.trimRightS
  constructor
  ·intro h
   have h1:=(dw_all _ _).1 h
   have h2:=dw_nil (fun b=>cs.contains b) s.reverse (fun x hx=>h1 x (by simpa using hx))
   have h3:=(dw_all _ _).1 h2
   exact fun b hb=>h3 b (by simpa using hb)
  ·intro h
   have:s.reverse.dropWhile (fun b=>cs.contains b)= []:=(dw_all _ _).2 (fun b hb=>h b (by simpa using hb))
   rw[this]
   rfl
 by_cases h:Lib.trimS s cs= []
 ·rw[h,List.all_eq_true.2 (e.1 h)];rfl
 ·have h2:¬(s.all (fun b=>cs.contains b)=true):=fun h3=>h (e.2 (List.all_eq_true.1 h3))
  have h3:(Lib.trimS s cs== [])=false:=by simpa using h
  rw[h3]
  simpa using h2
def charB(b:UInt8):Bool:=if(b.toNat:Int)<97 then(if(b.toNat:Int)<48 then false else if(b.toNat:Int)>57 then false else true)else if(b.toNat:Int)>122 then(if(b.toNat:Int)<48 then false else if(b.toNat:Int)>57 then false else true)else true
def alnum:List UInt8:=[97,98,99,100,101,102,103,104,105,106,107,108,109,110,111,112,113,114,115,116,117,118,119,120,121,122,48,49,50,51,52,53,54,55,56,57]
theorem char_in(b:UInt8):alnum.contains b=charB b:=by
 have h:∀n:Fin 256,alnum.contains (UInt8.ofNat n.1)=charB (UInt8.ofNat n.1):=by decide+kernel
 have:=h ⟨b.toNat,b.toNat_lt⟩
 simpa using this
def nameB(s:List UInt8):Bool:=s.all charB&&(decide ((s.length:Int)≥1)&&decide ((s.length:Int)≤6))
theorem s_name(s:List UInt8)(hs:s.length≤1099511627776):s_l10Name (s,())=some (nameB s,()):=by
 have e:=all_ok (B:=b_s_l10Name_2) s (fun i=>(s,(i:Int),())) charB (.inl (s,())) (.inr (false,())) (by simp only[b_s_l10Name_2,lt_n]) (fun i h=>by
  simp only[b_s_l10Name_2,lt_i h,next_i h hs,idx_nat h,onSome]
  generalize s[i]=b
  unfold charB
  by_cases h1:(b.toNat:Int)<97<;>by_cases h2:(b.toNat:Int)>122<;>by_cases h3:(b.toNat:Int)<48<;>by_cases h4:(b.toNat:Int)>57<;>simp[h1,h2,h3,h4])
 have e':loopL b_s_l10Name_2 (s,(0:Int),())=_:=e
 unfold s_l10Name nameB
 simp only[e']
 rcases Bool.eq_false_or_eq_true (s.all charB)with h|h<;>simp only[h,Bool.true_and,Bool.false_and,if_true]
 ·rcases Bool.eq_false_or_eq_true (decide ((s.length:Int)≥1))with h1|h1<;>simp only[h1,Bool.true_and,Bool.false_and]
 ·rfl
def nodeB(v:TNodeInfo.T):Bool:=inB v.1 0 31&&(nameB v.2.1&&inB v.2.2.1 0 1000)
theorem s_nodeInfo(x)(h:x.1.2.1.length≤1099511627776):s_IsNodeInfo x=some (nodeB x.1,()):=by
 have hn:=s_name x.1.2.1 h
 unfold s_IsNodeInfo nodeB
 simp only[s_node,hn,s_in]
 rcases Bool.eq_false_or_eq_true (inB x.1.1 0 31)with h1|h1<;>rcases Bool.eq_false_or_eq_true (nameB x.1.2.1)with h2|h2<;>simp only[h1,h2]<;>rfl
theorem i_nodeInfo(x):i_IsNodeInfo x=some (nodeB x.1,()):=by
 unfold i_IsNodeInfo nodeB nameB
 simp only[i_node,i_in]
 rcases Bool.eq_false_or_eq_true (decide ((x.1.2.1.length:Int)≥1))with h1|h1<;>simp only[h1,Bool.true_and,Bool.false_and,Bool.and_false]
 rcases Bool.eq_false_or_eq_true (decide ((x.1.2.1.length:Int)≤6))with h2|h2<;>simp only[h2,Bool.true_and,Bool.false_and,Bool.and_false,Bool.and_true]
 have h6:x.1.2.1.length≤1048576:=by
  have:=of_decide_eq_true h2
  omega
 have ht:strings_Trim (x.1.2.1,([97,98,99,100,101,102,103,104,105,106,107,108,109,110,111,112,113,114,115,116,117,118,119,120,121,122,48,49,50,51,52,53,54,55,56,57]:List UInt8),())=some (Lib.trimS x.1.2.1 alnum,()):=by
  show onSome (trimF x.1.2.1 alnum) (fun s=>some (s,()))=_
  unfold trimF
  rw[if_pos ⟨h6,by decide,by decide⟩]
  rfl
 have hc:x.1.2.1.all (fun b=>alnum.contains b)=x.1.2.1.all charB:=by
  congr 1
  funext b
  exact char_in b
 simp only[ht,trim_nil,hc]
 rcases Bool.eq_false_or_eq_true (x.1.2.1.all charB)with h3|h3<;>rcases Bool.eq_false_or_eq_true (inB x.1.1 0 31)with h4|h4<;>simp only[h3,h4]<;>rfl
def nodeAt(l:List TNodeInfo.T)(i:Nat):Bool:=match l[i]? with
 |none=>false
 |some v=>nodeB v&&((match i with
  |0=>true
  |k+1=>match l[k]? with
   |none=>false
   |some u=> !decide (v.1≤u.1))&& !(l.take i).any (fun u=>u.2.1==v.2.1))
def nodesB(l:List TNodeInfo.T):Bool:=inB (l.length:Int) 1 32&&(List.range l.length).all (nodeAt l)
theorem s_names(l:List TNodeInfo.T)(hl:l.length≤1099511627776)(i:Nat)(hi:i<l.length):loopL b_s_IsNodeTable_9 (l,(i:Int),(0:Int),())=some (if(l.take i).any (fun u=>u.2.1==l[i].2.1)then .inr (false,())else .inl (l,(i:Int),())):=by
 have e:=all_ok (B:=b_s_IsNodeTable_9) (l.take i) (fun j=>(l,(i:Int),(j:Int),())) (fun u=> !(u.2.1==l[i].2.1)) (.inl (l,(i:Int),())) (.inr (false,())) (by
  rw[List.length_take,Nat.min_eq_left (Nat.le_of_lt hi)]
  simp only[b_s_IsNodeTable_9,lt_n]) (fun j hj=>by
  have hj':j<i:=by rw[List.length_take]at hj;omega
  have hjl:j<l.length:=by omega
  have hg:(l.take i)[j]=l[j]:=by simp
  rw[hg]
  simp only[b_s_IsNodeTable_9,lt_i hj',next_i hjl hl,idx_nat hjl,idx_nat hi,onSome]
  rcases Bool.eq_false_or_eq_true (l[j].2.1==l[i].2.1)with h1|h1<;>simp only[h1]<;>rfl)
 have e':loopL b_s_IsNodeTable_9 (l,(i:Int),(0:Int),())=_:=e
 rw[e',all_any]
 simp only[Bool.not_not]
 cases (l.take i).any (fun u=>u.2.1==l[i].2.1)<;>rfl
theorem prev_i {i:Nat}(h:i+1≤1099511627776):IntKind.i64.wrap (((i+1:Nat):Int)-1)=(i:Int):=by rw[wrap_i64]<;>omega
theorem pos_s(i:Nat):decide (((i+1:Nat):Int)>0)=true:=decide_eq_true (by omega)
theorem s_nodes(l:List TNodeInfo.T)(hl:l.length≤1099511627776)(hn:∀v ∈ l,v.2.1.length≤1099511627776):s_IsNodeTable (l,())=some (nodesB l,()):=by
 have e:=allI_ok (B:=b_s_IsNodeTable_4) l.length (fun i=>(l,(i:Int),())) (nodeAt l) (.inl ()) (.inr (false,())) (by simp only[b_s_IsNodeTable_4,lt_n]) (fun i h=>by
  have hv:=s_nodeInfo (l[i],()) (hn _ (List.getElem_mem h))
  have hc:=s_names l hl i h
  simp only[b_s_IsNodeTable_4,lt_i h,next_i h hl,idx_nat h,onSome,hv,nodeAt,List.getElem?_eq_getElem h]
  rcases Bool.eq_false_or_eq_true (nodeB l[i])with h1|h1<;>simp only[h1,Bool.not_true,Bool.not_false,Bool.true_and,Bool.false_and]
  ·cases i with
   |zero=>
    have z:decide (((0:Nat):Int)>0)=false:=rfl
    simp only[z,hc,Bool.true_and]
    rfl
   |succ k=>
    have hk:k<l.length:=by omega
    simp only[pos_s,prev_i (show k+1≤1099511627776 by omega),idx_nat hk,List.getElem?_eq_getElem hk]
    rcases Bool.eq_false_or_eq_true (decide (l[k+1].1≤l[k].1))with h2|h2<;>simp only[h2,Bool.not_true,Bool.not_false,Bool.true_and,Bool.false_and]
    ·rfl
    ·simp only[hc]
     cases (l.take (k+1)).any (fun u=>u.2.1==l[k+1].2.1)
     ·show some (Sum.inl (l,IntKind.i64.wrap (((k+1:Nat):Int)+1),()))=some (.inl (l,((k+1+1:Nat):Int),()))
      rw[next_i h hl]
     ·rfl
  ·rfl)
 have e':loopL b_s_IsNodeTable_4 (l,(0:Int),())=_:=e
 unfold s_IsNodeTable nodesB
 simp only[s_in,e']
 rcases Bool.eq_false_or_eq_true (inB (l.length:Int) 1 32)with h1|h1<;>simp only[h1]<;>rcases Bool.eq_false_or_eq_true ((List.range l.length).all (nodeAt l))with h2|h2<;>simp only[h2]<;>rfl
theorem i_nodes(l:List TNodeInfo.T)(hl:l.length≤1099511627776):i_IsNodeTable (l,())=some (nodesB l,()):=by
 have e:=allI_ok (B:=b_i_IsNodeTable_2) l.length (fun i=>(l,l,(l.length:Int),(i:Int),())) (nodeAt l) (.inl (l,())) (.inr (false,())) (by simp only[b_i_IsNodeTable_2,lt_n]) (fun i h=>by
  have hv:i_IsNodeInfo ((l[i].1,l[i].2.1,l[i].2.2.1,l[i].2.2.2.1,()),())=some (nodeB l[i],()):=i_nodeInfo (l[i],())
  have hb:bounds l.length none (some (.dat (.int .i64) (i:Int)))=some (0,i):=by
   simp only[bounds,bndOr,optInt]
   rw[if_pos ⟨by omega,by omega,by omega⟩]
   simp
  have hc:=contains_NodeInfo (l.take i) (by rw[List.length_take];omega) (fun z=>i_IsNodeTable_1 (z.1,(l[i].1,l[i].2.1,l[i].2.2.1,l[i].2.2.2.1,()),())) (fun u=>u.2.1==l[i].2.1) (fun j hj=>rfl)
  have hc:slices_ContainsFunc_NodeInfo (List.drop 0 (List.take i l),(fun z=>i_IsNodeTable_1 (z.1,(l[i].1,l[i].2.1,l[i].2.2.1,l[i].2.2.2.1,()),())),())=_:=hc
  simp only[b_i_IsNodeTable_2,lt_i h,next_i h hl,idx_nat h,onSome,hv,hb,hc,nodeAt,List.getElem?_eq_getElem h]
  rcases Bool.eq_false_or_eq_true (nodeB l[i])with h1|h1<;>simp only[h1,Bool.not_true,Bool.not_false,Bool.true_and,Bool.false_and]
  ·cases i with
   |zero=>rfl
   |succ k=>
    have hk:k<l.length:=by omega
    have hge:decide (l[k].1≥l[k+1].1)=decide (l[k+1].1≤l[k].1):=rfl
    simp only[pos_s,prev_i (show k+1≤1099511627776 by omega),idx_nat hk,List.getElem?_eq_getElem hk,hge]
    rcases Bool.eq_false_or_eq_true (decide (l[k+1].1≤l[k].1))with h2|h2<;>simp only[h2,Bool.not_true,Bool.not_false,Bool.true_and,Bool.false_and]
    ·rfl
    ·cases (l.take (k+1)).any (fun u=>u.2.1==l[k+1].2.1)
     ·rfl
     ·rfl
  ·rfl)
 have e':loopL b_i_IsNodeTable_2 (l,l,(l.length:Int),(0:Int),())=_:=e
 unfold i_IsNodeTable nodesB inB
 simp only[e']
 rcases Bool.eq_false_or_eq_true ((List.range l.length).all (nodeAt l))with h2|h2<;>simp only[h2,if_true,Bool.and_true,Bool.and_false]
 ·rcases Bool.eq_false_or_eq_true (decide ((l.length:Int)≥1))with h1|h1<;>simp only[h1]<;>rfl
 ·rfl
end Go.Proofs.YthfgmmmeplanbaaGreatDoor
namespace Go.Proofs.YthfgmmmeplanbaaGreatDoor
open Go.RowKit
set_option linter.unusedVariables false
set_option linter.unusedSimpArgs false
def riseAt(l:List Int)(n:Nat)(i:Nat):Bool:=match l[i]? with
 |none=>false
 |some v=>inB v 0 ((n:Int)-1)&&(match i with
  |0=>true
  |k+1=>match l[k]? with
   |none=>false
   |some u=> !decide (v≤u))
def risesB(l:List Int)(n:Nat):Bool:=(List.range l.length).all (riseAt l n)
theorem s_rises(l:List Int)(n:Nat)(hl:l.length≤1099511627776)(hn:n≤1099511627776):s_l01Rises (l,(n:Int),())=some (risesB l n,()):=by
 have hw:IntKind.i64.wrap ((n:Int)-1)=(n:Int)-1:=by rw[wrap_i64]<;>omega
 have e:=allI_ok (B:=b_s_l01Rises_2) l.length (fun i=>(l,(n:Int),(i:Int),())) (riseAt l n) (.inl ()) (.inr (false,())) (by simp only[b_s_l01Rises_2,lt_n]) (fun i h=>by
  simp only[b_s_l01Rises_2,lt_i h,next_i h hl,idx_nat h,onSome,s_in,hw,riseAt,List.getElem?_eq_getElem h]
  rcases Bool.eq_false_or_eq_true (inB l[i] 0 ((n:Int)-1))with h1|h1<;>simp only[h1,Bool.not_true,Bool.not_false,Bool.true_and,Bool.false_and]
  ·cases i with
   |zero=>rfl
   |succ k=>
    have hk:k<l.length:=by omega
    simp only[pos_s,prev_i (show k+1≤1099511627776 by omega),idx_nat hk,List.getElem?_eq_getElem hk]
    rcases Bool.eq_false_or_eq_true (decide (l[k+1]≤l[k]))with h2|h2<;>simp only[h2]<;>rfl
  ·rfl)
 have e':loopL b_s_l01Rises_2 (l,(n:Int),(0:Int),())=_:=e
 unfold s_l01Rises risesB
 simp only[e']
 rcases Bool.eq_false_or_eq_true ((List.range l.length).all (riseAt l n))with h2|h2<;>simp only[h2]<;>rfl
theorem i_rises(l:List Int)(n:Nat)(hl:l.length≤1099511627776)(hn:n≤1099511627776):i_isRising (l,(n:Int),())=some (risesB l n,()):=by
 have e:=allI_ok (B:=b_i_isRising_2) l.length (fun i=>(l,(n:Int),l,(l.length:Int),(i:Int),())) (riseAt l n) (.inl ()) (.inr (false,())) (by simp only[b_i_isRising_2,lt_n]) (fun i h=>by
  have hin:inB l[i] 0 ((n:Int)-1)=(!decide (l[i]<0)&& !decide (l[i]≥(n:Int))):=by
   unfold inB
   by_cases h1:l[i]<0<;>by_cases h2:l[i]≥(n:Int)<;>simp[h1,h2]<;>omega
  simp only[b_i_isRising_2,lt_i h,next_i h hl,idx_nat h,onSome,riseAt,List.getElem?_eq_getElem h,hin]
  rcases Bool.eq_false_or_eq_true (decide (l[i]<0))with h1|h1<;>simp only[h1,Bool.not_true,Bool.not_false,Bool.true_and,Bool.false_and]
  ·rfl
  ·rcases Bool.eq_false_or_eq_true (decide (l[i]≥(n:Int)))with h3|h3<;>simp only[h3,Bool.not_true,Bool.not_false,Bool.true_and,Bool.false_and]
   ·rfl
   ·cases i with
    |zero=>rfl
    |succ k=>
     have hk:k<l.length:=by omega
     have hge:decide (l[k]≥l[k+1])=decide (l[k+1]≤l[k]):=rfl
     simp only[pos_s,prev_i (show k+1≤1099511627776 by omega),idx_nat hk,List.getElem?_eq_getElem hk,hge]
     rcases Bool.eq_false_or_eq_true (decide (l[k+1]≤l[k]))with h2|h2<;>simp only[h2]<;>rfl)
 have e':loopL b_i_isRising_2 (l,(n:Int),l,(l.length:Int),(0:Int),())=_:=e
 unfold i_isRising risesB
 simp only[e']
 rcases Bool.eq_false_or_eq_true ((List.range l.length).all (riseAt l n))with h2|h2<;>simp only[h2]<;>rfl
theorem s_hasI(l:List Int)(v:Int)(hl:l.length≤1099511627776):s_l01Has (l,v,())=some (l.any (fun u=>u==v),()):=by
 have e:=first_ok (B:=b_s_l01Has_2) l (fun i=>(l,v,(i:Int),())) (fun u=>u==v) (.inl ()) (fun _=>.inr (true,())) (by simp only[b_s_l01Has_2,lt_n]) (fun i h=>by
  simp only[b_s_l01Has_2,lt_i h,next_i h hl,idx_nat h,onSome]
  rcases Bool.eq_false_or_eq_true (l[i]==v)with h1|h1<;>simp only[h1]<;>rfl)
 have e':loopL b_s_l01Has_2 (l,v,(0:Int),())=_:=e
 unfold s_l01Has
 rw[←firstI_any (fun u=>u==v) 0 l]
 simp only[e']
 cases firstI (fun u=>u==v) 0 l<;>rfl
theorem i_containsI(l:List Int)(v:Int)(hl:l.length≤1099511627776):slices_Contains_int64 (l,v,())=some (l.any (fun u=>u==v),()):=by
 have e:=first_ok (B:=b_slices_Index_int64_2) l (fun i=>(l,v,(l.length:Int),(i:Int),())) (fun u=>u==v) (.inl ()) (fun j=>.inr ((j:Int),())) (by simp only[b_slices_Index_int64_2,lt_n]) (fun i h=>by
  have hc:(v==l[i])=(l[i]==v):=by
   by_cases h:v=l[i]
   ·rw[h]
   ·have h1:(v==l[i])=false:=by simpa using h
    have h2:(l[i]==v)=false:=by simpa using fun e:l[i]=v=>h e.symm
    rw[h1,h2]
  simp only[b_slices_Index_int64_2,lt_i h,next_i h hl,idx_nat h,onSome,hc]
  rcases Bool.eq_false_or_eq_true (l[i]==v)with h1|h1<;>simp only[h1]<;>rfl)
 have e':loopL b_slices_Index_int64_2 (l,v,(l.length:Int),(0:Int),())=_:=e
 unfold slices_Contains_int64 slices_Index_int64
 rw[←firstI_any (fun u=>u==v) 0 l]
 simp only[e']
 cases firstI (fun u=>u==v) 0 l with
 |none=>rfl
 |some j=>
  have:decide ((j:Int)≥0)=true:=decide_eq_true (by omega)
  simp only[this,Option.isSome]
def modeAt(l:List TModeInfo.T)(i:Nat):Bool:=match l[i]? with
 |none=>false
 |some v=>inB v.1 1 8&&(inB v.2.1 1 16&&(risesB v.2.2.1 l.length&& !v.2.2.1.any (fun u=>u==(i:Int))))
def modesB(l:List TModeInfo.T):Bool:=inB (l.length:Int) 1 16&&(List.range l.length).all (modeAt l)
theorem s_modes(l:List TModeInfo.T)(hl:l.length≤1099511627776)(hn:∀v ∈ l,v.2.2.1.length≤1099511627776):s_IsModeTable (l,())=some (modesB l,()):=by
 have e:=allI_ok (B:=b_s_IsModeTable_4) l.length (fun i=>(l,(i:Int),())) (modeAt l) (.inl ()) (.inr (false,())) (by simp only[b_s_IsModeTable_4,lt_n]) (fun i h=>by
  have h1:=s_rises l[i].2.2.1 l.length (hn _ (List.getElem_mem h)) hl
  have h2:=s_hasI l[i].2.2.1 (i:Int) (hn _ (List.getElem_mem h))
  simp only[b_s_IsModeTable_4,lt_i h,next_i h hl,idx_nat h,onSome,s_in,h1,h2,modeAt,List.getElem?_eq_getElem h]
  rcases Bool.eq_false_or_eq_true (inB l[i].1 1 8)with g1|g1<;>simp only[g1,Bool.not_true,Bool.not_false,Bool.true_and,Bool.false_and]
  ·rcases Bool.eq_false_or_eq_true (inB l[i].2.1 1 16)with g2|g2<;>simp only[g2,Bool.not_true,Bool.not_false,Bool.true_and,Bool.false_and]
   ·rcases Bool.eq_false_or_eq_true (risesB l[i].2.2.1 l.length)with g3|g3<;>simp only[g3,Bool.not_true,Bool.not_false,Bool.true_and,Bool.false_and]
    ·rcases Bool.eq_false_or_eq_true (l[i].2.2.1.any (fun u=>u==(i:Int)))with g4|g4<;>simp only[g4]<;>rfl
    ·rfl
   ·rfl
  ·rfl)
 have e':loopL b_s_IsModeTable_4 (l,(0:Int),())=_:=e
 unfold s_IsModeTable modesB
 simp only[s_in,e']
 rcases Bool.eq_false_or_eq_true (inB (l.length:Int) 1 16)with h1|h1<;>simp only[h1]<;>rcases Bool.eq_false_or_eq_true ((List.range l.length).all (modeAt l))with h2|h2<;>simp only[h2]<;>rfl
theorem i_modes(l:List TModeInfo.T)(hl:l.length≤1099511627776)(hn:∀v ∈ l,v.2.2.1.length≤1099511627776):i_IsModeTable (l,())=some (modesB l,()):=by
 have e:=allI_ok (B:=b_i_IsModeTable_2) l.length (fun i=>(l,l,(l.length:Int),(i:Int),())) (modeAt l) (.inl (l,())) (.inr (false,())) (by simp only[b_i_IsModeTable_2,lt_n]) (fun i h=>by
  have h1:=i_rises l[i].2.2.1 l.length (hn _ (List.getElem_mem h)) hl
  have h2:=i_containsI l[i].2.2.1 (i:Int) (hn _ (List.getElem_mem h))
  simp only[b_i_IsModeTable_2,lt_i h,next_i h hl,idx_nat h,onSome,i_in,h1,h2,modeAt,List.getElem?_eq_getElem h]
  rcases Bool.eq_false_or_eq_true (inB l[i].1 1 8)with g1|g1<;>simp only[g1,Bool.not_true,Bool.not_false,Bool.true_and,Bool.false_and]
  ·rcases Bool.eq_false_or_eq_true (inB l[i].2.1 1 16)with g2|g2<;>simp only[g2,Bool.not_true,Bool.not_false,Bool.true_and,Bool.false_and]
   ·rcases Bool.eq_false_or_eq_true (risesB l[i].2.2.1 l.length)with g3|g3<;>simp only[g3,Bool.not_true,Bool.not_false,Bool.true_and,Bool.false_and]
    ·rcases Bool.eq_false_or_eq_true (l[i].2.2.1.any (fun u=>u==(i:Int)))with g4|g4<;>simp only[g4]<;>rfl
    ·rfl
   ·rfl
  ·rfl)
 have e':loopL b_i_IsModeTable_2 (l,l,(l.length:Int),(0:Int),())=_:=e
 unfold i_IsModeTable modesB inB
 simp only[e']
 rcases Bool.eq_false_or_eq_true ((List.range l.length).all (modeAt l))with h2|h2<;>simp only[h2,if_true,Bool.and_true,Bool.and_false]
 ·rcases Bool.eq_false_or_eq_true (decide ((l.length:Int)≥1))with h1|h1<;>simp only[h1]<;>rfl
 ·rfl
end Go.Proofs.YthfgmmmeplanbaaGreatDoor
namespace Go.Proofs.YthfgmmmeplanbaaGreatDoor
open Go.RowKit
set_option linter.unusedVariables false
set_option linter.unusedSimpArgs false
def bodyN(k n:Int):Int:=1+(if k != 0 then 8 else 0)+(if dataB k then 1+n else 0)
theorem i_bodyN(k n:Int)(h0:0≤n)(h1:n≤1000):i_bodySize (k,n,())=some (bodyN k n,()):=by
 have w1:IntKind.i64.wrap ((1:Int)+8)=9:=by decide
 have w2:IntKind.i64.wrap ((1:Int)+n)=1+n:=by rw[wrap_i64]<;>omega
 have w3:IntKind.i64.wrap (9+(1+n))=1+8+(1+n):=by rw[wrap_i64]<;>omega
 have w4:IntKind.i64.wrap (1+(1+n))=1+0+(1+n):=by rw[wrap_i64]<;>omega
 unfold i_bodySize bodyN
 simp only[i_hasState,i_data,w1,w2,w3,w4]
 rcases Bool.eq_false_or_eq_true (k != (0:Int))with h|h<;>rcases Bool.eq_false_or_eq_true (dataB k)with h2|h2<;>simp only[h,h2]<;>rfl
theorem s_bodyN(k n:Int)(h0:0≤n)(h1:n≤1000):s_l06BodySize (k,n,())=some (bodyN k n,()):=by
 have w1:IntKind.i64.wrap ((1:Int)+8)=9:=by decide
 have w2:IntKind.i64.wrap ((9:Int)+1)=10:=by decide
 have w5:IntKind.i64.wrap ((1:Int)+1)=2:=by decide
 have w3:IntKind.i64.wrap (10+n)=1+8+(1+n):=by rw[wrap_i64]<;>omega
 have w4:IntKind.i64.wrap (2+n)=1+0+(1+n):=by rw[wrap_i64]<;>omega
 unfold s_l06BodySize bodyN
 simp only[s_l06State,s_data,w1,w2,w3,w4,w5]
 rcases Bool.eq_false_or_eq_true (k != (0:Int))with h|h<;>rcases Bool.eq_false_or_eq_true (dataB k)with h2|h2<;>simp only[h,h2]<;>rfl
def cellsN(k n:Int):Int:=11+10*(bodyN k n+3)
theorem bodyN_in(k n:Int)(h0:0≤n)(h1:n≤1000):1≤bodyN k n∧bodyN k n≤1010:=by
 unfold bodyN
 split<;>split<;>omega
theorem cells_w(b:Int)(h:1≤b∧b≤1010):IntKind.i64.wrap (11+IntKind.i64.wrap (10*IntKind.i64.wrap (b+3)))=11+10*(b+3):=by
 rw[wrap_i64 (n:=b+3) (by omega) (by omega),wrap_i64 (n:=10*(b+3)) (by omega) (by omega),wrap_i64 (by omega) (by omega)]
theorem i_cells(k n:Int)(h0:0≤n)(h1:n≤1000):i_cellsNeeded (k,n,())=some (cellsN k n,()):=by
 unfold i_cellsNeeded cellsN
 simp only[i_bodyN k n h0 h1,cells_w _ (bodyN_in k n h0 h1)]
theorem s_cells(k n:Int)(h0:0≤n)(h1:n≤1000):s_l08Cells (k,n,())=some (cellsN k n,()):=by
 unfold s_l08Cells cellsN
 simp only[s_bodyN k n h0 h1,cells_w _ (bodyN_in k n h0 h1)]
theorem dsize_in {k n:Int}(h:dsizeB k n=true):0≤n∧n≤1000:=by
 unfold dsizeB at h
 split at h
 ·have:=in_iff.1 h;omega
 ·split at h
  ·have:=in_iff.1 h;omega
  ·have:n=0:=by simpa using h
   omega
def dscB(d:TDescriptor.T):Bool:=inB d.1 0 31&&(inB d.2.1 0 3&&(dsizeB d.2.1 d.2.2.1&&(!((d.2.1==(3:Int))&&d.2.2.2.2.1)&&inB d.2.2.2.1 (IntKind.i64.wrap (cellsN d.2.1 d.2.2.1+20)) 1000)))
theorem s_desc(x):s_IsDescriptor x=some (dscB x.1,()):=by
 obtain⟨⟨(a:Int),(k:Int),(n:Int),(t:Int),(c:Bool),u⟩,u'⟩:=x
 unfold s_IsDescriptor dscB
 simp only[s_node,s_kind,s_size,s_in]
 rcases Bool.eq_false_or_eq_true (inB a 0 31)with h1|h1<;>simp only[h1,Bool.not_true,Bool.not_false,Bool.true_and,Bool.false_and]
 rcases Bool.eq_false_or_eq_true (inB k 0 3)with h2|h2<;>simp only[h2,Bool.not_true,Bool.not_false,Bool.true_and,Bool.false_and]
 rcases Bool.eq_false_or_eq_true (dsizeB k n)with h3|h3<;>simp only[h3,Bool.not_true,Bool.not_false,Bool.true_and,Bool.false_and]
 have hn:=dsize_in h3
 simp only[s_cells k n hn.1 hn.2]
 rcases Bool.eq_false_or_eq_true (k==(3:Int))with h4|h4<;>cases c<;>simp only[h4]<;>rfl
theorem i_desc(x):i_IsDescriptor x=some (dscB x.1,()):=by
 obtain⟨⟨(a:Int),(k:Int),(n:Int),(t:Int),(c:Bool),u⟩,u'⟩:=x
 unfold i_IsDescriptor dscB
 simp only[i_node,i_kind,i_size,i_in]
 rcases Bool.eq_false_or_eq_true (inB a 0 31)with h1|h1<;>simp only[h1,Bool.not_true,Bool.not_false,Bool.true_and,Bool.false_and]
 rcases Bool.eq_false_or_eq_true (inB k 0 3)with h2|h2<;>simp only[h2,Bool.not_true,Bool.not_false,Bool.true_and,Bool.false_and]
 rcases Bool.eq_false_or_eq_true (dsizeB k n)with h3|h3<;>simp only[h3,Bool.not_true,Bool.not_false,Bool.true_and,Bool.false_and]
 have hn:=dsize_in h3
 simp only[i_cells k n hn.1 hn.2]
 rcases Bool.eq_false_or_eq_true (k==(3:Int))with h4|h4<;>cases c<;>simp only[h4]<;>rfl
def slotB(v:TSlotInfo.T):Bool:=inB v.1 0 15&&(inB v.2.1 0 7&&(inB v.2.2.1 0 15&&dscB v.2.2.2.1))
theorem s_slot(x):s_l12Is x=some (slotB x.1,()):=by
 have hd:s_IsDescriptor ((x.1.2.2.2.1.1,x.1.2.2.2.1.2.1,x.1.2.2.2.1.2.2.1,x.1.2.2.2.1.2.2.2.1,x.1.2.2.2.1.2.2.2.2.1,()),())=some (dscB x.1.2.2.2.1,()):=s_desc (x.1.2.2.2.1,())
 unfold s_l12Is slotB
 simp only[s_in,hd]
 rcases Bool.eq_false_or_eq_true (inB x.1.1 0 15)with h1|h1<;>rcases Bool.eq_false_or_eq_true (inB x.1.2.1 0 7)with h2|h2<;>rcases Bool.eq_false_or_eq_true (inB x.1.2.2.1 0 15)with h3|h3<;>simp only[h1,h2,h3]<;>rfl
theorem i_slot(x):i_isSlotInfo x=some (slotB x.1,()):=by
 have hd:i_IsDescriptor ((x.1.2.2.2.1.1,x.1.2.2.2.1.2.1,x.1.2.2.2.1.2.2.1,x.1.2.2.2.1.2.2.2.1,x.1.2.2.2.1.2.2.2.2.1,()),())=some (dscB x.1.2.2.2.1,()):=i_desc (x.1.2.2.2.1,())
 unfold i_isSlotInfo slotB
 simp only[i_in,hd]
 rcases Bool.eq_false_or_eq_true (inB x.1.1 0 15)with h1|h1<;>rcases Bool.eq_false_or_eq_true (inB x.1.2.1 0 7)with h2|h2<;>rcases Bool.eq_false_or_eq_true (inB x.1.2.2.1 0 15)with h3|h3<;>simp only[h1,h2,h3]<;>rfl
def cmpI(a b:Int):Int:=if a<b then -1 else if a>b then 1 else 0
def cmpS(u v:TSlotInfo.T):Int:=if u.1=v.1 then(if u.2.1=v.2.1 then cmpI u.2.2.1 v.2.2.1 else cmpI u.2.1 v.2.1)else cmpI u.1 v.1
theorem i_cmp(x):i_compare x=some (cmpI x.1 x.2.1,()):=by
 obtain⟨(a:Int),(b:Int),u⟩:=x
 unfold i_compare cmpI
 by_cases h1:a<b
 ·simp only[decide_eq_true h1,if_pos h1]
 ·by_cases h2:a>b
  ·simp only[decide_eq_false h1,decide_eq_true h2,if_neg h1,if_pos h2]
  ·simp only[decide_eq_false h1,decide_eq_false h2,if_neg h1,if_neg h2]
theorem i_cmpS(x):i_CompareSlots x=some (cmpS x.1 x.2.1,()):=by
 obtain⟨u,v,w⟩:=x
 unfold i_CompareSlots cmpS
 simp only[i_cmp]
 by_cases h1:u.1=v.1
 ·have g1:(u.1 != v.1)=false:=by rw[h1];exact bne_self_i _
  simp only[g1,if_pos h1]
  by_cases h2:u.2.1=v.2.1
  ·have g2:(u.2.1 != v.2.1)=false:=by rw[h2];exact bne_self_i _
   simp only[g2,if_pos h2]
  ·have g2:(u.2.1 != v.2.1)=true:=by simpa using h2
   simp only[g2,if_neg h2]
 ·have g1:(u.1 != v.1)=true:=by simpa using h1
  simp only[g1,if_neg h1]
theorem cmp_step(l m:List Int)(i:Nat)(hl:i<l.length)(hm:i<m.length)(h3:i<3):b_s_CompareSlots_3 (l,m,(i:Int),())=if l[i]<m[i]then some (.inr (.inr ((-1:Int),())))else if l[i]>m[i]then some (.inr (.inr ((1:Int),())))else some (.inl (l,m,((i+1:Nat):Int),())):=by
 have hd:decide ((i:Int)<3)=true:=decide_eq_true (by omega)
 simp only[b_s_CompareSlots_3,hd,idx_nat hl,idx_nat hm,onSome,Int.toNat_natCast,List.getElem?_eq_getElem hl,List.getElem?_eq_getElem hm,next_i h3 (by omega)]
 by_cases h1:l[i]<m[i]
 ·simp only[if_pos h1,decide_eq_true h1]
 ·by_cases h2:l[i]>m[i]
  ·simp only[if_neg h1,if_pos h2,decide_eq_false h1,decide_eq_true h2]
  ·simp only[if_neg h1,if_neg h2,decide_eq_false h1,decide_eq_false h2]
theorem s_cmpS(x):s_CompareSlots x=some (cmpS x.1 x.2.1,()):=by
 obtain⟨⟨(a:Int),(b:Int),(c:Int),d⟩,⟨(a':Int),(b':Int),(c':Int),d'⟩,w⟩:=x
 have e0:=cmp_step [a,b,c] [a',b',c'] 0 (by simp) (by simp) (by omega)
 have e1:=cmp_step [a,b,c] [a',b',c'] 1 (by simp) (by simp) (by omega)
 have e2:=cmp_step [a,b,c] [a',b',c'] 2 (by simp) (by simp) (by omega)
 have e3:b_s_CompareSlots_3 ([a,b,c],[a',b',c'],((3:Nat):Int),())=some (.inr (.inl ())):=rfl
 have e0:b_s_CompareSlots_3 ([a,b,c],[a',b',c'],(0:Int),())=if a<a' then some (.inr (.inr ((-1:Int),())))else if a>a' then some (.inr (.inr ((1:Int),())))else some (.inl ([a,b,c],[a',b',c'],((1:Nat):Int),())):=e0
 have e1:b_s_CompareSlots_3 ([a,b,c],[a',b',c'],((1:Nat):Int),())=if b<b' then some (.inr (.inr ((-1:Int),())))else if b>b' then some (.inr (.inr ((1:Int),())))else some (.inl ([a,b,c],[a',b',c'],((2:Nat):Int),())):=e1
 have e2:b_s_CompareSlots_3 ([a,b,c],[a',b',c'],((2:Nat):Int),())=if c<c' then some (.inr (.inr ((-1:Int),())))else if c>c' then some (.inr (.inr ((1:Int),())))else some (.inl ([a,b,c],[a',b',c'],((3:Nat):Int),())):=e2
 have hL:loopL b_s_CompareSlots_3 ([a,b,c],[a',b',c'],(0:Int),())=some (if cmpS (a,b,c,d) (a',b',c',d')=0 then .inl ()else .inr (cmpS (a,b,c,d) (a',b',c',d'),())):=by
  unfold cmpS cmpI
  rw[loopL_eq,e0]
  by_cases h1:a<a'
  ·simp[h1,Int.ne_of_lt h1]
  ·by_cases h2:a>a'
   ·have:¬a=a':=by omega
    simp[h1,h2,this]
   ·have:a=a':=by omega
    simp only[if_neg h1,if_neg h2,if_pos this]
    rw[loopL_eq,e1]
    by_cases h1:b<b'
    ·simp[h1,Int.ne_of_lt h1]
    ·by_cases h2:b>b'
     ·have:¬b=b':=by omega
      simp[h1,h2,this]
     ·have:b=b':=by omega
      simp only[if_neg h1,if_neg h2,if_pos this]
      rw[loopL_eq,e2]
      by_cases h1:c<c'
      ·simp[h1]
      ·by_cases h2:c>c'
       ·simp[h1,h2]
       ·simp only[if_neg h1,if_neg h2]
        rw[loopL_eq,e3]
        simp
 unfold s_CompareSlots
 simp only[hL,both_same]
 by_cases h:cmpS (a,b,c,d) (a',b',c',d')=0
 ·simp only[h,if_true]
 ·simp only[if_neg h]
def slotAt(l:List TSlotInfo.T)(i:Nat):Bool:=match l[i]? with
 |none=>false
 |some v=>slotB v&&(match i with
  |0=>true
  |k+1=>match l[k]? with
   |none=>false
   |some u=> !decide (cmpS u v≥0))
def slotsB(l:List TSlotInfo.T):Bool:= !decide ((l.length:Int)>120)&&(List.range l.length).all (slotAt l)
theorem s_slots(l:List TSlotInfo.T)(hl:l.length≤1099511627776):s_IsSlotTable (l,())=some (slotsB l,()):=by
 have e:=allI_ok (B:=b_s_IsSlotTable_4) l.length (fun i=>(l,(i:Int),())) (slotAt l) (.inl ()) (.inr (false,())) (by simp only[b_s_IsSlotTable_4,lt_n]) (fun i h=>by
  simp only[b_s_IsSlotTable_4,lt_i h,next_i h hl,idx_nat h,onSome,s_slot,slotAt,List.getElem?_eq_getElem h]
  rcases Bool.eq_false_or_eq_true (slotB l[i])with h1|h1<;>simp only[h1,Bool.not_true,Bool.not_false,Bool.true_and,Bool.false_and]
  ·cases i with
   |zero=>rfl
   |succ k=>
    have hk:k<l.length:=by omega
    simp only[pos_s,prev_i (show k+1≤1099511627776 by omega),idx_nat hk,List.getElem?_eq_getElem hk,s_cmpS]
    rcases Bool.eq_false_or_eq_true (decide (cmpS l[k] l[k+1]≥0))with h2|h2<;>simp only[h2]<;>rfl
  ·rfl)
 have e':loopL b_s_IsSlotTable_4 (l,(0:Int),())=_:=e
 unfold s_IsSlotTable slotsB
 simp only[e']
 rcases Bool.eq_false_or_eq_true (decide ((l.length:Int)>120))with h1|h1<;>simp only[h1]<;>rcases Bool.eq_false_or_eq_true ((List.range l.length).all (slotAt l))with h2|h2<;>simp only[h2]<;>rfl
theorem i_slots(l:List TSlotInfo.T)(hl:l.length≤1099511627776):i_IsSlotTable (l,())=some (slotsB l,()):=by
 have e:=allI_ok (B:=b_i_IsSlotTable_2) l.length (fun i=>(l,l,(l.length:Int),(i:Int),())) (slotAt l) (.inl (l,())) (.inr (false,())) (by simp only[b_i_IsSlotTable_2,lt_n]) (fun i h=>by
  have hv:i_isSlotInfo ((l[i].1,l[i].2.1,l[i].2.2.1,(l[i].2.2.2.1.1,l[i].2.2.2.1.2.1,l[i].2.2.2.1.2.2.1,l[i].2.2.2.1.2.2.2.1,l[i].2.2.2.1.2.2.2.2.1,()),()),())=some (slotB l[i],()):=i_slot (l[i],())
  simp only[b_i_IsSlotTable_2,lt_i h,next_i h hl,idx_nat h,onSome,hv,slotAt,List.getElem?_eq_getElem h]
  rcases Bool.eq_false_or_eq_true (slotB l[i])with h1|h1<;>simp only[h1,Bool.not_true,Bool.not_false,Bool.true_and,Bool.false_and]
  ·cases i with
   |zero=>rfl
   |succ k=>
    have hk:k<l.length:=by omega
    have hc:i_CompareSlots (l[k],(l[k+1].1,l[k+1].2.1,l[k+1].2.2.1,(l[k+1].2.2.2.1.1,l[k+1].2.2.2.1.2.1,l[k+1].2.2.2.1.2.2.1,l[k+1].2.2.2.1.2.2.2.1,l[k+1].2.2.2.1.2.2.2.2.1,()),()),())=some (cmpS l[k] l[k+1],()):=i_cmpS (l[k],l[k+1],())
    simp only[pos_s,prev_i (show k+1≤1099511627776 by omega),idx_nat hk,List.getElem?_eq_getElem hk,hc]
    rcases Bool.eq_false_or_eq_true (decide (cmpS l[k] l[k+1]≥0))with h2|h2<;>simp only[h2]<;>rfl
  ·rfl)
 have e':loopL b_i_IsSlotTable_2 (l,l,(l.length:Int),(0:Int),())=_:=e
 have hn:decide ((l.length:Int)≤120)= !decide ((l.length:Int)>120):=by
  by_cases h:(l.length:Int)≤120
  ·rw[decide_eq_true h,decide_eq_false (by omega)];rfl
  ·rw[decide_eq_false h,decide_eq_true (by omega)];rfl
 unfold i_IsSlotTable slotsB
 simp only[e']
 rcases Bool.eq_false_or_eq_true ((List.range l.length).all (slotAt l))with h2|h2<;>simp only[h2,if_true,Bool.and_true,Bool.and_false,hn]
 rfl
end Go.Proofs.YthfgmmmeplanbaaGreatDoor
namespace Go.Proofs.YthfgmmmeplanbaaGreatDoor
open Go.RowKit
set_option linter.unusedVariables false
set_option linter.unusedSimpArgs false
def keyK(i r s:Int):Int:=(i*8+r)*16+s
def keyS(v:TSlotInfo.T):Int:=keyK v.1 v.2.1 v.2.2.1
def inK(v:TSlotInfo.T):Prop:=(0≤v.1∧v.1≤15)∧(0≤v.2.1∧v.2.1≤7)∧(0≤v.2.2.1∧v.2.2.1≤15)
theorem slot_in {v:TSlotInfo.T}(h:slotB v=true):inK v:=by
 unfold slotB at h
 simp only[Bool.and_eq_true,in_iff]at h
 exact⟨h.1,h.2.1,h.2.2.1⟩
def cmp6(a b c a' b' c':Int):Int:=if a=a' then(if b=b' then cmpI c c' else cmpI b b')else cmpI a a'
theorem cmpI_c(a b:Int):(a<b∧cmpI a b= -1)∨(a=b∧cmpI a b=0)∨(b<a∧cmpI a b=1):=by
 unfold cmpI
 by_cases h1:a<b
 ·exact .inl ⟨h1,if_pos h1⟩
 ·by_cases h2:a>b
  ·exact .inr (.inr ⟨h2,by rw[if_neg h1,if_pos h2]⟩)
  ·exact .inr (.inl ⟨by omega,by rw[if_neg h1,if_neg h2]⟩)
theorem cmp6_ok(a b c a' b' c':Int)(hb:0≤b∧b≤7)(hc:0≤c∧c≤15)(hb':0≤b'∧b'≤7)(hc':0≤c'∧c'≤15):
  (cmp6 a b c a' b' c'=0↔keyK a b c=keyK a' b' c')∧(¬cmp6 a b c a' b' c'≥0→keyK a b c<keyK a' b' c'):=by
 unfold cmp6 keyK
 by_cases h1:a=a'
 ·rw[if_pos h1]
  by_cases h2:b=b'
  ·rw[if_pos h2]
   rcases cmpI_c c c' with⟨h,e⟩|⟨h,e⟩|⟨h,e⟩<;>rw[e]<;>omega
  ·rw[if_neg h2]
   rcases cmpI_c b b' with⟨h,e⟩|⟨h,e⟩|⟨h,e⟩<;>rw[e]<;>omega
 ·rw[if_neg h1]
  rcases cmpI_c a a' with⟨h,e⟩|⟨h,e⟩|⟨h,e⟩<;>rw[e]<;>omega
theorem cmp_zero {u v:TSlotInfo.T}(hu:inK u)(hv:inK v):cmpS u v=0↔keyS u=keyS v:=
 (cmp6_ok u.1 u.2.1 u.2.2.1 v.1 v.2.1 v.2.2.1 hu.2.1 hu.2.2 hv.2.1 hv.2.2).1
theorem cmp_lt {u v:TSlotInfo.T}(hu:inK u)(hv:inK v)(h:¬cmpS u v≥0):keyS u<keyS v:=
 (cmp6_ok u.1 u.2.1 u.2.2.1 v.1 v.2.1 v.2.2.1 hu.2.1 hu.2.2 hv.2.1 hv.2.2).2 h
theorem slots_mem {l:List TSlotInfo.T}(h:slotsB l=true):∀v ∈ l,slotB v=true:=by
 intro v hv
 unfold slotsB at h
 rw[Bool.and_eq_true,List.all_eq_true]at h
 obtain⟨i,hi,rfl⟩:=List.getElem_of_mem hv
 have:=h.2 i (by simpa using hi)
 unfold slotAt at this
 simp only[List.getElem?_eq_getElem hi,Bool.and_eq_true]at this
 exact this.1
theorem slots_len {l:List TSlotInfo.T}(h:slotsB l=true):l.length≤120:=by
 unfold slotsB at h
 rw[Bool.and_eq_true]at h
 have:=h.1
 simp at this
 omega
theorem slots_next {l:List TSlotInfo.T}(h:slotsB l=true)(k:Nat)(hk:k+1<l.length):keyS l[k]<keyS l[k+1]:=by
 have hm:=slots_mem h
 unfold slotsB at h
 rw[Bool.and_eq_true,List.all_eq_true]at h
 have:=h.2 (k+1) (by simpa using hk)
 unfold slotAt at this
 simp only[List.getElem?_eq_getElem hk,List.getElem?_eq_getElem (show k<l.length by omega),Bool.and_eq_true]at this
 refine cmp_lt (slot_in (hm _ (List.getElem_mem _))) (slot_in (hm _ (List.getElem_mem _))) ?_
 simpa using this.2
theorem slots_lt {l:List TSlotInfo.T}(h:slotsB l=true):∀(d i:Nat) (hd:i+d+1<l.length),keyS l[i]<keyS l[i+d+1]
 |0,i,hd=>slots_next h i hd
 |d+1,i,hd=>Int.lt_trans (slots_lt h d i (by omega)) (slots_next h (i+d+1) hd)
theorem slots_sorted {l:List TSlotInfo.T}(h:slotsB l=true):(l.map keyS).Pairwise (· < ·):=by
 rw[List.pairwise_iff_getElem]
 intro i j hi hj hij
 rw[List.length_map]at hi hj
 obtain⟨d,rfl⟩:∃d,j=i+d+1:=⟨j-i-1,by omega⟩
 rw[List.getElem_map,List.getElem_map]
 exact slots_lt h d i hj
def rowE(i R S:Nat):List Int:=(List.range R).flatMap fun(r:Nat)=>(List.range S).map fun(s:Nat)=>keyK (i:Int) (r:Int) (s:Int)
def expE:Nat→List TModeInfo.T→List Int
 |_,[]=>[]
 |i,m::ms=>rowE i m.1.toNat m.2.1.toNat++expE (i+1) ms
theorem rowE_eq(i S:Nat)(hS:0<S):∀R,rowE i R S=(List.range (R*S)).map fun(q:Nat)=>keyK (i:Int) ((q / S:Nat):Int) ((q % S:Nat):Int)
 |0=>by simp[rowE]
 |R+1=>by
  have ih:=rowE_eq i S hS R
  unfold rowE at ih ⊢
  rw[List.range_succ,List.flatMap_append,ih,Nat.add_mul,Nat.one_mul,List.range_add,List.map_append,List.map_map]
  congr 1
  rw[List.flatMap_cons,List.flatMap_nil,List.append_nil]
  apply List.map_congr_left
  intro s hs
  have hs:s<S:=by simpa using hs
  have h1:(R*S+s) / S=R:=by rw[Nat.mul_comm,Nat.mul_add_div hS,Nat.div_eq_of_lt hs,Nat.add_zero]
  have h2:(R*S+s) % S=s:=by rw[Nat.mul_comm,Nat.mul_add_mod,Nat.mod_eq_of_lt hs]
  simp only[Function.comp,h1,h2]
theorem rowE_len(i R S:Nat)(hS:0<S):(rowE i R S).length=R*S:=by rw[rowE_eq i S hS,List.length_map,List.length_range]
theorem rowE_in {i R S:Nat}(hR:R≤8)(hS:S≤16):∀k ∈ rowE i R S,(i:Int)*128≤k∧k<((i:Int)+1)*128:=by
 intro k hk
 simp only[rowE,List.mem_flatMap,List.mem_map,List.mem_range]at hk
 obtain⟨r,hr,s,hs,rfl⟩:=hk
 unfold keyK
 omega
theorem rowE_sorted {i R S:Nat}(hS:S≤16):(rowE i R S).Pairwise (· < ·):=by
 unfold rowE
 rw[List.pairwise_flatMap]
 constructor
 ·intro r hr
  rw[List.pairwise_map]
  exact List.Pairwise.imp (fun {a b} h=>by unfold keyK;omega) List.pairwise_lt_range
 ·refine List.Pairwise.imp (fun {a b} h x hx y hy=> ?_) List.pairwise_lt_range
  simp only[List.mem_map,List.mem_range]at hx hy
  obtain⟨s,hs,rfl⟩:=hx
  obtain⟨t,ht,rfl⟩:=hy
  unfold keyK
  omega
def goodM(m:TModeInfo.T):Prop:=(1≤m.1∧m.1≤8)∧(1≤m.2.1∧m.2.1≤16)
theorem good_nat {m:TModeInfo.T}(h:goodM m):(1≤m.1.toNat∧m.1.toNat≤8)∧(1≤m.2.1.toNat∧m.2.1.toNat≤16)∧(m.1=((m.1.toNat:Nat):Int)∧m.2.1=((m.2.1.toNat:Nat):Int)):=by
 obtain⟨(a:Int),(b:Int),c⟩:=m
 obtain⟨⟨h1,h2⟩,h3,h4⟩:=h
 have h1:(1:Int)≤a:=h1
 have h2:a≤(8:Int):=h2
 have h3:(1:Int)≤b:=h3
 have h4:b≤(16:Int):=h4
 exact⟨⟨by show 1≤a.toNat;omega,by show a.toNat≤8;omega⟩,⟨by show 1≤b.toNat;omega,by show b.toNat≤16;omega⟩,(Int.toNat_of_nonneg (show(0:Int)≤a by omega)).symm,(Int.toNat_of_nonneg (show(0:Int)≤b by omega)).symm⟩
theorem expE_in:∀(ms:List TModeInfo.T) (i:Nat),(∀m ∈ ms,goodM m)→∀k ∈ expE i ms,(i:Int)*128≤k
 | [],i,_,k,hk=>by simp[expE]at hk
 |m::ms,i,h,k,hk=>by
  simp only[expE,List.mem_append]at hk
  have hm:=good_nat (h m (by simp))
  rcases hk with hk|hk
  ·exact(rowE_in (by omega) (by omega) k hk).1
  ·have:=expE_in ms (i+1) (fun m hm=>h m (by simp[hm])) k hk
   omega
theorem expE_sorted:∀(ms:List TModeInfo.T) (i:Nat),(∀m ∈ ms,goodM m)→(expE i ms).Pairwise (· < ·)
 | [],i,_=>List.Pairwise.nil
 |m::ms,i,h=>by
  have hm:=good_nat (h m (by simp))
  simp only[expE]
  rw[List.pairwise_append]
  refine⟨rowE_sorted (by omega),expE_sorted ms (i+1) (fun m hm=>h m (by simp[hm])),fun a ha b hb=> ?_⟩
  have h1:=rowE_in (R:=m.1.toNat) (S:=m.2.1.toNat) (by omega) (by omega) a ha
  have h2:=expE_in ms (i+1) (fun m hm=>h m (by simp[hm])) b hb
  omega
theorem sub_eq:∀(K E:List Int),K.Pairwise (· < ·)→E.Pairwise (· < ·)→(∀x ∈ E,x ∈ K)→E.length≤K.length∧(E.length=K.length→K=E)
 | [],[],_,_,_=>⟨Nat.le_refl _,fun _=>rfl⟩
 | [],e::E,_,_,h=>absurd (h e (by simp)) (by simp)
 |k::K,[],_,_,_=>⟨by simp,fun h=>by simp at h⟩
 |k::K,e::E,hK,hE,h=>by
  rw[List.pairwise_cons]at hK hE
  by_cases he:e=k
  ·subst he
   have:=sub_eq K E hK.2 hE.2 (fun x hx=>by
    have h1:=h x (by simp[hx])
    have h2:=hE.1 x hx
    rw[List.mem_cons]at h1
    rcases h1 with h1|h1
    ·omega
    ·exact h1)
   refine⟨by simp;exact this.1,fun hl=> ?_⟩
   rw[this.2 (by simpa using hl)]
  ·have hek:k<e:=by
    have h1:=h e (by simp)
    rw[List.mem_cons]at h1
    rcases h1 with h1|h1
    ·exact absurd h1 he
    ·exact hK.1 e h1
   have:=sub_eq K (e::E) hK.2 (List.pairwise_cons.2 hE) (fun x hx=>by
    have h1:=h x hx
    rw[List.mem_cons]at h1
    rcases h1 with h1|h1
    ·rw[List.mem_cons]at hx
     rcases hx with hx|hx
     ·omega
     ·have:=hE.1 x hx
      omega
    ·exact h1)
   refine⟨by simp at this ⊢;omega,fun hl=> ?_⟩
   have h1:=this.1
   simp at h1 hl
   omega
theorem sub_dec(K E:List Int)(hK:K.Pairwise (· < ·))(hE:E.Pairwise (· < ·)):decide (K=E)=(E.all (fun x=>decide (x ∈ K))&&decide (E.length=K.length)):=by
 by_cases h:K=E
 ·subst h
  rw[decide_eq_true rfl,decide_eq_true rfl]
  simp
 ·rw[decide_eq_false h]
  by_cases h1:E.all (fun x=>decide (x ∈ K))=true
  ·have h2:∀x ∈ E,x ∈ K:=fun x hx=>by
    have:=List.all_eq_true.1 h1 x hx
    simpa using this
   have h3:=(sub_eq K E hK hE h2).2
   have h4:¬E.length=K.length:=fun e=>h (h3 e)
   rw[decide_eq_false h4,Bool.and_false]
  ·rw[Bool.eq_false_iff.2 h1,Bool.false_and]
end Go.Proofs.YthfgmmmeplanbaaGreatDoor
namespace Go.Proofs.YthfgmmmeplanbaaGreatDoor
open Go.RowKit
set_option linter.unusedVariables false
set_option linter.unusedSimpArgs false
theorem modes_good {l:List TModeInfo.T}(h:modesB l=true):l.length≤16∧∀m ∈ l,goodM m:=by
 unfold modesB at h
 rw[Bool.and_eq_true,List.all_eq_true]at h
 refine⟨by have:=(in_iff.1 h.1).2;omega,fun m hm=> ?_⟩
 obtain⟨i,hi,rfl⟩:=List.getElem_of_mem hm
 have:=h.2 i (by simpa using hi)
 unfold modeAt at this
 simp only[List.getElem?_eq_getElem hi,Bool.and_eq_true,in_iff]at this
 exact⟨this.1,this.2.1⟩
def hitB(a b c:Int)(v:TSlotInfo.T):Bool:=(v.1==a)&&((v.2.1==b)&&(v.2.2.1==c))
def findL(l:List TSlotInfo.T)(a b c:Int):Int:=match firstI (hitB a b c) 0 l with
 |none=>-1
 |some j=>(j:Int)
theorem s_findL(l:List TSlotInfo.T)(a b c:Int)(hl:l.length≤1099511627776):s_l12Find (l,a,b,c,())=some (findL l a b c,()):=by
 have e:=first_ok (B:=b_s_l12Find_2) l (fun i=>(l,a,b,c,(i:Int),())) (hitB a b c) (.inl ()) (fun j=>.inr ((j:Int),())) (by simp only[b_s_l12Find_2,lt_n]) (fun i h=>by
  simp only[b_s_l12Find_2,lt_i h,next_i h hl,idx_nat h,onSome,hitB]
  rcases Bool.eq_false_or_eq_true (l[i].1==a)with h1|h1<;>rcases Bool.eq_false_or_eq_true (l[i].2.1==b)with h2|h2<;>rcases Bool.eq_false_or_eq_true (l[i].2.2.1==c)with h3|h3<;>simp only[h1,h2,h3]<;>rfl)
 have e':loopL b_s_l12Find_2 (l,a,b,c,(0:Int),())=_:=e
 unfold s_l12Find findL
 simp only[e']
 cases firstI (hitB a b c) 0 l<;>rfl
theorem i_findL(l:List TSlotInfo.T)(a b c:Int)(hl:l.length≤1099511627776):i_findSlot (l,a,b,c,())=some (findL l a b c,()):=by
 have e:=index_SlotInfo l hl (fun z=>i_findSlot_1 (z.1,a,b,c,())) (hitB a b c) (fun i h=>by
  unfold i_findSlot_1 hitB
  rcases Bool.eq_false_or_eq_true (l[i].1==a)with h1|h1<;>rcases Bool.eq_false_or_eq_true (l[i].2.1==b)with h2|h2<;>rcases Bool.eq_false_or_eq_true (l[i].2.2.1==c)with h3|h3<;>simp only[h1,h2,h3]<;>rfl)
 unfold i_findSlot findL
 simp only[e]
 cases firstI (hitB a b c) 0 l<;>rfl
theorem hit_key {a b c:Int}{v:TSlotInfo.T}(hv:inK v)(hb:0≤b∧b≤7)(hc:0≤c∧c≤15):hitB a b c v=true↔keyS v=keyK a b c:=by
 obtain⟨(a':Int),(b':Int),(c':Int),d⟩:=v
 have h2:0≤b'∧b'≤7:=hv.2.1
 have h3:0≤c'∧c'≤15:=hv.2.2
 unfold hitB keyS keyK
 simp only[Bool.and_eq_true,beq_iff_eq]
 constructor
 ·rintro ⟨h1,h2,h3⟩
  have h1:a'=a:=h1
  have h2:b'=b:=h2
  have h3:c'=c:=h3
  rw[h1,h2,h3]
 ·intro h
  have h1:a'=a:=by omega
  have h2:b'=b:=by omega
  have h3:c'=c:=by omega
  exact⟨h1,h2,h3⟩
theorem find_neg {l:List TSlotInfo.T}(hl:∀v ∈ l,inK v){a b c:Int}(hb:0≤b∧b≤7)(hc:0≤c∧c≤15):decide (findL l a b c<0)= !decide (keyK a b c ∈ l.map keyS):=by
 have h:=firstI_any (hitB a b c) 0 l
 have e:l.any (hitB a b c)=decide (keyK a b c ∈ l.map keyS):=by
  by_cases hm:keyK a b c ∈ l.map keyS
  ·rw[decide_eq_true hm,List.any_eq_true]
   obtain⟨v,hv,e⟩:=List.mem_map.1 hm
   exact⟨v,hv,(hit_key (hl v hv) hb hc).2 e⟩
  ·rw[decide_eq_false hm,Bool.eq_false_iff]
   intro h
   obtain⟨v,hv,e⟩:=List.any_eq_true.1 h
   exact hm (List.mem_map.2 ⟨v,hv,(hit_key (hl v hv) hb hc).1 e⟩)
 rw[←e,←h]
 unfold findL
 cases firstI (hitB a b c) 0 l with
 |none=>rfl
 |some j=>simp
def outC(o:(Ty.pair (.box TMedl) (.pair (.int .i64) .unit)).T ⊕ (Ty.pair .bool .unit).T):Bool:=match o with
 | .inl v=>v.2.1==(v.1.2.2.2.1.length:Int)
 | .inr v=>v.1
theorem i_row(m:TMedl.T)(hs:slotsB m.2.2.2.1=true)(i R S:Nat)(hi:i≤15)(hR:R≤8)(hS:1≤S∧S≤16)(sw:List Int)(ms:List TModeInfo.T)(N:Int):
  ∀(n k j:Nat),k+n=R*S→j≤m.2.2.2.1.length→loopL b_i_isComplete_6 (m,(j:Int),(i:Int),((R:Int),(S:Int),sw,()),ms,N,(i:Int),((R*S:Nat):Int),(k:Int),())=some (if((m.2.2.2.1.map keyS).drop j).take n=(List.range' k n).map (fun(q:Nat)=>keyK (i:Int) ((q / S:Nat):Int) ((q % S:Nat):Int))then .inl (m,((j+n:Nat):Int),ms,N,(i:Int),())else .inr (false,())):=by
 have hRS:R*S≤128:=Nat.le_trans (Nat.mul_le_mul hR hS.2) (by omega)
 have hlen:=slots_len hs
 have hmem:=slots_mem hs
 intro n
 induction n with
 |zero=>
  intro k j hk hj
  have hk:k=R*S:=by omega
  subst hk
  rw[loopL_eq]
  simp only[b_i_isComplete_6,lt_n]
  simp
 |succ n ih=>
  intro k j hk hj
  have hkT:k<R*S:=by omega
  have hS0:¬((S:Int)=0):=by omega
  have d1:IntKind.i64.wrap (Int.tdiv (k:Int) (S:Int))=((k / S:Nat):Int):=by
   rw[Int.tdiv_eq_ediv_of_nonneg (by omega),←Int.natCast_ediv]
   have:k / S≤k:=Nat.div_le_self _ _
   generalize k / S=q at this ⊢
   rw[wrap_i64]<;>omega
  have d2:Int.tmod (k:Int) (S:Int)=((k % S:Nat):Int):=by
   rw[Int.tmod_eq_emod_of_nonneg (by omega),←Int.natCast_emod]
  have hq1:k / S<R:=(Nat.div_lt_iff_lt_mul (by omega)).2 (by omega)
  have hq2:k % S<S:=Nat.mod_lt _ (by omega)
  have q7:k / S≤7:=Nat.le_of_lt_succ (Nat.lt_of_lt_of_le hq1 hR)
  have q15:k % S≤15:=Nat.le_of_lt_succ (Nat.lt_of_lt_of_le hq2 hS.2)
  by_cases hjl:j=m.2.2.2.1.length
  ·subst hjl
   have e1:((m.2.2.2.1.length:Int)==(m.2.2.2.1.length:Int))=true:=by simp
   rw[loopL_eq]
   simp only[b_i_isComplete_6,lt_i hkT,e1]
   rw[if_neg]
   rw[List.drop_of_length_le (by simp)]
   simp[List.range'_succ]
  ·have hjl:j<m.2.2.2.1.length:=by omega
   have e1:((j:Int)==(m.2.2.2.1.length:Int))=false:=by rw[beq_eq_false_iff_ne];omega
   have hin:=slot_in (hmem _ (List.getElem_mem hjl))
   have hz:=cmp_zero (u:=m.2.2.2.1[j]) (v:=((i:Int),((k / S:Nat):Int),((k % S:Nat):Int),((0:Int),(0:Int),(0:Int),(0:Int),false,()),())) hin ⟨⟨by show(0:Int)≤(i:Int);omega,by show(i:Int)≤15;omega⟩,⟨Int.natCast_nonneg (k / S),Int.ofNat_le.2 q7⟩,Int.natCast_nonneg (k % S),Int.ofNat_le.2 q15⟩
   have hK:(m.2.2.2.1.map keyS).drop j=keyS m.2.2.2.1[j]::(m.2.2.2.1.map keyS).drop (j+1):=by
    rw[List.drop_eq_getElem_cons (by simpa using hjl),List.getElem_map]
   have hkey:keyS ((i:Int),((k / S:Nat):Int),((k % S:Nat):Int),((0:Int),(0:Int),(0:Int),(0:Int),false,()),())=keyK (i:Int) ((k / S:Nat):Int) ((k % S:Nat):Int):=rfl
   rw[hkey]at hz
   have hih:=ih (k+1) (j+1) (by omega) (by omega)
   rw[hK,List.take_succ_cons,List.range'_succ,List.map_cons,loopL_eq]
   simp only[b_i_isComplete_6,lt_i hkT,e1,idx_nat hjl,onSome,hS0,if_false,d1,d2,i_cmpS,next_i hkT (by omega),next_i hjl (by omega)]
   by_cases hc:cmpS m.2.2.2.1[j] ((i:Int),((k / S:Nat):Int),((k % S:Nat):Int),((0:Int),(0:Int),(0:Int),(0:Int),false,()),())=0
   ·have g:(cmpS m.2.2.2.1[j] ((i:Int),((k / S:Nat):Int),((k % S:Nat):Int),((0:Int),(0:Int),(0:Int),(0:Int),false,()),()) != 0)=false:=by rw[hc];rfl
    have g2:=hz.1 hc
    simp only[g,g2,List.cons.injEq,true_and]
    have ha:j+1+n=j+(n+1):=by omega
    rw[ha]at hih
    exact hih
   ·have g:(cmpS m.2.2.2.1[j] ((i:Int),((k / S:Nat):Int),((k % S:Nat):Int),((0:Int),(0:Int),(0:Int),(0:Int),false,()),()) != 0)=true:=by simpa using hc
    have g2:¬keyS m.2.2.2.1[j]=keyK (i:Int) ((k / S:Nat):Int) ((k % S:Nat):Int):=fun e=>hc (hz.2 e)
    simp only[g,List.cons.injEq,g2,false_and,if_false]
theorem i_rows(m:TMedl.T)(hs:slotsB m.2.2.2.1=true)(hm:modesB m.2.2.1=true):
  ∀(n i j:Nat),i+n=m.2.2.1.length→j≤m.2.2.2.1.length→∃o,loopL b_i_isComplete_3 (m,(j:Int),m.2.2.1,(m.2.2.1.length:Int),(i:Int),())=some o∧outC o=decide ((m.2.2.2.1.map keyS).drop j=expE i (m.2.2.1.drop i)):=by
 obtain⟨hl16,hg⟩:=modes_good hm
 have hlen:=slots_len hs
 intro n
 induction n with
 |zero=>
  intro i j hi hj
  have hi:i=m.2.2.1.length:=by omega
  subst hi
  refine⟨.inl (m,(j:Int),()), ?_, ?_⟩
  ·rw[loopL_eq]
   simp only[b_i_isComplete_3,lt_n]
  ·rw[List.drop_length]
   show((j:Int)==(m.2.2.2.1.length:Int))=decide ((m.2.2.2.1.map keyS).drop j= [])
   have:(m.2.2.2.1.map keyS).drop j= []↔j=m.2.2.2.1.length:=by
    rw[List.drop_eq_nil_iff,List.length_map]
    omega
   by_cases h:j=m.2.2.2.1.length
   ·rw[decide_eq_true (this.2 h),h];simp
   ·rw[decide_eq_false (fun e=>h (this.1 e)),beq_eq_false_iff_ne];omega
 |succ n ih=>
  intro i j hi hj
  have hil:i<m.2.2.1.length:=by omega
  have hgi:=good_nat (hg _ (List.getElem_mem hil))
  obtain⟨R,hR⟩:∃R,R=m.2.2.1[i].1.toNat:=⟨_,rfl⟩
  obtain⟨S,hS⟩:∃S,S=m.2.2.1[i].2.1.toNat:=⟨_,rfl⟩
  rw[←hR,←hS]at hgi
  have hRS:R*S≤128:=Nat.le_trans (Nat.mul_le_mul hgi.1.2 hgi.2.1.2) (by omega)
  have hw:IntKind.i64.wrap ((R:Int)*(S:Int))=((R*S:Nat):Int):=by
   rw[←Int.natCast_mul,wrap_i64]<;>omega
  have h0:=i_row m hs i R S (by omega) hgi.1.2 hgi.2.1 m.2.2.1[i].2.2.1 m.2.2.1 (m.2.2.1.length:Int) (R*S) 0 j (by omega) hj
  rw[←List.range_eq_range',←rowE_eq i S (by omega) R]at h0
  have hE:expE i (m.2.2.1.drop i)=rowE i R S++expE (i+1) (m.2.2.1.drop (i+1)):=by
   rw[List.drop_eq_getElem_cons hil,hR,hS]
   rfl
  have hstep:loopL b_i_isComplete_3 (m,(j:Int),m.2.2.1,(m.2.2.1.length:Int),(i:Int),())=if((m.2.2.2.1.map keyS).drop j).take (R*S)=rowE i R S then loopL b_i_isComplete_3 (m,((j+R*S:Nat):Int),m.2.2.1,(m.2.2.1.length:Int),((i+1:Nat):Int),())else some (.inr (false,())):=by
   have h0':loopL b_i_isComplete_6 (m,(j:Int),(i:Int),((R:Int),(S:Int),m.2.2.1[i].2.2.1,()),m.2.2.1,(m.2.2.1.length:Int),(i:Int),((R*S:Nat):Int),(0:Int),())=_:=h0
   rw[loopL_eq]
   simp only[b_i_isComplete_3,lt_i hil,idx_nat hil,onSome,hgi.2.2.1,hgi.2.2.2,hw]
   rw[h0']
   by_cases hc:((m.2.2.2.1.map keyS).drop j).take (R*S)=rowE i R S
   ·simp only[if_pos hc,next_i hil (show m.2.2.1.length≤1099511627776 by omega)]
   ·simp only[if_neg hc]
  rw[hstep]
  by_cases hc:((m.2.2.2.1.map keyS).drop j).take (R*S)=rowE i R S
  ·have hj2:j+R*S≤m.2.2.2.1.length:=by
    have:=congrArg List.length hc
    rw[rowE_len i R S (by omega),List.length_take,List.length_drop,List.length_map]at this
    have h1:1≤R*S:=Nat.mul_pos hgi.1.1 hgi.2.1.1
    omega
   obtain⟨o,ho1,ho2⟩:=ih (i+1) (j+R*S) (by omega) hj2
   refine⟨o,by rw[if_pos hc];exact ho1, ?_⟩
   rw[ho2,hE,decide_eq_decide]
   have e:(m.2.2.2.1.map keyS).drop j=rowE i R S++(m.2.2.2.1.map keyS).drop (j+R*S):=by
    rw[←hc,←List.drop_drop]
    exact(List.take_append_drop _ _).symm
   rw[e]
   exact(List.append_right_inj _).symm
  ·refine⟨.inr (false,()),by rw[if_neg hc], ?_⟩
   show false=_
   rw[hE,eq_comm,decide_eq_false_iff_not]
   intro e
   apply hc
   rw[e,List.take_append_of_le_length (by rw[rowE_len i R S (by omega)];exact Nat.le_refl _),List.take_of_length_le (by rw[rowE_len i R S (by omega)];exact Nat.le_refl _)]
noncomputable def completeB(m:TMedl.T):Bool:=decide (m.2.2.2.1.map keyS=expE 0 m.2.2.1)
theorem i_complete(m:TMedl.T)(hs:slotsB m.2.2.2.1=true)(hm:modesB m.2.2.1=true):i_isComplete (m,())=some (completeB m,()):=by
 obtain⟨o,h1,h2⟩:=i_rows m hs hm m.2.2.1.length 0 0 (by omega) (by omega)
 have h1:loopL b_i_isComplete_3 ((m.1,m.2.1,m.2.2.1,m.2.2.2.1,()),(0:Int),m.2.2.1,(m.2.2.1.length:Int),(0:Int),())=some o:=h1
 have h2:outC o=completeB m:=h2
 rw[←h2]
 unfold i_isComplete
 simp only[h1]
 cases o<;>rfl
end Go.Proofs.YthfgmmmeplanbaaGreatDoor
namespace Go.Proofs.YthfgmmmeplanbaaGreatDoor
open Go.RowKit
set_option linter.unusedVariables false
set_option linter.unusedSimpArgs false
def inP(K:List Int)(k:Int):Bool:=decide (k ∈ K)
theorem row_all(K:List Int)(i R S:Nat):(rowE i R S).all (inP K)=(List.range' 0 R).all (fun(r:Nat)=>(List.range' 0 S).all (fun(s:Nat)=>inP K (keyK (i:Int) (r:Int) (s:Int)))):=by
 unfold rowE
 rw[List.all_flatMap,List.range_eq_range']
 congr 1
 funext r
 rw[List.all_map,List.range_eq_range']
 rfl
theorem s_row9(m:TMedl.T)(hs:slotsB m.2.2.2.1=true)(i r S:Nat)(hil:i<m.2.2.1.length)(hr:r≤7)(hS:S≤16)(hm:m.2.2.1[i].2.1=(S:Int)):
  ∀(n s c:Nat),s+n=S→c+n≤1000100→loopL b_s_l13Complete_9 (m,(c:Int),(i:Int),(r:Int),(s:Int),())=some (if(List.range' s n).all (fun(s:Nat)=>inP (m.2.2.2.1.map keyS) (keyK (i:Int) (r:Int) (s:Int)))=true then .inl (m,((c+n:Nat):Int),(i:Int),(r:Int),())else .inr (false,())):=by
 have hlen:=slots_len hs
 have hmem:=slots_mem hs
 intro n
 induction n with
 |zero=>
  intro s c h hc
  have h:s=S:=by omega
  subst h
  rw[loopL_eq]
  simp only[b_s_l13Complete_9,idx_nat hil,onSome,hm,lt_n]
  simp
 |succ n ih=>
  intro s c h hc
  have hsS:s<S:=by omega
  have hf:=s_findL m.2.2.2.1 (i:Int) (r:Int) (s:Int) (by omega)
  have hn:=find_neg (fun v hv=>slot_in (hmem v hv)) (a:=(i:Int)) (b:=(r:Int)) (c:=(s:Int)) ⟨by omega,by omega⟩ ⟨by omega,by omega⟩
  have hih:=ih (s+1) (c+1) (by omega) (by omega)
  have hw:IntKind.i64.wrap ((c:Int)+1)=((c+1:Nat):Int):=by rw[wrap_i64]<;>omega
  rw[List.range'_succ,List.all_cons,loopL_eq]
  simp only[b_s_l13Complete_9,idx_nat hil,onSome,hm,lt_i hsS,hf,hn,hw,next_i hsS (show S≤1099511627776 by omega)]
  have hp:inP (m.2.2.2.1.map keyS) (keyK (i:Int) (r:Int) (s:Int))=decide (keyK (i:Int) (r:Int) (s:Int) ∈ m.2.2.2.1.map keyS):=rfl
  rw[hp]
  rcases Bool.eq_false_or_eq_true (decide (keyK (i:Int) (r:Int) (s:Int) ∈ m.2.2.2.1.map keyS))with g|g<;>simp only[g,Bool.not_true,Bool.not_false,Bool.true_and,Bool.false_and]
  ·have ha:c+1+n=c+(n+1):=by omega
   rw[ha]at hih
   exact hih
  ·rfl
theorem s_row6(m:TMedl.T)(hs:slotsB m.2.2.2.1=true)(i R S:Nat)(hil:i<m.2.2.1.length)(hR:R≤8)(hS:S≤16)(hm1:m.2.2.1[i].1=(R:Int))(hm:m.2.2.1[i].2.1=(S:Int)):
  ∀(n r c:Nat),r+n=R→c+n*16≤1000000→loopL b_s_l13Complete_6 (m,(c:Int),(i:Int),(r:Int),())=some (if(List.range' r n).all (fun(r:Nat)=>(List.range' 0 S).all (fun(s:Nat)=>inP (m.2.2.2.1.map keyS) (keyK (i:Int) (r:Int) (s:Int))))=true then .inl (m,((c+n*S:Nat):Int),(i:Int),())else .inr (false,())):=by
 intro n
 induction n with
 |zero=>
  intro r c h hc
  have h:r=R:=by omega
  subst h
  rw[loopL_eq]
  simp only[b_s_l13Complete_6,idx_nat hil,onSome,hm1,lt_n]
  simp
 |succ n ih=>
  intro r c h hc
  have hrR:r<R:=by omega
  have h9:=s_row9 m hs i r S hil (by omega) hS hm S 0 c (by omega) (by omega)
  have h9':loopL b_s_l13Complete_9 ((m.1,m.2.1,m.2.2.1,m.2.2.2.1,()),(c:Int),(i:Int),(r:Int),(0:Int),())=_:=h9
  have hnS:n*S≤n*16:=Nat.mul_le_mul_left n hS
  have hih:=ih (r+1) (c+S) (by omega) (by rw[Nat.add_mul]at hc;omega)
  rw[List.range'_succ,List.all_cons,loopL_eq]
  simp only[b_s_l13Complete_6,idx_nat hil,onSome,hm1,lt_i hrR]
  rw[h9']
  rcases Bool.eq_false_or_eq_true ((List.range' 0 S).all (fun(s:Nat)=>inP (m.2.2.2.1.map keyS) (keyK (i:Int) (r:Int) (s:Int))))with g|g<;>simp only[g,Bool.true_and,Bool.false_and,if_true,next_i hrR (show R≤1099511627776 by omega)]
  ·have ha:c+S+n*S=c+(n+1)*S:=by rw[Nat.add_mul];omega
   rw[ha]at hih
   exact hih
  ·rfl
theorem s_rows(m:TMedl.T)(hs:slotsB m.2.2.2.1=true)(hm:modesB m.2.2.1=true):
  ∀(n i c:Nat),i+n=m.2.2.1.length→c≤128*i→∃o,loopL b_s_l13Complete_3 (m,(c:Int),(i:Int),())=some o∧outC o=((expE i (m.2.2.1.drop i)).all (inP (m.2.2.2.1.map keyS))&&decide (c+(expE i (m.2.2.1.drop i)).length=m.2.2.2.1.length)):=by
 obtain⟨hl16,hg⟩:=modes_good hm
 have hlen:=slots_len hs
 intro n
 induction n with
 |zero=>
  intro i c hi hc
  have hi:i=m.2.2.1.length:=by omega
  subst hi
  refine⟨.inl (m,(c:Int),()), ?_, ?_⟩
  ·rw[loopL_eq]
   simp only[b_s_l13Complete_3,lt_n]
  ·rw[List.drop_length]
   show((c:Int)==(m.2.2.2.1.length:Int))=(true&&decide (c+0=m.2.2.2.1.length))
   rw[Bool.true_and,Nat.add_zero]
   by_cases h:c=m.2.2.2.1.length
   ·rw[decide_eq_true h,h];simp
   ·rw[decide_eq_false h,beq_eq_false_iff_ne];omega
 |succ n ih=>
  intro i c hi hc
  have hil:i<m.2.2.1.length:=by omega
  have hgi:=good_nat (hg _ (List.getElem_mem hil))
  obtain⟨R,hR⟩:∃R,R=m.2.2.1[i].1.toNat:=⟨_,rfl⟩
  obtain⟨S,hS⟩:∃S,S=m.2.2.1[i].2.1.toNat:=⟨_,rfl⟩
  rw[←hR,←hS]at hgi
  have hRS:R*S≤128:=Nat.le_trans (Nat.mul_le_mul hgi.1.2 hgi.2.1.2) (by omega)
  have h6:=s_row6 m hs i R S hil hgi.1.2 hgi.2.1.2 hgi.2.2.1 hgi.2.2.2 R 0 c (by omega) (by omega)
  have h6':loopL b_s_l13Complete_6 ((m.1,m.2.1,m.2.2.1,m.2.2.2.1,()),(c:Int),(i:Int),(0:Int),())=_:=h6
  rw[←row_all]at h6'
  have hE:expE i (m.2.2.1.drop i)=rowE i R S++expE (i+1) (m.2.2.1.drop (i+1)):=by
   rw[List.drop_eq_getElem_cons hil,hR,hS]
   rfl
  have hstep:loopL b_s_l13Complete_3 (m,(c:Int),(i:Int),())=if(rowE i R S).all (inP (m.2.2.2.1.map keyS))=true then loopL b_s_l13Complete_3 (m,((c+R*S:Nat):Int),((i+1:Nat):Int),())else some (.inr (false,())):=by
   rw[loopL_eq]
   simp only[b_s_l13Complete_3,lt_i hil]
   rw[h6']
   by_cases hc:(rowE i R S).all (inP (m.2.2.2.1.map keyS))=true
   ·simp only[if_pos hc,next_i hil (show m.2.2.1.length≤1099511627776 by omega)]
   ·simp only[if_neg hc]
  rw[hstep,hE,List.all_append,List.length_append,rowE_len i R S (by omega)]
  by_cases hq:(rowE i R S).all (inP (m.2.2.2.1.map keyS))=true
  ·obtain⟨o,ho1,ho2⟩:=ih (i+1) (c+R*S) (by omega) (by omega)
   refine⟨o,by rw[if_pos hq];exact ho1, ?_⟩
   rw[ho2,hq,Bool.true_and,Nat.add_assoc]
  ·refine⟨.inr (false,()),by rw[if_neg hq], ?_⟩
   rw[Bool.eq_false_iff.2 hq,Bool.false_and,Bool.false_and]
   rfl
theorem s_complete(m:TMedl.T)(hs:slotsB m.2.2.2.1=true)(hm:modesB m.2.2.1=true):s_l13Complete (m,())=some (completeB m,()):=by
 obtain⟨o,h1,h2⟩:=s_rows m hs hm m.2.2.1.length 0 0 (by omega) (by omega)
 have h1:loopL b_s_l13Complete_3 ((m.1,m.2.1,m.2.2.1,m.2.2.2.1,()),(0:Int),(0:Int),())=some o:=h1
 have h3:completeB m=outC o:=by
  rw[h2]
  unfold completeB
  rw[sub_dec _ _ (slots_sorted hs) (expE_sorted _ 0 (modes_good hm).2),Nat.zero_add,List.length_map]
  rfl
 rw[h3]
 unfold s_l13Complete
 simp only[h1]
 cases o<;>rfl
end Go.Proofs.YthfgmmmeplanbaaGreatDoor
namespace Go.Proofs.YthfgmmmeplanbaaGreatDoor
open Go.RowKit
set_option linter.unusedVariables false
set_option linter.unusedSimpArgs false
theorem fold_inv {S X O T:Type}{B:X→Option (X ⊕ O)}(l:List T)(e:S→Nat→X)(g:S→T→S)(fin:S→O)(P:S→Prop)(hP:∀s,∀v ∈ l,P s→P (g s v))(hend:∀s,P s→B (e s l.length)=some (.inr (fin s)))
  (hstep:∀s i (h:i<l.length),P s→B (e s i)=some (.inl (e (g s l[i]) (i+1)))):∀(n i:Nat) (s:S),i+n=l.length→P s→loopL B (e s i)=some (fin ((l.drop i).foldl g s))
 |0,i,s,hi,hs=>by
  have hi:i=l.length:=by omega
  subst hi
  rw[loopL_eq,hend s hs,List.drop_length]
  rfl
 |n+1,i,s,hi,hs=>by
  have h:i<l.length:=by omega
  rw[loopL_eq,hstep s i h hs,List.drop_eq_getElem_cons h]
  exact fold_inv l e g fin P hP hend hstep n (i+1) _ (by omega) (hP s _ (List.getElem_mem h) hs)
theorem foldl_inv {S T:Type}{g:S→T→S}{P:S→Prop}:∀(l:List T) (s:S),(∀s,∀v ∈ l,P s→P (g s v))→P s→P (l.foldl g s)
 | [],s,_,h=>h
 |v::l,s,hP,h=>foldl_inv l _ (fun s u hu=>hP s u (by simp[hu])) (hP s v (by simp) h)
theorem or_i64(a b:Nat)(ha:a<9223372036854775808)(hb:b<9223372036854775808):bits .or .i64 (a:Int) (b:Int)=((a|||b:Nat):Int):=by
 have hx:a|||b<2^63:=Nat.or_lt_two_pow (by omega) (by omega)
 have h1:(BitVec.ofInt 64 (a:Int)).toNat=a:=by
  rw[BitVec.ofInt_natCast,BitVec.toNat_ofNat];exact Nat.mod_eq_of_lt (by omega)
 have h2:(BitVec.ofInt 64 (b:Int)).toNat=b:=by
  rw[BitVec.ofInt_natCast,BitVec.toNat_ofNat];exact Nat.mod_eq_of_lt (by omega)
 show IntKind.i64.wrap ((BitVec.ofInt 64 (a:Int)|||BitVec.ofInt 64 (b:Int)).toNat:Int)=_
 rw[BitVec.toNat_or,h1,h2,wrap_i64]<;>omega
theorem andNot_zero(a b:Nat)(ha:a<9223372036854775808)(hb:b<9223372036854775808):(bits .andNot .i64 (a:Int) (b:Int)==0)=decide (a&&& b=a):=by
 have h1:BitVec.ofInt 64 (a:Int)=BitVec.ofNat 64 a:=BitVec.ofInt_natCast ..
 have h2:BitVec.ofInt 64 (b:Int)=BitVec.ofNat 64 b:=BitVec.ofInt_natCast ..
 have e:bits .andNot .i64 (a:Int) (b:Int)=IntKind.i64.wrap ((BitVec.ofNat 64 a&&& ~~~ BitVec.ofNat 64 b).toNat:Int):=by
  rw[←h1,←h2];rfl
 have ha':(BitVec.ofNat 64 a).toNat=a:=by rw[BitVec.toNat_ofNat];exact Nat.mod_eq_of_lt (by omega)
 have hle:(BitVec.ofNat 64 a&&& ~~~ BitVec.ofNat 64 b).toNat≤a:=by
  rw[BitVec.toNat_and,ha']
  exact Nat.and_le_left
 have hz:(BitVec.ofNat 64 a&&& ~~~ BitVec.ofNat 64 b).toNat=0↔a&&& b=a:=by
  constructor
  ·intro h
   have h0:BitVec.ofNat 64 a&&& ~~~ BitVec.ofNat 64 b=0#64:=BitVec.eq_of_toNat_eq (by rw[h];rfl)
   apply Nat.eq_of_testBit_eq
   intro i
   rw[Nat.testBit_and]
   by_cases hi:i<64
   ·have:=congrArg (fun z:BitVec 64=>z.getLsbD i) h0
    simp only[BitVec.getLsbD_and,BitVec.getLsbD_not,BitVec.getLsbD_ofNat,BitVec.getLsbD_zero,hi,decide_true,Bool.true_and]at this
    cases h5:a.testBit i<;>cases h6:b.testBit i<;>simp[h5,h6]at this ⊢
   ·have:a.testBit i=false:=Nat.testBit_lt_two_pow (Nat.lt_of_lt_of_le ha (Nat.le_trans (by decide:9223372036854775808≤2^64) (Nat.pow_le_pow_right (by omega) (by omega))))
    rw[this];rfl
  ·intro h
   have h0:BitVec.ofNat 64 a&&& ~~~ BitVec.ofNat 64 b=0#64:=by
    apply BitVec.eq_of_getLsbD_eq
    intro i hi
    have:=congrArg (fun z:Nat=>z.testBit i) h
    simp only[Nat.testBit_and]at this
    simp only[BitVec.getLsbD_and,BitVec.getLsbD_not,BitVec.getLsbD_ofNat,BitVec.getLsbD_zero,hi,decide_true,Bool.true_and]
    cases h5:a.testBit i<;>cases h6:b.testBit i<;>simp[h5,h6]at this ⊢
   rw[h0];rfl
 rw[e,wrap_i64 (by omega) (by omega)]
 by_cases h:a&&& b=a
 ·rw[decide_eq_true h,hz.2 h];rfl
 ·rw[decide_eq_false h,beq_eq_false_iff_ne]
  intro h2
  exact h (hz.1 (by omega))
theorem one_shift(k:Nat)(hk:k<32):IntKind.i64.wrap ((1:Int)*2^min (k:Int).toNat IntKind.i64.bits)=((2^k:Nat):Int):=by
 have h:min (k:Int).toNat IntKind.i64.bits=k:=min_bits (by omega)
 have hp:2^k<2^32:=Nat.pow_lt_pow_right (by omega) hk
 have e:(2:Int)^k=((2^k:Nat):Int):=by norm_cast
 rw[h,Int.one_mul,e]
 generalize (2:Nat)^k=p at hp ⊢
 rw[wrap_i64]<;>omega
theorem one_shift2(k:Nat)(hk:k<32):IntKind.i64.wrap ((1:Int)*2^min k IntKind.i64.bits)=((2^k:Nat):Int):=one_shift k hk
theorem nat_of(z:Int)(h0:0≤z)(h1:z≤31):∃k:Nat,k<32∧z=(k:Int):=⟨z.toNat,by omega,by omega⟩
theorem setN_lt(v k:Nat)(hv:v<4294967296)(hk:k<32):v|||2^k<4294967296:=
 Nat.or_lt_two_pow (n:=32) (by omega) (Nat.pow_lt_pow_right (by omega) hk)
def hasN(v k:Nat):Bool:=(v / 2^k) % 2==1
theorem hasN_bit(v k:Nat):hasN v k=v.testBit k:=by
 unfold hasN
 rw[Nat.testBit_eq_decide_div_mod_eq,Bool.eq_iff_iff]
 simp
theorem s_set(v k:Nat)(hv:v<4294967296)(hk:k<32):s_l05Set ((v:Int),(k:Int),true,())=some (((v|||2^k:Nat):Int),()):=by
 have hh:=s_has v k hv hk
 have hu:IntKind.u64.wrap (k:Int)=(k:Int):=u_wrap (by omega)
 have hn:¬((k:Int)<0):=by omega
 have hp:2^k<2^32:=Nat.pow_lt_pow_right (by omega) hk
 have hx:=xor_i64 v (2^k) (by omega) (by omega)
 unfold s_l05Set
 simp only[hh,hu,hn,if_false,one_shift k hk,hx]
 have hb:(v / 2^k % 2==1)=v.testBit k:=hasN_bit v k
 rw[hb]
 cases h:v.testBit k with
 |true=>
  have:v|||2^k=v:=by
   apply Nat.eq_of_testBit_eq
   intro i
   rw[Nat.testBit_or,Nat.testBit_two_pow]
   by_cases hi:k=i
   ·subst hi;simp[h]
   ·simp[hi]
  rw[this]
  rfl
 |false=>
  have:v|||2^k=v^^^2^k:=by
   apply Nat.eq_of_testBit_eq
   intro i
   rw[Nat.testBit_or,Nat.testBit_xor,Nat.testBit_two_pow]
   by_cases hi:k=i
   ·subst hi;simp[h]
   ·simp[hi]
  rw[this]
  rfl
theorem i_hasN(v k:Nat)(hv:v<4294967296)(hk:k<32):i_has ((v:Int),(k:Int),())=some (hasN v k,()):=by
 have hb:=bt_nat v k (by omega)
 unfold bt at hb
 have hn:¬((k:Int)<0):=by omega
 unfold i_has hasN
 simp only[hn,if_false,min_bits (show k≤64 by omega),hb]
 generalize v / 2^k=z
 have:(((z % 2:Nat):Int)==1)=(z % 2==1):=by
  rw[Bool.eq_iff_iff]
  simp
  omega
 rw[this]
def actS(v:Nat)(n:TNodeInfo.T):Nat:=if n.2.2.2.1=true then v else v|||2^n.1.toNat
def actN(l:List TNodeInfo.T):Nat:=l.foldl actS 0
theorem nodes_id {l:List TNodeInfo.T}(h:nodesB l=true):l.length≤32∧∀n ∈ l,∃k:Nat,k<32∧n.1=(k:Int):=by
 unfold nodesB at h
 rw[Bool.and_eq_true,List.all_eq_true]at h
 refine⟨by have:=(in_iff.1 h.1).2;omega,fun n hn=> ?_⟩
 obtain⟨i,hi,rfl⟩:=List.getElem_of_mem hn
 have:=h.2 i (by simpa using hi)
 unfold nodeAt nodeB at this
 simp only[List.getElem?_eq_getElem hi,Bool.and_eq_true,in_iff]at this
 obtain⟨⟨⟨h1,h2⟩,_⟩,_⟩:=this
 exact nat_of _ h1 h2
theorem actS_lt {l:List TNodeInfo.T}(h:nodesB l=true):∀s,∀n ∈ l,s<4294967296→actS s n<4294967296:=by
 intro s n hn hs
 obtain⟨k,hk,e⟩:=(nodes_id h).2 n hn
 unfold actS
 split
 ·exact hs
 ·rw[e];exact setN_lt s k hs hk
theorem actN_lt {l:List TNodeInfo.T}(h:nodesB l=true):actN l<4294967296:=foldl_inv (P:=fun s=>s<4294967296) l 0 (actS_lt h) (by omega)
theorem i_act(l:List TNodeInfo.T)(h:nodesB l=true):i_activeVector (l,())=some ((actN l:Int),()):=by
 have hid:=nodes_id h
 have e:=fold_inv (B:=b_i_activeVector_3) l (fun(s:Nat) i=>((s:Int),l,(l.length:Int),(i:Int),())) actS (fun s=>.inl ((s:Int),())) (fun s=>s<4294967296) (actS_lt h) (fun s _=>by simp only[b_i_activeVector_3,lt_n]) (fun s i hi hs=>by
  obtain⟨k,hk,e⟩:=hid.2 _ (List.getElem_mem hi)
  have hn:¬((k:Int)<0):=by omega
  have hp:2^k<2^32:=Nat.pow_lt_pow_right (by omega) hk
  have ho:=or_i64 s (2^k) (by omega) (by omega)
  simp only[b_i_activeVector_3,lt_i hi,next_i hi (show l.length≤1099511627776 by omega),idx_nat hi,onSome,e,hn,if_false,one_shift2 k hk,ho,actS,Int.toNat_natCast]
  cases l[i].2.2.2.1<;>rfl) l.length 0 0 (by omega) (by omega)
 have e':loopL b_i_activeVector_3 ((0:Int),l,(l.length:Int),(0:Int),())=_:=e
 unfold i_activeVector
 simp only[e',List.drop_zero]
 rfl
theorem s_act(l:List TNodeInfo.T)(h:nodesB l=true):s_l10Active (l,())=some ((actN l:Int),()):=by
 have hid:=nodes_id h
 have e:=fold_inv (B:=b_s_l10Active_3) l (fun(s:Nat) i=>(l,(s:Int),(i:Int),())) actS (fun s=>.inl ((s:Int),())) (fun s=>s<4294967296) (actS_lt h) (fun s _=>by simp only[b_s_l10Active_3,lt_n]) (fun s i hi hs=>by
  obtain⟨k,hk,e⟩:=hid.2 _ (List.getElem_mem hi)
  have ho:=s_set s k hs hk
  simp only[b_s_l10Active_3,lt_i hi,next_i hi (show l.length≤1099511627776 by omega),idx_nat hi,onSome,e,ho,actS,Int.toNat_natCast]
  cases l[i].2.2.2.1<;>rfl) l.length 0 0 (by omega) (by omega)
 have e':loopL b_s_l10Active_3 (l,(0:Int),(0:Int),())=_:=e
 unfold s_l10Active
 simp only[e',List.drop_zero]
 rfl
theorem slot_node {v:TSlotInfo.T}(h:slotB v=true):∃k:Nat,k<32∧v.2.2.2.1.1=(k:Int):=by
 unfold slotB dscB at h
 simp only[Bool.and_eq_true,in_iff]at h
 obtain⟨h1,h2⟩:=h.2.2.2.1
 exact nat_of _ h1 h2
def sendB(m:TMedl.T):Bool:=m.2.2.2.1.all (fun v=>hasN (actN m.2.1) v.2.2.2.1.1.toNat)
theorem s_send(m:TMedl.T)(hn:nodesB m.2.1=true)(hs:slotsB m.2.2.2.1=true):s_l13Senders (m,())=some (sendB m,()):=by
 have hlen:=slots_len hs
 have e:=all_ok (B:=b_s_l13Senders_3) m.2.2.2.1 (fun i=>(m,(actN m.2.1:Int),(i:Int),())) (fun v=>hasN (actN m.2.1) v.2.2.2.1.1.toNat) (.inl ()) (.inr (false,())) (by simp only[b_s_l13Senders_3,lt_n]) (fun i h=>by
  obtain⟨k,hk,e⟩:=slot_node (slots_mem hs _ (List.getElem_mem h))
  have hh:s_l05Has ((actN m.2.1:Int),(k:Int),())=some (hasN (actN m.2.1) k,()):=s_has (actN m.2.1) k (actN_lt hn) hk
  simp only[b_s_l13Senders_3,lt_i h,next_i h (show m.2.2.2.1.length≤1099511627776 by omega),idx_nat h,onSome,e,hh,Int.toNat_natCast]
  cases hasN (actN m.2.1) k<;>rfl)
 have e':loopL b_s_l13Senders_3 ((m.1,m.2.1,m.2.2.1,m.2.2.2.1,()),(actN m.2.1:Int),(0:Int),())=_:=e
 unfold s_l13Senders sendB
 simp only[s_act m.2.1 hn,e']
 cases m.2.2.2.1.all (fun v=>hasN (actN m.2.1) v.2.2.2.1.1.toNat)<;>rfl
theorem i_send(m:TMedl.T)(hn:nodesB m.2.1=true)(hs:slotsB m.2.2.2.1=true):slices_ContainsFunc_SlotInfo (m.2.2.2.1,(fun z=>i_FirstFault_1 (z.1,(m.1,m.2.1,m.2.2.1,m.2.2.2.1,()),())),())=some (!sendB m,()):=by
 have hlen:=slots_len hs
 rw[contains_SlotInfo m.2.2.2.1 (by omega) _ (fun v=> !hasN (actN m.2.1) v.2.2.2.1.1.toNat) (fun i h=>by
  obtain⟨k,hk,e⟩:=slot_node (slots_mem hs _ (List.getElem_mem h))
  have hh:=i_hasN (actN m.2.1) k (actN_lt hn) hk
  unfold i_FirstFault_1
  simp only[i_act m.2.1 hn,e,hh,Int.toNat_natCast])]
 unfold sendB
 rw[all_any,Bool.not_not]
end Go.Proofs.YthfgmmmeplanbaaGreatDoor
namespace Go.Proofs.YthfgmmmeplanbaaGreatDoor
open Go.RowKit
set_option linter.unusedVariables false
set_option linter.unusedSimpArgs false
theorem fold_idx {S X O T:Type}{B:X→Option (X ⊕ O)}(l:List T)(e:S→Nat→X)(g:S→T→S)(fin:S→O)(P:Nat→S→Prop)(hP:∀i (h:i<l.length) s,P i s→P (i+1) (g s l[i]))(hend:∀s,B (e s l.length)=some (.inr (fin s)))
  (hstep:∀s i (h:i<l.length),P i s→B (e s i)=some (.inl (e (g s l[i]) (i+1)))):∀(n i:Nat) (s:S),i+n=l.length→P i s→loopL B (e s i)=some (fin ((l.drop i).foldl g s))
 |0,i,s,hi,hs=>by
  have hi:i=l.length:=by omega
  subst hi
  rw[loopL_eq,hend s,List.drop_length]
  rfl
 |n+1,i,s,hi,hs=>by
  have h:i<l.length:=by omega
  rw[loopL_eq,hstep s i h hs,List.drop_eq_getElem_cons h]
  exact fold_idx l e g fin P hP hend hstep n (i+1) _ (by omega) (hP i h s hs)
theorem firstI_spec {α:Type}(q:α→Bool):∀(l:List α) (i j:Nat),firstI q i l=some j→∃(n:Nat) (h:n<l.length),j=i+n∧q l[n]=true
 | [],_,_,h=>by cases h
 |v::r,i,j,h=>by
  unfold firstI at h
  cases hq:q v with
  |true=>
   rw[hq]at h
   cases h
   exact⟨0,by simp,by omega,hq⟩
  |false=>
   rw[hq]at h
   obtain⟨n,hn,e,h2⟩:=firstI_spec q r (i+1) j h
   exact⟨n+1,by simpa using hn,by omega,by simpa using h2⟩
def durD(v:TSlotInfo.T):Int:=v.2.2.2.1.2.2.2.1
def sameB(u v:TSlotInfo.T):Bool:=(u.1==v.1)&&(u.2.2.1==v.2.2.1)
def pairB(u v:TSlotInfo.T):Bool:= !sameB u v||(durD u==durD v)
def durAt(l:List TSlotInfo.T)(i:Nat):Bool:=match l[i]? with
 |none=>false
 |some v=>(l.take i).all (pairB v)
def durB(l:List TSlotInfo.T):Bool:=(List.range l.length).all (durAt l)
theorem s_dur(m:TMedl.T)(hl:m.2.2.2.1.length≤1099511627776):s_l13Durations (m,())=some (durB m.2.2.2.1,()):=by
 have inner:∀i (h:i<m.2.2.2.1.length),loopL b_s_l13Durations_5 (m,(i:Int),(0:Int),())=some (if(m.2.2.2.1.take i).all (pairB m.2.2.2.1[i])then .inl (m,(i:Int),())else .inr (false,())):=fun i h=>by
  have e:=all_ok (B:=b_s_l13Durations_5) (m.2.2.2.1.take i) (fun j=>(m,(i:Int),(j:Int),())) (pairB m.2.2.2.1[i]) (.inl (m,(i:Int),())) (.inr (false,())) (by
   rw[List.length_take,Nat.min_eq_left (Nat.le_of_lt h)]
   simp only[b_s_l13Durations_5,lt_n]) (fun j hj=>by
   have hj':j<i:=by rw[List.length_take]at hj;omega
   have hjl:j<m.2.2.2.1.length:=by omega
   have hg:(m.2.2.2.1.take i)[j]=m.2.2.2.1[j]:=by simp
   rw[hg]
   simp only[b_s_l13Durations_5,lt_i hj',next_i hjl hl,idx_nat hjl,idx_nat h,onSome,same_id,pairB,sameB,durD]
   generalize m.2.2.2.1[i]=u
   generalize m.2.2.2.1[j]=v
   rcases Bool.eq_false_or_eq_true (u.1==v.1)with h1|h1<;>simp only[h1,Bool.true_and,Bool.false_and,Bool.not_false,Bool.true_or,if_true]
   rcases Bool.eq_false_or_eq_true (u.2.2.1==v.2.2.1)with h2|h2<;>simp only[h2,Bool.not_true,Bool.not_false,Bool.true_or,Bool.false_or,if_true]
   have hne:(u.2.2.2.1.2.2.2.1 != v.2.2.2.1.2.2.2.1)= !(u.2.2.2.1.2.2.2.1==v.2.2.2.1.2.2.2.1):=rfl
   rw[hne]
   cases (u.2.2.2.1.2.2.2.1==v.2.2.2.1.2.2.2.1)<;>rfl)
  exact e
 have e:=allI_ok (B:=b_s_l13Durations_2) m.2.2.2.1.length (fun i=>(m,(i:Int),())) (durAt m.2.2.2.1) (.inl ()) (.inr (false,())) (by simp only[b_s_l13Durations_2,lt_n]) (fun i h=>by
  simp only[b_s_l13Durations_2,lt_i h,next_i h hl,inner i h,durAt,List.getElem?_eq_getElem h]
  cases (m.2.2.2.1.take i).all (pairB m.2.2.2.1[i])
  ·rfl
  ·show some (Sum.inl (m,IntKind.i64.wrap ((i:Int)+1),()))=some (.inl (m,((i+1:Nat):Int),()))
   rw[next_i h hl])
 have e':loopL b_s_l13Durations_2 ((m.1,m.2.1,m.2.2.1,m.2.2.2.1,()),(0:Int),())=_:=e
 unfold s_l13Durations durB
 simp only[e']
 cases (List.range m.2.2.2.1.length).all (durAt m.2.2.2.1)<;>rfl
theorem expE_zero:∀(ms:List TModeInfo.T) (i:Nat),(∀m ∈ ms,goodM m)→∀k ∈ expE i ms,∃a r s:Nat,k=keyK (a:Int) (r:Int) (s:Int)∧r≤7∧s≤15∧keyK (a:Int) 0 (s:Int) ∈ expE i ms
 | [],i,_,k,hk=>by simp[expE]at hk
 |m::ms,i,h,k,hk=>by
  simp only[expE,List.mem_append]at hk ⊢
  rcases hk with hk|hk
  ·have hm:=good_nat (h m (by simp))
   simp only[rowE,List.mem_flatMap,List.mem_map,List.mem_range]at hk
   obtain⟨r,hr,s,hs,rfl⟩:=hk
   refine⟨i,r,s,rfl,by omega,by omega,.inl ?_⟩
   simp only[rowE,List.mem_flatMap,List.mem_map,List.mem_range]
   exact⟨0,by omega,s,hs,rfl⟩
  ·obtain⟨a,r,s,e,h1,h2,h3⟩:=expE_zero ms (i+1) (fun m hm=>h m (by simp[hm])) k hk
   exact⟨a,r,s,e,h1,h2,.inr h3⟩
theorem first_of(m:TMedl.T)(hs:slotsB m.2.2.2.1=true)(hm:modesB m.2.2.1=true)(hc:completeB m=true):∀v ∈ m.2.2.2.1,∃(j:Nat) (h:j<m.2.2.2.1.length),firstI (hitB v.1 0 v.2.2.1) 0 m.2.2.2.1=some j∧hitB v.1 0 v.2.2.1 m.2.2.2.1[j]=true:=by
 intro v hv
 have hmem:=slots_mem hs
 have hvk:=slot_in (hmem v hv)
 have hK:m.2.2.2.1.map keyS=expE 0 m.2.2.1:=by
  unfold completeB at hc
  exact of_decide_eq_true hc
 have h1:keyS v ∈ expE 0 m.2.2.1:=by rw[←hK];exact List.mem_map.2 ⟨v,hv,rfl⟩
 obtain⟨a,r,s,e,hr,hs',h2⟩:=expE_zero _ 0 (modes_good hm).2 _ h1
 rw[←hK]at h2
 obtain⟨u,hu,e2⟩:=List.mem_map.1 h2
 have huk:=slot_in (hmem u hu)
 have hv0:hitB (a:Int) (r:Int) (s:Int) v=true:=(hit_key hvk ⟨by omega,by omega⟩ ⟨by omega,by omega⟩).2 e
 have hu0:hitB (a:Int) 0 (s:Int) u=true:=(hit_key huk ⟨by omega,by omega⟩ ⟨by omega,by omega⟩).2 e2
 have hva:v.1=(a:Int)∧v.2.2.1=(s:Int):=by
  unfold hitB at hv0
  simp only[Bool.and_eq_true,beq_iff_eq]at hv0
  exact⟨hv0.1,hv0.2.2⟩
 have hx:m.2.2.2.1.any (hitB v.1 0 v.2.2.1)=true:=List.any_eq_true.2 ⟨u,hu,by rw[hva.1,hva.2];exact hu0⟩
 rw[←firstI_any (hitB v.1 0 v.2.2.1) 0 m.2.2.2.1]at hx
 obtain⟨j,hj⟩:=Option.isSome_iff_exists.1 hx
 obtain⟨n,hn,e3,h4⟩:=firstI_spec _ _ _ _ hj
 have:j=n:=by omega
 subst this
 exact⟨j,hn,hj,h4⟩
def steadyAt(l:List TSlotInfo.T)(v:TSlotInfo.T):Bool:=match firstI (hitB v.1 0 v.2.2.1) 0 l with
 |none=>false
 |some j=>match l[j]? with
  |none=>false
  |some u=>durD v==durD u
theorem i_steady(m:TMedl.T)(hs:slotsB m.2.2.2.1=true)(hm:modesB m.2.2.1=true)(hc:completeB m=true):i_isSteady (m,())=some (m.2.2.2.1.all (steadyAt m.2.2.2.1),()):=by
 have hlen:=slots_len hs
 have e:=all_ok (B:=b_i_isSteady_2) m.2.2.2.1 (fun i=>(m,m.2.2.2.1,(m.2.2.2.1.length:Int),(i:Int),())) (steadyAt m.2.2.2.1) (.inl ()) (.inr (false,())) (by simp only[b_i_isSteady_2,lt_n]) (fun i h=>by
  obtain⟨j,hj,h1,h2⟩:=first_of m hs hm hc _ (List.getElem_mem h)
  have hf:i_findSlot (m.2.2.2.1,m.2.2.2.1[i].1,(0:Int),m.2.2.2.1[i].2.2.1,())=some ((j:Int),()):=by
   rw[i_findL _ _ _ _ (by omega)]
   unfold findL
   rw[h1]
  simp only[b_i_isSteady_2,lt_i h,next_i h (show m.2.2.2.1.length≤1099511627776 by omega),idx_nat h,onSome,hf,idx_nat hj,same_id,both_same,steadyAt,h1,List.getElem?_eq_getElem hj,durD]
  have hne:(m.2.2.2.1[i].2.2.2.1.2.2.2.1 != m.2.2.2.1[j].2.2.2.1.2.2.2.1)= !(m.2.2.2.1[i].2.2.2.1.2.2.2.1==m.2.2.2.1[j].2.2.2.1.2.2.2.1):=rfl
  rw[hne]
  cases (m.2.2.2.1[i].2.2.2.1.2.2.2.1==m.2.2.2.1[j].2.2.2.1.2.2.2.1)<;>rfl)
 have e':loopL b_i_isSteady_2 ((m.1,m.2.1,m.2.2.1,m.2.2.2.1,()),m.2.2.2.1,(m.2.2.2.1.length:Int),(0:Int),())=_:=e
 unfold i_isSteady
 simp only[e']
 cases m.2.2.2.1.all (steadyAt m.2.2.2.1)<;>rfl
theorem pair_sym {u v:TSlotInfo.T}(h:pairB u v=true):pairB v u=true:=by
 unfold pairB sameB at h ⊢
 simp only[Bool.or_eq_true,Bool.not_eq_true',Bool.and_eq_false_iff,beq_iff_eq,beq_eq_false_iff_ne]at h ⊢
 rcases h with(h|h)|h
 ·exact .inl (.inl fun e=>h e.symm)
 ·exact .inl (.inr fun e=>h e.symm)
 ·exact .inr h.symm
theorem dur_all {l:List TSlotInfo.T}:durB l=true↔∀u ∈ l,∀v ∈ l,pairB u v=true:=by
 unfold durB
 rw[List.all_eq_true]
 constructor
 ·intro h
  have key:∀i j (hi:i<l.length) (hj:j<i),pairB l[i] l[j]=true:=fun i j hi hj=>by
   have:=h i (by simpa using hi)
   unfold durAt at this
   simp only[List.getElem?_eq_getElem hi,List.all_eq_true]at this
   exact this _ (List.mem_take_iff_getElem.2 ⟨j,by omega,rfl⟩)
  intro u hu v hv
  obtain⟨i,hi,rfl⟩:=List.getElem_of_mem hu
  obtain⟨j,hj,rfl⟩:=List.getElem_of_mem hv
  rcases Nat.lt_trichotomy i j with h1|h1|h1
  ·exact pair_sym (key j i hj h1)
  ·subst h1
   unfold pairB
   simp
  ·exact key i j hi h1
 ·intro h i hi
  have hi:i<l.length:=by simpa using hi
  unfold durAt
  simp only[List.getElem?_eq_getElem hi,List.all_eq_true]
  exact fun v hv=>h _ (List.getElem_mem hi) v (List.mem_of_mem_take hv)
theorem steady_dur(m:TMedl.T)(hs:slotsB m.2.2.2.1=true)(hm:modesB m.2.2.1=true)(hc:completeB m=true):m.2.2.2.1.all (steadyAt m.2.2.2.1)=durB m.2.2.2.1:=by
 have hf:=first_of m hs hm hc
 rw[Bool.eq_iff_iff,dur_all,List.all_eq_true]
 constructor
 ·intro h u hu v hv
  unfold pairB
  cases hsm:sameB u v with
  |false=>rfl
  |true=>
   unfold sameB at hsm
   simp only[Bool.and_eq_true,beq_iff_eq]at hsm
   obtain⟨j,hj,h1,h2⟩:=hf u hu
   have hu':=h u hu
   have hv':=h v hv
   unfold steadyAt at hu' hv'
   rw[←hsm.1,←hsm.2]at hv'
   simp only[h1,List.getElem?_eq_getElem hj,beq_iff_eq]at hu' hv'
   rw[hu',hv']
   simp
 ·intro h v hv
  obtain⟨j,hj,h1,h2⟩:=hf v hv
  unfold steadyAt
  simp only[h1,List.getElem?_eq_getElem hj]
  have h3:=h v hv _ (List.getElem_mem hj)
  unfold hitB at h2
  simp only[Bool.and_eq_true,beq_iff_eq]at h2
  unfold pairB sameB at h3
  rw[h2.1,h2.2.2]at h3
  simpa using h3
def cycS(k:Int)(a:Int)(v:TSlotInfo.T):Int:=if(v.1==k)=true then IntKind.i64.wrap (a+durD v)else a
def cycN(l:List TSlotInfo.T)(k:Int):Int:=l.foldl (cycS k) 0
theorem s_cyc(m:TMedl.T)(k:Int)(hl:m.2.2.2.1.length≤1099511627776):s_l13Cycle (m,k,())=some (cycN m.2.2.2.1 k,()):=by
 have e:=fold_idx (B:=b_s_l13Cycle_3) m.2.2.2.1 (fun(s:Int) i=>(k,m,s,(i:Int),())) (cycS k) (fun s=>.inl (s,())) (fun _ _=>True) (fun _ _ _ _=>trivial) (fun s=>by simp only[b_s_l13Cycle_3,lt_n]) (fun s i h _=>by
  simp only[b_s_l13Cycle_3,lt_i h,next_i h hl,idx_nat h,onSome,cycS,durD]
  cases (m.2.2.2.1[i].1==k)<;>rfl) m.2.2.2.1.length 0 0 (by omega) trivial
 have e':loopL b_s_l13Cycle_3 (k,(m.1,m.2.1,m.2.2.1,m.2.2.2.1,()),(0:Int),(0:Int),())=_:=e
 unfold s_l13Cycle
 simp only[e']
 rfl
theorem i_cyc(m:TMedl.T)(k:Int)(hl:m.2.2.2.1.length≤1000):∃l,i_modeSlots (m,k,())=some (l,())∧i_sumDurations (l,())=some (cycN m.2.2.2.1 k,()):=by
 have e:=fold_idx (B:=b_i_modeSlots_3) m.2.2.2.1 (fun(s:List TSlotInfo.T) i=>(k,s,m.2.2.2.1,(m.2.2.2.1.length:Int),(i:Int),())) (fun s v=>if(v.1==k)=true then s++ [v]else s) (fun s=>.inl (s,())) (fun i s=>s.length≤i) (fun i h s hs=>by
  show List.length (if _ then _ else _)≤_
  split
  ·simp;omega
  ·omega) (fun s=>by simp only[b_i_modeSlots_3,lt_n]) (fun s i h hs=>by
  simp only[b_i_modeSlots_3,lt_i h,next_i h (show m.2.2.2.1.length≤1099511627776 by omega),idx_nat h,onSome]
  cases (m.2.2.2.1[i].1==k)
  ·rfl
  ·simp only
   rw[room_ok (by simp;omega)]
   rfl) m.2.2.2.1.length 0 [] (by omega) (by simp)
 have e':loopL b_i_modeSlots_3 (k,([]:List TSlotInfo.T),m.2.2.2.1,(m.2.2.2.1.length:Int),(0:Int),())=_:=e
 have hflt:∀(l acc:List TSlotInfo.T),l.foldl (fun s v=>if(v.1==k)=true then s++ [v]else s) acc=acc++l.filter (fun v=>v.1==k):=by
  intro l
  induction l with
  |nil=>intro acc;simp
  |cons v l ih=>
   intro acc
   rw[List.foldl_cons,ih,List.filter_cons]
   split<;>simp
 refine⟨m.2.2.2.1.filter (fun v=>v.1==k), ?_, ?_⟩
 ·unfold i_modeSlots
  simp only[e',List.drop_zero,hflt,List.nil_append]
 ·have hle:=List.length_filter_le (fun v:TSlotInfo.T=>v.1==k) m.2.2.2.1
  generalize hq:m.2.2.2.1.filter (fun v=>v.1==k)=q at hle
  have e2:=fold_idx (B:=b_i_sumDurations_3) q (fun(s:Int) i=>(s,q,(q.length:Int),(i:Int),())) (fun s v=>IntKind.i64.wrap (s+durD v)) (fun s=>.inl (s,())) (fun _ _=>True) (fun _ _ _ _=>trivial) (fun s=>by simp only[b_i_sumDurations_3,lt_n]) (fun s i h _=>by
   simp only[b_i_sumDurations_3,lt_i h,next_i h (show q.length≤1099511627776 by omega),idx_nat h,onSome]
   rfl) q.length 0 0 (by omega) trivial
  have e2':loopL b_i_sumDurations_3 ((0:Int),q,(q.length:Int),(0:Int),())=_:=e2
  unfold i_sumDurations cycN
  simp only[e2',List.drop_zero]
  rw[←hq,List.foldl_filter]
  rfl
def shortAt(l:List TSlotInfo.T)(k:Nat):Bool:= !decide (cycN l (k:Int)>32000)
theorem i_short(m:TMedl.T)(hl:m.2.2.2.1.length≤1000)(hn:m.2.2.1.length≤1000):i_isShort (m,())=some ((List.range m.2.2.1.length).all (shortAt m.2.2.2.1),()):=by
 have e:=allI_ok (B:=b_i_isShort_2) m.2.2.1.length (fun i=>(m,(m.2.2.1.length:Int),(i:Int),())) (shortAt m.2.2.2.1) (.inl ()) (.inr (false,())) (by simp only[b_i_isShort_2,lt_n]) (fun i h=>by
  obtain⟨l,h1,h2⟩:=i_cyc m (i:Int) hl
  have h1:i_modeSlots ((m.1,m.2.1,m.2.2.1,m.2.2.2.1,()),(i:Int),())=some (l,()):=h1
  simp only[b_i_isShort_2,lt_i h,next_i h (show m.2.2.1.length≤1099511627776 by omega),h1,h2,shortAt]
  rcases Bool.eq_false_or_eq_true (decide (cycN m.2.2.2.1 (i:Int)>32000))with g|g<;>simp only[g]<;>rfl)
 have e':loopL b_i_isShort_2 ((m.1,m.2.1,m.2.2.1,m.2.2.2.1,()),(m.2.2.1.length:Int),(0:Int),())=_:=e
 unfold i_isShort
 simp only[e']
 cases (List.range m.2.2.1.length).all (shortAt m.2.2.2.1)<;>rfl
theorem s_short(m:TMedl.T)(hl:m.2.2.2.1.length≤1000)(hn:m.2.2.1.length≤1000):loopL b_s_FirstFault_16 (m,(0:Int),())=some (if(List.range m.2.2.1.length).all (shortAt m.2.2.2.1)=true then .inl (m,())else .inr ((8:Int),())):=
 allI_ok (B:=b_s_FirstFault_16) m.2.2.1.length (fun i=>(m,(i:Int),())) (shortAt m.2.2.2.1) (.inl (m,())) (.inr ((8:Int),())) (by simp only[b_s_FirstFault_16,lt_n]) (fun i h=>by
  have h1:s_l13Cycle ((m.1,m.2.1,m.2.2.1,m.2.2.2.1,()),(i:Int),())=_:=s_cyc m (i:Int) (by omega)
  simp only[b_s_FirstFault_16,lt_i h,next_i h (show m.2.2.1.length≤1099511627776 by omega),h1,shortAt]
  rcases Bool.eq_false_or_eq_true (decide (cycN m.2.2.2.1 (i:Int)>32000))with g|g<;>simp only[g]<;>rfl)
def coldB(v:TSlotInfo.T):Bool:=if(v.2.2.2.1.2.1==(3:Int))=true then v.1 != (0:Int)else false
theorem i_cold(l:List TSlotInfo.T)(hl:l.length≤1000):slices_ContainsFunc_SlotInfo (l,i_FirstFault_2,())=some (l.any coldB,()):=
 contains_SlotInfo l (by omega) _ coldB (fun i h=>by
  unfold i_FirstFault_2 coldB
  cases (l[i].2.2.2.1.2.1==(3:Int))<;>rfl)
theorem s_cold(m:TMedl.T)(hl:m.2.2.2.1.length≤1000):loopL b_s_FirstFault_23 (m,(0:Int),())=some (if m.2.2.2.1.any coldB=true then .inr ((10:Int),())else .inl ()):=by
 have e:=all_ok (B:=b_s_FirstFault_23) m.2.2.2.1 (fun i=>(m,(i:Int),())) (fun v=> !coldB v) (.inl ()) (.inr ((10:Int),())) (by simp only[b_s_FirstFault_23,lt_n]) (fun i h=>by
  simp only[b_s_FirstFault_23,lt_i h,next_i h (show m.2.2.2.1.length≤1099511627776 by omega),idx_nat h,onSome,coldB]
  rcases Bool.eq_false_or_eq_true (m.2.2.2.1[i].2.2.2.1.2.1==(3:Int))with g|g<;>simp only[g]
  ·rcases Bool.eq_false_or_eq_true (m.2.2.2.1[i].1 != (0:Int))with g2|g2<;>simp only[g2]<;>rfl
  ·rfl)
 have e':loopL b_s_FirstFault_23 (m,(0:Int),())=_:=e
 rw[e',all_any]
 simp only[Bool.not_not]
 cases m.2.2.2.1.any coldB<;>rfl
end Go.Proofs.YthfgmmmeplanbaaGreatDoor
namespace Go.Proofs.YthfgmmmeplanbaaGreatDoor
open Go.RowKit
set_option linter.unusedVariables false
set_option linter.unusedSimpArgs false
def vecS(i r:Int)(s:Nat)(v:TSlotInfo.T):Nat:=if(v.1==i)=true then(if(v.2.1==r)=true then s|||2^v.2.2.2.1.1.toNat else s)else s
def vecN(l:List TSlotInfo.T)(i r:Int):Nat:=l.foldl (vecS i r) 0
theorem vecS_lt {l:List TSlotInfo.T}(h:slotsB l=true)(i r:Int):∀s,∀v ∈ l,s<4294967296→vecS i r s v<4294967296:=by
 intro s v hv hs
 obtain⟨k,hk,e⟩:=slot_node (slots_mem h v hv)
 unfold vecS
 split
 ·split
  ·rw[e];exact setN_lt s k hs hk
  ·exact hs
 ·exact hs
theorem vecN_lt {l:List TSlotInfo.T}(h:slotsB l=true)(i r:Int):vecN l i r<4294967296:=foldl_inv (P:=fun s=>s<4294967296) l 0 (vecS_lt h i r) (by omega)
theorem vec_sub(m:TMedl.T)(hd:sendB m=true)(i r:Int):∀k,(vecN m.2.2.2.1 i r).testBit k=true→(actN m.2.1).testBit k=true:=by
 unfold sendB at hd
 rw[List.all_eq_true]at hd
 refine foldl_inv (P:=fun s=>∀k,Nat.testBit s k=true→(actN m.2.1).testBit k=true) m.2.2.2.1 0 ?_ (by simp)
 intro s v hv hs k hk
 unfold vecS at hk
 have hv':=hd v hv
 rw[hasN_bit]at hv'
 split at hk
 ·split at hk
  ·rw[Nat.testBit_or,Nat.testBit_two_pow,Bool.or_eq_true]at hk
   rcases hk with hk|hk
   ·exact hs k hk
   ·have:=of_decide_eq_true hk
    rw[←this]
    exact hv'
  ·exact hs k hk
 ·exact hs k hk
theorem vec_eq(m:TMedl.T)(hd:sendB m=true)(i r:Int):decide (actN m.2.1&&& vecN m.2.2.2.1 i r=actN m.2.1)=decide (vecN m.2.2.2.1 i r=actN m.2.1):=by
 have hs:=vec_sub m hd i r
 rw[decide_eq_decide]
 constructor
 ·intro h
  apply Nat.eq_of_testBit_eq
  intro k
  have:=congrArg (fun z:Nat=>z.testBit k) h
  simp only[Nat.testBit_and]at this
  cases h1:(vecN m.2.2.2.1 i r).testBit k with
  |true=>rw[hs k h1]
  |false=>
   rw[h1,Bool.and_false]at this
   exact this
 ·intro h
  rw[h,Nat.and_self]
theorem s_vec(m:TMedl.T)(hs:slotsB m.2.2.2.1=true)(a i r:Int):loopL b_s_l13Served_10 (m,a,i,r,(0:Int),(0:Int),())=some (.inl (m,a,i,r,(vecN m.2.2.2.1 i r:Int),())):=by
 have hlen:=slots_len hs
 have e:=fold_inv (B:=b_s_l13Served_10) m.2.2.2.1 (fun(s:Nat) j=>(m,a,i,r,(s:Int),(j:Int),())) (vecS i r) (fun s=>.inl (m,a,i,r,(s:Int),())) (fun s=>s<4294967296) (vecS_lt hs i r) (fun s _=>by simp only[b_s_l13Served_10,lt_n]) (fun s j hj hv=>by
  obtain⟨k,hk,e⟩:=slot_node (slots_mem hs _ (List.getElem_mem hj))
  have ho:=s_set s k hv hk
  simp only[b_s_l13Served_10,lt_i hj,next_i hj (show m.2.2.2.1.length≤1099511627776 by omega),idx_nat hj,onSome,e,ho,vecS,Int.toNat_natCast]
  rcases Bool.eq_false_or_eq_true (m.2.2.2.1[j].1==i)with g|g<;>simp only[g]
  ·rcases Bool.eq_false_or_eq_true (m.2.2.2.1[j].2.1==r)with g2|g2<;>simp only[g2]<;>rfl
  ·rfl) m.2.2.2.1.length 0 0 (by omega) (by omega)
 have e':loopL b_s_l13Served_10 (m,a,i,r,(0:Int),(0:Int),())=_:=e
 rw[e',List.drop_zero]
 rfl
theorem i_vec(m:TMedl.T)(hs:slotsB m.2.2.2.1=true)(i r:Int)(ms:List TModeInfo.T)(n i2 R r2:Int):loopL b_i_allSend_9 (m,i,r,(0:Int),ms,n,i2,R,r2,m.2.2.2.1,(m.2.2.2.1.length:Int),(0:Int),())=some (.inl (m,i,(vecN m.2.2.2.1 i r:Int),ms,n,i2,R,r2,())):=by
 have hlen:=slots_len hs
 have e:=fold_inv (B:=b_i_allSend_9) m.2.2.2.1 (fun(s:Nat) j=>(m,i,r,(s:Int),ms,n,i2,R,r2,m.2.2.2.1,(m.2.2.2.1.length:Int),(j:Int),())) (vecS i r) (fun s=>.inl (m,i,(s:Int),ms,n,i2,R,r2,())) (fun s=>s<4294967296) (vecS_lt hs i r) (fun s _=>by simp only[b_i_allSend_9,lt_n]) (fun s j hj hv=>by
  obtain⟨k,hk,e⟩:=slot_node (slots_mem hs _ (List.getElem_mem hj))
  have hn:¬((k:Int)<0):=by omega
  have hp:2^k<2^32:=Nat.pow_lt_pow_right (by omega) hk
  have ho:=or_i64 s (2^k) (by omega) (by omega)
  simp only[b_i_allSend_9,lt_i hj,next_i hj (show m.2.2.2.1.length≤1099511627776 by omega),idx_nat hj,onSome,e,hn,if_false,one_shift2 k hk,ho,vecS,Int.toNat_natCast]
  rcases Bool.eq_false_or_eq_true (m.2.2.2.1[j].1==i)with g|g<;>simp only[g]
  ·rcases Bool.eq_false_or_eq_true (m.2.2.2.1[j].2.1==r)with g2|g2<;>simp only[g2]<;>rfl
  ·rfl) m.2.2.2.1.length 0 0 (by omega) (by omega)
 have e':loopL b_i_allSend_9 (m,i,r,(0:Int),ms,n,i2,R,r2,m.2.2.2.1,(m.2.2.2.1.length:Int),(0:Int),())=_:=e
 rw[e',List.drop_zero]
 rfl
def servedR(m:TMedl.T)(i:Nat)(r:Nat):Bool:=decide (vecN m.2.2.2.1 (i:Int) (r:Int)=actN m.2.1)
def servedAt(m:TMedl.T)(i:Nat):Bool:=match m.2.2.1[i]? with
 |none=>false
 |some v=>(List.range v.1.toNat).all (servedR m i)
def servedB(m:TMedl.T):Bool:=(List.range m.2.2.1.length).all (servedAt m)
theorem nat_ne(a b:Nat):((a:Int) != (b:Int))= !decide (a=b):=by
 by_cases h:a=b
 ·subst h;simp
 ·rw[decide_eq_false h]
  simp
  omega
theorem s_served(m:TMedl.T)(hn:nodesB m.2.1=true)(hm:modesB m.2.2.1=true)(hs:slotsB m.2.2.2.1=true):s_l13Served (m,())=some (servedB m,()):=by
 obtain⟨hl16,hg⟩:=modes_good hm
 have inner:∀i (hi:i<m.2.2.1.length),loopL b_s_l13Served_6 (m,(actN m.2.1:Int),(i:Int),(0:Int),())=some (if(List.range m.2.2.1[i].1.toNat).all (servedR m i)=true then .inl (m,(actN m.2.1:Int),(i:Int),())else .inr (false,())):=fun i hi=>by
  have hgi:=good_nat (hg _ (List.getElem_mem hi))
  have e:=allI_ok (B:=b_s_l13Served_6) m.2.2.1[i].1.toNat (fun r=>(m,(actN m.2.1:Int),(i:Int),(r:Int),())) (servedR m i) (.inl (m,(actN m.2.1:Int),(i:Int),())) (.inr (false,())) (by
   simp only[b_s_l13Served_6,idx_nat hi,onSome]
   have:decide ((m.2.2.1[i].1.toNat:Int)<m.2.2.1[i].1)=false:=by rw[←hgi.2.2.1];exact decide_eq_false (Int.lt_irrefl _)
   rw[this]) (fun r hr=>by
   have hlt:decide ((r:Int)<m.2.2.1[i].1)=true:=by rw[hgi.2.2.1];exact lt_i hr
   have hv:loopL b_s_l13Served_10 ((m.1,m.2.1,m.2.2.1,m.2.2.2.1,()),(actN m.2.1:Int),(i:Int),(r:Int),(0:Int),(0:Int),())=_:=s_vec m hs (actN m.2.1:Int) (i:Int) (r:Int)
   simp only[b_s_l13Served_6,idx_nat hi,onSome,hlt,hv,nat_ne,servedR,next_i hr (show m.2.2.1[i].1.toNat≤1099511627776 by have:=hgi.1.2;omega)]
   rcases Bool.eq_false_or_eq_true (decide (vecN m.2.2.2.1 (i:Int) (r:Int)=actN m.2.1))with g|g<;>simp only[g]<;>rfl)
  exact e
 have e:=allI_ok (B:=b_s_l13Served_3) m.2.2.1.length (fun i=>(m,(actN m.2.1:Int),(i:Int),())) (servedAt m) (.inl ()) (.inr (false,())) (by simp only[b_s_l13Served_3,lt_n]) (fun i hi=>by
  have h6:loopL b_s_l13Served_6 ((m.1,m.2.1,m.2.2.1,m.2.2.2.1,()),(actN m.2.1:Int),(i:Int),(0:Int),())=_:=inner i hi
  simp only[b_s_l13Served_3,lt_i hi,h6,servedAt,List.getElem?_eq_getElem hi]
  rcases Bool.eq_false_or_eq_true ((List.range m.2.2.1[i].1.toNat).all (servedR m i))with g|g<;>simp only[g,if_true,next_i hi (show m.2.2.1.length≤1099511627776 by omega)]<;>rfl)
 have e':loopL b_s_l13Served_3 ((m.1,m.2.1,m.2.2.1,m.2.2.2.1,()),(actN m.2.1:Int),(0:Int),())=_:=e
 unfold s_l13Served servedB
 simp only[s_act m.2.1 hn,e']
 cases (List.range m.2.2.1.length).all (servedAt m)<;>rfl
theorem i_served(m:TMedl.T)(hn:nodesB m.2.1=true)(hm:modesB m.2.2.1=true)(hs:slotsB m.2.2.2.1=true)(hd:sendB m=true):i_allSend (m,())=some (servedB m,()):=by
 obtain⟨hl16,hg⟩:=modes_good hm
 have inner:∀i (hi:i<m.2.2.1.length),loopL b_i_allSend_5 (m,(i:Int),m.2.2.1,(m.2.2.1.length:Int),(i:Int),m.2.2.1[i].1,(0:Int),())=some (if(List.range m.2.2.1[i].1.toNat).all (servedR m i)=true then .inl (m,m.2.2.1,(m.2.2.1.length:Int),(i:Int),())else .inr (false,())):=fun i hi=>by
  have hgi:=good_nat (hg _ (List.getElem_mem hi))
  have e:=allI_ok (B:=b_i_allSend_5) m.2.2.1[i].1.toNat (fun r=>(m,(i:Int),m.2.2.1,(m.2.2.1.length:Int),(i:Int),m.2.2.1[i].1,(r:Int),())) (servedR m i) (.inl (m,m.2.2.1,(m.2.2.1.length:Int),(i:Int),())) (.inr (false,())) (by
   have:decide ((m.2.2.1[i].1.toNat:Int)<m.2.2.1[i].1)=false:=by rw[←hgi.2.2.1];exact decide_eq_false (Int.lt_irrefl _)
   simp only[b_i_allSend_5,this]) (fun r hr=>by
   have hlt:decide ((r:Int)<m.2.2.1[i].1)=true:=by rw[hgi.2.2.1];exact lt_i hr
   have hv:loopL b_i_allSend_9 ((m.1,m.2.1,m.2.2.1,m.2.2.2.1,()),(i:Int),(r:Int),(0:Int),m.2.2.1,(m.2.2.1.length:Int),(i:Int),m.2.2.1[i].1,(r:Int),m.2.2.2.1,(m.2.2.2.1.length:Int),(0:Int),())=_:=i_vec m hs (i:Int) (r:Int) m.2.2.1 (m.2.2.1.length:Int) (i:Int) m.2.2.1[i].1 (r:Int)
   have hz:=andNot_zero (actN m.2.1) (vecN m.2.2.2.1 (i:Int) (r:Int)) (by have:=actN_lt hn;omega) (by have:=vecN_lt hs (i:Int) (r:Int);omega)
   rw[vec_eq m hd]at hz
   have hz':(bits BinOp.andNot .i64 (actN m.2.1:Int) (vecN m.2.2.2.1 (i:Int) (r:Int):Int) != 0)= !decide (vecN m.2.2.2.1 (i:Int) (r:Int)=actN m.2.1):=by rw[←hz];rfl
   simp only[b_i_allSend_5,hlt,hv,i_act m.2.1 hn,hz',servedR,next_i hr (show m.2.2.1[i].1.toNat≤1099511627776 by have:=hgi.1.2;omega)]
   rcases Bool.eq_false_or_eq_true (decide (vecN m.2.2.2.1 (i:Int) (r:Int)=actN m.2.1))with g|g<;>simp only[g]<;>rfl)
  exact e
 have e:=allI_ok (B:=b_i_allSend_2) m.2.2.1.length (fun i=>(m,m.2.2.1,(m.2.2.1.length:Int),(i:Int),())) (servedAt m) (.inl ()) (.inr (false,())) (by simp only[b_i_allSend_2,lt_n]) (fun i hi=>by
  have h6:loopL b_i_allSend_5 ((m.1,m.2.1,m.2.2.1,m.2.2.2.1,()),(i:Int),m.2.2.1,(m.2.2.1.length:Int),(i:Int),m.2.2.1[i].1,(0:Int),())=_:=inner i hi
  simp only[b_i_allSend_2,lt_i hi,idx_nat hi,onSome,h6,servedAt,List.getElem?_eq_getElem hi]
  rcases Bool.eq_false_or_eq_true ((List.range m.2.2.1[i].1.toNat).all (servedR m i))with g|g<;>simp only[g,if_true,next_i hi (show m.2.2.1.length≤1099511627776 by omega)]<;>rfl)
 have e':loopL b_i_allSend_2 ((m.1,m.2.1,m.2.2.1,m.2.2.2.1,()),m.2.2.1,(m.2.2.1.length:Int),(0:Int),())=_:=e
 unfold i_allSend servedB
 simp only[e']
 cases (List.range m.2.2.1.length).all (servedAt m)<;>rfl
def sizesM(m:TMedl.T):Prop:=m.2.1.length≤1099511627776∧(∀v ∈ m.2.1,v.2.1.length≤1099511627776)∧m.2.2.1.length≤1099511627776∧(∀v ∈ m.2.2.1,v.2.2.1.length≤1099511627776)∧m.2.2.2.1.length≤1099511627776
noncomputable def faultN(m:TMedl.T):Int:=
 if inB m.1 1 16777215=false then 1 else if nodesB m.2.1=false then 2 else if modesB m.2.2.1=false then 3 else if slotsB m.2.2.2.1=false then 4 else
 if completeB m=false then 5 else if sendB m=false then 6 else if durB m.2.2.2.1=false then 7 else if(List.range m.2.2.1.length).all (shortAt m.2.2.2.1)=false then 8 else
 if servedB m=false then 9 else if m.2.2.2.1.any coldB=true then 10 else 0
theorem s_fault(m:TMedl.T)(hz:sizesM m):s_FirstFault (m,())=some (faultN m,()):=by
 unfold s_FirstFault faultN
 simp only[s_in,s_nodes m.2.1 hz.1 hz.2.1,s_modes m.2.2.1 hz.2.2.1 hz.2.2.2.1,s_slots m.2.2.2.1 hz.2.2.2.2]
 rcases Bool.eq_false_or_eq_true (inB m.1 1 16777215)with h1|h1<;>simp only[h1,Bool.not_true,Bool.not_false,if_true,if_false,Bool.true_eq_false]
 rcases Bool.eq_false_or_eq_true (nodesB m.2.1)with h2|h2<;>simp only[h2,Bool.not_true,Bool.not_false,if_true,if_false,Bool.true_eq_false]
 rcases Bool.eq_false_or_eq_true (modesB m.2.2.1)with h3|h3<;>simp only[h3,Bool.not_true,Bool.not_false,if_true,if_false,Bool.true_eq_false]
 rcases Bool.eq_false_or_eq_true (slotsB m.2.2.2.1)with h4|h4<;>simp only[h4,Bool.not_true,Bool.not_false,if_true,if_false,Bool.true_eq_false]
 have hl:=slots_len h4
 have hn:=(modes_good h3).1
 have f5:s_l13Complete ((m.1,m.2.1,m.2.2.1,m.2.2.2.1,()),())=_:=s_complete m h4 h3
 have f6:s_l13Senders ((m.1,m.2.1,m.2.2.1,m.2.2.2.1,()),())=_:=s_send m h2 h4
 have f7:s_l13Durations ((m.1,m.2.1,m.2.2.1,m.2.2.2.1,()),())=_:=s_dur m hz.2.2.2.2
 have f8:loopL b_s_FirstFault_16 ((m.1,m.2.1,m.2.2.1,m.2.2.2.1,()),(0:Int),())=_:=s_short m (by omega) (by omega)
 have f9:s_l13Served ((m.1,m.2.1,m.2.2.1,m.2.2.2.1,()),())=_:=s_served m h2 h3 h4
 have f10:loopL b_s_FirstFault_23 ((m.1,m.2.1,m.2.2.1,m.2.2.2.1,()),(0:Int),())=_:=s_cold m (by omega)
 simp only[f5,f6,f7,f8]
 rcases Bool.eq_false_or_eq_true (completeB m)with h5|h5<;>simp only[h5,Bool.not_true,Bool.not_false,if_true,if_false,Bool.true_eq_false]
 rcases Bool.eq_false_or_eq_true (sendB m)with h6|h6<;>simp only[h6,Bool.not_true,Bool.not_false,if_true,if_false,Bool.true_eq_false]
 rcases Bool.eq_false_or_eq_true (durB m.2.2.2.1)with h7|h7<;>simp only[h7,Bool.not_true,Bool.not_false,if_true,if_false,Bool.true_eq_false]
 rcases Bool.eq_false_or_eq_true ((List.range m.2.2.1.length).all (shortAt m.2.2.2.1))with h8|h8<;>simp only[h8,Bool.not_true,Bool.not_false,if_true,if_false,Bool.true_eq_false,Bool.false_eq_true,f9,f10]
 rcases Bool.eq_false_or_eq_true (servedB m)with h9|h9<;>simp only[h9,Bool.not_true,Bool.not_false,if_true,if_false,Bool.true_eq_false]
 rcases Bool.eq_false_or_eq_true (m.2.2.2.1.any coldB)with h10|h10<;>simp only[h10,if_true,if_false,Bool.false_eq_true]
theorem i_fault(m:TMedl.T)(hz:sizesM m):i_FirstFault (m,())=some (faultN m,()):=by
 unfold i_FirstFault faultN
 simp only[i_in,i_nodes m.2.1 hz.1,i_modes m.2.2.1 hz.2.2.1 hz.2.2.2.1,i_slots m.2.2.2.1 hz.2.2.2.2]
 rcases Bool.eq_false_or_eq_true (inB m.1 1 16777215)with h1|h1<;>simp only[h1,Bool.not_true,Bool.not_false,if_true,if_false,Bool.true_eq_false]
 rcases Bool.eq_false_or_eq_true (nodesB m.2.1)with h2|h2<;>simp only[h2,Bool.not_true,Bool.not_false,if_true,if_false,Bool.true_eq_false]
 rcases Bool.eq_false_or_eq_true (modesB m.2.2.1)with h3|h3<;>simp only[h3,Bool.not_true,Bool.not_false,if_true,if_false,Bool.true_eq_false]
 rcases Bool.eq_false_or_eq_true (slotsB m.2.2.2.1)with h4|h4<;>simp only[h4,Bool.not_true,Bool.not_false,if_true,if_false,Bool.true_eq_false]
 have hl:=slots_len h4
 have hn:=(modes_good h3).1
 have f5:i_isComplete ((m.1,m.2.1,m.2.2.1,m.2.2.2.1,()),())=_:=i_complete m h4 h3
 have f6:=i_send m h2 h4
 have f8:i_isShort ((m.1,m.2.1,m.2.2.1,m.2.2.2.1,()),())=_:=i_short m (by omega) (by omega)
 have f10:=i_cold m.2.2.2.1 (by omega)
 simp only[f5]
 rcases Bool.eq_false_or_eq_true (completeB m)with h5|h5<;>simp only[h5,Bool.not_true,Bool.not_false,if_true,if_false,Bool.true_eq_false]
 have f7:i_isSteady ((m.1,m.2.1,m.2.2.1,m.2.2.2.1,()),())=_:=i_steady m h4 h3 h5
 rw[steady_dur m h4 h3 h5]at f7
 simp only[f6,f7,f8]
 rcases Bool.eq_false_or_eq_true (sendB m)with h6|h6<;>simp only[h6,Bool.not_true,Bool.not_false,if_true,if_false,Bool.true_eq_false]
 have f9:i_allSend ((m.1,m.2.1,m.2.2.1,m.2.2.2.1,()),())=_:=i_served m h2 h3 h4 h6
 simp only[f9,f10]
 rcases Bool.eq_false_or_eq_true (durB m.2.2.2.1)with h7|h7<;>simp only[h7,Bool.not_true,Bool.not_false,if_true,if_false,Bool.true_eq_false]
 rcases Bool.eq_false_or_eq_true ((List.range m.2.2.1.length).all (shortAt m.2.2.2.1))with h8|h8<;>simp only[h8,Bool.not_true,Bool.not_false,if_true,if_false,Bool.true_eq_false]
 rcases Bool.eq_false_or_eq_true (servedB m)with h9|h9<;>simp only[h9,Bool.not_true,Bool.not_false,if_true,if_false,Bool.true_eq_false]
 rcases Bool.eq_false_or_eq_true (m.2.2.2.1.any coldB)with h10|h10<;>simp only[h10,if_true,if_false,Bool.false_eq_true]
noncomputable def medlB(m:TMedl.T):Bool:=faultN m==0
theorem s_medl(m:TMedl.T)(hz:sizesM m):s_IsMedl (m,())=some (medlB m,()):=by
 have h:s_FirstFault ((m.1,m.2.1,m.2.2.1,m.2.2.2.1,()),())=_:=s_fault m hz
 unfold s_IsMedl medlB
 simp only[h]
theorem i_medl(m:TMedl.T)(hz:sizesM m):i_IsMedl (m,())=some (medlB m,()):=by
 have h:i_FirstFault ((m.1,m.2.1,m.2.2.1,m.2.2.2.1,()),())=_:=i_fault m hz
 unfold i_IsMedl medlB
 simp only[h]
theorem medl_parts {m:TMedl.T}(h:medlB m=true):(1≤m.1∧m.1≤16777215)∧nodesB m.2.1=true∧modesB m.2.2.1=true∧slotsB m.2.2.2.1=true∧completeB m=true:=by
 unfold medlB faultN at h
 rcases Bool.eq_false_or_eq_true (inB m.1 1 16777215)with h1|h1
 ·rcases Bool.eq_false_or_eq_true (nodesB m.2.1)with h2|h2
  ·rcases Bool.eq_false_or_eq_true (modesB m.2.2.1)with h3|h3
   ·rcases Bool.eq_false_or_eq_true (slotsB m.2.2.2.1)with h4|h4
    ·rcases Bool.eq_false_or_eq_true (completeB m)with h5|h5
     ·exact⟨in_iff.1 h1,h2,h3,h4,h5⟩
     ·simp[h1,h2,h3,h4,h5]at h
    ·simp[h1,h2,h3,h4]at h
   ·simp[h1,h2,h3]at h
  ·simp[h1,h2]at h
 ·simp[h1]at h
end Go.Proofs.YthfgmmmeplanbaaGreatDoor
namespace Go.Proofs.YthfgmmmeplanbaaGreatDoor
open Go.RowKit
set_option linter.unusedVariables false
set_option linter.unusedSimpArgs false
noncomputable def belongsB(m:TMedl.T)(st:TState.T):Bool:=stateB st&&(match m.2.2.1[st.2.1.toNat]? with
 |none=>false
 |some v=>decide (st.2.2.1<v.1)&&(decide (st.2.2.2.1<v.2.1)&&decide (st.2.2.2.2.1.toNat&&& actN m.2.1=st.2.2.2.2.1.toNat)))
theorem state_in {st:TState.T}(h:stateB st=true):∃a b c d:Nat,st.2.1=(a:Int)∧st.2.2.1=(b:Int)∧st.2.2.2.1=(c:Int)∧st.2.2.2.2.1=(d:Int)∧a≤15∧b≤15∧c≤255∧d≤4294967295:=by
 unfold stateB at h
 simp only[Bool.and_eq_true,in_iff]at h
 obtain⟨⟨⟨⟨h1,h2⟩,h3⟩,h4⟩,h5⟩:=h
 have key:∀(z:Int) (n:Nat),0≤z→z≤(n:Int)→∃k:Nat,z=(k:Int)∧k≤n:=fun z n h0 h1=>⟨z.toNat,by omega,by omega⟩
 obtain⟨a,ea,ha⟩:=key _ 15 h2.1 h2.2
 obtain⟨b,eb,hb⟩:=key _ 15 h3.1 h3.2
 obtain⟨c,ec,hc⟩:=key _ 255 h4.1 h4.2
 obtain⟨d,ed,hd⟩:=key _ 4294967295 h5.1 h5.2
 exact⟨a,b,c,d,ea,eb,ec,ed,ha,hb,hc,hd⟩
theorem s_bel(m:TMedl.T)(st:TState.T)(h:medlB m=true):s_l15Belongs (m,st,())=some (belongsB m st,()):=by
 obtain⟨_,hn,hm,hs,_⟩:=medl_parts h
 have hl16:=(modes_good hm).1
 have hst:s_IsState ((st.1,st.2.1,st.2.2.1,st.2.2.2.1,st.2.2.2.2.1,()),())=some (stateB st,()):=s_state (st,())
 unfold s_l15Belongs belongsB s_l11Mode
 simp only[hst,s_in,s_act m.2.1 hn]
 rcases Bool.eq_false_or_eq_true (stateB st)with h1|h1<;>simp only[h1,Bool.not_true,Bool.not_false,Bool.true_and,Bool.false_and]
 obtain⟨a,b,c,d,ea,eb,ec,ed,ha,hb,hc,hd⟩:=state_in h1
 rw[ea,eb,ec,ed]
 have hw:IntKind.i64.wrap ((m.2.2.1.length:Int)-1)=(m.2.2.1.length:Int)-1:=by rw[wrap_i64]<;>omega
 have hand:=and_i64 d (actN m.2.1) (by omega) (by have:=actN_lt hn;omega)
 have hbe:(((d&&& actN m.2.1:Nat):Int)==(d:Int))=decide (d&&& actN m.2.1=d):=by
  by_cases h:d&&& actN m.2.1=d
  ·rw[decide_eq_true h,h];simp
  ·rw[decide_eq_false h,beq_eq_false_iff_ne];omega
 simp only[hw,hand,hbe,Int.toNat_natCast]
 by_cases hal:a<m.2.2.1.length
 ·have hin:inB (a:Int) 0 ((m.2.2.1.length:Int)-1)=true:=in_iff.2 ⟨by omega,by omega⟩
  simp only[hin,Bool.not_true,idx_nat hal,onSome,List.getElem?_eq_getElem hal]
  have n1:decide ((b:Int)≥m.2.2.1[a].1)= !decide ((b:Int)<m.2.2.1[a].1):=by
   by_cases g:(b:Int)<m.2.2.1[a].1
   ·rw[decide_eq_true g,decide_eq_false (Int.not_le.2 g)];rfl
   ·rw[decide_eq_false g,decide_eq_true (Int.not_lt.1 g)];rfl
  have n2:decide ((c:Int)≥m.2.2.1[a].2.1)= !decide ((c:Int)<m.2.2.1[a].2.1):=by
   by_cases g:(c:Int)<m.2.2.1[a].2.1
   ·rw[decide_eq_true g,decide_eq_false (Int.not_le.2 g)];rfl
   ·rw[decide_eq_false g,decide_eq_true (Int.not_lt.1 g)];rfl
  simp only[n1,n2]
  rcases Bool.eq_false_or_eq_true (decide ((b:Int)<m.2.2.1[a].1))with g1|g1<;>simp only[g1,Bool.not_true,Bool.not_false,Bool.true_and,Bool.false_and]
  rcases Bool.eq_false_or_eq_true (decide ((c:Int)<m.2.2.1[a].2.1))with g2|g2<;>simp only[g2,Bool.not_true,Bool.not_false,Bool.true_and,Bool.false_and]
 ·have hin:inB (a:Int) 0 ((m.2.2.1.length:Int)-1)=false:=by
   rw[Bool.eq_false_iff]
   intro g
   have:=in_iff.1 g
   omega
  simp only[hin,Bool.not_false,List.getElem?_eq_none (Nat.not_lt.1 hal)]
theorem i_bel(m:TMedl.T)(st:TState.T)(h:medlB m=true):i_belongs (m,st,())=some (belongsB m st,()):=by
 obtain⟨_,hn,hm,hs,_⟩:=medl_parts h
 have hst:i_IsState ((st.1,st.2.1,st.2.2.1,st.2.2.2.1,st.2.2.2.2.1,()),())=some (stateB st,()):=i_state (st,())
 unfold i_belongs belongsB
 simp only[hst,i_act m.2.1 hn]
 rcases Bool.eq_false_or_eq_true (stateB st)with h1|h1<;>simp only[h1,Bool.not_true,Bool.not_false,Bool.true_and,Bool.false_and]
 obtain⟨a,b,c,d,ea,eb,ec,ed,ha,hb,hc,hd⟩:=state_in h1
 rw[ea,eb,ec,ed]
 have hz:=andNot_zero d (actN m.2.1) (by omega) (by have:=actN_lt hn;omega)
 simp only[hz,Int.toNat_natCast]
 by_cases hal:a<m.2.2.1.length
 ·have hin:decide ((a:Int)≥(m.2.2.1.length:Int))=false:=decide_eq_false (by omega)
  simp only[hin,idx_nat hal,onSome,List.getElem?_eq_getElem hal]
  rcases Bool.eq_false_or_eq_true (decide ((b:Int)<m.2.2.1[a].1))with g1|g1<;>simp only[g1,Bool.true_and,Bool.false_and]
  rcases Bool.eq_false_or_eq_true (decide ((c:Int)<m.2.2.1[a].2.1))with g2|g2<;>simp only[g2,Bool.true_and,Bool.false_and]
 ·have hin:decide ((a:Int)≥(m.2.2.1.length:Int))=true:=decide_eq_true (by omega)
  simp only[hin,List.getElem?_eq_none (Nat.not_lt.1 hal)]
theorem expE_mem:∀(ms:List TModeInfo.T) (i j:Nat) (h:j<ms.length) (r s:Nat),r<ms[j].1.toNat→s<ms[j].2.1.toNat→keyK ((i+j:Nat):Int) (r:Int) (s:Int) ∈ expE i ms
 |m::ms,i,0,h,r,s,hr,hs=>by
  simp only[expE,List.mem_append]
  left
  simp only[rowE,List.mem_flatMap,List.mem_map,List.mem_range]
  exact⟨r,hr,s,hs,rfl⟩
 |m::ms,i,j+1,h,r,s,hr,hs=>by
  simp only[expE,List.mem_append]
  right
  have:=expE_mem ms (i+1) j (by simpa using h) r s hr hs
  have e:i+1+j=i+(j+1):=by omega
  rw[e]at this
  exact this
theorem slot_of(m:TMedl.T)(st:TState.T)(h:medlB m=true)(hb:belongsB m st=true):∃(j:Nat) (hj:j<m.2.2.2.1.length),findL m.2.2.2.1 st.2.1 st.2.2.1 st.2.2.2.1=(j:Int):=by
 obtain⟨_,hn,hm,hs,hc⟩:=medl_parts h
 have hg:=(modes_good hm).2
 unfold belongsB at hb
 rw[Bool.and_eq_true]at hb
 obtain⟨a,b,c,d,ea,eb,ec,ed,ha,hb',hc',hd⟩:=state_in hb.1
 have hb2:=hb.2
 rw[ea,eb,ec,ed]at hb2
 rw[ea,eb,ec]
 rw[Int.toNat_natCast]at hb2
 by_cases hal:a<m.2.2.1.length
 ·simp only[List.getElem?_eq_getElem hal,Bool.and_eq_true,decide_eq_true_eq]at hb2
  have hgi:=good_nat (hg _ (List.getElem_mem hal))
  obtain⟨h1,h2,_⟩:=hb2
  rw[hgi.2.2.1]at h1
  rw[hgi.2.2.2]at h2
  have h1:b<m.2.2.1[a].1.toNat:=Int.ofNat_lt.1 h1
  have h2:c<m.2.2.1[a].2.1.toNat:=Int.ofNat_lt.1 h2
  have hk:=expE_mem m.2.2.1 0 a hal b c h1 h2
  rw[Nat.zero_add]at hk
  have hK:m.2.2.2.1.map keyS=expE 0 m.2.2.1:=by
   unfold completeB at hc
   exact of_decide_eq_true hc
  rw[←hK]at hk
  have hq:=find_neg (l:=m.2.2.2.1) (fun v hv=>slot_in (slots_mem hs v hv)) (a:=(a:Int)) (b:=(b:Int)) (c:=(c:Int)) ⟨by omega,by have:=hgi.1.2;omega⟩ ⟨by omega,by have:=hgi.2.1.2;omega⟩
  rw[decide_eq_true hk]at hq
  unfold findL at hq ⊢
  cases hf:firstI (hitB (a:Int) (b:Int) (c:Int)) 0 m.2.2.2.1 with
  |none=>rw[hf]at hq;cases hq
  |some j=>
   obtain⟨n,hn,e,_⟩:=firstI_spec _ _ _ _ hf
   have:j=n:=by omega
   subst this
   exact⟨j,hn,rfl⟩
 ·simp only[List.getElem?_eq_none (Nat.not_lt.1 hal)]at hb2
  cases hb2
def descL(m:TMedl.T)(st:TState.T):TDescriptor.T:=match m.2.2.2.1[(findL m.2.2.2.1 st.2.1 st.2.2.1 st.2.2.2.1).toNat]? with
 |none=>((0:Int),(0:Int),(0:Int),(0:Int),false,())
 |some v=>v.2.2.2.1
theorem s_descL(m:TMedl.T)(st:TState.T)(h:medlB m=true)(hb:belongsB m st=true):s_l15Desc (m,st,())=some (descL m st,())∧i_descriptorFor (m,st,())=some (descL m st,())∧dscB (descL m st)=true:=by
 obtain⟨_,hn,hm,hs,hc⟩:=medl_parts h
 have hlen:=slots_len hs
 obtain⟨j,hj,e⟩:=slot_of m st h hb
 have h1:=s_findL m.2.2.2.1 st.2.1 st.2.2.1 st.2.2.2.1 (by omega)
 have h2:=i_findL m.2.2.2.1 st.2.1 st.2.2.1 st.2.2.2.1 (by omega)
 have h3:=slots_mem hs _ (List.getElem_mem hj)
 unfold s_l15Desc i_descriptorFor descL
 simp only[h1,h2,e,idx_nat hj,onSome,Int.toNat_natCast,List.getElem?_eq_getElem hj]
 refine⟨trivial,trivial, ?_⟩
 unfold slotB at h3
 simp only[Bool.and_eq_true]at h3
 exact h3.2.2.2
def fitsB(d:TDescriptor.T)(f:TFrame.T):Bool:=(f.1==d.2.1)&&(((f.2.2.2.1.length:Int)==d.2.2.1)&&((f.2.1==(0:Int))||d.2.2.2.2.1))
theorem i_fitsB(x):i_fits x=some (fitsB x.1 x.2.1,()):=by
 unfold i_fits fitsB
 rcases Bool.eq_false_or_eq_true (x.2.1.1==x.1.2.1)with h1|h1<;>simp only[h1,Bool.true_and,Bool.false_and]
 rcases Bool.eq_false_or_eq_true ((x.2.1.2.2.2.1.length:Int)==x.1.2.2.1)with h2|h2<;>simp only[h2,Bool.true_and,Bool.false_and]
 rcases Bool.eq_false_or_eq_true (x.2.1.2.1==(0:Int))with h3|h3<;>simp only[h3,Bool.true_or,Bool.false_or]
theorem s_fitsB(d:TDescriptor.T)(f:TFrame.T)(hd:dscB d=true)(hf:frameB f=true)(hl:f.2.2.2.1.length≤1099511627776):s_FitsDescriptor (d,f,())=some (fitsB d f,()):=by
 have h1:s_IsDescriptor ((d.1,d.2.1,d.2.2.1,d.2.2.2.1,d.2.2.2.2.1,()),())=some (true,()):=by
  rw[←hd];exact s_desc (d,())
 have h2:s_IsFrame ((f.1,f.2.1,(f.2.2.1.1,f.2.2.1.2.1,f.2.2.1.2.2.1,f.2.2.1.2.2.2.1,f.2.2.1.2.2.2.2.1,()),f.2.2.2.1,()),())=some (true,()):=by
  rw[←hf];exact s_frame (f,()) hl
 unfold s_FitsDescriptor fitsB
 simp only[h1,h2]
 rcases Bool.eq_false_or_eq_true (f.1==d.2.1)with h1|h1<;>simp only[h1,Bool.true_and,Bool.false_and]
 rcases Bool.eq_false_or_eq_true ((f.2.2.2.1.length:Int)==d.2.2.1)with h2|h2<;>simp only[h2,Bool.true_and,Bool.false_and]
 rcases Bool.eq_false_or_eq_true d.2.2.2.2.1 with h3|h3<;>simp only[h3,Bool.or_true,Bool.or_false]
theorem frL_frame {l:List Int}(h:(frL l).2=true):frameB (frL l).1=true:=by
 cases l with
 |nil=>cases h
 |cons b r=>
  have fin:∀st q,(finF (b::r) b st q).2=true→frameB (finF (b::r) b st q).1=true:=fun st q h=>by
   unfold finF at h ⊢
   split at h
   ·split at h
    ·cases h
    ·simp only[okF,Bool.and_eq_true]at h
     exact h.1
   ·simp only[okF,Bool.and_eq_true]at h
    exact h.1
  simp only[frL]at h ⊢
  split at h
  ·split at h
   ·cases h
   ·exact fin _ _ h
  ·exact fin _ _ h
theorem frame_len {f:TFrame.T}(h:frameB f=true):f.2.2.2.1.length≤32:=by
 unfold frameB at h
 simp only[Bool.and_eq_true]at h
 have hd:=h.2.2.1
 unfold dsizeB at hd
 split at hd
 ·have:=in_iff.1 hd;omega
 ·split at hd
  ·have:=in_iff.1 hd;omega
  ·have:(f.2.2.2.1.length:Int)=0:=by simpa using hd
   omega
theorem open_ok {l:List Int}{r:Nat}{st:TState.T}(h:openB l r st=true):(frL (bodyPart l)).2=true:=by
 unfold openB at h
 split at h
 ·cases h
 ·simp only[Bool.and_eq_true]at h
  exact h.2.2.1
noncomputable def judgeV(m:TMedl.T)(st:TState.T)(l:List Int):TVerdict.T:=match openB l m.1.toNat st&&fitsB (descL m st) (frL (bodyPart l)).1 with
 |true=>((3:Int),(frL (bodyPart l)).1,())
 |false=>((2:Int),zeroF,())
theorem medl_id {m:TMedl.T}(h:medlB m=true):∃r:Nat,m.1=(r:Int)∧r<16777216:=by
 obtain⟨⟨h1,h2⟩,_⟩:=medl_parts h
 have key:∀z:Int,1≤z→z≤16777215→∃r:Nat,z=(r:Int)∧r<16777216:=fun z a b=>⟨z.toNat,by omega,by omega⟩
 exact key m.1 h1 h2
theorem i_judge2(m:TMedl.T)(st:TState.T)(l:List Int)(h:medlB m=true)(hb:belongsB m st=true)(hl:l.length≤10000)(hv:∀v ∈ l,0≤v∧v≤255):∃c:Int,i_judge (m,st,l,())=some (judgeV m st l,c,()):=by
 obtain⟨r,er,hr⟩:=medl_id h
 have hst:stateB st=true:=by unfold belongsB at hb;rw[Bool.and_eq_true]at hb;exact hb.1
 obtain⟨c,hc,ho⟩:=i_open l r st hl hv hr hst
 obtain⟨_,hd,_⟩:=s_descL m st h hb
 have ho':i_OpenFrame (l,(r:Int),(st.1,st.2.1,st.2.2.1,st.2.2.2.1,st.2.2.2.2.1,()),())=_:=ho
 have hd':i_descriptorFor ((m.1,m.2.1,m.2.2.1,m.2.2.2.1,()),(st.1,st.2.1,st.2.2.1,st.2.2.2.1,st.2.2.2.2.1,()),())=_:=hd
 unfold i_judge judgeV
 rw[er]at hd'
 simp only[er,ho',hd',i_fitsB,Int.toNat_natCast]
 rcases Bool.eq_false_or_eq_true (openB l r st)with h1|h1
 ·simp only[h1,if_true,Bool.true_and]
  have hz:((0:Int)==0)=true:=rfl
  have hfe:fitsB (descL m st) ((frL (bodyPart l)).1.1,(frL (bodyPart l)).1.2.1,((frL (bodyPart l)).1.2.2.1.1,(frL (bodyPart l)).1.2.2.1.2.1,(frL (bodyPart l)).1.2.2.1.2.2.1,(frL (bodyPart l)).1.2.2.1.2.2.2.1,(frL (bodyPart l)).1.2.2.1.2.2.2.2.1,()),(frL (bodyPart l)).1.2.2.2.1,())=fitsB (descL m st) (frL (bodyPart l)).1:=rfl
  simp only[hz,hfe]
  rcases Bool.eq_false_or_eq_true (fitsB (descL m st) (frL (bodyPart l)).1)with h2|h2
  ·exact⟨0,by simp only[h2];rfl⟩
  ·exact⟨5,by simp only[h2];rfl⟩
 ·have hz:(c==0)=false:=by simpa using hc
  have hz2:(c != 0)=true:=by simpa using hc
  simp only[h1,Bool.false_eq_true,if_false,Bool.false_and,hz,hz2]
  exact⟨c,rfl⟩
theorem s_judge2(m:TMedl.T)(st:TState.T)(l:List Int)(h:medlB m=true)(hb:belongsB m st=true)(hl:l.length≤10000)(hv:∀v ∈ l,0≤v∧v≤255):∃c:Int,s_l28Bytes (m,st,l,())=some (judgeV m st l,c,()):=by
 obtain⟨r,er,hr⟩:=medl_id h
 have hst:stateB st=true:=by unfold belongsB at hb;rw[Bool.and_eq_true]at hb;exact hb.1
 obtain⟨c,hc,ho⟩:=s_open l r st hl hv hr hst
 obtain⟨hd,_,hdc⟩:=s_descL m st h hb
 have ho':s_l07Open (l,(r:Int),(st.1,st.2.1,st.2.2.1,st.2.2.2.1,st.2.2.2.2.1,()),())=_:=ho
 have hd':s_l15Desc ((m.1,m.2.1,m.2.2.1,m.2.2.2.1,()),(st.1,st.2.1,st.2.2.1,st.2.2.2.1,st.2.2.2.2.1,()),())=_:=hd
 unfold s_l28Bytes judgeV
 rw[er]at hd'
 simp only[er,ho',hd',Int.toNat_natCast]
 rcases Bool.eq_false_or_eq_true (openB l r st)with h1|h1
 ·have hz:((0:Int)==0)=true:=rfl
  have hfr:=frL_frame (open_ok h1)
  have hfe:s_FitsDescriptor (descL m st,((frL (bodyPart l)).1.1,(frL (bodyPart l)).1.2.1,((frL (bodyPart l)).1.2.2.1.1,(frL (bodyPart l)).1.2.2.1.2.1,(frL (bodyPart l)).1.2.2.1.2.2.1,(frL (bodyPart l)).1.2.2.1.2.2.2.1,(frL (bodyPart l)).1.2.2.1.2.2.2.2.1,()),(frL (bodyPart l)).1.2.2.2.1,()),())=some (fitsB (descL m st) (frL (bodyPart l)).1,()):=s_fitsB _ _ hdc hfr (Nat.le_trans (frame_len hfr) (by omega))
  simp only[h1,if_true,Bool.true_and,hz,hfe]
  rcases Bool.eq_false_or_eq_true (fitsB (descL m st) (frL (bodyPart l)).1)with h2|h2
  ·exact⟨0,by simp only[h2];rfl⟩
  ·exact⟨5,by simp only[h2];rfl⟩
 ·have hz:(c==0)=false:=by simpa using hc
  have hz2:(c != 0)=true:=by simpa using hc
  simp only[h1,Bool.false_eq_true,if_false,Bool.false_and,hz,hz2]
  exact⟨c,rfl⟩
noncomputable def recvV(m:TMedl.T)(st:TState.T)(l:List Int):TVerdict.T:=if(decoded l).2.1=0 then judgeV m st (decoded l).1 else if(decoded l).2.1=4 then((0:Int),zeroF,())else((1:Int),zeroF,())
theorem i_recv(m:TMedl.T)(st:TState.T)(l:List Int)(h:medlB m=true)(hb:belongsB m st=true)(hl:bitsB l=true):∃c:Int,i_receive (m,st,l,())=some (recvV m st l,c,()):=by
 obtain⟨h1,h2⟩:=decoded_ok (bits_len hl)
 obtain⟨c,hj⟩:=i_judge2 m st (decoded l).1 h hb (by omega) h2
 have hj':i_judge ((m.1,m.2.1,m.2.2.1,m.2.2.2.1,()),(st.1,st.2.1,st.2.2.1,st.2.2.2.1,st.2.2.2.2.1,()),(decoded l).1,())=_:=hj
 unfold i_receive recvV
 simp only[i_decode2 hl,hj']
 by_cases h0:(decoded l).2.1=0
 ·have g:((decoded l).2.1==0)=true:=by rw[h0];rfl
  simp only[g,if_pos h0]
  exact⟨c,rfl⟩
 ·have g:((decoded l).2.1==0)=false:=by simpa using h0
  simp only[g,if_neg h0]
  by_cases h4:(decoded l).2.1=4
  ·have g4:((decoded l).2.1==4)=true:=by rw[h4];rfl
   simp only[g4,if_pos h4]
   exact⟨_,rfl⟩
  ·have g4:((decoded l).2.1==4)=false:=by simpa using h4
   simp only[g4,if_neg h4]
   exact⟨_,rfl⟩
theorem s_recv(m:TMedl.T)(st:TState.T)(l:List Int)(h:medlB m=true)(hb:belongsB m st=true)(hl:bitsB l=true):∃c:Int,s_l28Samples (m,st,l,())=some (recvV m st l,c,()):=by
 obtain⟨h1,h2⟩:=decoded_ok (bits_len hl)
 obtain⟨c,hj⟩:=s_judge2 m st (decoded l).1 h hb (by omega) h2
 have hj':s_l28Bytes ((m.1,m.2.1,m.2.2.1,m.2.2.2.1,()),(st.1,st.2.1,st.2.2.1,st.2.2.2.1,st.2.2.2.2.1,()),(decoded l).1,())=_:=hj
 unfold s_l28Samples recvV
 simp only[s_decode hl,hj']
 by_cases h0:(decoded l).2.1=0
 ·have g:((decoded l).2.1==0)=true:=by rw[h0];rfl
  simp only[g,if_pos h0]
  exact⟨c,rfl⟩
 ·have g:((decoded l).2.1==0)=false:=by simpa using h0
  simp only[g,if_neg h0]
  by_cases h4:(decoded l).2.1=4
  ·have g4:((decoded l).2.1==4)=true:=by rw[h4];rfl
   simp only[g4,if_pos h4]
   exact⟨_,rfl⟩
  ·have g4:((decoded l).2.1==4)=false:=by simpa using h4
   simp only[g4,if_neg h4]
   exact⟨_,rfl⟩
noncomputable def recvR(m:TMedl.T)(st:TState.T)(l:List Int):TVerdict.T×Int×Unit:=match medlB m with
 |false=>(((0:Int),zeroF,()),(1:Int),())
 |true=>match belongsB m st with
  |false=>(((0:Int),zeroF,()),(2:Int),())
  |true=>match bitsB l with
   |false=>(((0:Int),zeroF,()),(2:Int),())
   |true=>(recvV m st l,(0:Int),())
theorem i_channel(m:TMedl.T)(st:TState.T)(l:List Int)(hz:sizesM m)(hl:l.length≤1099511627776):i_ReceiveChannel (m,st,l,())=some (recvR m st l):=by
 have hM:i_IsMedl ((m.1,m.2.1,m.2.2.1,m.2.2.2.1,()),())=_:=i_medl m hz
 unfold i_ReceiveChannel i_receiveCode i_lookCode recvR
 simp only[i_bits l hl,hM]
 rcases Bool.eq_false_or_eq_true (medlB m)with h1|h1<;>simp only[h1,Bool.not_true,Bool.not_false]
 ·have hB:i_belongs ((m.1,m.2.1,m.2.2.1,m.2.2.2.1,()),(st.1,st.2.1,st.2.2.1,st.2.2.2.1,st.2.2.2.2.1,()),())=_:=i_bel m st h1
  simp only[hB]
  rcases Bool.eq_false_or_eq_true (belongsB m st)with h2|h2<;>simp only[h2,Bool.not_true,Bool.not_false]
  ·rcases Bool.eq_false_or_eq_true (bitsB l)with h3|h3<;>simp only[h3,Bool.not_true,Bool.not_false]
   ·obtain⟨c,hr⟩:=i_recv m st l h1 h2 h3
    have hr':i_receive ((m.1,m.2.1,m.2.2.1,m.2.2.2.1,()),(st.1,st.2.1,st.2.2.1,st.2.2.2.1,st.2.2.2.2.1,()),l,())=_:=hr
    simp only[hr']
    rfl
   ·rfl
  ·rfl
 ·rfl
theorem s_channel(m:TMedl.T)(st:TState.T)(l:List Int)(hz:sizesM m)(hl:l.length≤1099511627776):s_ReceiveChannel (m,st,l,())=some (recvR m st l):=by
 have hM:s_IsMedl ((m.1,m.2.1,m.2.2.1,m.2.2.2.1,()),())=_:=s_medl m hz
 unfold s_ReceiveChannel s_l28Code s_l15Code recvR
 simp only[s_bits l hl,hM]
 rcases Bool.eq_false_or_eq_true (medlB m)with h1|h1<;>simp only[h1,Bool.not_true,Bool.not_false]
 ·have hB:s_l15Belongs ((m.1,m.2.1,m.2.2.1,m.2.2.2.1,()),(st.1,st.2.1,st.2.2.1,st.2.2.2.1,st.2.2.2.2.1,()),())=_:=s_bel m st h1
  simp only[hB]
  rcases Bool.eq_false_or_eq_true (belongsB m st)with h2|h2<;>simp only[h2,Bool.not_true,Bool.not_false]
  ·rcases Bool.eq_false_or_eq_true (bitsB l)with h3|h3<;>simp only[h3,Bool.not_true,Bool.not_false]
   ·obtain⟨c,hr⟩:=s_recv m st l h1 h2 h3
    have hr':s_l28Samples ((m.1,m.2.1,m.2.2.1,m.2.2.2.1,()),(st.1,st.2.1,st.2.2.1,st.2.2.2.1,st.2.2.2.2.1,()),l,())=_:=hr
    simp only[hr']
    rfl
   ·rfl
  ·rfl
 ·rfl
end Go.Proofs.YthfgmmmeplanbaaGreatDoor
namespace Go.Proofs.YthfgmmmeplanbaaGreatDoor
open Go.RowKit
set_option linter.unusedVariables false
set_option linter.unusedSimpArgs false
theorem szS_ok {T:Type}{g:List T×Int×Unit→Option (Int×Unit)}{B:List T×Int×Int×Unit→Option ((List T×Int×Int×Unit) ⊕ ((Int×Unit) ⊕ (Int×Unit)))}
  (hg:∀l n,g (l,n,())=match(decide ((IntKind.i64.wrap (n-(l.length:Int)))<(0:Int)))with
    |true=>some ((-1:Int),())
    |false=>match loopL B (l,IntKind.i64.wrap (n-(l.length:Int)),(0:Int),())with
     |none=>none
     |some (.inl v)=>some (v.1,())
     |some (.inr v)=>some (v.1,()))
  (w:T→Nat) (l:List T) (hl:l.length≤maxLen)
  (hend:∀n,B (l,n,(l.length:Int),())=some (.inr (.inl (n,()))))
  (hstep:l.length≤1048576→∀(n:Int) i (h:i<l.length),0≤n→n≤1048576→B (l,n,(i:Int),())=if n-(w l[i]:Int)<0 then some (.inr (.inr ((-1:Int),())))else some (.inl (l,n-(w l[i]:Int),((i+1:Nat):Int),())))
  (n:Int) (h0:0≤n) (h1:n≤1048576):∃y:Int,g (l,n,())=some (y,())∧y≤n∧(0≤y→(l.length:Int)≤n∧∀v ∈ l,(w v:Int)≤n):=by
 have hl':l.length≤9223372036854775807:=hl
 have hw:IntKind.i64.wrap (n-(l.length:Int))=n-l.length:=by rw[wrap_i64]<;>omega
 rw[hg,hw]
 by_cases hc:n-(l.length:Int)<0
 ·rw[decide_eq_true hc]
  exact⟨-1,rfl,by omega,fun h=>absurd h (by decide)⟩
 ·rw[decide_eq_false hc]
  have hl2:l.length≤1048576:=by omega
  have key:∀(k i:Nat) (q:Int),i+k=l.length→0≤q→q≤1048576→∃(y:Int),(loopL B (l,q,(i:Int),())=some (.inl (y,()))∨loopL B (l,q,(i:Int),())=some (.inr (y,())))∧y≤q∧(0≤y→∀v ∈ l.drop i,(w v:Int)≤q):=by
   intro k
   induction k with
   |zero=>
    intro i q hi _ _
    have hi:i=l.length:=by omega
    subst hi
    refine⟨q,.inl ?_,by omega,fun _ v hv=> ?_⟩
    ·rw[loopL_eq,hend q]
    ·rw[List.drop_length]at hv;cases hv
   |succ k ih=>
    intro i q hi q0 q1
    have h:i<l.length:=by omega
    rw[loopL_eq,hstep hl2 q i h q0 q1]
    by_cases hq:q-(w l[i]:Int)<0
    ·rw[if_pos hq]
     exact⟨-1,.inr rfl,by omega,fun h=>absurd h (by decide)⟩
    ·rw[if_neg hq]
     obtain⟨y,e,y1,y2⟩:=ih (i+1) (q-(w l[i]:Int)) (by omega) (by omega) (by omega)
     refine⟨y,e,by omega,fun hy v hv=> ?_⟩
     rw[List.drop_eq_getElem_cons h,List.mem_cons]at hv
     rcases hv with rfl|hv
     ·omega
     ·have:=y2 hy v hv
      omega
  obtain⟨y,e,y1,y2⟩:=key l.length 0 (n-l.length) (by omega) (by omega) (by omega)
  have e:loopL B (l,n-(l.length:Int),(0:Int),())=some (.inl (y,()))∨loopL B (l,n-(l.length:Int),(0:Int),())=some (.inr (y,())):=e
  refine⟨y, ?_,by omega,fun hy=>⟨by omega,fun v hv=> ?_⟩⟩
  ·rcases e with e|e<;>simp only[e]
  ·have:=y2 hy v (by rw[List.drop_zero];exact hv)
   omega
theorem sz_nodes(l:List TNodeInfo.T)(hl:l.length≤maxLen)(hd:∀v ∈ l,v.2.1.length≤maxLen)(n:Int)(h0:0≤n)(h1:n≤1048576):∃y:Int,l_szNodeInfoS (l,n,())=some (y,())∧y≤n∧(0≤y→(l.length:Int)≤n∧∀v ∈ l,((v.2.1.length:Nat):Int)≤n):=
 szS_ok (g:=l_szNodeInfoS) (B:=b_l_szNodeInfoS_5) (fun _ _=>by kernel_rfl) (fun v=>v.2.1.length) l hl (fun n=>by simp only[b_l_szNodeInfoS_5,lt_n]) (fun hl2 n i h n0 n1=>by
  have hm:l[i].2.1.length≤9223372036854775807:=hd _ (List.getElem_mem h)
  have hw:IntKind.i64.wrap (n-(l[i].2.1.length:Int))=n-l[i].2.1.length:=by rw[wrap_i64]<;>omega
  simp only[b_l_szNodeInfoS_5,lt_i h,next_i h (show l.length≤1099511627776 by omega),idx_nat h,onSome,l_szNodeInfo,hw]
  by_cases hc:n-(l[i].2.1.length:Int)<0
  ·rw[if_pos hc]
   simp only[decide_eq_true hc]
   rfl
  ·rw[if_neg hc]
   simp only[decide_eq_false hc]) n h0 h1
theorem sz_modes(l:List TModeInfo.T)(hl:l.length≤maxLen)(hd:∀v ∈ l,v.2.2.1.length≤maxLen)(n:Int)(h0:0≤n)(h1:n≤1048576):∃y:Int,l_szModeInfoS (l,n,())=some (y,())∧y≤n∧(0≤y→(l.length:Int)≤n∧∀v ∈ l,((v.2.2.1.length:Nat):Int)≤n):=
 szS_ok (g:=l_szModeInfoS) (B:=b_l_szModeInfoS_5) (fun _ _=>by kernel_rfl) (fun v=>v.2.2.1.length) l hl (fun n=>by simp only[b_l_szModeInfoS_5,lt_n]) (fun hl2 n i h n0 n1=>by
  have hs:=sz_Int64S (l[i].2.2.1,n,()) n0 n1 (hd _ (List.getElem_mem h))
  simp only[b_l_szModeInfoS_5,lt_i h,next_i h (show l.length≤1099511627776 by omega),idx_nat h,onSome,l_szModeInfo,hs]
  by_cases hc:n-(l[i].2.2.1.length:Int)<0
  ·simp only[if_pos hc]
   rfl
  ·simp only[if_neg hc,decide_eq_false hc]) n h0 h1
def smallM(m:TMedl.T):Prop:=m.2.1.length≤1048576∧(∀v ∈ m.2.1,v.2.1.length≤1048576)∧m.2.2.1.length≤1048576∧(∀v ∈ m.2.2.1,v.2.2.1.length≤1048576)∧m.2.2.2.1.length≤1048576
theorem small_sizes {m:TMedl.T}(h:smallM m):sizesM m:=
 ⟨Nat.le_trans h.1 (by omega),fun v hv=>Nat.le_trans (h.2.1 v hv) (by omega),Nat.le_trans h.2.2.1 (by omega),fun v hv=>Nat.le_trans (h.2.2.2.1 v hv) (by omega),Nat.le_trans h.2.2.2.2 (by omega)⟩
theorem sz_medl(m:TMedl.T)(hx:Wf TMedl m):∃y:Int,l_szMedl (m,(1048576:Int),())=some (y,())∧(0≤y→smallM m):=by
 have w1:m.2.1.length≤maxLen:=hx.2.1.1
 have w2:∀v ∈ m.2.1,v.2.1.length≤maxLen:=fun v hv=>(hx.2.1.2 v hv).2.1
 have w3:m.2.2.1.length≤maxLen:=hx.2.2.1.1
 have w4:∀v ∈ m.2.2.1,v.2.2.1.length≤maxLen:=fun v hv=>(hx.2.2.1.2 v hv).2.2.1.1
 have w5:m.2.2.2.1.length≤maxLen:=hx.2.2.2.1.1
 obtain⟨a,ea,a1,a2⟩:=sz_nodes m.2.1 w1 w2 1048576 (by omega) (by omega)
 unfold l_szMedl
 simp only[ea]
 by_cases ca:a<0
 ·exact⟨-1,by simp only[decide_eq_true ca],fun h=>absurd h (by decide)⟩
 ·obtain⟨b,eb,b1,b2⟩:=sz_modes m.2.2.1 w3 w4 a (by omega) (by omega)
  simp only[decide_eq_false ca,eb]
  by_cases cb:b<0
  ·exact⟨-1,by simp only[decide_eq_true cb],fun h=>absurd h (by decide)⟩
  ·have ec:=sz_SlotInfoS (m.2.2.2.1,b,()) (show(0:Int)≤b by omega) (show b≤(1048576:Int) by omega) w5
   simp only[decide_eq_false cb,ec]
   by_cases cc:b-(m.2.2.2.1.length:Int)<0
   ·simp only[if_pos cc]
    exact⟨-1,rfl,fun h=>absurd h (by decide)⟩
   ·simp only[if_neg cc,decide_eq_false cc]
    refine⟨_,rfl,fun _=> ?_⟩
    obtain⟨x1,x2⟩:=a2 (by omega)
    obtain⟨y1,y2⟩:=b2 (by omega)
    refine⟨by omega,fun v hv=> ?_,by omega,fun v hv=> ?_,by omega⟩
    ·have:=x2 v hv;omega
    ·have:=y2 v hv;omega
theorem to_ModeInfo(x)(h:x.1.2.2.1.length≤1099511627776):l_toModeInfo x=some (x.1,()):=by
 have ht:l_toInt64S (x.1.2.2.1,())=some (x.1.2.2.1,()):=to_Int64S (x.1.2.2.1,()) h
 unfold l_toModeInfo
 simp only[ht]
theorem to_ModeInfoS(x)(hl:x.1.length≤1099511627776)(hd:∀v ∈ x.1,v.2.2.1.length≤1099511627776):l_toModeInfoS x=some (x.1,()):=
 toS_ok (g:=l_toModeInfoS) (B:=b_l_toModeInfoS_3) (z:=(((0:Int),(0:Int),[],()):TModeInfo.T)) (fun _=>by kernel_rfl) x.1 hl (fun s=>by simp only[b_l_toModeInfoS_3,lt_n]) (fun s i h h'=>by
  have ht:=to_ModeInfo (x.1[i],()) (hd _ (List.getElem_mem h))
  simp only[b_l_toModeInfoS_3,lt_i h,next_i h hl,idx_nat h,onSome,idx_nat h',Int.toNat_natCast,List.getElem?_eq_getElem h']
  rw[ht])
theorem to_Medl(m:TMedl.T)(h:smallM m):l_toMedl (m,())=some (m,()):=by
 have hz:=small_sizes h
 have h1:l_toNodeInfoS (m.2.1,())=some (m.2.1,()):=to_NodeInfoS (m.2.1,()) hz.1
 have h2:l_toModeInfoS (m.2.2.1,())=some (m.2.2.1,()):=to_ModeInfoS (m.2.2.1,()) hz.2.2.1 hz.2.2.2.1
 have h3:l_toSlotInfoS (m.2.2.2.1,())=some (m.2.2.2.1,()):=to_SlotInfoS (m.2.2.2.1,()) hz.2.2.2.2
 unfold l_toMedl
 simp only[h1,h2,h3]
theorem eq_ModeInfo(x)(h:x.2.1=x.1)(hd:x.1.2.2.1.length≤1099511627776):l_eqModeInfo x=some (true,()):=by
 obtain⟨a,b,u⟩:=x
 obtain rfl:b=a:=h
 have h2:l_eqInt64S (b.2.2.1,b.2.2.1,())=some (true,()):=eq_Int64S _ rfl hd
 unfold l_eqModeInfo
 simp only[h2,bne_self_i,Bool.not_true]
theorem eq_ModeInfoS(x)(h:x.2.1=x.1)(hl:x.1.length≤1099511627776)(hd:∀v ∈ x.1,v.2.2.1.length≤1099511627776):l_eqModeInfoS x=some (true,()):=by
 obtain⟨l,m,u⟩:=x
 obtain rfl:m=l:=h
 have hl:m.length≤1099511627776:=hl
 exact eqS_ok (g:=l_eqModeInfoS) (B:=b_l_eqModeInfoS_4) (fun _=>by kernel_rfl) m (by simp only[b_l_eqModeInfoS_4,lt_n]) (fun i h=>by
  simp only[b_l_eqModeInfoS_4,lt_i h,lt_n,next_i h hl,idx_nat h,onSome]
  rw[eq_ModeInfo _ rfl (hd _ (List.getElem_mem h))]
  simp)
theorem eq_Medl(m:TMedl.T)(h:smallM m):l_eqMedl (m,m,())=some (true,()):=by
 have hz:=small_sizes h
 have h1:l_eqNodeInfoS (m.2.1,m.2.1,())=some (true,()):=eq_NodeInfoS _ rfl hz.1
 have h2:l_eqModeInfoS (m.2.2.1,m.2.2.1,())=some (true,()):=eq_ModeInfoS _ rfl hz.2.2.1 hz.2.2.2.1
 have h3:l_eqSlotInfoS (m.2.2.2.1,m.2.2.2.1,())=some (true,()):=eq_SlotInfoS _ rfl hz.2.2.2.2
 unfold l_eqMedl
 simp only[h1,h2,h3,bne_self_i,Bool.not_true]
theorem eq_Frame(x)(h:x.2.1=x.1)(hd:x.1.2.2.2.1.length≤1099511627776):l_eqFrame x=some (true,()):=by
 obtain⟨a,b,u⟩:=x
 obtain rfl:b=a:=h
 have h1:l_eqState ((b.2.2.1.1,b.2.2.1.2.1,b.2.2.1.2.2.1,b.2.2.1.2.2.2.1,b.2.2.1.2.2.2.2.1,()),(b.2.2.1.1,b.2.2.1.2.1,b.2.2.1.2.2.1,b.2.2.1.2.2.2.1,b.2.2.1.2.2.2.2.1,()),())=some (true,()):=eq_State _ rfl
 have h2:l_eqInt64S (b.2.2.2.1,b.2.2.2.1,())=some (true,()):=eq_Int64S _ rfl hd
 unfold l_eqFrame
 simp only[h1,h2,bne_self_i,Bool.not_true]
theorem eq_Verdict(v:TVerdict.T)(hd:v.2.1.2.2.2.1.length≤1099511627776):l_eqVerdict (v,v,())=some (true,()):=by
 have h1:l_eqFrame ((v.2.1.1,v.2.1.2.1,(v.2.1.2.2.1.1,v.2.1.2.2.1.2.1,v.2.1.2.2.1.2.2.1,v.2.1.2.2.1.2.2.2.1,v.2.1.2.2.1.2.2.2.2.1,()),v.2.1.2.2.2.1,()),(v.2.1.1,v.2.1.2.1,(v.2.1.2.2.1.1,v.2.1.2.2.1.2.1,v.2.1.2.2.1.2.2.1,v.2.1.2.2.1.2.2.2.1,v.2.1.2.2.1.2.2.2.2.1,()),v.2.1.2.2.2.1,()),())=some (true,()):=eq_Frame _ rfl hd
 unfold l_eqVerdict
 simp only[h1,bne_self_i,Bool.not_true]
def withD(v:TVerdict.T)(d:List Int):TVerdict.T:=(v.1,(v.2.1.1,v.2.1.2.1,v.2.1.2.2.1,d,()),())
theorem mark_Verdict1(v:TVerdict.T)(q:Int)(h:v.2.1.2.2.2.1.length≤1099511627776):l_markVerdict (v,q,())=some ((marks f_Int64 v.2.1.2.2.2.1 q).2,withD v (marks f_Int64 v.2.1.2.2.2.1 q).1,()):=by
 have h1:l_markInt64S (v.2.1.2.2.2.1,q,())=_:=mark_Int64S (v.2.1.2.2.2.1,q,()) h
 unfold l_markVerdict l_markFrame
 simp only[h1]
 rfl
theorem held_Verdict1(v:TVerdict.T)(l:List Int)(hl:l.length≤1099511627776):l_heldVerdict (withD v (marks f_Int64 l 1).1,1,())=some ((marks f_Int64 l 1).2,()):=by
 have h1:l_heldInt64S ((marks f_Int64 l 1).1,1,())=_:=held_Int64S l hl ((marks f_Int64 l 1).1,1,()) rfl
 have m:=q_Int64S l hl 1 (by omega) (by omega)
 have n:decide ((marks f_Int64 l 1).2<0)=false:=by simp;omega
 unfold l_heldVerdict l_heldFrame withD
 simp only[h1,n]
theorem marks_walk {T O:Type}{B:List T×Int×Int×Unit→Option ((List T×Int×Int×Unit) ⊕ ((List T×Int×Unit) ⊕ O))}(N:Nat)(P:T→Prop)(K:Int)(hK:0≤K)
  (hend:∀s q,s.length=N→B (s,q,(N:Int),())=some (.inr (.inl (s,q,()))))
  (hstep:∀(s:List T) (q:Int) i,i<N→s.length=N→(∀v ∈ s,P v)→0≤q→q≤1000000000000000000→∃(s':List T) (q':Int),B (s,q,(i:Int),())=some (.inl (s',q',((i+1:Nat):Int),()))∧s'.length=N∧(∀v ∈ s',P v)∧q≤q'∧q'≤q+K):
  ∀(n i:Nat) (s:List T) (q:Int),i+n=N→s.length=N→(∀v ∈ s,P v)→0≤q→q+(n:Int)*K≤1000000000000000000→∃(s':List T) (q':Int),loopL B (s,q,(i:Int),())=some (.inl (s',q',()))∧q≤q'∧q'≤q+(n:Int)*K
 |0,i,s,q,hi,hs,hp,h0,h1=>by
  have hi:i=N:=by omega
  subst hi
  exact⟨s,q,by rw[loopL_eq,hend s q hs],by omega,by omega⟩
 |n+1,i,s,q,hi,hs,hp,h0,h1=>by
  have hn:((n+1:Nat):Int)*K=(n:Int)*K+K:=by rw[Int.natCast_add,Int.add_mul];simp
  have hp0:0≤(n:Int)*K:=Int.mul_nonneg (by omega) hK
  rw[hn]at h1 ⊢
  obtain⟨s',q',e,a,b,c,d⟩:=hstep s q i (by omega) hs hp h0 (by omega)
  obtain⟨s2,q2,e2,c2,d2⟩:=marks_walk N P K hK hend hstep n (i+1) s' q' (by omega) a b (by omega) (by omega)
  exact⟨s2,q2,by rw[loopL_eq,e];exact e2,by omega,by omega⟩
theorem mark_text(n:Int)(h0:0≤n)(h1:n≤1152921504606847000):∃t,l_markText (n,())=some (t,()):=by
 have key:∀(k m:Nat) (s:List UInt8),m<10^k→s.length+k≤1000→m≤1152921504606847000→∃t:List UInt8,loopL b_l_markText_4 ((m:Int),s,())=some (.inl (t,()))∧t.length≤s.length+k:=by
  intro k
  induction k with
  |zero=>
   intro m s hm _ _
   have:m=0:=by simpa using hm
   subst this
   exact⟨s,by rw[loopL_eq];rfl,by omega⟩
  |succ k ih=>
   intro m s hm hs hb
   by_cases hz:m=0
   ·subst hz
    exact⟨s,by rw[loopL_eq];rfl,by omega⟩
   ·have hd:decide ((m:Int)>0)=true:=decide_eq_true (by omega)
    have hw:IntKind.i64.wrap (Int.tdiv (m:Int) 10)=((m / 10:Nat):Int):=by
     rw[Int.tdiv_eq_ediv_of_nonneg (by omega),wrap_i64]<;>omega
    have hm':m / 10<10^k:=by
     rw[Nat.pow_succ]at hm
     omega
    obtain⟨t,e,ht⟩:=ih (m / 10) (List.map (fun n=>UInt8.ofNat (Int.toNat n)) ([(IntKind.u8.wrap (IntKind.i64.wrap ((48:Int)+(Int.tmod (m:Int) (10:Int)))))]:List Int)++s) hm' (by simp;omega) (by omega)
    refine⟨t, ?_,by simp at ht;omega⟩
    rw[loopL_eq]
    simp only[b_l_markText_4,hd,hw]
    rw[room_ok (by simp;omega)]
    exact e
 obtain⟨m,rfl⟩:∃m:Nat,n=m:=⟨n.toNat,by omega⟩
 obtain⟨t,e,ht⟩:=key 19 m [] (by omega) (by simp) (by omega)
 unfold l_markText
 by_cases hc:(m:Int)≤0
 ·exact⟨[109,48],by simp only[decide_eq_true hc]⟩
 ·simp only[decide_eq_false hc,e]
  rw[room_ok (by simp at ht ⊢;omega)]
  exact⟨_,rfl⟩
theorem mark_nodes(l:List TNodeInfo.T)(q:Int)(hl:l.length≤1048576)(h0:0≤q)(h1:q≤1000000000000):∃(s':List TNodeInfo.T) (q':Int),l_markNodeInfoS (l,q,())=some (q',s',())∧q≤q'∧q'≤q+4194304:=by
 obtain⟨s',q',e,a,b⟩:=marks_walk (B:=b_l_markNodeInfoS_2) l.length (fun _=>True) 4 (by omega) (fun s q hs=>by simp only[b_l_markNodeInfoS_2,hs,lt_n]) (fun s q i hi hs _ q0 q1=>by
  have h':i<s.length:=by omega
  have w1:IntKind.i64.wrap (q+1)=q+1:=next_w (by omega) (by omega)
  have w2:IntKind.i64.wrap (q+1+1)=q+1+1:=next_w (by omega) (by omega)
  have w3:IntKind.i64.wrap (q+1+1+1)=q+1+1+1:=next_w (by omega) (by omega)
  have w4:IntKind.i64.wrap (q+1+1+1+1)=q+1+1+1+1:=next_w (by omega) (by omega)
  obtain⟨t,ht⟩:=mark_text (q+1) (by omega) (by omega)
  have hs':(s.length:Int)=(l.length:Int):=by rw[hs]
  simp only[b_l_markNodeInfoS_2,hs',lt_i hi,next_i hi (show l.length≤1099511627776 by omega),idx_nat h',onSome,w1,ht,Int.toNat_natCast,List.getElem?_eq_getElem h',List.length_set,idx,List.getElem?_set,List.set_set,List.getElem?_set_self,Int.natCast_nonneg,if_true,h',w2,w3,w4]
  exact⟨_,_,rfl,by rw[List.length_set];exact hs,fun _ _=>trivial,by omega,by omega⟩) l.length 0 l q (by omega) rfl (fun _ _=>trivial) h0 (by omega)
 have e:loopL b_l_markNodeInfoS_2 (l,q,(0:Int),())=_:=e
 refine⟨s',q', ?_,a,by omega⟩
 unfold l_markNodeInfoS
 simp only[e]
theorem mark_slots(l:List TSlotInfo.T)(q:Int)(hl:l.length≤1048576)(h0:0≤q)(h1:q≤1000000000000000):∃(s':List TSlotInfo.T) (q':Int),l_markSlotInfoS (l,q,())=some (q',s',())∧q≤q'∧q'≤q+8388608:=by
 obtain⟨s',q',e,a,b⟩:=marks_walk (B:=b_l_markSlotInfoS_2) l.length (fun _=>True) 8 (by omega) (fun s q hs=>by simp only[b_l_markSlotInfoS_2,hs,lt_n]) (fun s q i hi hs _ q0 q1=>by
  have h':i<s.length:=by omega
  have w1:IntKind.i64.wrap (q+1)=q+1:=next_w (by omega) (by omega)
  have w2:IntKind.i64.wrap (q+1+1)=q+1+1:=next_w (by omega) (by omega)
  have w3:IntKind.i64.wrap (q+1+1+1)=q+1+1+1:=next_w (by omega) (by omega)
  have w4:IntKind.i64.wrap (q+1+1+1+1)=q+1+1+1+1:=next_w (by omega) (by omega)
  have w5:IntKind.i64.wrap (q+1+1+1+1+1)=q+1+1+1+1+1:=next_w (by omega) (by omega)
  have w6:IntKind.i64.wrap (q+1+1+1+1+1+1)=q+1+1+1+1+1+1:=next_w (by omega) (by omega)
  have w7:IntKind.i64.wrap (q+1+1+1+1+1+1+1)=q+1+1+1+1+1+1+1:=next_w (by omega) (by omega)
  have w8:IntKind.i64.wrap (q+1+1+1+1+1+1+1+1)=q+1+1+1+1+1+1+1+1:=next_w (by omega) (by omega)
  have hs':(s.length:Int)=(l.length:Int):=by rw[hs]
  simp only[b_l_markSlotInfoS_2,hs',lt_i hi,next_i hi (show l.length≤1099511627776 by omega),idx_nat h',onSome,w1,Int.toNat_natCast,List.getElem?_eq_getElem h',List.length_set,idx,List.getElem?_set,List.set_set,List.getElem?_set_self,Int.natCast_nonneg,if_true,h',w2,w3,w4,w5,w6,w7,w8]
  exact⟨_,_,rfl,by rw[List.length_set];exact hs,fun _ _=>trivial,by omega,by omega⟩) l.length 0 l q (by omega) rfl (fun _ _=>trivial) h0 (by omega)
 have e:loopL b_l_markSlotInfoS_2 (l,q,(0:Int),())=_:=e
 refine⟨s',q', ?_,a,by omega⟩
 unfold l_markSlotInfoS
 simp only[e]
theorem mark_modes(l:List TModeInfo.T)(q:Int)(hl:l.length≤1048576)(hd:∀v ∈ l,v.2.2.1.length≤1048576)(h0:0≤q)(h1:q≤1000000000000):∃(s':List TModeInfo.T) (q':Int),l_markModeInfoS (l,q,())=some (q',s',())∧q≤q'∧q'≤q+2199023255552:=by
 obtain⟨s',q',e,a,b⟩:=marks_walk (B:=b_l_markModeInfoS_2) l.length (fun(v:TModeInfo.T)=>v.2.2.1.length≤1048576) 2097152 (by omega) (fun s q hs=>by simp only[b_l_markModeInfoS_2,hs,lt_n]) (fun s q i hi hs hp q0 q1=>by
  have h':i<s.length:=by omega
  have w1:IntKind.i64.wrap (q+1)=q+1:=next_w (by omega) (by omega)
  have w2:IntKind.i64.wrap (q+1+1)=q+1+1:=next_w (by omega) (by omega)
  have hs':(s.length:Int)=(l.length:Int):=by rw[hs]
  have hlen:=hp _ (List.getElem_mem h')
  have hm:l_markInt64S (s[i].2.2.1,q+1+1,())=_:=mark_Int64S (s[i].2.2.1,q+1+1,()) (Nat.le_trans hlen (by omega))
  have hq:=q_Int64S s[i].2.2.1 (Nat.le_trans hlen (by omega)) (q+1+1) (by omega) (by omega)
  simp only[b_l_markModeInfoS_2,hs',lt_i hi,next_i hi (show l.length≤1099511627776 by omega),idx_nat h',onSome,w1,w2,hm,Int.toNat_natCast,List.getElem?_eq_getElem h',List.length_set,idx,List.getElem?_set,List.set_set,List.getElem?_set_self,Int.natCast_nonneg,if_true,h']
  refine⟨_,_,rfl,by rw[List.length_set];exact hs,fun v hv=> ?_,by omega,by omega⟩
  rcases List.mem_or_eq_of_mem_set hv with hv|hv
  ·exact hp v hv
  ·rw[hv]
   show(marks f_Int64 s[i].2.2.1 (q+1+1)).1.length≤1048576
   rw[marks_length]
   exact hlen) l.length 0 l q (by omega) rfl hd h0 (by omega)
 have e:loopL b_l_markModeInfoS_2 (l,q,(0:Int),())=_:=e
 refine⟨s',q', ?_,a,by omega⟩
 unfold l_markModeInfoS
 simp only[e]
theorem mark_medl(m:TMedl.T)(h:smallM m):∃(c:Int) (m':TMedl.T),l_markMedl (m,(1:Int),())=some (c,m',())∧0≤c∧c≤100000000000000:=by
 obtain⟨s1,q1,e1,a1,b1⟩:=mark_nodes m.2.1 1 h.1 (by omega) (by omega)
 obtain⟨s2,q2,e2,a2,b2⟩:=mark_modes m.2.2.1 q1 h.2.2.1 h.2.2.2.1 (by omega) (by omega)
 obtain⟨s3,q3,e3,a3,b3⟩:=mark_slots m.2.2.2.1 q2 h.2.2.2.2 (by omega) (by omega)
 unfold l_markMedl
 simp only[e1,e2,e3]
 exact⟨_,_,rfl,by omega,by omega⟩
end Go.Proofs.YthfgmmmeplanbaaGreatDoor
namespace Go.Proofs.YthfgmmmeplanbaaGreatDoor
open Go.RowKit
set_option linter.unusedVariables false
set_option linter.unusedSimpArgs false
abbrev dataV(v:TVerdict.T):List Int:=v.2.1.2.2.2.1
theorem s_sameFrame(x)(h:x.1.2.2.2.1.length≤1099511627776):s_l28Same x=some (sameFrameB x.1 x.2.1,()):=by
 have hs:s_l01Same (x.1.2.2.2.1,x.2.1.2.2.2.1,())=_:=s_same x.1.2.2.2.1 x.2.1.2.2.2.1 h
 have e0:s_l28Same x=match(x.1.1==x.2.1.1)with
  |true=>match(x.1.2.1==x.2.1.2.1)with
   |true=>match eqT TState x.1.2.2.1 x.2.1.2.2.1 with
    |true=>match s_l01Same (x.1.2.2.2.1,x.2.1.2.2.2.1,())with
     |none=>none
     |some v1=>some (v1.1,())
    |false=>some (false,())
   |false=>some (false,())
  |false=>some (false,()):=rfl
 rw[e0,hs]
 unfold sameFrameB
 rcases Bool.eq_false_or_eq_true (x.1.1==x.2.1.1)with h1|h1<;>rcases Bool.eq_false_or_eq_true (x.1.2.1==x.2.1.2.1)with h2|h2<;>rcases Bool.eq_false_or_eq_true (eqT TState x.1.2.2.1 x.2.1.2.2.1)with h3|h3<;>simp only[h1,h2,h3]<;>rfl
theorem i_sameFrame1(x)(h:x.1.2.2.2.1.length≤1099511627776):i_sameFrame x=some (sameFrameB x.1 x.2.1,()):=by
 have hs:slices_Equal_int64 (x.1.2.2.2.1,x.2.1.2.2.2.1,())=_:=i_same x.1.2.2.2.1 x.2.1.2.2.2.1 h
 have e0:i_sameFrame x=match(x.1.1==x.2.1.1)with
  |true=>match(x.1.2.1==x.2.1.2.1)with
   |true=>match eqT TState x.1.2.2.1 x.2.1.2.2.1 with
    |true=>match slices_Equal_int64 (x.1.2.2.2.1,x.2.1.2.2.2.1,())with
     |none=>none
     |some v1=>some (v1.1,())
    |false=>some (false,())
   |false=>some (false,())
  |false=>some (false,()):=rfl
 rw[e0,hs]
 unfold sameFrameB
 rcases Bool.eq_false_or_eq_true (x.1.1==x.2.1.1)with h1|h1<;>rcases Bool.eq_false_or_eq_true (x.1.2.1==x.2.1.2.1)with h2|h2<;>rcases Bool.eq_false_or_eq_true (eqT TState x.1.2.2.1 x.2.1.2.2.1)with h3|h3<;>simp only[h1,h2,h3]<;>rfl
theorem i_sameVerdict(x)(h:x.1.2.1.2.2.2.1.length≤1099511627776):i_SameVerdict x=some (sameVerdictB x.1 x.2.1,()):=by
 have e0:i_SameVerdict x=match(x.1.1==x.2.1.1)with
  |true=>match i_sameFrame (x.1.2.1,x.2.1.2.1,())with
   |none=>none
   |some v1=>some (v1.1,())
  |false=>some (false,()):=rfl
 rw[e0,i_sameFrame1 (x.1.2.1,x.2.1.2.1,()) h]
 unfold sameVerdictB
 rcases Bool.eq_false_or_eq_true (x.1.1==x.2.1.1)with h1|h1<;>simp only[h1]<;>rfl
theorem eqState_iff(x y:TState.T):eqT TState x y=true↔x=y:=by
 obtain⟨(a:Int),(b:Int),(c:Int),(d:Int),(e:Int),⟨⟩⟩:=x
 obtain⟨(a':Int),(b':Int),(c':Int),(d':Int),(e':Int),⟨⟩⟩:=y
 have h:eqT TState (a,b,c,d,e,()) (a',b',c',d',e',())=((a==a')&&((b==b')&&((c==c')&&((d==d')&&((e==e')&&true))))):=rfl
 rw[h]
 simp only[Bool.and_eq_true,beq_iff_eq,and_true]
 constructor
 ·rintro ⟨rfl,rfl,rfl,rfl,rfl⟩;rfl
 ·intro h
  cases h
  exact⟨rfl,rfl,rfl,rfl,rfl⟩
theorem sameFrame_iff(x y:TFrame.T):sameFrameB x y=true↔x=y:=by
 obtain⟨(a:Int),(b:Int),c,(d:List Int),⟨⟩⟩:=x
 obtain⟨(a':Int),(b':Int),c',(d':List Int),⟨⟩⟩:=y
 have h:sameFrameB (a,b,c,d,()) (a',b',c',d',())=((a==a')&&((b==b')&&(eqT TState c c'&&decide (d=d')))):=rfl
 rw[h]
 simp only[Bool.and_eq_true,beq_iff_eq,eqState_iff,decide_eq_true_eq]
 constructor
 ·rintro ⟨rfl,rfl,rfl,rfl⟩;rfl
 ·intro h
  cases h
  exact⟨rfl,rfl,rfl,rfl⟩
def bareV(s:Int):TVerdict.T:=(s,zeroF,())
theorem verdict_cases {v:TVerdict.T}(h:verdictB v=true):(∃f,v=((3:Int),f,())∧frameB f=true)∨(∃s:Int,v=bareV s∧0≤s∧s≤4∧s≠3):=by
 obtain⟨(s:Int),f,⟨⟩⟩:=v
 have h:(if s==(3:Int)then frameB f else inB s 0 4&&sameFrameB f zeroF)=true:=h
 by_cases hs:s=3
 ·subst hs
  exact .inl ⟨f,rfl,by simpa using h⟩
 ·have hb:(s==(3:Int))=false:=by simp[hs]
  rw[hb]at h
  simp only[Bool.false_eq_true,if_false,Bool.and_eq_true,sameFrame_iff]at h
  obtain⟨h1,rfl⟩:=h
  have:=in_iff.1 h1
  exact .inr ⟨s,rfl,this.1,this.2,hs⟩
theorem bare_ok {s:Int}(h0:0≤s)(h4:s≤4)(h3:s≠3):verdictB (bareV s)=true:=by
 have e:verdictB (bareV s)=if s==(3:Int)then frameB zeroF else inB s 0 4&&sameFrameB zeroF zeroF:=rfl
 have hb:(s==(3:Int))=false:=by simp[h3]
 rw[e,hb,(sameFrame_iff zeroF zeroF).2 rfl,in_iff.2 ⟨h0,h4⟩]
 rfl
noncomputable def mergeL(a b:TVerdict.T):TVerdict.T:=if(a.1==(3:Int))&&((b.1==(3:Int))&&sameFrameB a.2.1 b.2.1)then a else if((a.1==(3:Int))&&(b.1==(3:Int)))||((a.1==(4:Int))||(b.1==(4:Int)))then bareV 4 else if a.1==(3:Int)then a else if b.1==(3:Int)then b else bareV (if b.1>a.1 then b.1 else a.1)
noncomputable def mergeI(a b:TVerdict.T):TVerdict.T:=if(a.1==(3:Int))&&sameVerdictB a b then a else if((a.1==(3:Int))&&(b.1==(3:Int)))||((a.1==(4:Int))||(b.1==(4:Int)))then bareV 4 else if decide (a.1≥b.1)then a else b
theorem s_merge(a b:TVerdict.T)(h:(dataV a).length≤1099511627776):s_l29Merge (a,b,())=some (mergeL a b,()):=by
 have hs:s_l28Same (a.2.1,b.2.1,())=some (sameFrameB a.2.1 b.2.1,()):=s_sameFrame _ h
 obtain⟨(s:Int),⟨(k:Int),(r:Int),⟨(t1:Int),(t2:Int),(t3:Int),(t4:Int),(t5:Int),⟨⟩⟩,(d:List Int),⟨⟩⟩,⟨⟩⟩:=a
 obtain⟨(s':Int),⟨(k':Int),(r':Int),⟨(u1:Int),(u2:Int),(u3:Int),(u4:Int),(u5:Int),⟨⟩⟩,(d':List Int),⟨⟩⟩,⟨⟩⟩:=b
 unfold s_l29Merge mergeL
 simp only at hs ⊢
 rw[hs]
 rcases Bool.eq_false_or_eq_true (s==(3:Int))with h1|h1<;>rcases Bool.eq_false_or_eq_true (s'==(3:Int))with h2|h2<;>rcases Bool.eq_false_or_eq_true (s==(4:Int))with h3|h3<;>rcases Bool.eq_false_or_eq_true (s'==(4:Int))with h4|h4<;>(try (rcases Bool.eq_false_or_eq_true (sameFrameB (k,r,(t1,t2,t3,t4,t5,()),d,()) (k',r',(u1,u2,u3,u4,u5,()),d',()))with h5|h5))<;>simp only[h1,h2,h3,h4,h5]<;>rfl
theorem i_merge_ok(a b:TVerdict.T)(h:(dataV a).length≤1099511627776):i_merge (a,b,())=some (mergeI a b,()):=by
 have hs:i_SameVerdict (a,b,())=some (sameVerdictB a b,()):=i_sameVerdict _ h
 obtain⟨(s:Int),⟨(k:Int),(r:Int),⟨(t1:Int),(t2:Int),(t3:Int),(t4:Int),(t5:Int),⟨⟩⟩,(d:List Int),⟨⟩⟩,⟨⟩⟩:=a
 obtain⟨(s':Int),⟨(k':Int),(r':Int),⟨(u1:Int),(u2:Int),(u3:Int),(u4:Int),(u5:Int),⟨⟩⟩,(d':List Int),⟨⟩⟩,⟨⟩⟩:=b
 unfold i_merge mergeI
 simp only at hs ⊢
 rw[hs]
 generalize sameVerdictB (s,(k,r,(t1,t2,t3,t4,t5,()),d,()),()) (s',(k',r',(u1,u2,u3,u4,u5,()),d',()),())=q
 rcases Bool.eq_false_or_eq_true (s==(3:Int))with h1|h1<;>rcases Bool.eq_false_or_eq_true (s'==(3:Int))with h2|h2<;>rcases Bool.eq_false_or_eq_true (s==(4:Int))with h3|h3<;>rcases Bool.eq_false_or_eq_true (s'==(4:Int))with h4|h4<;>rcases Bool.eq_false_or_eq_true (decide (s≥s'))with h6|h6<;>cases q<;>simp only[h1,h2,h3,h4,h6]<;>rfl
theorem merge_same {a b:TVerdict.T}(ha:verdictB a=true)(hb:verdictB b=true):mergeI a b=mergeL a b:=by
 rcases verdict_cases ha with⟨f,rfl,hf⟩|⟨s,rfl,h0,h4,h3⟩<;>rcases verdict_cases hb with⟨g,rfl,hg⟩|⟨s',rfl,h0',h4',h3'⟩
 ·have e:sameVerdictB ((3:Int),f,()) ((3:Int),g,())=sameFrameB f g:=by
   show(((3:Int)==3)&&sameFrameB f g)=_
   simp
  unfold mergeI mergeL
  rw[e]
  cases sameFrameB f g<;>rfl
 ·have e:sameVerdictB ((3:Int),f,()) (bareV s')=false:=by
   show(((3:Int)==s')&&sameFrameB f zeroF)=_
   have:((3:Int)==s')=false:=by simp;omega
   rw[this];rfl
  have e3:(s'==(3:Int))=false:=by simp[h3']
  unfold mergeI mergeL
  rw[e]
  show(if((3:Int)==3&&false)=true then _ else if(((3:Int)==3&&s'==(3:Int))||((3:Int)==4||s'==(4:Int)))=true then bareV 4 else if decide ((3:Int)≥s')=true then _ else bareV s')=(if((3:Int)==3&&(s'==(3:Int)&&sameFrameB f zeroF))=true then _ else if(((3:Int)==3&&s'==(3:Int))||((3:Int)==4||s'==(4:Int)))=true then bareV 4 else if((3:Int)==3)=true then _ else if(s'==(3:Int))=true then _ else _)
  rw[e3]
  rcases Bool.eq_false_or_eq_true (s'==(4:Int))with h|h
  ·rw[h];rfl
  ·have:s'≠4:=by simpa using h
   have hd:decide ((3:Int)≥s')=true:=by simp;omega
   rw[h,hd];rfl
 ·have e3:(s==(3:Int))=false:=by simp[h3]
  unfold mergeI mergeL
  show(if(s==(3:Int)&&sameVerdictB (bareV s) ((3:Int),g,()))=true then _ else if((s==(3:Int)&&(3:Int)==(3:Int))||(s==(4:Int)||(3:Int)==(4:Int)))=true then bareV 4 else if decide (s≥(3:Int))=true then _ else _)=(if(s==(3:Int)&&((3:Int)==(3:Int)&&sameFrameB zeroF g))=true then _ else if((s==(3:Int)&&(3:Int)==(3:Int))||(s==(4:Int)||(3:Int)==(4:Int)))=true then bareV 4 else if(s==(3:Int))=true then _ else if((3:Int)==(3:Int))=true then _ else _)
  rw[e3]
  rcases Bool.eq_false_or_eq_true (s==(4:Int))with h|h
  ·rw[h];rfl
  ·have:s≠4:=by simpa using h
   have hd:decide (s≥(3:Int))=false:=by simp;omega
   rw[h,hd];rfl
 ·have e3:(s==(3:Int))=false:=by simp[h3]
  have e3':(s'==(3:Int))=false:=by simp[h3']
  unfold mergeI mergeL
  show(if(s==(3:Int)&&sameVerdictB (bareV s) (bareV s'))=true then _ else if((s==(3:Int)&&s'==(3:Int))||(s==(4:Int)||s'==(4:Int)))=true then bareV 4 else if decide (s≥s')=true then bareV s else bareV s')=(if(s==(3:Int)&&(s'==(3:Int)&&sameFrameB zeroF zeroF))=true then _ else if((s==(3:Int)&&s'==(3:Int))||(s==(4:Int)||s'==(4:Int)))=true then bareV 4 else if(s==(3:Int))=true then bareV s else if(s'==(3:Int))=true then bareV s' else bareV (if s'>s then s' else s))
  rw[e3,e3']
  simp only[Bool.false_and,Bool.false_eq_true,if_false,Bool.false_or]
  rcases Bool.eq_false_or_eq_true (s==(4:Int)||s'==(4:Int))with h|h
  ·simp only[h,if_true]
  ·simp only[h,Bool.false_eq_true,if_false]
   by_cases hg:s'>s
   ·have hd:decide (s≥s')=false:=by simp;omega
    simp[hd,hg]
   ·have hd:decide (s≥s')=true:=by simp;omega
    simp[hd,hg]
theorem merge_valid {a b:TVerdict.T}(ha:verdictB a=true)(hb:verdictB b=true):verdictB (mergeL a b)=true:=by
 unfold mergeL
 split
 ·exact ha
 ·split
  ·exact bare_ok (by omega) (by omega) (by omega)
  ·split
   ·exact ha
   ·split
    ·exact hb
    ·rename_i h1 h2 h3 h4
     rcases verdict_cases ha with⟨f,rfl,hf⟩|⟨s,rfl,h0,h4,h3⟩
     ·exact absurd rfl h3
     ·rcases verdict_cases hb with⟨g,rfl,hg⟩|⟨s',rfl,h0',h4',h3'⟩
      ·exact absurd rfl h4
      ·show verdictB (bareV (if s'>s then s' else s))=true
       split
       ·exact bare_ok (by assumption) (by assumption) (by assumption)
       ·exact bare_ok (by assumption) (by assumption) (by assumption)
theorem merge_data {a b:TVerdict.T}{n:Nat}(ha:(dataV a).length≤n)(hb:(dataV b).length≤n):(dataV (mergeL a b)).length≤n:=by
 unfold mergeL
 split
 ·exact ha
 ·split
  ·exact Nat.zero_le _
  ·split
   ·exact ha
   ·split
    ·exact hb
    ·exact Nat.zero_le _
end Go.Proofs.YthfgmmmeplanbaaGreatDoor
namespace Go.Proofs.YthfgmmmeplanbaaGreatDoor
open Go.RowKit
set_option linter.unusedVariables false
set_option linter.unusedSimpArgs false
noncomputable def bothR(m:TMedl.T)(st:TState.T)(l l2:List Int):TVerdict.T×Int×Unit:=match(recvR m st l).2.1 != (0:Int)with
 |true=>(bareV 0,(recvR m st l).2.1,())
 |false=>match(recvR m st l2).2.1 != (0:Int)with
  |true=>(bareV 0,(recvR m st l2).2.1,())
  |false=>(mergeL (recvR m st l).1 (recvR m st l2).1,(0:Int),())
theorem recv_data(m:TMedl.T)(st:TState.T)(l:List Int):(recvR m st l).1.2.1.2.2.2.1.length≤32:=by
 unfold recvR
 split
 ·exact Nat.zero_le _
 ·split
  ·exact Nat.zero_le _
  ·split
   ·exact Nat.zero_le _
   ·show(recvV m st l).2.1.2.2.2.1.length≤32
    unfold recvV
    split
    ·unfold judgeV
     split
     ·rename_i h
      rw[Bool.and_eq_true]at h
      exact frame_len (frL_frame (open_ok h.1))
     ·exact Nat.zero_le _
    ·split<;>exact Nat.zero_le _
theorem recv_valid(m:TMedl.T)(st:TState.T)(l:List Int):verdictB (recvR m st l).1=true:=by
 have h0:∀s:Int,0≤s→s≤4→s≠3→verdictB ((s,zeroF,()):TVerdict.T)=true:=fun s a b c=>bare_ok a b c
 unfold recvR
 split
 ·exact h0 0 (by omega) (by omega) (by omega)
 ·split
  ·exact h0 0 (by omega) (by omega) (by omega)
  ·split
   ·exact h0 0 (by omega) (by omega) (by omega)
   ·show verdictB (recvV m st l)=true
    unfold recvV
    split
    ·unfold judgeV
     split
     ·rename_i h
      rw[Bool.and_eq_true]at h
      exact frL_frame (open_ok h.1)
     ·exact h0 2 (by omega) (by omega) (by omega)
    ·split
     ·exact h0 0 (by omega) (by omega) (by omega)
     ·exact h0 1 (by omega) (by omega) (by omega)
theorem i_both(m:TMedl.T)(st:TState.T)(l l2:List Int)(hz:sizesM m)(hl:l.length≤1099511627776)(hl2:l2.length≤1099511627776):i_ReceiveBoth (m,st,l,l2,())=some (bothR m st l l2):=by
 have h1:i_ReceiveChannel ((m.1,m.2.1,m.2.2.1,m.2.2.2.1,()),(st.1,st.2.1,st.2.2.1,st.2.2.2.1,st.2.2.2.2.1,()),l,())=_:=i_channel m st l hz hl
 have h2:i_ReceiveChannel ((m.1,m.2.1,m.2.2.1,m.2.2.2.1,()),(st.1,st.2.1,st.2.2.1,st.2.2.2.1,st.2.2.2.2.1,()),l2,())=_:=i_channel m st l2 hz hl2
 have hd1:=recv_data m st l
 have hv1:=recv_valid m st l
 have hv2:=recv_valid m st l2
 have hm:=i_merge_ok (recvR m st l).1 (recvR m st l2).1 (Nat.le_trans hd1 (by omega))
 rw[merge_same hv1 hv2]at hm
 unfold i_ReceiveBoth bothR
 simp only[h1,h2]
 rcases Bool.eq_false_or_eq_true ((recvR m st l).2.1 != (0:Int))with g|g<;>simp only[g]
 ·rfl
 ·rcases Bool.eq_false_or_eq_true ((recvR m st l2).2.1 != (0:Int))with g2|g2<;>simp only[g2]
  ·rfl
  ·generalize recvR m st l=r1 at hm ⊢
   generalize recvR m st l2=r2 at hm ⊢
   obtain⟨⟨(s1:Int),⟨(f1:Int),(q1:Int),⟨(t11:Int),(t12:Int),(t13:Int),(t14:Int),(t15:Int),⟨⟩⟩,(da:List Int),⟨⟩⟩,⟨⟩⟩,(c1:Int),⟨⟩⟩:=r1
   obtain⟨⟨(s2:Int),⟨(f2:Int),(q2:Int),⟨(t21:Int),(t22:Int),(t23:Int),(t24:Int),(t25:Int),⟨⟩⟩,(db:List Int),⟨⟩⟩,⟨⟩⟩,(c2:Int),⟨⟩⟩:=r2
   simp only at hm ⊢
   simp only[hm]
theorem s_both(m:TMedl.T)(st:TState.T)(l l2:List Int)(hz:sizesM m)(hl:l.length≤1099511627776)(hl2:l2.length≤1099511627776):s_ReceiveBoth (m,st,l,l2,())=some (bothR m st l l2):=by
 have h1:s_ReceiveChannel ((m.1,m.2.1,m.2.2.1,m.2.2.2.1,()),(st.1,st.2.1,st.2.2.1,st.2.2.2.1,st.2.2.2.2.1,()),l,())=_:=s_channel m st l hz hl
 have h2:s_ReceiveChannel ((m.1,m.2.1,m.2.2.1,m.2.2.2.1,()),(st.1,st.2.1,st.2.2.1,st.2.2.2.1,st.2.2.2.2.1,()),l2,())=_:=s_channel m st l2 hz hl2
 have hd1:=recv_data m st l
 have hm:=s_merge (recvR m st l).1 (recvR m st l2).1 (Nat.le_trans hd1 (by omega))
 unfold s_ReceiveBoth bothR
 simp only[h1,h2]
 rcases Bool.eq_false_or_eq_true ((recvR m st l).2.1 != (0:Int))with g|g<;>simp only[g]
 ·rfl
 ·rcases Bool.eq_false_or_eq_true ((recvR m st l2).2.1 != (0:Int))with g2|g2<;>simp only[g2]
  ·rfl
  ·generalize recvR m st l=r1 at hm ⊢
   generalize recvR m st l2=r2 at hm ⊢
   obtain⟨⟨(s1:Int),⟨(f1:Int),(q1:Int),⟨(t11:Int),(t12:Int),(t13:Int),(t14:Int),(t15:Int),⟨⟩⟩,(da:List Int),⟨⟩⟩,⟨⟩⟩,(c1:Int),⟨⟩⟩:=r1
   obtain⟨⟨(s2:Int),⟨(f2:Int),(q2:Int),⟨(t21:Int),(t22:Int),(t23:Int),(t24:Int),(t25:Int),⟨⟩⟩,(db:List Int),⟨⟩⟩,⟨⟩⟩,(c2:Int),⟨⟩⟩:=r2
   simp only at hm ⊢
   simp only[hm]
theorem both_data(m:TMedl.T)(st:TState.T)(l l2:List Int):(bothR m st l l2).1.2.1.2.2.2.1.length≤32:=by
 unfold bothR
 split
 ·exact Nat.zero_le _
 ·split
  ·exact Nat.zero_le _
  ·exact merge_data (recv_data m st l) (recv_data m st l2)
end Go.Proofs.YthfgmmmeplanbaaGreatDoor
