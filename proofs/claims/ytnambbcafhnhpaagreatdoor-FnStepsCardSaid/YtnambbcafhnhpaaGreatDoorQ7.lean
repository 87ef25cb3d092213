import Derived.Test.YtnambbcafhnhpaaGreatDoorQ4
namespace Go.Proofs.YtnambbcafhnhpaaGreatDoor
open Go.RowKit
set_option linter.unusedVariables false
set_option linter.unusedSimpArgs false
theorem Aw {α:Type}(q:α→Bool):∀(l:List α) (i:Nat) (g:Nat) (h:g<l.length),q l[g]=true→(∀k (hk:k<g),q (l[k]'(by omega))=false)→cn q i l=some (i+g)
 | [],_,_,h,_,_=>by simp at h
 |v::r,i,0,_,h1,_=>by
  have h1:q v=true:=h1
  simp[cn,h1]
 |v::r,i,g+1,h,h1,h2=>by
  have h0:q v=false:=h2 0 (by omega)
  have ih:=Aw q r (i+1) g (by simpa using h) h1 (fun k hk=>h2 (k+1) (by omega))
  simp only[cn,h0,ih]
  simp;omega
theorem C5 {α:Type}(q:α→Bool):∀(l:List α) (i:Nat),(∀v ∈ l,q v=false)→cn q i l=none
 | [],_,_=>rfl
 |v::r,i,h=>by simp[cn,h v (by simp),C5 q r (i+1) (fun w hw=>h w (by simp[hw]))]
theorem Gg {l:List Int}{i:Nat}(h:i<l.length):cz l i=l[i]:=by
 unfold cz
 rw[if_neg (by omega),List.getD_eq_getElem?_getD,List.getElem?_eq_getElem h]
 rfl
theorem Sy {l:List Int}{i:Nat}(h:cz l i=0):i<l.length:=by
 unfold cz at h
 split at h
 ·cases h
 ·omega
theorem Ax {l:List Int}{j g:Nat}(hj:j≤g)(hg:cz l g=0)(hb:∀i,j≤i→i<g→cz l i=1):bG l 0 j=some g:=by
 have hlt:=Sy hg
 have h:=Aw (fun x:Int=>x==0) (l.drop j) j (g-j) (by simp;omega) (by
  rw[Gg hlt]at hg
  simp only[List.getElem_drop,show j+(g-j)=g from by omega,hg];rfl) (fun k hk=>by
  have:=hb (j+k) (by omega) (by omega)
  rw[Gg (by omega)]at this
  simp only[List.getElem_drop,this];rfl)
 unfold bG
 rw[h]
 congr 1;omega
theorem rD {l:List Int}{j:Nat}(hb:∀i,j≤i→cz l i=1):bG l 0 j=none:=by
 unfold bG
 refine C5 _ _ _ fun v hv=> ?_
 obtain⟨k,hk,rfl⟩:=List.getElem_of_mem hv
 have hk':j+k<l.length:=by simp at hk;omega
 have:=hb (j+k) (by omega)
 rw[Gg hk']at this
 simp only[List.getElem_drop,this];rfl
theorem aaP {l:List Int}{a h:Nat}(ha:a<h)(hl:h≤l.length)(hh:cz l h=1)(hb:∀i,a<i→i<h→cz l i=0):fA l a=h:=by
 unfold fA
 rcases Nat.lt_or_ge h l.length with hlt|hge
 ·have:=Aw (fun x:Int=>x==1) (l.drop (a+1)) (a+1) (h-(a+1)) (by simp;omega) (by
   rw[Gg hlt]at hh
   simp only[List.getElem_drop,show a+1+(h-(a+1))=h from by omega,hh];rfl) (fun k hk=>by
   have:=hb (a+1+k) (by omega) (by omega)
   rw[Gg (by omega)]at this
   simp only[List.getElem_drop,this];rfl)
  unfold bG
  rw[this]
  simp only;omega
 ·have:bG l 1 (a+1)=none:=by
   unfold bG
   refine C5 _ _ _ fun v hv=> ?_
   obtain⟨k,hk,rfl⟩:=List.getElem_of_mem hv
   have hk':a+1+k<l.length:=by simp at hk;omega
   have:=hb (a+1+k) (by omega) (by omega)
   rw[Gg hk']at this
   simp only[List.getElem_drop,this];rfl
  rw[this]
  simp only;omega
structure K0 (n:Nat) (bv:Nat→Nat→Int) (cv:Nat→Int):Prop where
 pre:∀j,j<8→cv j=0
 gap:cv 8=1
 one:∀b,b<n→cv (9+10*b)=1
 zero:∀b,b<n→cv (10+10*b)=0
 bit:∀b k,b<n→k<8→cv (11+10*b+k)=bv b k
 low:cv (9+10*n)=0
 high:cv (10+10*n)=1
structure Shaped (y:List Int) (n:Nat) (cv:Nat→Int) (e:Nat→Nat):Prop where
 idle:∀i,i<e 0→cz y i=1
 cell:∀j,j<10+10*n→∀i,e j≤i→i<e (j+1)→cz y i=cv j
 rest:∀i,e (10+10*n)≤i→cz y i=1
 near:∀j m,m≤10→j+m≤10+10*n→e j+8*m≤e (j+m)+3∧e (j+m)≤e j+8*m+3
section
variable {y:List Int} {n:Nat} {bv:Nat→Nat→Int} {cv:Nat→Int} {e:Nat→Nat}
theorem Shaped.runs(h:Shaped y n cv e)(v:Int):∀(m j:Nat),j+m≤10+10*n→(∀k,j≤k→k<j+m→cv k=v)→∀i,e j≤i→i<e (j+m)→cz y i=v
 |0,j,_,_,i,h1,h2=>by simp at h2;omega
 |m+1,j,hj,hv,i,h1,h2=>by
  by_cases hi:i<e (j+m)
  ·exact h.runs v m j (by omega) (fun k hk hk2=>hv k hk (by omega)) i h1 hi
  ·have:=h.cell (j+m) (by omega) i (by omega) h2
   rw[this];exact hv (j+m) (by omega) (by omega)
theorem Shaped.edges(h:Shaped y n cv e)(hc:K0 n bv cv):∀(k b fuel:Nat) (acc:List Int),b+(k+1)=n→k<fuel→
  d4 y fuel (e (10+10*b)) acc=some (acc++(List.range (k+1)).map (fun q=>((e (10+10*(b+q)):Nat):Int)),e (10+10*(n-1))+72)
 |k,b,0,acc,hb,hf=>by omega
 |k,b,fuel+1,acc,hb,hf=>by
  have n9:=h.near (10+10*b) 9 (by omega) (by omega)
  have n10:=h.near (10+10*b) 10 (by omega) (by omega)
  have e9:10+10*b+9=9+10*(b+1):=by omega
  have e10:10+10*b+10=10+10*(b+1):=by omega
  rw[e9]at n9
  rw[e10]at n10
  have hs:=h.cell (9+10*(b+1)) (by omega) (e (10+10*b)+76) (by omega) (by
   rw[show 9+10*(b+1)+1=10+10*(b+1) from by omega];omega)
  cases k with
  |zero=>
   have hbn:b+1=n:=by omega
   rw[hbn,hc.low]at hs
   simp only[d4,if_pos hs]
   have:n-1=b:=by omega
   rw[this]
   rfl
  |succ k=>
   have hbn:b+1<n:=by omega
   rw[hc.one (b+1) hbn]at hs
   have hs':¬cz y (e (10+10*b)+76)=0:=by rw[hs];decide
   have hz:=h.near (10+10*(b+1)) 1 (by omega) (by omega)
   have hzero:=h.cell (10+10*(b+1)) (by omega) (e (10+10*(b+1))) (by omega) (by omega)
   rw[hc.zero (b+1) hbn]at hzero
   have hfirst:bG y 0 (e (10+10*b)+77)=some (e (10+10*(b+1))):=Ax (by omega) hzero (fun i hi hi2=>by
    have:=h.cell (9+10*(b+1)) (by omega) i (by omega) (by
     rw[show 9+10*(b+1)+1=10+10*(b+1) from by omega];omega)
    rw[this];exact hc.one (b+1) hbn)
   have hle:¬e (10+10*b)+84<e (10+10*(b+1)):=by omega
   simp only[d4,if_neg hs',hfirst,if_neg hle]
   rw[h.edges hc k (b+1) fuel _ (by omega) (by omega)]
   rw[List.range_succ_eq_map (n:=k+1),List.map_cons,List.map_map]
   simp only[List.append_assoc,List.singleton_append,Nat.add_zero]
   congr 5
   funext q
   simp only[Function.comp,Nat.succ_eq_add_one]
   rw[show b+(q+1)=b+1+q from by omega]
theorem Shaped.grow(h:Shaped y n cv e):∀b,b<n→b≤e (10+10*b)
 |0,_=>by omega
 |b+1,hb=>by
  have ih:=h.grow b (by omega)
  have n10:=h.near (10+10*b) 10 (by omega) (by omega)
  rw[show 10+10*b+10=10+10*(b+1) from by omega]at n10
  omega
theorem Shaped.tail(h:Shaped y n cv e){f:Nat}(hf:e (10+10*n)≤f+12):qt y f=0:=by
 unfold qt
 rw[rD (fun i hi=>h.rest i (by omega))]
 rfl
theorem Shaped.run(h:Shaped y n cv e)(hc:K0 n bv cv):ep y=0∧dk y=(List.range n).map (fun b=>((e (10+10*b):Nat):Int)):=by
 have n8:=h.near 0 8 (by omega) (by omega)
 rw[Nat.zero_add]at n8
 have n1:=h.near 0 1 (by omega) (by omega)
 have n81:=h.near 8 1 (by omega) (by omega)
 have n91:=h.near 9 1 (by omega) (by omega)
 simp only[Nat.zero_add,Nat.reduceAdd]at n1 n81 n91
 have h0:cz y (e 0)=0:=by
  have:=h.cell 0 (by omega) (e 0) (by omega) (by simp only[Nat.zero_add];omega)
  rw[this];exact hc.pre 0 (by omega)
 have fa:bG y 0 0=some (e 0):=Ax (by omega) h0 (fun i _ hi=>h.idle i hi)
 have hrun:=h.runs 0 8 0 (by omega) (fun k _ hk=>hc.pre k (by omega))
 rw[Nat.zero_add]at hrun
 have h8:cz y (e 8)=1:=by
  have:=h.cell 8 (by omega) (e 8) (by omega) (show e 8<e 9 by omega)
  rw[this];exact hc.gap
 have hlen:e 8≤y.length:=by
  have:=Sy (hrun (e 8-1) (by omega) (by omega))
  omega
 have fh:fA y (e 0)=e 8:=aaP (by omega) hlen h8 (fun i h1 h2=>hrun i (by omega) h2)
 have hd:Int.tdiv ((e 8:Int)-(e 0:Int)+4) 8=8:=by
  rw[Int.tdiv_eq_ediv_of_nonneg (by omega)]
  omega
 have hin:bf (8:Int) 3 15=true:=by decide
 cases n with
 |zero=>
  have h9:cz y (e 9)=0:=by
   have:=h.cell 9 (by omega) (e 9) (by omega) (show e 9<e 10 by omega)
   rw[this];exact hc.low
  have ff:bG y 0 (e 8+1)=some (e 9):=Ax (by omega) h9 (fun i h1 h2=>by
   have:=h.cell 8 (by omega) i (by omega) h2
   rw[this];exact hc.gap)
  have hw:oD (e 8) (e 9)=false:=by
   unfold oD
   simp only[Bool.or_eq_false_iff,decide_eq_false_iff_not]
   omega
  have hlt:(e 9:Int)-(e 8:Int)<12:=by omega
  have ht:=h.tail (f:=e 9) (show e 10≤e 9+12 by omega)
  have:oc y=((8:Int),[],(0:Int),()):=by
   unfold oc
   simp only[fa,fh,hd,hin,if_true,ff,hw,hlt,ht]
   rfl
  unfold ep dk
  rw[this]
  exact⟨rfl,rfl⟩
 |succ n=>
  have n82:=h.near 8 2 (by omega) (by omega)
  simp only[Nat.reduceAdd]at n82
  have n101:e 10+8*1≤e 11+3∧e 11≤e 10+8*1+3:=h.near 10 1 (by omega) (by omega)
  have h10:cz y (e 10)=0:=by
   have:=h.cell 10 (by omega) (e 10) (by omega) (show e 10<e 11 by omega)
   rw[this];exact hc.zero 0 (by omega)
  have hr2:=h.runs 1 2 8 (by omega) (fun k h1 h2=>by
   have:k=8∨k=9:=by omega
   rcases this with rfl|rfl
   ·exact hc.gap
   ·exact hc.one 0 (by omega))
  have ff:bG y 0 (e 8+1)=some (e 10):=Ax (by omega) h10 (fun i h1 h2=>hr2 i (by omega) h2)
  have hw:oD (e 8) (e 10)=false:=by
   unfold oD
   simp only[Bool.or_eq_false_iff,decide_eq_false_iff_not]
   omega
  have hlt:¬(e 10:Int)-(e 8:Int)<12:=by omega
  have hg:=h.grow n (by omega)
  have n10:=h.near (10+10*n) 10 (by omega) (by omega)
  rw[show 10+10*n+10=10+10*(n+1) from by omega]at n10
  have nz:=h.near (10+10*n) 1 (by omega) (by omega)
  have hl2:e (10+10*n)<y.length:=Sy (by
   have:=h.cell (10+10*n) (by omega) (e (10+10*n)) (by omega) (show e (10+10*n)<e (10+10*n+1) by omega)
   rw[this];exact hc.zero n (by omega))
  have he:=h.edges hc n 0 (y.length+1) [] (by omega) (by omega)
  simp only[Nat.mul_zero,Nat.add_zero,List.nil_append,Nat.zero_add,Nat.add_sub_cancel]at he
  have ht:=h.tail (f:=e (10+10*n)+72) (by omega)
  have:oc y=((8:Int),(List.range (n+1)).map (fun b=>((e (10+10*b):Nat):Int)),(0:Int),()):=by
   unfold oc
   simp only[fa,fh,hd,hin,if_true,ff,hw,if_neg hlt,he,ht]
   rfl
  unfold ep dk
  rw[this]
  exact⟨rfl,rfl⟩
theorem Shaped.val(h:Shaped y n cv e)(hc:K0 n bv cv)(b:Nat)(hb:b<n)(k:Nat)(hk:k<8):cz y (e (10+10*b)+8*k+12)=bv b k:=by
 have n1:=h.near (10+10*b) (k+1) (by omega) (by omega)
 have n2:=h.near (10+10*b) (k+2) (by omega) (by omega)
 have:=h.cell (11+10*b+k) (by omega) (e (10+10*b)+8*k+12) (by
  rw[show 11+10*b+k=10+10*b+(k+1) from by omega];omega) (by
  rw[show 11+10*b+k+1=10+10*b+(k+2) from by omega];omega)
 rw[this]
 exact hc.bit b k hb hk
theorem Shaped.bytes(h:Shaped y n cv e)(hc:K0 n bv cv):oE y (dk y)=(List.range n).map fun b=>2*(2*(2*(2*(2*(2*(2*bv b 0+bv b 1)+bv b 2)+bv b 3)+bv b 4)+bv b 5)+bv b 6)+bv b 7:=by
 rw[(h.run hc).2]
 unfold oE
 rw[List.map_map]
 refine List.map_congr_left fun b hb=> ?_
 have hb:b<n:=List.mem_range.1 hb
 have hv:=fun k hk=>h.val hc b hb k hk
 simp only[Function.comp,Int.toNat_natCast,jJ,hv 0 (by omega),hv 1 (by omega),hv 2 (by omega),hv 3 (by omega),hv 4 (by omega),hv 5 (by omega),hv 6 (by omega),hv 7 (by omega)]
 omega
end
structure jM (l:List Int) (M:Nat) (cv:Nat→Int) (p:Nat→Nat) (fl:Int→Int):Prop where
 c01:∀j,cv j=0∨cv j=1
 last:cv M=1
 f0:∀i,0≤fl i
 f6:∀i,fl i+fl (i+1)+fl (i+2)+fl (i+3)+fl (i+4)+fl (i+5)≤1
 idle:∀i:Int,i<p 0→dH l i=1-fl i
 one:∀j,j≤M→cv j=1→∀i:Int,(p j:Int)≤i→i<l.length→(j<M→i<p (j+1))→dH l i=1-fl i
 zero:∀j,j≤M→cv j=0→∀i:Int,(p j:Int)≤i→i<l.length→(j<M→i<p (j+1))→dH l i=fl i
 wide:∀j,j<M→p j+7≤p (j+1)
 long:p M+3≤l.length
 near:∀j m,m≤10→j+m≤M→p j+8*m≤p (j+m)+1∧p (j+m)≤p j+8*m+1
section
variable {l:List Int} {M:Nat} {cv:Nat→Int} {p:Nat→Nat} {fl:Int→Int}
theorem aez(i:Nat):vb l i=0∨vb l i=1:=by
 unfold vb
 split
 ·exact .inr rfl
 ·exact .inl rfl
theorem K1(i:Nat):(vb l i=1∧3≤dH l ((i:Int)-4)+dH l ((i:Int)-3)+dH l ((i:Int)-2)+dH l ((i:Int)-1)+dH l i)∨(vb l i=0∧dH l ((i:Int)-4)+dH l ((i:Int)-3)+dH l ((i:Int)-2)+dH l ((i:Int)-1)+dH l i<3):=by
 unfold vb lD
 split
 ·rename_i h;exact .inl ⟨rfl,h⟩
 ·rename_i h;exact .inr ⟨rfl,by omega⟩
theorem jM.six(h:jM l M cv p fl)(i:Int):0≤fl (i-4)∧0≤fl (i-3)∧0≤fl (i-2)∧0≤fl (i-1)∧0≤fl i∧0≤fl (i+1)∧fl (i-4)+fl (i-3)+fl (i-2)+fl (i-1)+fl i+fl (i+1)≤1:=by
 have:=h.f6 (i-4)
 rw[show i-4+1=i-3 from by omega,show i-4+2=i-2 from by omega,show i-4+3=i-1 from by omega,show i-4+4=i from by omega,show i-4+5=i+1 from by omega]at this
 exact⟨h.f0 _,h.f0 _,h.f0 _,h.f0 _,h.f0 _,h.f0 _,this⟩
theorem jM.of(h:jM l M cv p fl){j:Nat}(hj:j≤M){i:Int}(h1:(p j:Int)≤i)(h2:i<l.length)(h3:j<M→i<p (j+1)):(cv j=1∧dH l i=1-fl i)∨(cv j=0∧dH l i=fl i):=by
 rcases h.c01 j with h0|h0
 ·exact .inr ⟨h0,h.zero j hj h0 i h1 h2 h3⟩
 ·exact .inl ⟨h0,h.one j hj h0 i h1 h2 h3⟩
def nD(cv:Nat→Int):Nat→Int
 |0=>1
 |j+1=>cv j
theorem jM.ahead(h:jM l M cv p fl):∀ {j:Nat},j≤M→∀ {i:Int},i<p j→(p j:Int)≤i+7→i<l.length→(nD cv j=1∧dH l i=1-fl i)∨(nD cv j=0∧dH l i=fl i)
 |0,_,i,h1,_,_=>.inl ⟨rfl,h.idle i h1⟩
 |j+1,hj,i,h1,h2,h3=>by
  have hw:=h.wide j (by omega)
  exact h.of (j:=j) (by omega) (by omega) h3 (fun _=>h1)
theorem jM.mid(h:jM l M cv p fl){j:Nat}(hj:j≤M){i:Nat}(h1:p j+3≤i)(h2:i<l.length)(h3:j<M→i≤p (j+1)):vb l i=cv j:=by
 have h6:=h.six i
 have hb:=K1 (l:=l) i
 have a1:=h.of hj (i:=(i:Int)-1) (by omega) (by omega) (fun hm=>by have:=h3 hm;omega)
 have a2:=h.of hj (i:=(i:Int)-2) (by omega) (by omega) (fun hm=>by have:=h3 hm;omega)
 have a3:=h.of hj (i:=(i:Int)-3) (by omega) (by omega) (fun hm=>by have:=h3 hm;omega)
 by_cases hi:j<M∧i=p (j+1)
 ·have hw:=h.wide j hi.1
  have a4:=h.of hj (i:=(i:Int)-4) (by omega) (by omega) (fun hm=>by have:=h3 hm;omega)
  have a0:=h.of (j:=j+1) (by omega) (i:=(i:Int)) (by omega) (by omega) (fun hm=>by have:=h.wide (j+1) hm;omega)
  omega
 ·have a0:=h.of hj (i:=(i:Int)) (by omega) (by omega) (fun hm=>by have:=h3 hm;omega)
  by_cases h4:p j+4≤i
  ·have a4:=h.of hj (i:=(i:Int)-4) (by omega) (by omega) (fun hm=>by have:=h3 hm;omega)
   omega
  ·have a4:=h.ahead hj (i:=(i:Int)-4) (by omega) (by omega) (by omega)
   omega
theorem jM.edge(h:jM l M cv p fl){j:Nat}(hj:j≤M):(nD cv j=cv j→vb l (p j+1)=cv j)∧(vb l (p j+1)=cv j→vb l (p j+2)=cv j):=by
 have hp:p j+3≤l.length:=by
  rcases Nat.lt_or_ge j M with hm|hm
  ·have:=h.long
   have:∀m,j+m≤M→p j≤p (j+m):=by
    intro m
    induction m with
    |zero=>intro _;exact Nat.le_refl _
    |succ m ih=>
     intro hm
     have:=h.wide (j+m) (by omega)
     have:=ih (by omega)
     rw[←Nat.add_assoc]
     omega
   have:=this (M-j) (by omega)
   rw[show j+(M-j)=M from by omega]at this
   omega
  ·have:j=M:=by omega
   subst this
   exact h.long
 have hw:j<M→p j+7≤p (j+1):=fun hm=>h.wide j hm
 have b3:=h.ahead hj (i:=(p j:Int)-3) (by omega) (by omega) (by omega)
 have b2:=h.ahead hj (i:=(p j:Int)-2) (by omega) (by omega) (by omega)
 have b1:=h.ahead hj (i:=(p j:Int)-1) (by omega) (by omega) (by omega)
 have c0:=h.of hj (i:=(p j:Int)) (by omega) (by omega) (fun hm=>by have:=hw hm;omega)
 have c1:=h.of hj (i:=(p j:Int)+1) (by omega) (by omega) (fun hm=>by have:=hw hm;omega)
 have c2:=h.of hj (i:=(p j:Int)+2) (by omega) (by omega) (fun hm=>by have:=hw hm;omega)
 have e1:=K1 (l:=l) (p j+1)
 have e2:=K1 (l:=l) (p j+2)
 rw[show((p j+1:Nat):Int)-4=(p j:Int)-3 from by omega,show((p j+1:Nat):Int)-3=(p j:Int)-2 from by omega,show((p j+1:Nat):Int)-2=(p j:Int)-1 from by omega,show((p j+1:Nat):Int)-1=(p j:Int) from by omega,show((p j+1:Nat):Int)=(p j:Int)+1 from by omega]at e1
 rw[show((p j+2:Nat):Int)-4=(p j:Int)-2 from by omega,show((p j+2:Nat):Int)-3=(p j:Int)-1 from by omega,show((p j+2:Nat):Int)-2=(p j:Int) from by omega,show((p j+2:Nat):Int)-1=(p j:Int)+1 from by omega,show((p j+2:Nat):Int)=(p j:Int)+2 from by omega]at e2
 have h6:=h.six ((p j:Int)+1)
 rw[show(p j:Int)+1-4=(p j:Int)-3 from by omega,show(p j:Int)+1-3=(p j:Int)-2 from by omega,show(p j:Int)+1-2=(p j:Int)-1 from by omega,show(p j:Int)+1-1=(p j:Int) from by omega,show(p j:Int)+1+1=(p j:Int)+2 from by omega]at h6
 constructor
 ·intro hq;omega
 ·intro hq;omega
def ux(l:List Int)(cv:Nat→Int)(p:Nat→Nat)(j:Nat):Nat:=if vb l (p j+1)=cv j then p j+1 else if vb l (p j+2)=cv j then p j+2 else p j+3
theorem qx(j:Nat):p j+1≤ux l cv p j∧ux l cv p j≤p j+3:=by
 unfold ux
 split
 ·omega
 ·split<;>omega
theorem jM.vote(h:jM l M cv p fl){j:Nat}(hj:j≤M){i:Nat}(h1:ux l cv p j≤i)(h2:i<l.length)(h3:j<M→i<ux l cv p (j+1)):vb l i=cv j:=by
 obtain⟨r1,r2⟩:=h.edge hj
 have ra:=qx (l:=l) (cv:=cv) (p:=p) j
 by_cases hA:i<p j+3
 ·have hi:i=p j+1∨i=p j+2:=by omega
  unfold ux at h1
  rcases hi with rfl|rfl
  ·split at h1
   ·assumption
   ·split at h1<;>omega
  ·split at h1
   ·rename_i hq;exact r2 hq
   ·split at h1
    ·assumption
    ·omega
 ·by_cases hB:j<M→i≤p (j+1)
  ·exact h.mid hj (by omega) h2 hB
  ·have hm:j<M:=by
    rcases Nat.lt_or_ge j M with hm|hm
    ·exact hm
    ·exact absurd (fun h=>absurd h (by omega)) hB
   have hB:p (j+1)<i:=by
    rcases Nat.lt_or_ge (p (j+1)) i with hq|hq
    ·exact hq
    ·exact absurd (fun _=>hq) hB
   obtain⟨s1,_⟩:=h.edge (j:=j+1) (by omega)
   have rb:=qx (l:=l) (cv:=cv) (p:=p) (j+1)
   have h3:=h3 hm
   have hc:=h.c01 j
   have hc1:=h.c01 (j+1)
   have hv:=aez (l:=l) i
   have hi:i=p (j+1)+1∨i=p (j+1)+2:=by omega
   unfold ux at h3
   have hs:nD cv (j+1)=cv j:=rfl
   rw[hs]at s1
   rcases hi with rfl|rfl
   ·split at h3
    ·omega
    ·omega
   ·split at h3
    ·omega
    ·split at h3
     ·omega
     ·omega
theorem jM.shaped {n:Nat}(h:jM l (10+10*n) cv p fl):Shaped (jz l) n cv (ux l cv p):=by
 have at_v:∀i,i<l.length→cz (jz l) i=vb l i:=fun i hi=>by
  have hi':i<(jz l).length:=by rw[su];exact hi
  rw[Gg hi']
  have:=yD (fun i (_:Int)=>vb l i) l 0 i hi
  have e:(jz l)[i]? =some (vb l (0+i)):=this
  rw[List.getElem?_eq_getElem hi',Nat.zero_add]at e
  exact Option.some.inj e
 have at_far:∀i,l.length≤i→cz (jz l) i=1:=fun i hi=>by
  unfold cz
  rw[su,if_pos hi]
 have mono:∀m j,j+m≤10+10*n→p j+m≤p (j+m):=by
  intro m
  induction m with
  |zero=>intro j _;exact Nat.le_refl _
  |succ m ih=>
   intro j hm
   have:=h.wide (j+m) (by omega)
   have:=ih j (by omega)
   have e:j+(m+1)=j+m+1:=rfl
   rw[e]
   omega
 have hlong:=h.long
 refine⟨fun i hi=> ?_,fun j hj i h1 h2=> ?_,fun i hi=> ?_,fun j m hm hj=> ?_⟩
 ·have r:=qx (l:=l) (cv:=cv) (p:=p) 0
  have hm0:=mono (10+10*n) 0 (by omega)
  rw[Nat.zero_add]at hm0
  have hil:i<l.length:=by omega
  rw[at_v i hil]
  have hv:=aez (l:=l) i
  by_cases hp:i≤p 0
  ·have h6:=h.six i
   have hb:=K1 (l:=l) i
   have a1:=h.idle ((i:Int)-1) (by omega)
   have a2:=h.idle ((i:Int)-2) (by omega)
   have a3:=h.idle ((i:Int)-3) (by omega)
   have a4:=h.idle ((i:Int)-4) (by omega)
   have a0:dH l i=1-fl i∨dH l i=fl i:=by
    by_cases hq:i<p 0
    ·exact .inl (h.idle i (by omega))
    ·have hw:=h.wide 0 (by omega)
     have hz:0+1=1:=rfl
     rw[hz]at hw
     rcases h.of (j:=0) (by omega) (i:=(i:Int)) (by omega) (by omega) (fun _=>by rw[hz];omega)with q|q
     ·exact .inl q.2
     ·exact .inr q.2
   omega
  ·obtain⟨s1,_⟩:=h.edge (j:=0) (by omega)
   have hc:=h.c01 0
   have hs:nD cv 0=1:=rfl
   rw[hs]at s1
   have hii:i=p 0+1∨i=p 0+2:=by omega
   unfold ux at hi
   rcases hii with rfl|rfl
   ·split at hi
    ·omega
    ·omega
   ·split at hi
    ·omega
    ·split at hi
     ·omega
     ·omega
 ·have r:=qx (l:=l) (cv:=cv) (p:=p) (j+1)
  have hm:=mono (10+10*n-(j+1)) (j+1) (by omega)
  rw[show j+1+(10+10*n-(j+1))=10+10*n from by omega]at hm
  have hil:i<l.length:=by omega
  rw[at_v i hil]
  exact h.vote (by omega) h1 hil (fun _=>h2)
 ·rcases Nat.lt_or_ge i l.length with hil|hil
  ·rw[at_v i hil,h.vote (Nat.le_refl _) hi hil (fun hq=>absurd hq (Nat.lt_irrefl _))]
   exact h.last
  ·exact at_far i hil
 ·have r1:=qx (l:=l) (cv:=cv) (p:=p) j
  have r2:=qx (l:=l) (cv:=cv) (p:=p) (j+m)
  have hn:=h.near j m hm hj
  omega
theorem jM.decoded {n:Nat}{bv:Nat→Nat→Int}(h:jM l (10+10*n) cv p fl)(hc:K0 n bv cv):dd l=((List.range n).map (fun b=>2*(2*(2*(2*(2*(2*(2*bv b 0+bv b 1)+bv b 2)+bv b 3)+bv b 4)+bv b 5)+bv b 6)+bv b 7),(0:Int),()):=by
 have hs:=h.shaped
 unfold Proofs.YtnambbcafhnhpaaGreatDoor.dd
 rw[if_pos (hs.run hc).1,hs.bytes hc]
end
end Go.Proofs.YtnambbcafhnhpaaGreatDoor
namespace Go.Proofs.YtnambbcafhnhpaaGreatDoor
open Go.RowKit
set_option linter.unusedVariables false
set_option linter.unusedSimpArgs false
theorem N6 {α:Type}{w:Nat}{g:α→List Int}(hg:∀b,(g b).length=w):∀(l:List α) (b k:Nat) (hb:b<l.length),k<w→(l.flatMap g)[w*b+k]? =(g l[b])[k]?
 |x::r,0,k,_,hk=>by
  rw[List.flatMap_cons,Nat.mul_zero,Nat.zero_add,List.getElem?_append_left (by rw[hg];exact hk)]
  rfl
 |x::r,b+1,k,hb,hk=>by
  have e:w*(b+1)+k=(w*b+k)+w:=by rw[Nat.mul_succ];omega
  rw[List.flatMap_cons,e,List.getElem?_append_right (by rw[hg];omega),hg,Nat.add_sub_cancel,N6 hg r b k (by simpa using hb) hk]
  rfl
theorem N7 {α:Type}{w:Nat}{g:α→List Int}(hg:∀b,(g b).length=w):∀l:List α,(l.flatMap g).length=w*l.length
 | []=>by simp
 |x::r=>by rw[List.flatMap_cons,List.length_append,hg,N7 hg r,List.length_cons,Nat.mul_succ];omega
theorem Zn(v:Int):∀(w k:Nat),k<w→(bq v w)[k]? =some (bt v (w-1-k))
 |w+1,0,_=>rfl
 |w+1,k+1,h=>by
  have:=Zn v w k (by omega)
  rw[bq,List.getElem?_cons_succ,this,show w+1-1-(k+1)=w-1-k from by omega]
def mW(l:List Int)(j:Nat):Int:=(gK l).getD j 1
def C6(l:List Int)(b k:Nat):Int:=bt (l.getD b 0) (7-k)
theorem Kv(b:Int):([1,0]++bq b 8).length=10:=by simp only[List.length_append,dU,List.length_cons,List.length_nil]
theorem vr {l:List Int}{j:Nat}{v:Int}(h:(gK l)[j]? =some v):mW l j=v:=by
 unfold mW
 rw[List.getD_eq_getElem?_getD,h]
 rfl
theorem Gh(l:List Int)(b k:Nat)(hb:b<l.length)(hk:k<10):(gK l)[9+10*b+k]? =([1,0]++bq l[b] 8)[k]? :=by
 have h9:(List.replicate 8 (0:Int)++ [1]).length=9:=rfl
 have hf:=N7 (w:=10) Kv l
 unfold gK
 rw[List.getElem?_append_left (by rw[List.length_append,h9,hf];omega),List.getElem?_append_right (by rw[h9];omega),h9,show 9+10*b+k-9=10*b+k from by omega]
 exact N6 (w:=10) Kv l b k hb hk
theorem Xd(l:List Int)(k:Nat):(gK l)[9+10*l.length+k]? =([0,1]:List Int)[k]? :=by
 have h9:(List.replicate 8 (0:Int)++ [1]).length=9:=rfl
 have hf:=N7 (w:=10) Kv l
 unfold gK
 rw[List.getElem?_append_right (by rw[List.length_append,h9,hf];omega),List.length_append,h9,hf]
 congr 1
 omega
theorem Gi(l:List Int):K0 l.length (C6 l) (mW l) where
 pre:=fun j hj=>vr (by
  have h9:(List.replicate 8 (0:Int)++ [1]).length=9:=rfl
  unfold gK
  rw[List.getElem?_append_left (by rw[List.length_append,h9];omega),List.getElem?_append_left (by rw[h9];omega),List.getElem?_append_left (by simpa using hj),List.getElem?_replicate,if_pos hj])
 gap:=vr (by
  have h9:(List.replicate 8 (0:Int)++ [1]).length=9:=rfl
  unfold gK
  rw[List.getElem?_append_left (by rw[List.length_append,h9];omega),List.getElem?_append_left (by rw[h9];omega)]
  rfl)
 one:=fun b hb=>vr (by
  have:=Gh l b 0 hb (by omega)
  rw[Nat.add_zero]at this
  rw[this]
  rfl)
 zero:=fun b hb=>vr (by
  have:=Gh l b 1 hb (by omega)
  rw[show 9+10*b+1=10+10*b from by omega]at this
  rw[this]
  rfl)
 bit:=fun b k hb hk=>vr (by
  have:=Gh l b (2+k) hb (by omega)
  rw[show 9+10*b+(2+k)=11+10*b+k from by omega]at this
  rw[this,List.getElem?_append_right (by simp),show 2+k-([1,0]:List Int).length=k from by simp,Zn l[b] 8 k hk]
  unfold C6
  rw[List.getD_eq_getElem?_getD,List.getElem?_eq_getElem hb]
  rfl)
 low:=vr (by rw[show 9+10*l.length=9+10*l.length+0 from rfl,Xd];rfl)
 high:=vr (by rw[show 10+10*l.length=9+10*l.length+1 from by omega,Xd];rfl)
theorem acx {v:Int}(h0:0≤v)(h1:v≤255):2*(2*(2*(2*(2*(2*(2*bt v 7+bt v 6)+bt v 5)+bt v 4)+bt v 3)+bt v 2)+bt v 1)+bt v 0=v:=by
 obtain⟨n,rfl⟩:∃n:Nat,v=n:=⟨v.toNat,by omega⟩
 have b:∀k,bt (n:Int) k=((n / 2^k % 2:Nat):Int):=fun k=>Ak n k (by omega)
 simp only[b]
 simp only[Nat.reducePow]
 omega
theorem aaQ {l:List Int}(h:∀v ∈ l,0≤v∧v≤255):(List.range l.length).map (fun b=>2*(2*(2*(2*(2*(2*(2*C6 l b 0+C6 l b 1)+C6 l b 2)+C6 l b 3)+C6 l b 4)+C6 l b 5)+C6 l b 6)+C6 l b 7)=l:=by
 refine List.ext_getElem (by simp) fun i h1 h2=> ?_
 have hv:=h _ (List.getElem_mem h2)
 rw[List.getElem_map,List.getElem_range]
 have e:l.getD i 0=l[i]:=by rw[List.getD_eq_getElem?_getD,List.getElem?_eq_getElem h2];rfl
 show 2*(2*(2*(2*(2*(2*(2*bt (l.getD i 0) 7+bt (l.getD i 0) 6)+bt (l.getD i 0) 5)+bt (l.getD i 0) 4)+bt (l.getD i 0) 3)+bt (l.getD i 0) 2)+bt (l.getD i 0) 1)+bt (l.getD i 0) 0=l[i]
 rw[e]
 exact acx hv.1 hv.2
theorem QE(c:List Int)(i:Nat)(h:i<8*c.length):(cj c)[i]? =some (c[i / 8]'(by omega)):=by
 have hi:i / 8<c.length:=by omega
 have e:=N6 (w:=8) (g:=fun c:Int=>List.replicate 8 c) (fun b=>by simp) c (i / 8) (i % 8) hi (by omega)
 rw[show 8*(i / 8)+i % 8=i from by omega]at e
 unfold cj
 rw[e,List.getElem?_replicate,if_pos (by omega)]
def fz(B A:Nat)(l:List Int):List Int:=(List.replicate B (1:Int)++gK l)++List.replicate A 1
theorem qy(B A:Nat)(l:List Int):(fz B A l).length=B+(11+10*l.length)+A:=by
 unfold fz
 simp only[List.length_append,List.length_replicate,vp]
theorem QF(B A:Nat)(l:List Int)(i:Nat)(h:i<(fz B A l).length):(fz B A l)[i]=if i<B then 1 else mW l (i-B):=by
 have hl:=qy B A l
 have hll:=vp l
 have e:(fz B A l)[i]? =some (if i<B then 1 else mW l (i-B)):=by
  unfold fz
  by_cases h1:i<B
  ·rw[if_pos h1,List.getElem?_append_left (by simp;omega),List.getElem?_append_left (by simpa using h1),List.getElem?_replicate,if_pos h1]
  ·rw[if_neg h1]
   by_cases h2:i-B<(gK l).length
   ·rw[List.getElem?_append_left (by simp;omega),List.getElem?_append_right (by simp;omega),List.length_replicate]
    unfold mW
    rw[List.getD_eq_getElem?_getD,List.getElem?_eq_getElem h2]
    rfl
   ·rw[List.getElem?_append_right (by simp;omega),List.getElem?_replicate,if_pos (by simp;omega)]
    unfold mW
    rw[List.getD_eq_getElem?_getD,List.getElem?_eq_none (by omega)]
    rfl
 rw[List.getElem?_eq_getElem h]at e
 exact Option.some.inj e
theorem Xe {l:List Int}(h:∀v ∈ l,0≤v∧v≤255)(j:Nat):mW l j=0∨mW l j=1:=by
 unfold mW
 rw[List.getD_eq_getElem?_getD]
 by_cases hj:j<(gK l).length
 ·rw[List.getElem?_eq_getElem hj]
  exact Za h _ (List.getElem_mem hj)
 ·rw[List.getElem?_eq_none (by omega)]
  exact .inr rfl
theorem QG(l:List Int)(j:Nat)(h:10+10*l.length≤j):mW l j=1:=by
 by_cases hj:j=10+10*l.length
 ·rw[hj]
  exact(Gi l).high
 ·unfold mW
  rw[List.getD_eq_getElem?_getD,List.getElem?_eq_none (by rw[vp];omega)]
  rfl
structure Gj (B A:Nat) (l y:List Int) (fl:Int→Int):Prop where
 len:y.length=8*(B+(11+10*l.length)+A)
 f0:∀i,0≤fl i
 neg:∀i,i<0→fl i=0
 f6:∀i,fl i+fl (i+1)+fl (i+2)+fl (i+3)+fl (i+4)+fl (i+5)≤1
 at_:∀(i:Nat) (h:i<y.length),((cj (fz B A l))[i]? =some 1∧y[i]=1-fl i)∨((cj (fz B A l))[i]? =some 0∧y[i]=fl i)
theorem Gj.cell {B A:Nat}{l y:List Int}{fl:Int→Int}(h:Gj B A l y fl)(i:Nat)(hi:i<y.length):((if i / 8<B then 1 else mW l (i / 8-B))=1∧dH y (i:Int)=1-fl i)∨((if i / 8<B then 1 else mW l (i / 8-B))=0∧dH y (i:Int)=fl i):=by
 have hw:dH y (i:Int)=y[i]:=by
  unfold dH
  rw[if_neg (by omega),Int.toNat_natCast,List.getD_eq_getElem?_getD,List.getElem?_eq_getElem hi]
  rfl
 have hl:=h.len
 have hp:=qy B A l
 have hs:=QE (fz B A l) i (by omega)
 rw[QF]at hs
 have ha:=h.at_ i hi
 rw[hs]at ha
 rw[hw]
 rcases ha with⟨a,b⟩|⟨a,b⟩
 ·exact .inl ⟨Option.some.inj a,b⟩
 ·exact .inr ⟨Option.some.inj a,b⟩
theorem Gj.signal {B A:Nat}{l y:List Int}{fl:Int→Int}(h:Gj B A l y fl)(hb:∀v ∈ l,0≤v∧v≤255):jM y (10+10*l.length) (mW l) (fun j=>8*(B+j)) fl where
 c01:=Xe hb
 last:=(Gi l).high
 f0:=h.f0
 f6:=h.f6
 idle:=fun i hi=>by
  by_cases h0:i<0
  ·unfold dH
   rw[if_pos h0,h.neg i h0]
   rfl
  ·obtain⟨n,rfl⟩:∃n:Nat,i=n:=⟨i.toNat,by omega⟩
   have hl:=h.len
   have hi:(n:Int)<((8*(B+0):Nat):Int):=hi
   have hc:=h.cell n (by omega)
   rw[if_pos (by omega)]at hc
   rcases hc with⟨a,b⟩|⟨a,b⟩
   ·exact b
   ·exact absurd a (by decide)
 one:=fun j hj hc i h1 h2 h3=>by
  have h1:((8*(B+j):Nat):Int)≤i:=h1
  have h3:j<10+10*l.length→i<((8*(B+(j+1)):Nat):Int):=h3
  obtain⟨n,rfl⟩:∃n:Nat,i=n:=⟨i.toNat,by omega⟩
  have hq:=h.cell n (by omega)
  rw[if_neg (by omega)]at hq
  have e:mW l (n / 8-B)=1:=by
   rcases Nat.lt_or_ge j (10+10*l.length)with hjm|hjm
   ·have:=h3 hjm
    rw[show n / 8-B=j from by omega]
    exact hc
   ·exact QG l _ (by omega)
  rcases hq with⟨a,b⟩|⟨a,b⟩
  ·exact b
  ·rw[e]at a
   exact absurd a (by decide)
 zero:=fun j hj hc i h1 h2 h3=>by
  have h1:((8*(B+j):Nat):Int)≤i:=h1
  have h3:j<10+10*l.length→i<((8*(B+(j+1)):Nat):Int):=h3
  obtain⟨n,rfl⟩:∃n:Nat,i=n:=⟨i.toNat,by omega⟩
  have hq:=h.cell n (by omega)
  rw[if_neg (by omega)]at hq
  have hjm:j<10+10*l.length:=by
   rcases Nat.lt_or_ge j (10+10*l.length)with hjm|hjm
   ·exact hjm
   ·rw[QG l j hjm]at hc
    exact absurd hc (by decide)
  have:=h3 hjm
  rw[show n / 8-B=j from by omega,hc]at hq
  rcases hq with⟨a,b⟩|⟨a,b⟩
  ·exact absurd a (by decide)
  ·exact b
 wide:=fun j _=>by
  show 8*(B+j)+7≤8*(B+(j+1))
  omega
 long:=by
  have:=h.len
  show 8*(B+(10+10*l.length))+3≤y.length
  omega
 near:=fun j m _ _=>by
  show 8*(B+j)+8*m≤8*(B+(j+m))+1∧8*(B+(j+m))≤8*(B+j)+8*m+1
  omega
theorem Gj.decoded {B A:Nat}{l y:List Int}{fl:Int→Int}(h:Gj B A l y fl)(hb:∀v ∈ l,0≤v∧v≤255):dd y=(l,(0:Int),()):=by
 have:=(h.signal hb).decoded (Gi l)
 rw[aaQ hb]at this
 exact this
theorem QH(B A:Nat)(l:List Int)(hb:∀v ∈ l,0≤v∧v≤255):Gj B A l (cj (fz B A l)) (fun _=>0) where
 len:=by rw[rC,qy]
 f0:=fun _=>Int.le_refl 0
 neg:=fun _ _=>rfl
 f6:=fun _=>(show(0:Int)+0+0+0+0+0≤1 by decide)
 at_:=fun i hi=>by
  have hp:=qy B A l
  have hi2:i<8*(fz B A l).length:=by rw[rC]at hi;exact hi
  have hs:=QE (fz B A l) i hi2
  have hv:(cj (fz B A l))[i]=(fz B A l)[i / 8]'(by omega):=by
   rw[List.getElem?_eq_getElem hi]at hs
   exact Option.some.inj hs
  have h01:(fz B A l)[i / 8]'(by omega)=0∨(fz B A l)[i / 8]'(by omega)=1:=by
   rw[QF]
   split
   ·exact .inr rfl
   ·exact Xe hb _
  rw[hs,hv]
  rcases h01 with e|e
  ·exact .inr ⟨by rw[e],by rw[e]⟩
  ·exact .inl ⟨by rw[e],by rw[e];rfl⟩
theorem acy(B A:Nat)(l:List Int)(hb:∀v ∈ l,0≤v∧v≤255)(y:List Int)(a:Nat)(hy:y.length=(cj (fz B A l)).length)
  (hv:∀(i:Nat) (h:i<y.length),y[i]=if i=a then 1-(cj (fz B A l))[i]'(by omega)else(cj (fz B A l))[i]'(by omega)):Gj B A l y (fun i=>if i=(a:Int)then 1 else 0) where
 len:=by rw[hy,rC,qy]
 f0:=fun i=>by
  show(0:Int)≤if i=(a:Int)then 1 else 0
  split<;>decide
 neg:=fun i hi=>by
  show(if i=(a:Int)then(1:Int)else 0)=0
  rw[if_neg (by omega)]
 f6:=fun i=>by
  show(if i=(a:Int)then(1:Int)else 0)+(if i+1=(a:Int)then(1:Int)else 0)+(if i+2=(a:Int)then(1:Int)else 0)+(if i+3=(a:Int)then(1:Int)else 0)+(if i+4=(a:Int)then(1:Int)else 0)+(if i+5=(a:Int)then(1:Int)else 0)≤1
  repeat' split
  all_goals omega
 at_:=fun i hi=>by
  have hc:=(QH B A l hb).at_ i (by omega)
  have hq:=hv i hi
  by_cases h:i=a
  ·rw[if_pos h]at hq
   have e:(if(i:Int)=(a:Int)then(1:Int)else 0)=1:=if_pos (by omega)
   show(_∧y[i]=1-(if(i:Int)=(a:Int)then(1:Int)else 0))∨(_∧y[i]=(if(i:Int)=(a:Int)then(1:Int)else 0))
   rw[e,hq]
   rcases hc with⟨p,q⟩|⟨p,q⟩
   ·exact .inl ⟨p,by rw[q];rfl⟩
   ·exact .inr ⟨p,by rw[q];rfl⟩
  ·rw[if_neg h]at hq
   have e:(if(i:Int)=(a:Int)then(1:Int)else 0)=0:=if_neg (by omega)
   show(_∧y[i]=1-(if(i:Int)=(a:Int)then(1:Int)else 0))∨(_∧y[i]=(if(i:Int)=(a:Int)then(1:Int)else 0))
   rw[e,hq]
   exact hc
end Go.Proofs.YtnambbcafhnhpaaGreatDoor
namespace Go.Proofs.YtnambbcafhnhpaaGreatDoor
open Go.RowKit
set_option linter.unusedVariables false
set_option linter.unusedSimpArgs false
def yM(n b:Int):Int:=IntKind.i64.wrap (IntKind.i64.wrap (2*n)+b)
theorem Zo(l:List Int):gP l=l.foldl yM 0:=rfl
theorem Xf {n b:Int}(h0:0≤n)(h1:n≤1000000000000)(hb:b=0∨b=1):yM n b=2*n+b:=by
 have w1:IntKind.i64.wrap (2*n)=2*n:=by rw[wrap_i64]<;>omega
 unfold yM
 rw[w1,wrap_i64]<;>omega
theorem Tr(v:Nat)(hv:v<9223372036854775808):∀(w s:Nat),w≤32→(s+1)*2^w≤1000000000000→(bq (v:Int) w).foldl yM (s:Int)=((s*2^w+v % 2^w:Nat):Int)
 |0,s,_,_=>by
  simp only[bq,List.foldl_nil,Nat.pow_zero,Nat.mul_one,Nat.mod_one,Nat.add_zero]
 |w+1,s,hw,hs=>by
  have hp:1≤2^w:=Nat.one_le_two_pow
  have e2:(s+1)*2^(w+1)=(2*s+2)*2^w:=by rw[Nat.pow_succ,Nat.mul_comm (2^w) 2,←Nat.mul_assoc];congr 1;omega
  have hle:2*s+2≤(2*s+2)*2^w:=Nat.le_mul_of_pos_right _ (by omega)
  have hb:v / 2^w % 2<2:=Nat.mod_lt _ (by decide)
  have hsw:yM (s:Int) (bt (v:Int) w)=((2*s+v / 2^w % 2:Nat):Int):=by
   rw[Ak v w hv,Xf (by omega) (by omega) (by omega)]
   omega
  have hm:(2*s+v / 2^w % 2+1)*2^w≤(2*s+2)*2^w:=Nat.mul_le_mul_right _ (by omega)
  have ih:=Tr v hv w (2*s+v / 2^w % 2) (by omega) (by omega)
  rw[bq,List.foldl_cons,hsw,ih]
  congr 1
  have e3:v % 2^(w+1)=v % 2^w+2^w*(v / 2^w % 2):=Nat.mod_pow_succ
  rw[e3,Nat.add_mul,Nat.pow_succ,Nat.mul_comm (2^w) (v / 2^w % 2),Nat.mul_comm (2^w) 2,←Nat.mul_assoc,Nat.mul_comm s 2]
  omega
theorem Ay {v:Int}{w:Nat}(h0:0≤v)(hw:w≤32)(h1:v<2^w):gP (bq v w)=v:=by
 obtain⟨n,rfl⟩:∃n:Nat,v=n:=⟨v.toNat,by omega⟩
 have hn:n<2^w:=by
  have:((n:Nat):Int)<((2^w:Nat):Int):=by rw[Int.natCast_pow];exact h1
  omega
 have h32:2^w≤2^32:=Nat.pow_le_pow_right (by decide) hw
 have h33:(2:Nat)^32=4294967296:=by decide
 have:=Tr n (by omega) w 0 hw (by omega)
 rw[Zo]
 have this:(bq (n:Int) w).foldl yM 0=_:=this
 rw[this,Nat.zero_mul,Nat.zero_add,Nat.mod_eq_of_lt hn]
def sC:List Int→Nat
 | []=>0
 |b::r=>b.toNat*2^r.length+sC r
theorem Sz:∀ {l:List Int},(∀b ∈ l,b=0∨b=1)→sC l<2^l.length
 | [],_=>by simp[sC]
 |b::r,h=>by
  have:=Sz (fun x hx=>h x (by simp[hx]):∀b ∈ r,b=0∨b=1)
  have hb:=h b (by simp)
  have e:2^(b::r).length=2^r.length+2^r.length:=by rw[List.length_cons,Nat.pow_succ];omega
  unfold sC
  rcases hb with rfl|rfl
  ·have:(0:Int).toNat=0:=rfl
   rw[this,Nat.zero_mul]
   omega
  ·have:(1:Int).toNat=1:=rfl
   rw[this,Nat.one_mul]
   omega
theorem Ts:∀(l:List Int) (s:Nat),(∀b ∈ l,b=0∨b=1)→(s+1)*2^l.length≤1000000000000→l.foldl yM (s:Int)=((s*2^l.length+sC l:Nat):Int)
 | [],s,_,_=>by
   simp only[List.foldl_nil,List.length_nil,Nat.pow_zero,Nat.mul_one,sC,Nat.add_zero]
 |b::r,s,h,hs=>by
  have hb:=h b (by simp)
  have hp:1≤2^r.length:=Nat.one_le_two_pow
  rw[List.length_cons,Nat.pow_succ]at hs
  have e2:(s+1)*(2^r.length*2)=(2*s+2)*2^r.length:=by rw[Nat.mul_comm (2^r.length) 2,←Nat.mul_assoc];congr 1;omega
  rw[e2]at hs
  have hle:2*s+2≤(2*s+2)*2^r.length:=Nat.le_mul_of_pos_right _ (by omega)
  have hsw:yM (s:Int) b=((2*s+b.toNat:Nat):Int):=by
   rw[Xf (by omega) (by omega) hb]
   omega
  have hm:(2*s+b.toNat+1)*2^r.length≤(2*s+2)*2^r.length:=Nat.mul_le_mul_right _ (by omega)
  have ih:=Ts r (2*s+b.toNat) (fun x hx=>h x (by simp[hx])) (by omega)
  rw[List.foldl_cons,hsw,ih,sC,List.length_cons,Nat.pow_succ,Nat.add_mul,Nat.mul_comm (2^r.length) 2,←Nat.mul_assoc,Nat.mul_comm s 2,Nat.add_assoc]
theorem ad2 {l:List Int}(h:∀b ∈ l,b=0∨b=1)(hl:l.length≤32):gP l=(sC l:Int):=by
 have h32:2^l.length≤2^32:=Nat.pow_le_pow_right (by decide) hl
 have h33:(2:Nat)^32=4294967296:=by decide
 have:=Ts l 0 h (by omega)
 rw[Zo]
 have this:l.foldl yM 0=_:=this
 rw[this,Nat.zero_mul,Nat.zero_add]
theorem Zp(q x:Nat):∀(w W:Nat),w≤W→q*2^W+x<9223372036854775808→bq ((q*2^W+x:Nat):Int) w=bq ((x:Nat):Int) w
 |0,_,_,_=>rfl
 |w+1,W,hw,hq=>by
  obtain⟨k,hk⟩:∃k,W=(w+1)+k:=⟨W-(w+1),by omega⟩
  have hx:x<9223372036854775808:=by omega
  have e:(q*2^W+x) / 2^w % 2=x / 2^w % 2:=by
   have e1:q*2^W+x=x+2^w*(2*(q*2^k)):=by
    rw[hk,Nat.pow_add,Nat.pow_succ]
    have:q*(2^w*2*2^k)=2^w*(2*(q*2^k)):=by
     rw[Nat.mul_assoc (2^w) 2 (2^k),Nat.mul_left_comm q (2^w),Nat.mul_left_comm q 2]
    rw[this,Nat.add_comm]
   rw[e1,Nat.add_mul_div_left _ _ (Nat.two_pow_pos w)]
   omega
  rw[bq,bq,Ak _ w hq,Ak _ w hx,e,Zp q x w W (by omega) hq]
theorem Zq:∀ {l:List Int},(∀b ∈ l,b=0∨b=1)→l.length≤32→bq ((sC l:Nat):Int) l.length=l
 | [],_,_=>rfl
 |b::r,h,hl=>by
  have hr:∀b ∈ r,b=0∨b=1:=fun x hx=>h x (by simp[hx])
  have hlt:=Sz hr
  have hlt2:=Sz h
  have hlr:r.length≤31:=by simpa using hl
  have h32:2^(b::r).length≤2^32:=Nat.pow_le_pow_right (by decide) hl
  have h33:(2:Nat)^32=4294967296:=by decide
  have hb:=h b (by simp)
  have hB:b.toNat<2:=by omega
  have ih:=Zq hr (by omega)
  have hv:sC (b::r)<9223372036854775808:=by omega
  have e1:sC (b::r) / 2^r.length % 2=b.toNat:=by
   unfold sC
   rw[Nat.add_comm,Nat.mul_comm,Nat.add_mul_div_left _ _ (Nat.two_pow_pos _),Nat.div_eq_of_lt hlt,Nat.zero_add,Nat.mod_eq_of_lt hB]
  have e2:bq ((sC (b::r):Nat):Int) r.length=r:=by
   have:=Zp b.toNat (sC r) r.length r.length (Nat.le_refl _) hv
   unfold sC
   rw[this,ih]
  rw[List.length_cons,bq,Ak _ _ hv,e1,e2]
  congr 1
  omega
theorem ahA {l:List Int}{w:Nat}(h:∀b ∈ l,b=0∨b=1)(hw:w≤32)(hl:l.length=w):bq (gP l) w=l:=by
 subst hl
 rw[ad2 h hw]
 exact Zq h hw
theorem ad3 {l:List Int}(hl:l.length=64)(h:∀b ∈ l,b=0∨b=1):dN (yd l)=l:=by
 have hc:∀k,k<8→bq (gP (cA l k)) 8=cA l k:=fun k hk=>ahA (fun b hb=>h b (List.mem_of_mem_drop (List.mem_of_mem_take hb))) (by decide) (by rw[rG];omega)
 have e:dN (yd l)=((List.range 8).map fun k=>cA l k).flatten:=by
  unfold dN yd
  rw[List.flatMap_map,←List.flatMap_def]
  simp only[List.flatMap_def]
  congr 1
  refine List.map_congr_left fun k hk=> ?_
  exact hc k (List.mem_range.1 hk)
 have e8:(List.range 8).map (fun k=>cA l k)= [cA l 0,cA l 1,cA l 2,cA l 3,cA l 4,cA l 5,cA l 6,cA l 7]:=rfl
 have q:∀n,l.drop (8*n)=(l.drop (8*n)).take 8++l.drop (8*(n+1)):=fun n=>by
  have:=(List.take_append_drop 8 (l.drop (8*n))).symm
  rw[List.drop_drop]at this
  rw[show 8*(n+1)=8*n+8 from by omega]
  exact this
 have q8:l.drop (8*8)= []:=List.drop_eq_nil_of_le (by omega)
 have all:l.drop (8*0)=cA l 0++(cA l 1++(cA l 2++(cA l 3++(cA l 4++(cA l 5++(cA l 6++(cA l 7++ []))))))):=by
  unfold cA
  rw[←q8,←q 7,←q 6,←q 5,←q 4,←q 3,←q 2,←q 1,←q 0]
 rw[e,e8]
 simp only[List.flatten_cons,List.flatten_nil]
 exact all.symm
theorem ad4 {st:ao.T}(h:co st=true):oL (mP st)=st:=by
 obtain⟨(a:Int),(b:Int),(c:Int),(d:Int),(e:Int),⟨⟩⟩:=st
 unfold co at h
 simp only[Bool.and_eq_true,bl]at h
 obtain⟨⟨⟨⟨h1,h2⟩,h3⟩,h4⟩,h5⟩:=h
 have l1:=dU a 16
 have l2:=dU b 4
 have l3:=dU c 4
 have l4:=dU d 8
 have l5:=dU e 32
 have n1:=Ay (v:=a) (w:=16) h1.1 (by decide) (by have:(2:Int)^16=65536:=by decide
                                                 omega)
 have n2:=Ay (v:=b) (w:=4) h2.1 (by decide) (by have:(2:Int)^4=16:=by decide
                                                omega)
 have n3:=Ay (v:=c) (w:=4) h3.1 (by decide) (by have:(2:Int)^4=16:=by decide
                                                omega)
 have n4:=Ay (v:=d) (w:=8) h4.1 (by decide) (by have:(2:Int)^8=256:=by decide
                                                omega)
 have n5:=Ay (v:=e) (w:=32) h5.1 (by decide) (by have:(2:Int)^32=4294967296:=by decide
                                                 omega)
 have hs:mP (a,b,c,d,e,())=(((bq a 16++bq b 4)++bq c 4)++bq d 8)++bq e 32:=rfl
 generalize bq a 16=A at *
 generalize bq b 4=B at *
 generalize bq c 4=C at *
 generalize bq d 8=D at *
 generalize bq e 32=E at *
 have t1:((A++B++C++D++E).drop 0).take 16=A:=by
  simp only[List.append_assoc,List.drop_zero]
  exact List.take_left' l1
 have t2:((A++B++C++D++E).drop 16).take 4=B:=by
  simp only[List.append_assoc]
  rw[List.drop_left' l1,List.take_left' l2]
 have t3:((A++B++C++D++E).drop 20).take 4=C:=by
  rw[show A++B++C++D++E=(A++B)++(C++(D++E)) from by simp only[List.append_assoc],List.drop_left' (by simp;omega),List.take_left' l3]
 have t4:((A++B++C++D++E).drop 24).take 8=D:=by
  rw[show A++B++C++D++E=(A++B++C)++(D++E) from by simp only[List.append_assoc],List.drop_left' (by simp;omega),List.take_left' l4]
 have t5:((A++B++C++D++E).drop 32).take 32=E:=by
  rw[List.drop_left' (by simp;omega),List.take_of_length_le (by omega)]
 unfold oL
 rw[hs,t1,t2,t3,t4,t5,n1,n2,n3,n4,n5]
theorem ad5 {f:bp.T}(hf:bZ f=true):cV (bC f)=(f,true):=by
 obtain⟨h1,h2,h3,h4,h5⟩:=C1 hf
 have k1:=bl.1 h1
 have k2:=bl.1 h2
 obtain⟨(k0:Int),(q0:Int),st,(d:List Int),⟨⟩⟩:=f
 simp only at h1 h2 h3 h4 h5 k1 k2
 obtain⟨k,rfl⟩:∃k:Nat,k0=k:=⟨k0.toNat,by omega⟩
 obtain⟨q,rfl⟩:∃q:Nat,q0=q:=⟨q0.toNat,by omega⟩
 have w1:IntKind.i64.wrap ((k:Int)*64)=(k:Int)*64:=by rw[wrap_i64]<;>omega
 have w2:IntKind.i64.wrap ((q:Int)*8)=(q:Int)*8:=by rw[wrap_i64]<;>omega
 have w3:IntKind.i64.wrap ((k:Int)*64+(q:Int)*8)=((k*64+q*8:Nat):Int):=by rw[wrap_i64]<;>omega
 have e:bC ((k:Int),(q:Int),st,d,())=([((k*64+q*8:Nat):Int)]++(if(k:Int) != (0:Int)then yd (mP st)else []))++(if eC (k:Int)then(d.length:Int)::d else []):=by
  unfold bC
  simp only[w1,w2,w3]
 have a1:Int.tdiv ((k*64+q*8:Nat):Int) 64=(((k*64+q*8) / 64:Nat):Int):=rfl
 have a2:Int.tdiv ((k*64+q*8:Nat):Int) 8=(((k*64+q*8) / 8:Nat):Int):=rfl
 have c1:bT ((k*64+q*8:Nat):Int)=(k:Int):=by
  unfold bT
  rw[a1,wrap_i64]<;>omega
 have w4:IntKind.i64.wrap (((k*64+q*8) / 8:Nat):Int)=(((k*64+q*8) / 8:Nat):Int):=by rw[wrap_i64]<;>omega
 have a3:Int.tmod (((k*64+q*8) / 8:Nat):Int) 8=(((k*64+q*8) / 8 % 8:Nat):Int):=rfl
 have c2:∀s v,cB ((k*64+q*8:Nat):Int) s v=((k:Int),(q:Int),s,v,()):=fun s v=>by
  have c3:Int.tmod (IntKind.i64.wrap (Int.tdiv ((k*64+q*8:Nat):Int) (8:Int))) (8:Int)=(q:Int):=by
   rw[a2,w4,a3]
   omega
  unfold cB
  rw[c1,c3]
 have hok:wB (bC ((k:Int),(q:Int),st,d,())) ((k:Int),(q:Int),st,d,())=true:=by
  unfold wB
  rw[hf]
  simp
 rw[e]at hok ⊢
 have fin:∀L,wB L ((k:Int),(q:Int),st,d,())=true→vi L ((k*64+q*8:Nat):Int) st (if eC (k:Int)then(d.length:Int)::d else [])=(((k:Int),(q:Int),st,d,()),true):=fun L hL=>by
  unfold vi
  rw[c1]
  cases hd:eC (k:Int)with
  |true=>
   simp only[if_true,c2,hL]
  |false=>
   have hd0:d= []:=by
    unfold eC at hd
    unfold kw at h3
    rw[Bool.or_eq_false_iff]at hd
    have x0:((k:Int)==0)=false:=hd.1
    have x2:((k:Int)==2)=false:=hd.2
    rw[x0,x2]at h3
    have:d.length=0:=by simpa using h3
    exact List.eq_nil_of_length_eq_zero this
   subst hd0
   simp only[c2,hL]
 rcases Bool.eq_false_or_eq_true ((k:Int) != (0:Int))with hk|hk
 ·have hst:=h5 hk
  rw[if_pos hk]at hok ⊢
  have hb8:=jh (mP st)
  have hs:oL (dN (yd (mP st)))=st:=by rw[ad3 (Kk st) (Uw st hst)];exact ad4 hst
  generalize yd (mP st)=Y at *
  have e1:([((k*64+q*8:Nat):Int)]++Y)++(if eC (k:Int)then(d.length:Int)::d else [])=((k*64+q*8:Nat):Int)::(Y++(if eC (k:Int)then(d.length:Int)::d else [])):=by simp
  rw[e1]at hok ⊢
  generalize hR:(if eC (k:Int)then(d.length:Int)::d else [])=R at *
  have hlt:decide (((Y++R).length:Int)<(8:Int))=false:=by rw[List.length_append];exact decide_eq_false (by omega)
  unfold cV
  simp only[c1,hk,hlt]
  rw[List.take_left' hb8,List.drop_left' hb8,hs]
  exact fin _ hok
 ·have hk0:(k:Int)=0:=by simpa using hk
  have hst:st=fK:=by
   unfold bZ at hf
   simp only[Bool.and_eq_true]at hf
   have hf5:=hf.2.2.2.2
   have hk2:((k:Int)==(0:Int))=true:=by rw[hk0];rfl
   rw[if_pos hk2]at hf5
   exact(rB _ _).1 hf5
  have hnp:¬((k:Int) != (0:Int))=true:=by rw[hk];decide
  rw[if_neg hnp]at hok ⊢
  have e1:([((k*64+q*8:Nat):Int)]++ [])++(if eC (k:Int)then(d.length:Int)::d else [])=((k*64+q*8:Nat):Int)::(if eC (k:Int)then(d.length:Int)::d else []):=by simp
  rw[e1]at hok ⊢
  unfold cV
  simp only[c1,hk]
  rw[←hst]
  exact fin _ hok
theorem acz {f:bp.T}(hf:bZ f=true):∃b t,bC f=b::t∧bT b=f.1:=by
 obtain⟨h1,h2,h3,h4,h5⟩:=C1 hf
 have k1:=bl.1 h1
 have k2:=bl.1 h2
 obtain⟨(k0:Int),(q0:Int),st,(d:List Int),⟨⟩⟩:=f
 simp only at h1 h2 h3 h4 h5 k1 k2
 obtain⟨k,rfl⟩:∃k:Nat,k0=k:=⟨k0.toNat,by omega⟩
 obtain⟨q,rfl⟩:∃q:Nat,q0=q:=⟨q0.toNat,by omega⟩
 have w1:IntKind.i64.wrap ((k:Int)*64)=(k:Int)*64:=by rw[wrap_i64]<;>omega
 have w2:IntKind.i64.wrap ((q:Int)*8)=(q:Int)*8:=by rw[wrap_i64]<;>omega
 have w3:IntKind.i64.wrap ((k:Int)*64+(q:Int)*8)=((k*64+q*8:Nat):Int):=by rw[wrap_i64]<;>omega
 have a1:Int.tdiv ((k*64+q*8:Nat):Int) 64=(((k*64+q*8) / 64:Nat):Int):=rfl
 refine⟨((k*64+q*8:Nat):Int),(if(k:Int) != (0:Int)then yd (mP st)else [])++(if eC (k:Int)then(d.length:Int)::d else []), ?_, ?_⟩
 ·unfold bC
  simp only[w1,w2,w3,List.nil_append,List.cons_append]
 ·unfold bT
  rw[a1,wrap_i64]<;>omega
theorem aaR {m:aA.T}{st:ao.T}{f:bp.T}(h:bK m=true)(hs:c7 m st f=true):ut m st (cf f m.1.toNat st)=((3:Int),f,()):=by
 unfold c7 at hs
 simp only[Bool.and_eq_true]at hs
 obtain⟨⟨hf,hfit⟩,heq⟩:=hs
 obtain⟨r,er,hr⟩:=vo h
 have e:m.1.toNat=r:=by rw[er,Int.toNat_natCast]
 rw[e]
 obtain⟨b1,b2,b3⟩:=KV hf
 have hfr:=ad5 hf
 have hlen:(cf f r st).length=(bC f).length+3:=by unfold cf;simp
 have hbp:aH (cf f r st)=bC f:=by
  unfold aH
  rw[hlen,Nat.add_sub_cancel]
  unfold cf
  rw[List.take_left' rfl]
 have hdp:(cf f r st).drop ((cf f r st).length-3)= [((bP f.1 (bC f) r st / 65536:Nat):Int),((bP f.1 (bC f) r st / 256 % 256:Nat):Int),((bP f.1 (bC f) r st % 256:Nat):Int)]:=by
  rw[hlen,Nat.add_sub_cancel]
  unfold cf
  rw[List.drop_left' rfl]
 obtain⟨b,t,hbt,hkb⟩:=acz hf
 have hopen:iu (cf f r st) r st=true:=by
  have hc:cf f r st=b::(t++ [((bP f.1 (bC f) r st / 65536:Nat):Int),((bP f.1 (bC f) r st / 256 % 256:Nat):Int),((bP f.1 (bC f) r st % 256:Nat):Int)]):=by
   unfold cf
   rw[hbt]
   rfl
  have h4:4≤(cf f r st).length:=by rw[hlen,hbt,List.length_cons];omega
  generalize hL:cf f r st=L at *
  subst hc
  unfold iu
  simp only[hkb,hbp,hdp,hfr,decide_eq_true h4,heq,decide_true,Bool.and_self]
 unfold ut
 rw[e,hopen,hbp,hfr,hfit]
 rfl
end Go.Proofs.YtnambbcafhnhpaaGreatDoor
namespace Go.Proofs.YtnambbcafhnhpaaGreatDoor
open Go.RowKit
set_option linter.unusedVariables false
set_option linter.unusedSimpArgs false
theorem Xg(P:Nat→Prop)[DecidablePred P]:∀n j,P (j+n)→∃g,j≤g∧g≤j+n∧P g∧∀i,j≤i→i<g→¬P i
 |0,j,h=>⟨j,Nat.le_refl _,Nat.le_refl _,h,fun i h1 h2=>by omega⟩
 |n+1,j,h=>by
  by_cases hj:P j
  ·exact⟨j,Nat.le_refl _,by omega,hj,fun i h1 h2=>by omega⟩
  ·obtain⟨g,h1,h2,h3,h4⟩:=Xg P n (j+1) (by rw[show j+1+n=j+(n+1) from by omega];exact h)
   refine⟨g,by omega,by omega,h3,fun i h5 h6=> ?_⟩
   by_cases hi:i=j
   ·rw[hi];exact hj
   ·exact h4 i (by omega) h6
theorem jA {l:List Int}(h01:∀i,cz l i=0∨cz l i=1)(j:Nat):(bG l 0 j=none∧∀i,j≤i→cz l i=1)∨∃g,bG l 0 j=some g∧j≤g∧cz l g=0∧∀i,j≤i→i<g→cz l i=1:=by
 by_cases h:∃n,cz l (j+n)=0
 ·obtain⟨n,hn⟩:=h
  obtain⟨g,h1,h2,h3,h4⟩:=Xg (fun i=>cz l i=0) n j hn
  have h5:∀i,j≤i→i<g→cz l i=1:=fun i a b=>by
   rcases h01 i with e|e
   ·exact absurd e (h4 i a b)
   ·exact e
  exact .inr ⟨g,Ax h1 h3 h5,h1,h3,h5⟩
 ·have h1:∀i,j≤i→cz l i=1:=fun i a=>by
   rcases h01 i with e|e
   ·exact absurd ⟨i-j,by rw[show j+(i-j)=i from by omega];exact e⟩ h
   ·exact e
  exact .inl ⟨rD h1,h1⟩
theorem Xh {l:List Int}(h01:∀i,cz l i=0∨cz l i=1){a:Nat}(ha:a<l.length):∃h,fA l a=h∧a<h∧h≤l.length∧cz l h=1∧∀i,a<i→i<h→cz l i=0:=by
 have hl:cz l (a+1+(l.length-(a+1)))=1:=by
  rw[show a+1+(l.length-(a+1))=l.length from by omega]
  unfold cz
  rw[if_pos (Nat.le_refl _)]
 obtain⟨g,h1,h2,h3,h4⟩:=Xg (fun i=>cz l i=1) (l.length-(a+1)) (a+1) hl
 have h5:∀i,a<i→i<g→cz l i=0:=fun i p q=>by
  rcases h01 i with e|e
  ·exact e
  ·exact absurd e (h4 i (by omega) q)
 exact⟨g,aaP (by omega) (by omega) h3 h5,by omega,by omega,h3,h5⟩
theorem afy {l:List Int}(h01:∀i,cz l i=0∨cz l i=1)(h:ep l=0)(hne:dk l≠ []):∃a0 h0 f e f',a0<l.length∧cz l a0=0∧(∀i,i<a0→cz l i=1)∧a0<h0∧h0≤l.length∧cz l h0=1∧(∀i,a0<i→i<h0→cz l i=0)∧
  bf (Int.tdiv ((h0:Int)-a0+4) 8) 3 15=true∧h0<f∧cz l f=0∧(∀i,h0<i→i<f→cz l i=1)∧oD h0 f=false∧¬((f:Int)-h0<12)∧d4 l (l.length+1) f []=some (e,f')∧qt l f'=0∧dk l=e:=by
 have hE:dk l=(oc l).2.1:=rfl
 have hC:ep l=(oc l).2.2.1:=rfl
 rw[hC]at h
 rw[hE]at hne ⊢
 unfold oc at h hne ⊢
 rcases jA h01 0 with⟨e0,_⟩|⟨a0,e0,_,z0,b0⟩
 ·rw[e0]at h
  exact absurd h (show ¬(4:Int)=0 by decide)
 ·have ha:=l7 e0
  obtain⟨h0,q0,q1,q2,q3,q4⟩:=Xh h01 ha
  rw[e0]at h hne ⊢
  simp only[q0]at h hne ⊢
  by_cases hp:bf (Int.tdiv ((h0:Int)-a0+4) 8) 3 15=true
  ·rw[if_pos hp]at h hne ⊢
   rcases jA h01 (h0+1)with⟨e1,_⟩|⟨f,e1,f1,z1,b1⟩
   ·rw[e1]at h
    exact absurd h (show ¬(6:Int)=0 by decide)
   ·rw[e1]at h hne ⊢
    simp only at h hne ⊢
    by_cases hw:oD h0 f=true
    ·rw[if_pos hw]at h
     exact absurd h (by decide)
    ·rw[if_neg hw]at h hne ⊢
     by_cases h12:(f:Int)-h0<12
     ·rw[if_pos h12]at hne
      exact absurd rfl hne
     ·rw[if_neg h12]at h hne ⊢
      cases he:d4 l (l.length+1) f []with
      |none=>
       rw[he]at h
       exact absurd h (show ¬(6:Int)=0 by decide)
      |some r=>
       obtain⟨e,f'⟩:=r
       rw[he]at h
       exact⟨a0,h0,f,e,f',ha,z0,fun i hi=>b0 i (by omega) hi,q1,q2,q3,q4,hp,by omega,z1,fun i p q=>b1 i (by omega) q,by simpa using hw,h12,he,h,rfl⟩
  ·rw[if_neg hp]at h
   exact absurd h (by decide)
structure QI (U D:List Int) (a:Nat):Prop where
 len:D.length=U.length
 u01:∀i,cz U i=0∨cz U i=1
 d01:∀i,cz D i=0∨cz D i=1
 lo:∀i,i<a→cz D i=cz U i
 hi:∀i,a+2≤i→cz D i=1
 up:∀i,cz U i=1→cz D i=1
section
variable {U D:List Int} {a:Nat}
theorem QI.dead(c:QI U D a)(f:Nat)(hf:a+1≤f):∀(fuel:Nat) (acc:List Int),d4 D fuel f acc=none
 |0,_=>rfl
 |n+1,acc=>by
  have h1:cz D (f+76)=1:=c.hi _ (by omega)
  have h2:¬cz D (f+76)=0:=by rw[h1];decide
  have h3:bG D 0 (f+77)=none:=rD fun i hi=>c.hi i (by omega)
  rw[d4,if_neg h2,h3]
theorem QI.raised(c:QI U D a){i:Nat}(h0:cz U i=0)(h1:cz D i=1):a≤i:=by
 rcases Nat.lt_or_ge i a with h|h
 ·have:=c.lo i h
  rw[h0,h1]at this
  exact absurd this (by decide)
 ·exact h
theorem QI.edges(c:QI U D a){e:List Int}{f':Nat}:∀(fuel f:Nat) (acc:List Int),d4 U fuel f acc=some (e,f')→d4 D fuel f acc=none∨(d4 D fuel f acc=some (e,f')∧f'+4≤a+1∧f+72≤f'∧∀x ∈ e,x ∈ acc∨x.toNat+72≤f')
 |0,_,_,h=>by cases h
 |n+1,f,acc,h=>by
  rw[d4]at h
  by_cases h0:cz U (f+76)=0
  ·rw[if_pos h0]at h
   cases h
   rcases c.d01 (f+76)with d0|d0
   ·refine .inr ⟨by rw[d4,if_pos d0], ?_,Nat.le_refl _,fun x hx=> ?_⟩
    ·have:¬a+2≤f+76:=fun q=>by
      rw[c.hi _ q]at d0
      exact absurd d0 (by decide)
     omega
    ·rcases List.mem_append.1 hx with hx|hx
     ·exact .inl hx
     ·simp only[List.mem_singleton]at hx
      subst hx
      exact .inr (by rw[Int.toNat_natCast];exact Nat.le_refl _)
   ·left
    have hr:=c.raised h0 d0
    have h2:¬cz D (f+76)=0:=by rw[d0];decide
    rw[d4,if_neg h2]
    rcases jA c.d01 (f+77)with⟨e1,_⟩|⟨g,e1,g1,z1,_⟩
    ·rw[e1]
    ·rw[e1]
     simp only
     split
     ·rfl
     ·exact c.dead g (by omega) n _
  ·rw[if_neg h0]at h
   have u1:cz U (f+76)=1:=by
    rcases c.u01 (f+76)with q|q
    ·exact absurd q h0
    ·exact q
   have d0:¬cz D (f+76)=0:=by rw[c.up _ u1];decide
   rcases jA c.u01 (f+77)with⟨e1,_⟩|⟨g,e1,g1,z1,b1⟩
   ·rw[e1]at h
    cases h
   ·rw[e1]at h
    simp only at h
    by_cases hg:f+84<g
    ·rw[if_pos hg]at h
     cases h
    ·rw[if_neg hg]at h
     rw[d4,if_neg d0]
     have bD:∀i,f+77≤i→i<g→cz D i=1:=fun i p q=>c.up i (b1 i p q)
     rcases c.d01 g with dg|dg
     ·rw[Ax g1 dg bD]
      simp only
      rw[if_neg hg]
      rcases c.edges n g (acc++ [(f:Int)]) h with q|⟨q1,q2,q3,q4⟩
      ·exact .inl q
      ·refine .inr ⟨q1,q2,by omega,fun x hx=> ?_⟩
       rcases q4 x hx with hx|hx
       ·rcases List.mem_append.1 hx with hx|hx
        ·exact .inl hx
        ·simp only[List.mem_singleton]at hx
         subst hx
         exact .inr (by rw[Int.toNat_natCast];omega)
       ·exact .inr hx
     ·left
      have hr:=c.raised z1 dg
      rcases jA c.d01 (f+77)with⟨e2,_⟩|⟨g',e2,g2,z2,_⟩
      ·rw[e2]
      ·rw[e2]
       simp only
       split
       ·rfl
       ·have hgg:g≤g':=by
         rcases Nat.lt_or_ge g' g with q|q
         ·rw[bD g' g2 q]at z2
          exact absurd z2 (by decide)
         ·exact q
        have hne:g'≠g:=fun q=>by
         rw[q,dg]at z2
         exact absurd z2 (by decide)
        exact c.dead g' (by omega) n _
theorem Zr(c:QI U D a)(f:Nat)(hf:f+68<a):∀k,k≤8→jJ D f k=jJ U f k
 |0,_=>rfl
 |k+1,hk=>by
  rw[jJ,jJ,Zr c f hf k (by omega),c.lo (f+8*k+12) (by omega)]
theorem QI.run(c:QI U D a)(hU:ep U=0)(hne:dk U≠ []):ep D≠0∨(ep D=0∧oE D (dk D)=oE U (dk U)):=by
 obtain⟨a0,h0,f,e,f',p1,p2,p3,p4,p5,p6,p7,p8,p9,p10,p11,p12,p13,p14,p15,p16⟩:=afy c.u01 hU hne
 have six:¬(6:Int)=0:=by decide
 have hC:ep D=(oc D).2.2.1:=rfl
 have hE:dk D=(oc D).2.1:=rfl
 rw[hC,hE,p16]
 unfold oc
 rcases jA c.d01 0 with⟨e0,_⟩|⟨a1,e0,_,z0,b0⟩
 ·rw[e0]
  exact .inl (show ¬(4:Int)=0 by decide)
 ·rw[e0]
  simp only
  have ha1:=l7 e0
  have hge:a0≤a1:=by
   rcases Nat.lt_or_ge a1 a0 with q|q
   ·rw[c.up a1 (p3 a1 q)]at z0
    exact absurd z0 (by decide)
   ·exact q
  rcases c.d01 a0 with d0|d0
  ·have ea:a1=a0:=by
    rcases Nat.lt_or_ge a0 a1 with q|q
    ·rw[b0 a0 (by omega) q]at d0
     exact absurd d0 (by decide)
    ·omega
   subst ea
   obtain⟨h1,q0,q1,q2,q3,q4⟩:=Xh c.d01 ha1
   rw[q0]
   have hle:h1≤h0:=by
    rcases Nat.lt_or_ge h0 h1 with q|q
    ·have:=c.up h0 p6
     rw[q4 h0 p4 q]at this
     exact absurd this (by decide)
    ·exact q
   rcases Nat.lt_or_ge h1 h0 with hlt|hge2
   ·have hr:=c.raised (p7 h1 q1 hlt) q3
    left
    split
    ·rcases jA c.d01 (h1+1)with⟨e2,_⟩|⟨f1,e2,g2,z2,_⟩
     ·rw[e2]
      exact six
     ·rw[e2]
      have hf1:f1=h1+1:=by
       rcases Nat.lt_or_ge (h1+1) f1 with q|q
       ·rw[c.hi f1 (by omega)]at z2
        exact absurd z2 (by decide)
       ·omega
      have hw:oD h1 f1=true:=by
       unfold oD
       rw[hf1]
       have:decide ((((h1+1:Nat):Int))-(h1:Int)<5)=true:=decide_eq_true (by omega)
       rw[this]
       simp
      simp only
      rw[if_pos hw]
      exact six
    ·exact six
   ·have eh:h1=h0:=by omega
    subst eh
    rw[if_pos p8]
    have bD:∀i,h1+1≤i→i<f→cz D i=1:=fun i p q=>c.up i (p11 i (by omega) q)
    rcases c.d01 f with df|df
    ·rw[Ax (show h1+1≤f by omega) df bD]
     have hw:¬oD h1 f=true:=by rw[p12];decide
     simp only
     rw[if_neg hw,if_neg p13,c.len]
     rcases c.edges _ f [] p14 with q|⟨r1,r2,r3,r4⟩
     ·rw[q]
      exact .inl six
     ·rw[r1]
      right
      have ht:qt D f'=0:=by
       unfold qt at p15 ⊢
       rcases jA c.u01 (f'+12)with⟨e3,b3⟩|⟨g,e3,_⟩
       ·rw[rD fun i hi=>c.up i (b3 i hi)]
        rfl
       ·rw[e3]at p15
        exact absurd p15 (show ¬(6:Int)=0 by decide)
      refine⟨ht, ?_⟩
      unfold oE
      refine List.map_congr_left fun x hx=> ?_
      rcases r4 x hx with q|q
      ·cases q
      ·exact Zr c _ (by omega) 8 (Nat.le_refl _)
    ·have hr:=c.raised p10 df
     left
     rcases jA c.d01 (h1+1)with⟨e2,_⟩|⟨f1,e2,g2,z2,_⟩
     ·rw[e2]
      exact six
     ·rw[e2]
      have hff:f≤f1:=by
       rcases Nat.lt_or_ge f1 f with q|q
       ·rw[bD f1 g2 q]at z2
        exact absurd z2 (by decide)
       ·exact q
      have hne2:f1≠f:=fun q=>by
       rw[q,df]at z2
       exact absurd z2 (by decide)
      simp only
      split
      ·exact six
      ·split
       ·rename_i hq
        omega
       ·rw[c.dead f1 (by omega)]
        exact six
  ·have hr:=c.raised p2 d0
   left
   have hne3:a1≠a0:=fun q=>by
    rw[q,d0]at z0
    exact absurd z0 (by decide)
   have h1:fA D a1=a1+1:=aaP (by omega) (by omega) (c.hi _ (by omega)) (fun i p q=>by omega)
   rw[h1]
   have hp:¬bf (Int.tdiv (((a1+1:Nat):Int)-a1+4) 8) 3 15=true:=by
    rw[show((a1+1:Nat):Int)-a1+4=5 from by omega]
    decide
   rw[if_neg hp]
   exact six
end
theorem afz(l:List Int)(i:Nat):cz (jz l) i=if i<l.length then vb l i else 1:=by
 unfold cz
 rw[su]
 by_cases h:i<l.length
 ·have:=yD (fun i (_:Int)=>vb l i) l 0 i h
  rw[Nat.zero_add]at this
  have e:(jz l)[i]? =some (vb l i):=this
  rw[if_neg (by omega),if_pos h,List.getD_eq_getElem?_getD,e]
  rfl
 ·rw[if_pos (by omega),if_neg h]
end Go.Proofs.YtnambbcafhnhpaaGreatDoor
namespace Go.Proofs.YtnambbcafhnhpaaGreatDoor
open Go.RowKit
set_option linter.unusedVariables false
set_option linter.unusedSimpArgs false
theorem Kw(m:aA.T)(st:ao.T)(f:bp.T):d5 m st f=fz 8 ((cp m st).2.2.2.1.toNat-(19+10*(cf f m.1.toNat st).length)) (cf f m.1.toNat st):=rfl
theorem QJ {m:aA.T}{st:ao.T}{f:bp.T}(hs:c7 m st f=true):bZ f=true:=by
 unfold c7 at hs
 simp only[Bool.and_eq_true]at hs
 exact hs.1.1
theorem QK {m:aA.T}{st:ao.T}{f:bp.T}(h:bK m=true)(hf:bZ f=true):∀v ∈ cf f m.1.toNat st,0≤v∧v≤255:=by
 obtain⟨r,er,hr⟩:=vo h
 have e:m.1.toNat=r:=by rw[er,Int.toNat_natCast]
 rw[e]
 exact(E9 hf hr).1
theorem acA {m:aA.T}{st:ao.T}{f:bp.T}{B A:Nat}{y:List Int}{fl:Int→Int}(h:bK m=true)(hs:c7 m st f=true)(hn:Gj B A (cf f m.1.toNat st) y fl):gb m st y=((3:Int),f,()):=by
 unfold gb
 rw[hn.decoded (QK h (QJ hs)),if_pos rfl]
 exact aaR h hs
theorem acB {v:Int}(h:v=0∨v=1):l8 v=1-v:=by
 unfold l8
 rw[wrap_i64]<;>omega
theorem N8(x:List Int)(n:Nat):(lq l8 x n (n+1)).length=x.length:=by
 unfold lq
 rw[s7]
theorem ad6 {x:List Int}(h01:∀(i:Nat) (hi:i<x.length),x[i]=0∨x[i]=1)(n:Nat):∀(i:Nat) (hi:i<(lq l8 x n (n+1)).length),(lq l8 x n (n+1))[i]=if i=n then 1-x[i]'(by rw[N8]at hi;exact hi)else x[i]'(by rw[N8]at hi;exact hi):=by
 intro i hi
 have hx:i<x.length:=by rw[N8]at hi;exact hi
 by_cases ha:n<x.length
 ·have e:lq l8 x n (n+1)=x.set n (l8 (x.getD n 0)):=by
   unfold lq
   rw[show min (n+1) x.length-min n x.length=1 from by omega,show min n x.length=n from by omega]
   rfl
  simp only[e,List.getElem_set]
  by_cases hq:n=i
  ·subst hq
   rw[if_pos rfl,if_pos rfl,List.getD_eq_getElem?_getD,List.getElem?_eq_getElem hx]
   exact acB (h01 n hx)
  ·rw[if_neg hq,if_neg (fun q=>hq q.symm)]
 ·have e:lq l8 x n (n+1)=x:=by
   unfold lq
   rw[show min (n+1) x.length-min n x.length=0 from by omega]
   rfl
  simp only[e]
  rw[if_neg (by omega)]
theorem acC {m:aA.T}{st:ao.T}{f:bp.T}(h:bK m=true)(hs:c7 m st f=true)(a c v:Int):gb m st (ez (cj (d5 m st f)) ((1:Int),a,c,v,()))=((3:Int),f,()):=by
 have hb:=QK (st:=st) h (QJ hs)
 have e:ez (cj (d5 m st f)) ((1:Int),a,c,v,())=lq l8 (cj (d5 m st f)) a.toNat (a.toNat+1):=by
  unfold ez
  exact if_pos rfl
 rw[e,Kw]
 generalize hA:(cp m st).2.2.2.1.toNat-(19+10*(cf f m.1.toNat st).length)=A
 have h01:∀(i:Nat) (hi:i<(cj (fz 8 A (cf f m.1.toNat st))).length),(cj (fz 8 A (cf f m.1.toNat st)))[i]=0∨(cj (fz 8 A (cf f m.1.toNat st)))[i]=1:=fun i hi=>by
  have:=(QH 8 A (cf f m.1.toNat st) hb).at_ i hi
  rcases this with⟨_,q⟩|⟨_,q⟩
  ·exact .inr q
  ·exact .inl q
 refine acA (B:=8) (A:=A) h hs (acy 8 A _ hb _ a.toNat ?_ ?_)
 ·unfold lq
  rw[s7]
 ·exact ad6 h01 a.toNat
theorem Zs:∀(k i:Nat) (l:List Int),i+k=l.length→(∀j,j<i→(chg (fun _=>1) k i l)[j]? =l[j]?)∧∀j,i≤j→j<l.length→(chg (fun _=>1) k i l)[j]? =some 1
 |0,i,l,h=>⟨fun j _=>rfl,fun j h1 h2=>by omega⟩
 |k+1,i,l,h=>by
  obtain⟨h1,h2⟩:=Zs k (i+1) (l.set i 1) (by rw[List.length_set];omega)
  refine⟨fun j hj=> ?_,fun j hj hl=> ?_⟩
  ·rw[chg,h1 j (by omega),List.getElem?_set,if_neg (by omega)]
  ·by_cases hq:j=i
   ·rw[chg,h1 j (by omega),hq,List.getElem?_set,if_pos rfl,if_pos (by omega)]
   ·rw[chg]
    exact h2 j (by omega) (by rw[List.length_set];exact hl)
end Go.Proofs.YtnambbcafhnhpaaGreatDoor
