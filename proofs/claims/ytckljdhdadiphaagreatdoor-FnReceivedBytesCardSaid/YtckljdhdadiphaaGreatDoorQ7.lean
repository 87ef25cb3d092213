import Derived.Test.YtckljdhdadiphaaGreatDoorQ3
namespace Go.Proofs.YtckljdhdadiphaaGreatDoor
open Go.RowKit
set_option linter.unusedVariables false
set_option linter.unusedSimpArgs false
theorem uV {α:Type}(q:α→Bool):∀(l:List α) (i:Nat) (g:Nat) (h:g<l.length),q l[g]=true→(∀k (hk:k<g),q (l[k]'(by omega))=false)→b8 q i l=some (i+g)
 | [],_,_,h,_,_=>by simp at h
 |v::r,i,0,_,h1,_=>by
  have h1:q v=true:=h1
  simp[b8,h1]
 |v::r,i,g+1,h,h1,h2=>by
  have h0:q v=false:=h2 0 (by omega)
  have ih:=uV q r (i+1) g (by simpa using h) h1 (fun k hk=>h2 (k+1) (by omega))
  simp only[b8,h0,ih]
  simp;omega
theorem wo {α:Type}(q:α→Bool):∀(l:List α) (i:Nat),(∀v ∈ l,q v=false)→b8 q i l=none
 | [],_,_=>rfl
 |v::r,i,h=>by simp[b8,h v (by simp),wo q r (i+1) (fun w hw=>h w (by simp[hw]))]
theorem y8 {l:List Int}{i:Nat}(h:i<l.length):gk l i=l[i]:=by
 unfold gk
 rw[if_neg (by omega),List.getD_eq_getElem?_getD,List.getElem?_eq_getElem h]
 rfl
theorem JC {l:List Int}{i:Nat}(h:gk l i=0):i<l.length:=by
 unfold gk at h
 split at h
 ·cases h
 ·omega
theorem HW {l:List Int}{j g:Nat}(hj:j≤g)(hg:gk l g=0)(hb:∀i,j≤i→i<g→gk l i=1):bD l 0 j=some g:=by
 have hlt:=JC hg
 have h:=uV (fun x:Int=>x==0) (l.drop j) j (g-j) (by simp;omega) (by
  rw[y8 hlt]at hg
  simp only[List.getElem_drop,show j+(g-j)=g from by omega,hg];rfl) (fun k hk=>by
  have:=hb (j+k) (by omega) (by omega)
  rw[y8 (by omega)]at this
  simp only[List.getElem_drop,this];rfl)
 unfold bD
 rw[h]
 congr 1;omega
theorem N7 {l:List Int}{j:Nat}(hb:∀i,j≤i→gk l i=1):bD l 0 j=none:=by
 unfold bD
 refine wo _ _ _ fun v hv=> ?_
 obtain⟨k,hk,rfl⟩:=List.getElem_of_mem hv
 have hk':j+k<l.length:=by simp at hk;omega
 have:=hb (j+k) (by omega)
 rw[y8 hk']at this
 simp only[List.getElem_drop,this];rfl
theorem VP {l:List Int}{a h:Nat}(ha:a<h)(hl:h≤l.length)(hh:gk l h=1)(hb:∀i,a<i→i<h→gk l i=0):gv l a=h:=by
 unfold gv
 rcases Nat.lt_or_ge h l.length with hlt|hge
 ·have:=uV (fun x:Int=>x==1) (l.drop (a+1)) (a+1) (h-(a+1)) (by simp;omega) (by
   rw[y8 hlt]at hh
   simp only[List.getElem_drop,show a+1+(h-(a+1))=h from by omega,hh];rfl) (fun k hk=>by
   have:=hb (a+1+k) (by omega) (by omega)
   rw[y8 (by omega)]at this
   simp only[List.getElem_drop,this];rfl)
  unfold bD
  rw[this]
  simp only;omega
 ·have:bD l 1 (a+1)=none:=by
   unfold bD
   refine wo _ _ _ fun v hv=> ?_
   obtain⟨k,hk,rfl⟩:=List.getElem_of_mem hv
   have hk':a+1+k<l.length:=by simp at hk;omega
   have:=hb (a+1+k) (by omega) (by omega)
   rw[y8 hk']at this
   simp only[List.getElem_drop,this];rfl
  rw[this]
  simp only;omega
structure Db (n:Nat) (bv:Nat→Nat→Int) (cv:Nat→Int):Prop where
 pre:∀j,j<8→cv j=0
 gap:cv 8=1
 one:∀b,b<n→cv (9+10*b)=1
 zero:∀b,b<n→cv (10+10*b)=0
 bit:∀b k,b<n→k<8→cv (11+10*b+k)=bv b k
 low:cv (9+10*n)=0
 high:cv (10+10*n)=1
structure Shaped (y:List Int) (n:Nat) (cv:Nat→Int) (e:Nat→Nat):Prop where
 idle:∀i,i<e 0→gk y i=1
 cell:∀j,j<10+10*n→∀i,e j≤i→i<e (j+1)→gk y i=cv j
 rest:∀i,e (10+10*n)≤i→gk y i=1
 near:∀j m,m≤10→j+m≤10+10*n→e j+8*m≤e (j+m)+3∧e (j+m)≤e j+8*m+3
section
variable {y:List Int} {n:Nat} {bv:Nat→Nat→Int} {cv:Nat→Int} {e:Nat→Nat}
theorem Shaped.runs(h:Shaped y n cv e)(v:Int):∀(m j:Nat),j+m≤10+10*n→(∀k,j≤k→k<j+m→cv k=v)→∀i,e j≤i→i<e (j+m)→gk y i=v
 |0,j,_,_,i,h1,h2=>by simp at h2;omega
 |m+1,j,hj,hv,i,h1,h2=>by
  by_cases hi:i<e (j+m)
  ·exact h.runs v m j (by omega) (fun k hk hk2=>hv k hk (by omega)) i h1 hi
  ·have:=h.cell (j+m) (by omega) i (by omega) h2
   rw[this];exact hv (j+m) (by omega) (by omega)
theorem Shaped.edges(h:Shaped y n cv e)(hc:Db n bv cv):∀(k b fuel:Nat) (acc:List Int),b+(k+1)=n→k<fuel→
  kt y fuel (e (10+10*b)) acc=some (acc++(List.range (k+1)).map (fun q=>((e (10+10*(b+q)):Nat):Int)),e (10+10*(n-1))+72)
 |k,b,0,acc,hb,hf=>by omega
 |k,b,fuel+1,acc,hb,hf=>by
  have n9:=h.near (10+10*b) 9 (by omega) (by omega)
  have n10:=h.near (10+10*b) 10 (by omega) (by omega)
  have e9:10+10*b+9=9+10*(b+1):=by omega
  have e10:10+10*b+10=10+10*(b+1):=by omega
  rw[e9]at n9
  rw[e10]at n10
  have hs:=h.cell (9+10*(b+1)) (by omega) (e (10+10*b)+76) (by omega) (by
   rw[show 9+10*(b+1)+1=10+10*(b+1) from by omega];omega)
  cases k with
  |zero=>
   have hbn:b+1=n:=by omega
   rw[hbn,hc.low]at hs
   simp only[kt,if_pos hs]
   have:n-1=b:=by omega
   rw[this]
   rfl
  |succ k=>
   have hbn:b+1<n:=by omega
   rw[hc.one (b+1) hbn]at hs
   have hs':¬gk y (e (10+10*b)+76)=0:=by rw[hs];decide
   have hz:=h.near (10+10*(b+1)) 1 (by omega) (by omega)
   have hzero:=h.cell (10+10*(b+1)) (by omega) (e (10+10*(b+1))) (by omega) (by omega)
   rw[hc.zero (b+1) hbn]at hzero
   have hfirst:bD y 0 (e (10+10*b)+77)=some (e (10+10*(b+1))):=HW (by omega) hzero (fun i hi hi2=>by
    have:=h.cell (9+10*(b+1)) (by omega) i (by omega) (by
     rw[show 9+10*(b+1)+1=10+10*(b+1) from by omega];omega)
    rw[this];exact hc.one (b+1) hbn)
   have hle:¬e (10+10*b)+84<e (10+10*(b+1)):=by omega
   simp only[kt,if_neg hs',hfirst,if_neg hle]
   rw[h.edges hc k (b+1) fuel _ (by omega) (by omega)]
   rw[List.range_succ_eq_map (n:=k+1),List.map_cons,List.map_map]
   simp only[List.append_assoc,List.singleton_append,Nat.add_zero]
   congr 5
   funext q
   simp only[Function.comp,Nat.succ_eq_add_one]
   rw[show b+(q+1)=b+1+q from by omega]
theorem Shaped.grow(h:Shaped y n cv e):∀b,b<n→b≤e (10+10*b)
 |0,_=>by omega
 |b+1,hb=>by
  have ih:=h.grow b (by omega)
  have n10:=h.near (10+10*b) 10 (by omega) (by omega)
  rw[show 10+10*b+10=10+10*(b+1) from by omega]at n10
  omega
theorem Shaped.tail(h:Shaped y n cv e){f:Nat}(hf:e (10+10*n)≤f+12):tk y f=0:=by
 unfold tk
 rw[N7 (fun i hi=>h.rest i (by omega))]
 rfl
theorem Shaped.run(h:Shaped y n cv e)(hc:Db n bv cv):iV y=0∧dC y=(List.range n).map (fun b=>((e (10+10*b):Nat):Int)):=by
 have n8:=h.near 0 8 (by omega) (by omega)
 rw[Nat.zero_add]at n8
 have n1:=h.near 0 1 (by omega) (by omega)
 have n81:=h.near 8 1 (by omega) (by omega)
 have n91:=h.near 9 1 (by omega) (by omega)
 simp only[Nat.zero_add,Nat.reduceAdd]at n1 n81 n91
 have h0:gk y (e 0)=0:=by
  have:=h.cell 0 (by omega) (e 0) (by omega) (by simp only[Nat.zero_add];omega)
  rw[this];exact hc.pre 0 (by omega)
 have fa:bD y 0 0=some (e 0):=HW (by omega) h0 (fun i _ hi=>h.idle i hi)
 have hrun:=h.runs 0 8 0 (by omega) (fun k _ hk=>hc.pre k (by omega))
 rw[Nat.zero_add]at hrun
 have h8:gk y (e 8)=1:=by
  have:=h.cell 8 (by omega) (e 8) (by omega) (show e 8<e 9 by omega)
  rw[this];exact hc.gap
 have hlen:e 8≤y.length:=by
  have:=JC (hrun (e 8-1) (by omega) (by omega))
  omega
 have fh:gv y (e 0)=e 8:=VP (by omega) hlen h8 (fun i h1 h2=>hrun i (by omega) h2)
 have hd:Int.tdiv ((e 8:Int)-(e 0:Int)+4) 8=8:=by
  rw[Int.tdiv_eq_ediv_of_nonneg (by omega)]
  omega
 have hin:be (8:Int) 3 15=true:=by decide
 cases n with
 |zero=>
  have h9:gk y (e 9)=0:=by
   have:=h.cell 9 (by omega) (e 9) (by omega) (show e 9<e 10 by omega)
   rw[this];exact hc.low
  have ff:bD y 0 (e 8+1)=some (e 9):=HW (by omega) h9 (fun i h1 h2=>by
   have:=h.cell 8 (by omega) i (by omega) h2
   rw[this];exact hc.gap)
  have hw:xN (e 8) (e 9)=false:=by
   unfold xN
   simp only[Bool.or_eq_false_iff,decide_eq_false_iff_not]
   omega
  have hlt:(e 9:Int)-(e 8:Int)<12:=by omega
  have ht:=h.tail (f:=e 9) (show e 10≤e 9+12 by omega)
  have:Cy y=((8:Int),[],(0:Int),()):=by
   unfold Cy
   simp only[fa,fh,hd,hin,if_true,ff,hw,hlt,ht]
   rfl
  unfold iV dC
  rw[this]
  exact⟨rfl,rfl⟩
 |succ n=>
  have n82:=h.near 8 2 (by omega) (by omega)
  simp only[Nat.reduceAdd]at n82
  have n101:e 10+8*1≤e 11+3∧e 11≤e 10+8*1+3:=h.near 10 1 (by omega) (by omega)
  have h10:gk y (e 10)=0:=by
   have:=h.cell 10 (by omega) (e 10) (by omega) (show e 10<e 11 by omega)
   rw[this];exact hc.zero 0 (by omega)
  have hr2:=h.runs 1 2 8 (by omega) (fun k h1 h2=>by
   have:k=8∨k=9:=by omega
   rcases this with rfl|rfl
   ·exact hc.gap
   ·exact hc.one 0 (by omega))
  have ff:bD y 0 (e 8+1)=some (e 10):=HW (by omega) h10 (fun i h1 h2=>hr2 i (by omega) h2)
  have hw:xN (e 8) (e 10)=false:=by
   unfold xN
   simp only[Bool.or_eq_false_iff,decide_eq_false_iff_not]
   omega
  have hlt:¬(e 10:Int)-(e 8:Int)<12:=by omega
  have hg:=h.grow n (by omega)
  have n10:=h.near (10+10*n) 10 (by omega) (by omega)
  rw[show 10+10*n+10=10+10*(n+1) from by omega]at n10
  have nz:=h.near (10+10*n) 1 (by omega) (by omega)
  have hl2:e (10+10*n)<y.length:=JC (by
   have:=h.cell (10+10*n) (by omega) (e (10+10*n)) (by omega) (show e (10+10*n)<e (10+10*n+1) by omega)
   rw[this];exact hc.zero n (by omega))
  have he:=h.edges hc n 0 (y.length+1) [] (by omega) (by omega)
  simp only[Nat.mul_zero,Nat.add_zero,List.nil_append,Nat.zero_add,Nat.add_sub_cancel]at he
  have ht:=h.tail (f:=e (10+10*n)+72) (by omega)
  have:Cy y=((8:Int),(List.range (n+1)).map (fun b=>((e (10+10*b):Nat):Int)),(0:Int),()):=by
   unfold Cy
   simp only[fa,fh,hd,hin,if_true,ff,hw,if_neg hlt,he,ht]
   rfl
  unfold iV dC
  rw[this]
  exact⟨rfl,rfl⟩
theorem Shaped.val(h:Shaped y n cv e)(hc:Db n bv cv)(b:Nat)(hb:b<n)(k:Nat)(hk:k<8):gk y (e (10+10*b)+8*k+12)=bv b k:=by
 have n1:=h.near (10+10*b) (k+1) (by omega) (by omega)
 have n2:=h.near (10+10*b) (k+2) (by omega) (by omega)
 have:=h.cell (11+10*b+k) (by omega) (e (10+10*b)+8*k+12) (by
  rw[show 11+10*b+k=10+10*b+(k+1) from by omega];omega) (by
  rw[show 11+10*b+k+1=10+10*b+(k+2) from by omega];omega)
 rw[this]
 exact hc.bit b k hb hk
theorem Shaped.bytes(h:Shaped y n cv e)(hc:Db n bv cv):xO y (dC y)=(List.range n).map fun b=>2*(2*(2*(2*(2*(2*(2*bv b 0+bv b 1)+bv b 2)+bv b 3)+bv b 4)+bv b 5)+bv b 6)+bv b 7:=by
 rw[(h.run hc).2]
 unfold xO
 rw[List.map_map]
 refine List.map_congr_left fun b hb=> ?_
 have hb:b<n:=List.mem_range.1 hb
 have hv:=fun k hk=>h.val hc b hb k hk
 simp only[Function.comp,Int.toNat_natCast,kz,hv 0 (by omega),hv 1 (by omega),hv 2 (by omega),hv 3 (by omega),hv 4 (by omega),hv 5 (by omega),hv 6 (by omega),hv 7 (by omega)]
 omega
end
structure gm (l:List Int) (M:Nat) (cv:Nat→Int) (p:Nat→Nat) (fl:Int→Int):Prop where
 c01:∀j,cv j=0∨cv j=1
 last:cv M=1
 f0:∀i,0≤fl i
 f6:∀i,fl i+fl (i+1)+fl (i+2)+fl (i+3)+fl (i+4)+fl (i+5)≤1
 idle:∀i:Int,i<p 0→dD l i=1-fl i
 one:∀j,j≤M→cv j=1→∀i:Int,(p j:Int)≤i→i<l.length→(j<M→i<p (j+1))→dD l i=1-fl i
 zero:∀j,j≤M→cv j=0→∀i:Int,(p j:Int)≤i→i<l.length→(j<M→i<p (j+1))→dD l i=fl i
 wide:∀j,j<M→p j+7≤p (j+1)
 long:p M+3≤l.length
 near:∀j m,m≤10→j+m≤M→p j+8*m≤p (j+m)+1∧p (j+m)≤p j+8*m+1
section
variable {l:List Int} {M:Nat} {cv:Nat→Int} {p:Nat→Nat} {fl:Int→Int}
theorem S7(i:Nat):vb l i=0∨vb l i=1:=by
 unfold vb
 split
 ·exact .inr rfl
 ·exact .inl rfl
theorem Dc(i:Nat):(vb l i=1∧3≤dD l ((i:Int)-4)+dD l ((i:Int)-3)+dD l ((i:Int)-2)+dD l ((i:Int)-1)+dD l i)∨(vb l i=0∧dD l ((i:Int)-4)+dD l ((i:Int)-3)+dD l ((i:Int)-2)+dD l ((i:Int)-1)+dD l i<3):=by
 unfold vb lP
 split
 ·rename_i h;exact .inl ⟨rfl,h⟩
 ·rename_i h;exact .inr ⟨rfl,by omega⟩
theorem gm.six(h:gm l M cv p fl)(i:Int):0≤fl (i-4)∧0≤fl (i-3)∧0≤fl (i-2)∧0≤fl (i-1)∧0≤fl i∧0≤fl (i+1)∧fl (i-4)+fl (i-3)+fl (i-2)+fl (i-1)+fl i+fl (i+1)≤1:=by
 have:=h.f6 (i-4)
 rw[show i-4+1=i-3 from by omega,show i-4+2=i-2 from by omega,show i-4+3=i-1 from by omega,show i-4+4=i from by omega,show i-4+5=i+1 from by omega]at this
 exact⟨h.f0 _,h.f0 _,h.f0 _,h.f0 _,h.f0 _,h.f0 _,this⟩
theorem gm.of(h:gm l M cv p fl){j:Nat}(hj:j≤M){i:Int}(h1:(p j:Int)≤i)(h2:i<l.length)(h3:j<M→i<p (j+1)):(cv j=1∧dD l i=1-fl i)∨(cv j=0∧dD l i=fl i):=by
 rcases h.c01 j with h0|h0
 ·exact .inr ⟨h0,h.zero j hj h0 i h1 h2 h3⟩
 ·exact .inl ⟨h0,h.one j hj h0 i h1 h2 h3⟩
def iX(cv:Nat→Int):Nat→Int
 |0=>1
 |j+1=>cv j
theorem gm.ahead(h:gm l M cv p fl):∀ {j:Nat},j≤M→∀ {i:Int},i<p j→(p j:Int)≤i+7→i<l.length→(iX cv j=1∧dD l i=1-fl i)∨(iX cv j=0∧dD l i=fl i)
 |0,_,i,h1,_,_=>.inl ⟨rfl,h.idle i h1⟩
 |j+1,hj,i,h1,h2,h3=>by
  have hw:=h.wide j (by omega)
  exact h.of (j:=j) (by omega) (by omega) h3 (fun _=>h1)
theorem gm.mid(h:gm l M cv p fl){j:Nat}(hj:j≤M){i:Nat}(h1:p j+3≤i)(h2:i<l.length)(h3:j<M→i≤p (j+1)):vb l i=cv j:=by
 have h6:=h.six i
 have hb:=Dc (l:=l) i
 have a1:=h.of hj (i:=(i:Int)-1) (by omega) (by omega) (fun hm=>by have:=h3 hm;omega)
 have a2:=h.of hj (i:=(i:Int)-2) (by omega) (by omega) (fun hm=>by have:=h3 hm;omega)
 have a3:=h.of hj (i:=(i:Int)-3) (by omega) (by omega) (fun hm=>by have:=h3 hm;omega)
 by_cases hi:j<M∧i=p (j+1)
 ·have hw:=h.wide j hi.1
  have a4:=h.of hj (i:=(i:Int)-4) (by omega) (by omega) (fun hm=>by have:=h3 hm;omega)
  have a0:=h.of (j:=j+1) (by omega) (i:=(i:Int)) (by omega) (by omega) (fun hm=>by have:=h.wide (j+1) hm;omega)
  omega
 ·have a0:=h.of hj (i:=(i:Int)) (by omega) (by omega) (fun hm=>by have:=h3 hm;omega)
  by_cases h4:p j+4≤i
  ·have a4:=h.of hj (i:=(i:Int)-4) (by omega) (by omega) (fun hm=>by have:=h3 hm;omega)
   omega
  ·have a4:=h.ahead hj (i:=(i:Int)-4) (by omega) (by omega) (by omega)
   omega
theorem gm.edge(h:gm l M cv p fl){j:Nat}(hj:j≤M):(iX cv j=cv j→vb l (p j+1)=cv j)∧(vb l (p j+1)=cv j→vb l (p j+2)=cv j):=by
 have hp:p j+3≤l.length:=by
  rcases Nat.lt_or_ge j M with hm|hm
  ·have:=h.long
   have:∀m,j+m≤M→p j≤p (j+m):=by
    intro m
    induction m with
    |zero=>intro _;exact Nat.le_refl _
    |succ m ih=>
     intro hm
     have:=h.wide (j+m) (by omega)
     have:=ih (by omega)
     rw[←Nat.add_assoc]
     omega
   have:=this (M-j) (by omega)
   rw[show j+(M-j)=M from by omega]at this
   omega
  ·have:j=M:=by omega
   subst this
   exact h.long
 have hw:j<M→p j+7≤p (j+1):=fun hm=>h.wide j hm
 have b3:=h.ahead hj (i:=(p j:Int)-3) (by omega) (by omega) (by omega)
 have b2:=h.ahead hj (i:=(p j:Int)-2) (by omega) (by omega) (by omega)
 have b1:=h.ahead hj (i:=(p j:Int)-1) (by omega) (by omega) (by omega)
 have c0:=h.of hj (i:=(p j:Int)) (by omega) (by omega) (fun hm=>by have:=hw hm;omega)
 have c1:=h.of hj (i:=(p j:Int)+1) (by omega) (by omega) (fun hm=>by have:=hw hm;omega)
 have c2:=h.of hj (i:=(p j:Int)+2) (by omega) (by omega) (fun hm=>by have:=hw hm;omega)
 have e1:=Dc (l:=l) (p j+1)
 have e2:=Dc (l:=l) (p j+2)
 rw[show((p j+1:Nat):Int)-4=(p j:Int)-3 from by omega,show((p j+1:Nat):Int)-3=(p j:Int)-2 from by omega,show((p j+1:Nat):Int)-2=(p j:Int)-1 from by omega,show((p j+1:Nat):Int)-1=(p j:Int) from by omega,show((p j+1:Nat):Int)=(p j:Int)+1 from by omega]at e1
 rw[show((p j+2:Nat):Int)-4=(p j:Int)-2 from by omega,show((p j+2:Nat):Int)-3=(p j:Int)-1 from by omega,show((p j+2:Nat):Int)-2=(p j:Int) from by omega,show((p j+2:Nat):Int)-1=(p j:Int)+1 from by omega,show((p j+2:Nat):Int)=(p j:Int)+2 from by omega]at e2
 have h6:=h.six ((p j:Int)+1)
 rw[show(p j:Int)+1-4=(p j:Int)-3 from by omega,show(p j:Int)+1-3=(p j:Int)-2 from by omega,show(p j:Int)+1-2=(p j:Int)-1 from by omega,show(p j:Int)+1-1=(p j:Int) from by omega,show(p j:Int)+1+1=(p j:Int)+2 from by omega]at h6
 constructor
 ·intro hq;omega
 ·intro hq;omega
def pr(l:List Int)(cv:Nat→Int)(p:Nat→Nat)(j:Nat):Nat:=if vb l (p j+1)=cv j then p j+1 else if vb l (p j+2)=cv j then p j+2 else p j+3
theorem lV(j:Nat):p j+1≤pr l cv p j∧pr l cv p j≤p j+3:=by
 unfold pr
 split
 ·omega
 ·split<;>omega
theorem gm.vote(h:gm l M cv p fl){j:Nat}(hj:j≤M){i:Nat}(h1:pr l cv p j≤i)(h2:i<l.length)(h3:j<M→i<pr l cv p (j+1)):vb l i=cv j:=by
 obtain⟨r1,r2⟩:=h.edge hj
 have ra:=lV (l:=l) (cv:=cv) (p:=p) j
 by_cases hA:i<p j+3
 ·have hi:i=p j+1∨i=p j+2:=by omega
  unfold pr at h1
  rcases hi with rfl|rfl
  ·split at h1
   ·assumption
   ·split at h1<;>omega
  ·split at h1
   ·rename_i hq;exact r2 hq
   ·split at h1
    ·assumption
    ·omega
 ·by_cases hB:j<M→i≤p (j+1)
  ·exact h.mid hj (by omega) h2 hB
  ·have hm:j<M:=by
    rcases Nat.lt_or_ge j M with hm|hm
    ·exact hm
    ·exact absurd (fun h=>absurd h (by omega)) hB
   have hB:p (j+1)<i:=by
    rcases Nat.lt_or_ge (p (j+1)) i with hq|hq
    ·exact hq
    ·exact absurd (fun _=>hq) hB
   obtain⟨s1,_⟩:=h.edge (j:=j+1) (by omega)
   have rb:=lV (l:=l) (cv:=cv) (p:=p) (j+1)
   have h3:=h3 hm
   have hc:=h.c01 j
   have hc1:=h.c01 (j+1)
   have hv:=S7 (l:=l) i
   have hi:i=p (j+1)+1∨i=p (j+1)+2:=by omega
   unfold pr at h3
   have hs:iX cv (j+1)=cv j:=rfl
   rw[hs]at s1
   rcases hi with rfl|rfl
   ·split at h3
    ·omega
    ·omega
   ·split at h3
    ·omega
    ·split at h3
     ·omega
     ·omega
theorem gm.shaped {n:Nat}(h:gm l (10+10*n) cv p fl):Shaped (kb l) n cv (pr l cv p):=by
 have at_v:∀i,i<l.length→gk (kb l) i=vb l i:=fun i hi=>by
  have hi':i<(kb l).length:=by rw[pY];exact hi
  rw[y8 hi']
  have:=yN (fun i (_:Int)=>vb l i) l 0 i hi
  have e:(kb l)[i]? =some (vb l (0+i)):=this
  rw[List.getElem?_eq_getElem hi',Nat.zero_add]at e
  exact Option.some.inj e
 have at_far:∀i,l.length≤i→gk (kb l) i=1:=fun i hi=>by
  unfold gk
  rw[pY,if_pos hi]
 have mono:∀m j,j+m≤10+10*n→p j+m≤p (j+m):=by
  intro m
  induction m with
  |zero=>intro j _;exact Nat.le_refl _
  |succ m ih=>
   intro j hm
   have:=h.wide (j+m) (by omega)
   have:=ih j (by omega)
   have e:j+(m+1)=j+m+1:=rfl
   rw[e]
   omega
 have hlong:=h.long
 refine⟨fun i hi=> ?_,fun j hj i h1 h2=> ?_,fun i hi=> ?_,fun j m hm hj=> ?_⟩
 ·have r:=lV (l:=l) (cv:=cv) (p:=p) 0
  have hm0:=mono (10+10*n) 0 (by omega)
  rw[Nat.zero_add]at hm0
  have hil:i<l.length:=by omega
  rw[at_v i hil]
  have hv:=S7 (l:=l) i
  by_cases hp:i≤p 0
  ·have h6:=h.six i
   have hb:=Dc (l:=l) i
   have a1:=h.idle ((i:Int)-1) (by omega)
   have a2:=h.idle ((i:Int)-2) (by omega)
   have a3:=h.idle ((i:Int)-3) (by omega)
   have a4:=h.idle ((i:Int)-4) (by omega)
   have a0:dD l i=1-fl i∨dD l i=fl i:=by
    by_cases hq:i<p 0
    ·exact .inl (h.idle i (by omega))
    ·have hw:=h.wide 0 (by omega)
     have hz:0+1=1:=rfl
     rw[hz]at hw
     rcases h.of (j:=0) (by omega) (i:=(i:Int)) (by omega) (by omega) (fun _=>by rw[hz];omega)with q|q
     ·exact .inl q.2
     ·exact .inr q.2
   omega
  ·obtain⟨s1,_⟩:=h.edge (j:=0) (by omega)
   have hc:=h.c01 0
   have hs:iX cv 0=1:=rfl
   rw[hs]at s1
   have hii:i=p 0+1∨i=p 0+2:=by omega
   unfold pr at hi
   rcases hii with rfl|rfl
   ·split at hi
    ·omega
    ·omega
   ·split at hi
    ·omega
    ·split at hi
     ·omega
     ·omega
 ·have r:=lV (l:=l) (cv:=cv) (p:=p) (j+1)
  have hm:=mono (10+10*n-(j+1)) (j+1) (by omega)
  rw[show j+1+(10+10*n-(j+1))=10+10*n from by omega]at hm
  have hil:i<l.length:=by omega
  rw[at_v i hil]
  exact h.vote (by omega) h1 hil (fun _=>h2)
 ·rcases Nat.lt_or_ge i l.length with hil|hil
  ·rw[at_v i hil,h.vote (Nat.le_refl _) hi hil (fun hq=>absurd hq (Nat.lt_irrefl _))]
   exact h.last
  ·exact at_far i hil
 ·have r1:=lV (l:=l) (cv:=cv) (p:=p) j
  have r2:=lV (l:=l) (cv:=cv) (p:=p) (j+m)
  have hn:=h.near j m hm hj
  omega
theorem gm.decoded {n:Nat}{bv:Nat→Nat→Int}(h:gm l (10+10*n) cv p fl)(hc:Db n bv cv):du l=((List.range n).map (fun b=>2*(2*(2*(2*(2*(2*(2*bv b 0+bv b 1)+bv b 2)+bv b 3)+bv b 4)+bv b 5)+bv b 6)+bv b 7),(0:Int),()):=by
 have hs:=h.shaped
 unfold Proofs.YtckljdhdadiphaaGreatDoor.du
 rw[if_pos (hs.run hc).1,hs.bytes hc]
end
end Go.Proofs.YtckljdhdadiphaaGreatDoor
namespace Go.Proofs.YtckljdhdadiphaaGreatDoor
open Go.RowKit
set_option linter.unusedVariables false
set_option linter.unusedSimpArgs false
theorem FO {α:Type}{w:Nat}{g:α→List Int}(hg:∀b,(g b).length=w):∀(l:List α) (b k:Nat) (hb:b<l.length),k<w→(l.flatMap g)[w*b+k]? =(g l[b])[k]?
 |x::r,0,k,_,hk=>by
  rw[List.flatMap_cons,Nat.mul_zero,Nat.zero_add,List.getElem?_append_left (by rw[hg];exact hk)]
  rfl
 |x::r,b+1,k,hb,hk=>by
  have e:w*(b+1)+k=(w*b+k)+w:=by rw[Nat.mul_succ];omega
  rw[List.flatMap_cons,e,List.getElem?_append_right (by rw[hg];omega),hg,Nat.add_sub_cancel,FO hg r b k (by simpa using hb) hk]
  rfl
theorem FP {α:Type}{w:Nat}{g:α→List Int}(hg:∀b,(g b).length=w):∀l:List α,(l.flatMap g).length=w*l.length
 | []=>by simp
 |x::r=>by rw[List.flatMap_cons,List.length_append,hg,FP hg r,List.length_cons,Nat.mul_succ];omega
theorem JD(v:Int):∀(w k:Nat),k<w→(aV v w)[k]? =some (bt v (w-1-k))
 |w+1,0,_=>rfl
 |w+1,k+1,h=>by
  have:=JD v w k (by omega)
  rw[aV,List.getElem?_cons_succ,this,show w+1-1-(k+1)=w-1-k from by omega]
def iY(l:List Int)(j:Nat):Int:=(bT l).getD j 1
def uW(l:List Int)(b k:Nat):Int:=bt (l.getD b 0) (7-k)
theorem CI(b:Int):([1,0]++aV b 8).length=10:=by simp only[List.length_append,cQ,List.length_cons,List.length_nil]
theorem qa {l:List Int}{j:Nat}{v:Int}(h:(bT l)[j]? =some v):iY l j=v:=by
 unfold iY
 rw[List.getD_eq_getElem?_getD,h]
 rfl
theorem y9(l:List Int)(b k:Nat)(hb:b<l.length)(hk:k<10):(bT l)[9+10*b+k]? =([1,0]++aV l[b] 8)[k]? :=by
 have h9:(List.replicate 8 (0:Int)++ [1]).length=9:=rfl
 have hf:=FP (w:=10) CI l
 unfold bT
 rw[List.getElem?_append_left (by rw[List.length_append,h9,hf];omega),List.getElem?_append_right (by rw[h9];omega),h9,show 9+10*b+k-9=10*b+k from by omega]
 exact FO (w:=10) CI l b k hb hk
theorem M8(l:List Int)(k:Nat):(bT l)[9+10*l.length+k]? =([0,1]:List Int)[k]? :=by
 have h9:(List.replicate 8 (0:Int)++ [1]).length=9:=rfl
 have hf:=FP (w:=10) CI l
 unfold bT
 rw[List.getElem?_append_right (by rw[List.length_append,h9,hf];omega),List.length_append,h9,hf]
 congr 1
 omega
theorem fZ(l:List Int):Db l.length (uW l) (iY l) where
 pre:=fun j hj=>qa (by
  have h9:(List.replicate 8 (0:Int)++ [1]).length=9:=rfl
  unfold bT
  rw[List.getElem?_append_left (by rw[List.length_append,h9];omega),List.getElem?_append_left (by rw[h9];omega),List.getElem?_append_left (by simpa using hj),List.getElem?_replicate,if_pos hj])
 gap:=qa (by
  have h9:(List.replicate 8 (0:Int)++ [1]).length=9:=rfl
  unfold bT
  rw[List.getElem?_append_left (by rw[List.length_append,h9];omega),List.getElem?_append_left (by rw[h9];omega)]
  rfl)
 one:=fun b hb=>qa (by
  have:=y9 l b 0 hb (by omega)
  rw[Nat.add_zero]at this
  rw[this]
  rfl)
 zero:=fun b hb=>qa (by
  have:=y9 l b 1 hb (by omega)
  rw[show 9+10*b+1=10+10*b from by omega]at this
  rw[this]
  rfl)
 bit:=fun b k hb hk=>qa (by
  have:=y9 l b (2+k) hb (by omega)
  rw[show 9+10*b+(2+k)=11+10*b+k from by omega]at this
  rw[this,List.getElem?_append_right (by simp),show 2+k-([1,0]:List Int).length=k from by simp,JD l[b] 8 k hk]
  unfold uW
  rw[List.getD_eq_getElem?_getD,List.getElem?_eq_getElem hb]
  rfl)
 low:=qa (by rw[show 9+10*l.length=9+10*l.length+0 from rfl,M8];rfl)
 high:=qa (by rw[show 10+10*l.length=9+10*l.length+1 from by omega,M8];rfl)
theorem RC {v:Int}(h0:0≤v)(h1:v≤255):2*(2*(2*(2*(2*(2*(2*bt v 7+bt v 6)+bt v 5)+bt v 4)+bt v 3)+bt v 2)+bt v 1)+bt v 0=v:=by
 obtain⟨n,rfl⟩:∃n:Nat,v=n:=⟨v.toNat,by omega⟩
 have b:∀k,bt (n:Int) k=((n / 2^k % 2:Nat):Int):=fun k=>uP n k (by omega)
 simp only[b]
 simp only[Nat.reducePow]
 omega
theorem Qe {l:List Int}(h:∀v ∈ l,0≤v∧v≤255):(List.range l.length).map (fun b=>2*(2*(2*(2*(2*(2*(2*uW l b 0+uW l b 1)+uW l b 2)+uW l b 3)+uW l b 4)+uW l b 5)+uW l b 6)+uW l b 7)=l:=by
 refine List.ext_getElem (by simp) fun i h1 h2=> ?_
 have hv:=h _ (List.getElem_mem h2)
 rw[List.getElem_map,List.getElem_range]
 have e:l.getD i 0=l[i]:=by rw[List.getD_eq_getElem?_getD,List.getElem?_eq_getElem h2];rfl
 show 2*(2*(2*(2*(2*(2*(2*bt (l.getD i 0) 7+bt (l.getD i 0) 6)+bt (l.getD i 0) 5)+bt (l.getD i 0) 4)+bt (l.getD i 0) 3)+bt (l.getD i 0) 2)+bt (l.getD i 0) 1)+bt (l.getD i 0) 0=l[i]
 rw[e]
 exact RC hv.1 hv.2
theorem za(c:List Int)(i:Nat)(h:i<8*c.length):(bd c)[i]? =some (c[i / 8]'(by omega)):=by
 have hi:i / 8<c.length:=by omega
 have e:=FO (w:=8) (g:=fun c:Int=>List.replicate 8 c) (fun b=>by simp) c (i / 8) (i % 8) hi (by omega)
 rw[show 8*(i / 8)+i % 8=i from by omega]at e
 unfold bd
 rw[e,List.getElem?_replicate,if_pos (by omega)]
def ba(B A:Nat)(l:List Int):List Int:=(List.replicate B (1:Int)++bT l)++List.replicate A 1
theorem fB(B A:Nat)(l:List Int):(ba B A l).length=B+(11+10*l.length)+A:=by
 unfold ba
 simp only[List.length_append,List.length_replicate,lC]
theorem tv(B A:Nat)(l:List Int)(i:Nat)(h:i<(ba B A l).length):(ba B A l)[i]=if i<B then 1 else iY l (i-B):=by
 have hl:=fB B A l
 have hll:=lC l
 have e:(ba B A l)[i]? =some (if i<B then 1 else iY l (i-B)):=by
  unfold ba
  by_cases h1:i<B
  ·rw[if_pos h1,List.getElem?_append_left (by simp;omega),List.getElem?_append_left (by simpa using h1),List.getElem?_replicate,if_pos h1]
  ·rw[if_neg h1]
   by_cases h2:i-B<(bT l).length
   ·rw[List.getElem?_append_left (by simp;omega),List.getElem?_append_right (by simp;omega),List.length_replicate]
    unfold iY
    rw[List.getD_eq_getElem?_getD,List.getElem?_eq_getElem h2]
    rfl
   ·rw[List.getElem?_append_right (by simp;omega),List.getElem?_replicate,if_pos (by simp;omega)]
    unfold iY
    rw[List.getD_eq_getElem?_getD,List.getElem?_eq_none (by omega)]
    rfl
 rw[List.getElem?_eq_getElem h]at e
 exact Option.some.inj e
theorem M9 {l:List Int}(h:∀v ∈ l,0≤v∧v≤255)(j:Nat):iY l j=0∨iY l j=1:=by
 unfold iY
 rw[List.getD_eq_getElem?_getD]
 by_cases hj:j<(bT l).length
 ·rw[List.getElem?_eq_getElem hj]
  exact Jw h _ (List.getElem_mem hj)
 ·rw[List.getElem?_eq_none (by omega)]
  exact .inr rfl
theorem zb(l:List Int)(j:Nat)(h:10+10*l.length≤j):iY l j=1:=by
 by_cases hj:j=10+10*l.length
 ·rw[hj]
  exact(fZ l).high
 ·unfold iY
  rw[List.getD_eq_getElem?_getD,List.getElem?_eq_none (by rw[lC];omega)]
  rfl
structure FQ (B A:Nat) (l y:List Int) (fl:Int→Int):Prop where
 len:y.length=8*(B+(11+10*l.length)+A)
 f0:∀i,0≤fl i
 neg:∀i,i<0→fl i=0
 f6:∀i,fl i+fl (i+1)+fl (i+2)+fl (i+3)+fl (i+4)+fl (i+5)≤1
 at_:∀(i:Nat) (h:i<y.length),((bd (ba B A l))[i]? =some 1∧y[i]=1-fl i)∨((bd (ba B A l))[i]? =some 0∧y[i]=fl i)
theorem FQ.cell {B A:Nat}{l y:List Int}{fl:Int→Int}(h:FQ B A l y fl)(i:Nat)(hi:i<y.length):((if i / 8<B then 1 else iY l (i / 8-B))=1∧dD y (i:Int)=1-fl i)∨((if i / 8<B then 1 else iY l (i / 8-B))=0∧dD y (i:Int)=fl i):=by
 have hw:dD y (i:Int)=y[i]:=by
  unfold dD
  rw[if_neg (by omega),Int.toNat_natCast,List.getD_eq_getElem?_getD,List.getElem?_eq_getElem hi]
  rfl
 have hl:=h.len
 have hp:=fB B A l
 have hs:=za (ba B A l) i (by omega)
 rw[tv]at hs
 have ha:=h.at_ i hi
 rw[hs]at ha
 rw[hw]
 rcases ha with⟨a,b⟩|⟨a,b⟩
 ·exact .inl ⟨Option.some.inj a,b⟩
 ·exact .inr ⟨Option.some.inj a,b⟩
theorem FQ.signal {B A:Nat}{l y:List Int}{fl:Int→Int}(h:FQ B A l y fl)(hb:∀v ∈ l,0≤v∧v≤255):gm y (10+10*l.length) (iY l) (fun j=>8*(B+j)) fl where
 c01:=M9 hb
 last:=(fZ l).high
 f0:=h.f0
 f6:=h.f6
 idle:=fun i hi=>by
  by_cases h0:i<0
  ·unfold dD
   rw[if_pos h0,h.neg i h0]
   rfl
  ·obtain⟨n,rfl⟩:∃n:Nat,i=n:=⟨i.toNat,by omega⟩
   have hl:=h.len
   have hi:(n:Int)<((8*(B+0):Nat):Int):=hi
   have hc:=h.cell n (by omega)
   rw[if_pos (by omega)]at hc
   rcases hc with⟨a,b⟩|⟨a,b⟩
   ·exact b
   ·exact absurd a (by decide)
 one:=fun j hj hc i h1 h2 h3=>by
  have h1:((8*(B+j):Nat):Int)≤i:=h1
  have h3:j<10+10*l.length→i<((8*(B+(j+1)):Nat):Int):=h3
  obtain⟨n,rfl⟩:∃n:Nat,i=n:=⟨i.toNat,by omega⟩
  have hq:=h.cell n (by omega)
  rw[if_neg (by omega)]at hq
  have e:iY l (n / 8-B)=1:=by
   rcases Nat.lt_or_ge j (10+10*l.length)with hjm|hjm
   ·have:=h3 hjm
    rw[show n / 8-B=j from by omega]
    exact hc
   ·exact zb l _ (by omega)
  rcases hq with⟨a,b⟩|⟨a,b⟩
  ·exact b
  ·rw[e]at a
   exact absurd a (by decide)
 zero:=fun j hj hc i h1 h2 h3=>by
  have h1:((8*(B+j):Nat):Int)≤i:=h1
  have h3:j<10+10*l.length→i<((8*(B+(j+1)):Nat):Int):=h3
  obtain⟨n,rfl⟩:∃n:Nat,i=n:=⟨i.toNat,by omega⟩
  have hq:=h.cell n (by omega)
  rw[if_neg (by omega)]at hq
  have hjm:j<10+10*l.length:=by
   rcases Nat.lt_or_ge j (10+10*l.length)with hjm|hjm
   ·exact hjm
   ·rw[zb l j hjm]at hc
    exact absurd hc (by decide)
  have:=h3 hjm
  rw[show n / 8-B=j from by omega,hc]at hq
  rcases hq with⟨a,b⟩|⟨a,b⟩
  ·exact absurd a (by decide)
  ·exact b
 wide:=fun j _=>by
  show 8*(B+j)+7≤8*(B+(j+1))
  omega
 long:=by
  have:=h.len
  show 8*(B+(10+10*l.length))+3≤y.length
  omega
 near:=fun j m _ _=>by
  show 8*(B+j)+8*m≤8*(B+(j+m))+1∧8*(B+(j+m))≤8*(B+j)+8*m+1
  omega
theorem FQ.decoded {B A:Nat}{l y:List Int}{fl:Int→Int}(h:FQ B A l y fl)(hb:∀v ∈ l,0≤v∧v≤255):du y=(l,(0:Int),()):=by
 have:=(h.signal hb).decoded (fZ l)
 rw[Qe hb]at this
 exact this
theorem HX(B A:Nat)(l:List Int)(hb:∀v ∈ l,0≤v∧v≤255):FQ B A l (bd (ba B A l)) (fun _=>0) where
 len:=by rw[qo,fB]
 f0:=fun _=>Int.le_refl 0
 neg:=fun _ _=>rfl
 f6:=fun _=>(show(0:Int)+0+0+0+0+0≤1 by decide)
 at_:=fun i hi=>by
  have hp:=fB B A l
  have hi2:i<8*(ba B A l).length:=by rw[qo]at hi;exact hi
  have hs:=za (ba B A l) i hi2
  have hv:(bd (ba B A l))[i]=(ba B A l)[i / 8]'(by omega):=by
   rw[List.getElem?_eq_getElem hi]at hs
   exact Option.some.inj hs
  have h01:(ba B A l)[i / 8]'(by omega)=0∨(ba B A l)[i / 8]'(by omega)=1:=by
   rw[tv]
   split
   ·exact .inr rfl
   ·exact M9 hb _
  rw[hs,hv]
  rcases h01 with e|e
  ·exact .inr ⟨by rw[e],by rw[e]⟩
  ·exact .inl ⟨by rw[e],by rw[e];rfl⟩
end Go.Proofs.YtckljdhdadiphaaGreatDoor
namespace Go.Proofs.YtckljdhdadiphaaGreatDoor
open Go.RowKit
set_option linter.unusedVariables false
set_option linter.unusedSimpArgs false
theorem N8(x y:ak.T):dE ak x y=true↔x=y:=by
 obtain⟨(a:Int),(b:Int),(c:Int),(d:Int),(e:Int),⟨⟩⟩:=x
 obtain⟨(a':Int),(b':Int),(c':Int),(d':Int),(e':Int),⟨⟩⟩:=y
 have h:dE ak (a,b,c,d,e,()) (a',b',c',d',e',())=((a==a')&&((b==b')&&((c==c')&&((d==d')&&((e==e')&&true))))):=rfl
 rw[h]
 simp only[Bool.and_eq_true,beq_iff_eq,and_true]
 constructor
 ·rintro ⟨rfl,rfl,rfl,rfl,rfl⟩;rfl
 ·intro h
  cases h
  exact⟨rfl,rfl,rfl,rfl,rfl⟩
end Go.Proofs.YtckljdhdadiphaaGreatDoor
namespace Go.Proofs.YtckljdhdadiphaaGreatDoor
open Go.RowKit
set_option linter.unusedVariables false
set_option linter.unusedSimpArgs false
def tw(n b:Int):Int:=IntKind.i64.wrap (IntKind.i64.wrap (2*n)+b)
theorem O7(l:List Int):ez l=l.foldl tw 0:=rfl
theorem Na {n b:Int}(h0:0≤n)(h1:n≤1000000000000)(hb:b=0∨b=1):tw n b=2*n+b:=by
 have w1:IntKind.i64.wrap (2*n)=2*n:=by rw[wrap_i64]<;>omega
 unfold tw
 rw[w1,wrap_i64]<;>omega
theorem Kv(v:Nat)(hv:v<9223372036854775808):∀(w s:Nat),w≤32→(s+1)*2^w≤1000000000000→(aV (v:Int) w).foldl tw (s:Int)=((s*2^w+v % 2^w:Nat):Int)
 |0,s,_,_=>by
  simp only[aV,List.foldl_nil,Nat.pow_zero,Nat.mul_one,Nat.mod_one,Nat.add_zero]
 |w+1,s,hw,hs=>by
  have hp:1≤2^w:=Nat.one_le_two_pow
  have e2:(s+1)*2^(w+1)=(2*s+2)*2^w:=by rw[Nat.pow_succ,Nat.mul_comm (2^w) 2,←Nat.mul_assoc];congr 1;omega
  have hle:2*s+2≤(2*s+2)*2^w:=Nat.le_mul_of_pos_right _ (by omega)
  have hb:v / 2^w % 2<2:=Nat.mod_lt _ (by decide)
  have hsw:tw (s:Int) (bt (v:Int) w)=((2*s+v / 2^w % 2:Nat):Int):=by
   rw[uP v w hv,Na (by omega) (by omega) (by omega)]
   omega
  have hm:(2*s+v / 2^w % 2+1)*2^w≤(2*s+2)*2^w:=Nat.mul_le_mul_right _ (by omega)
  have ih:=Kv v hv w (2*s+v / 2^w % 2) (by omega) (by omega)
  rw[aV,List.foldl_cons,hsw,ih]
  congr 1
  have e3:v % 2^(w+1)=v % 2^w+2^w*(v / 2^w % 2):=Nat.mod_pow_succ
  rw[e3,Nat.add_mul,Nat.pow_succ,Nat.mul_comm (2^w) (v / 2^w % 2),Nat.mul_comm (2^w) 2,←Nat.mul_assoc,Nat.mul_comm s 2]
  omega
theorem qb {v:Int}{w:Nat}(h0:0≤v)(hw:w≤32)(h1:v<2^w):ez (aV v w)=v:=by
 obtain⟨n,rfl⟩:∃n:Nat,v=n:=⟨v.toNat,by omega⟩
 have hn:n<2^w:=by
  have:((n:Nat):Int)<((2^w:Nat):Int):=by rw[Int.natCast_pow];exact h1
  omega
 have h32:2^w≤2^32:=Nat.pow_le_pow_right (by decide) hw
 have h33:(2:Nat)^32=4294967296:=by decide
 have:=Kv n (by omega) w 0 hw (by omega)
 rw[O7]
 have this:(aV (n:Int) w).foldl tw 0=_:=this
 rw[this,Nat.zero_mul,Nat.zero_add,Nat.mod_eq_of_lt hn]
def nG:List Int→Nat
 | []=>0
 |b::r=>b.toNat*2^r.length+nG r
theorem JE:∀ {l:List Int},(∀b ∈ l,b=0∨b=1)→nG l<2^l.length
 | [],_=>by simp[nG]
 |b::r,h=>by
  have:=JE (fun x hx=>h x (by simp[hx]):∀b ∈ r,b=0∨b=1)
  have hb:=h b (by simp)
  have e:2^(b::r).length=2^r.length+2^r.length:=by rw[List.length_cons,Nat.pow_succ];omega
  unfold nG
  rcases hb with rfl|rfl
  ·have:(0:Int).toNat=0:=rfl
   rw[this,Nat.zero_mul]
   omega
  ·have:(1:Int).toNat=1:=rfl
   rw[this,Nat.one_mul]
   omega
theorem Kw:∀(l:List Int) (s:Nat),(∀b ∈ l,b=0∨b=1)→(s+1)*2^l.length≤1000000000000→l.foldl tw (s:Int)=((s*2^l.length+nG l:Nat):Int)
 | [],s,_,_=>by
   simp only[List.foldl_nil,List.length_nil,Nat.pow_zero,Nat.mul_one,nG,Nat.add_zero]
 |b::r,s,h,hs=>by
  have hb:=h b (by simp)
  have hp:1≤2^r.length:=Nat.one_le_two_pow
  rw[List.length_cons,Nat.pow_succ]at hs
  have e2:(s+1)*(2^r.length*2)=(2*s+2)*2^r.length:=by rw[Nat.mul_comm (2^r.length) 2,←Nat.mul_assoc];congr 1;omega
  rw[e2]at hs
  have hle:2*s+2≤(2*s+2)*2^r.length:=Nat.le_mul_of_pos_right _ (by omega)
  have hsw:tw (s:Int) b=((2*s+b.toNat:Nat):Int):=by
   rw[Na (by omega) (by omega) hb]
   omega
  have hm:(2*s+b.toNat+1)*2^r.length≤(2*s+2)*2^r.length:=Nat.mul_le_mul_right _ (by omega)
  have ih:=Kw r (2*s+b.toNat) (fun x hx=>h x (by simp[hx])) (by omega)
  rw[List.foldl_cons,hsw,ih,nG,List.length_cons,Nat.pow_succ,Nat.add_mul,Nat.mul_comm (2^r.length) 2,←Nat.mul_assoc,Nat.mul_comm s 2,Nat.add_assoc]
theorem SN {l:List Int}(h:∀b ∈ l,b=0∨b=1)(hl:l.length≤32):ez l=(nG l:Int):=by
 have h32:2^l.length≤2^32:=Nat.pow_le_pow_right (by decide) hl
 have h33:(2:Nat)^32=4294967296:=by decide
 have:=Kw l 0 h (by omega)
 rw[O7]
 have this:l.foldl tw 0=_:=this
 rw[this,Nat.zero_mul,Nat.zero_add]
theorem O8(q x:Nat):∀(w W:Nat),w≤W→q*2^W+x<9223372036854775808→aV ((q*2^W+x:Nat):Int) w=aV ((x:Nat):Int) w
 |0,_,_,_=>rfl
 |w+1,W,hw,hq=>by
  obtain⟨k,hk⟩:∃k,W=(w+1)+k:=⟨W-(w+1),by omega⟩
  have hx:x<9223372036854775808:=by omega
  have e:(q*2^W+x) / 2^w % 2=x / 2^w % 2:=by
   have e1:q*2^W+x=x+2^w*(2*(q*2^k)):=by
    rw[hk,Nat.pow_add,Nat.pow_succ]
    have:q*(2^w*2*2^k)=2^w*(2*(q*2^k)):=by
     rw[Nat.mul_assoc (2^w) 2 (2^k),Nat.mul_left_comm q (2^w),Nat.mul_left_comm q 2]
    rw[this,Nat.add_comm]
   rw[e1,Nat.add_mul_div_left _ _ (Nat.two_pow_pos w)]
   omega
  rw[aV,aV,uP _ w hq,uP _ w hx,e,O8 q x w W (by omega) hq]
theorem O9:∀ {l:List Int},(∀b ∈ l,b=0∨b=1)→l.length≤32→aV ((nG l:Nat):Int) l.length=l
 | [],_,_=>rfl
 |b::r,h,hl=>by
  have hr:∀b ∈ r,b=0∨b=1:=fun x hx=>h x (by simp[hx])
  have hlt:=JE hr
  have hlt2:=JE h
  have hlr:r.length≤31:=by simpa using hl
  have h32:2^(b::r).length≤2^32:=Nat.pow_le_pow_right (by decide) hl
  have h33:(2:Nat)^32=4294967296:=by decide
  have hb:=h b (by simp)
  have hB:b.toNat<2:=by omega
  have ih:=O9 hr (by omega)
  have hv:nG (b::r)<9223372036854775808:=by omega
  have e1:nG (b::r) / 2^r.length % 2=b.toNat:=by
   unfold nG
   rw[Nat.add_comm,Nat.mul_comm,Nat.add_mul_div_left _ _ (Nat.two_pow_pos _),Nat.div_eq_of_lt hlt,Nat.zero_add,Nat.mod_eq_of_lt hB]
  have e2:aV ((nG (b::r):Nat):Int) r.length=r:=by
   have:=O8 b.toNat (nG r) r.length r.length (Nat.le_refl _) hv
   unfold nG
   rw[this,ih]
  rw[List.length_cons,aV,uP _ _ hv,e1,e2]
  congr 1
  omega
theorem VQ {l:List Int}{w:Nat}(h:∀b ∈ l,b=0∨b=1)(hw:w≤32)(hl:l.length=w):aV (ez l) w=l:=by
 subst hl
 rw[SN h hw]
 exact O9 h hw
theorem SO {l:List Int}(hl:l.length=64)(h:∀b ∈ l,b=0∨b=1):cY (sR l)=l:=by
 have hc:∀k,k<8→aV (ez (bK l k)) 8=bK l k:=fun k hk=>VQ (fun b hb=>h b (List.mem_of_mem_drop (List.mem_of_mem_take hb))) (by decide) (by rw[mU];omega)
 have e:cY (sR l)=((List.range 8).map fun k=>bK l k).flatten:=by
  unfold cY sR
  rw[List.flatMap_map,←List.flatMap_def]
  simp only[List.flatMap_def]
  congr 1
  refine List.map_congr_left fun k hk=> ?_
  exact hc k (List.mem_range.1 hk)
 have e8:(List.range 8).map (fun k=>bK l k)= [bK l 0,bK l 1,bK l 2,bK l 3,bK l 4,bK l 5,bK l 6,bK l 7]:=rfl
 have q:∀n,l.drop (8*n)=(l.drop (8*n)).take 8++l.drop (8*(n+1)):=fun n=>by
  have:=(List.take_append_drop 8 (l.drop (8*n))).symm
  rw[List.drop_drop]at this
  rw[show 8*(n+1)=8*n+8 from by omega]
  exact this
 have q8:l.drop (8*8)= []:=List.drop_eq_nil_of_le (by omega)
 have all:l.drop (8*0)=bK l 0++(bK l 1++(bK l 2++(bK l 3++(bK l 4++(bK l 5++(bK l 6++(bK l 7++ []))))))):=by
  unfold bK
  rw[←q8,←q 7,←q 6,←q 5,←q 4,←q 3,←q 2,←q 1,←q 0]
 rw[e,e8]
 simp only[List.flatten_cons,List.flatten_nil]
 exact all.symm
theorem SP {st:ak.T}(h:bl st=true):kx (jm st)=st:=by
 obtain⟨(a:Int),(b:Int),(c:Int),(d:Int),(e:Int),⟨⟩⟩:=st
 unfold bl at h
 simp only[Bool.and_eq_true,bg]at h
 obtain⟨⟨⟨⟨h1,h2⟩,h3⟩,h4⟩,h5⟩:=h
 have l1:=cQ a 16
 have l2:=cQ b 4
 have l3:=cQ c 4
 have l4:=cQ d 8
 have l5:=cQ e 32
 have n1:=qb (v:=a) (w:=16) h1.1 (by decide) (by have:(2:Int)^16=65536:=by decide
                                                 omega)
 have n2:=qb (v:=b) (w:=4) h2.1 (by decide) (by have:(2:Int)^4=16:=by decide
                                                omega)
 have n3:=qb (v:=c) (w:=4) h3.1 (by decide) (by have:(2:Int)^4=16:=by decide
                                                omega)
 have n4:=qb (v:=d) (w:=8) h4.1 (by decide) (by have:(2:Int)^8=256:=by decide
                                                omega)
 have n5:=qb (v:=e) (w:=32) h5.1 (by decide) (by have:(2:Int)^32=4294967296:=by decide
                                                 omega)
 have hs:jm (a,b,c,d,e,())=(((aV a 16++aV b 4)++aV c 4)++aV d 8)++aV e 32:=rfl
 generalize aV a 16=A at *
 generalize aV b 4=B at *
 generalize aV c 4=C at *
 generalize aV d 8=D at *
 generalize aV e 32=E at *
 have t1:((A++B++C++D++E).drop 0).take 16=A:=by
  simp only[List.append_assoc,List.drop_zero]
  exact List.take_left' l1
 have t2:((A++B++C++D++E).drop 16).take 4=B:=by
  simp only[List.append_assoc]
  rw[List.drop_left' l1,List.take_left' l2]
 have t3:((A++B++C++D++E).drop 20).take 4=C:=by
  rw[show A++B++C++D++E=(A++B)++(C++(D++E)) from by simp only[List.append_assoc],List.drop_left' (by simp;omega),List.take_left' l3]
 have t4:((A++B++C++D++E).drop 24).take 8=D:=by
  rw[show A++B++C++D++E=(A++B++C)++(D++E) from by simp only[List.append_assoc],List.drop_left' (by simp;omega),List.take_left' l4]
 have t5:((A++B++C++D++E).drop 32).take 32=E:=by
  rw[List.drop_left' (by simp;omega),List.take_of_length_le (by omega)]
 unfold kx
 rw[hs,t1,t2,t3,t4,t5,n1,n2,n3,n4,n5]
theorem SQ {f:aL.T}(hf:bp f=true):cg (a7 f)=(f,true):=by
 obtain⟨h1,h2,h3,h4,h5⟩:=wl hf
 have k1:=bg.1 h1
 have k2:=bg.1 h2
 obtain⟨(k0:Int),(q0:Int),st,(d:List Int),⟨⟩⟩:=f
 simp only at h1 h2 h3 h4 h5 k1 k2
 obtain⟨k,rfl⟩:∃k:Nat,k0=k:=⟨k0.toNat,by omega⟩
 obtain⟨q,rfl⟩:∃q:Nat,q0=q:=⟨q0.toNat,by omega⟩
 have w1:IntKind.i64.wrap ((k:Int)*64)=(k:Int)*64:=by rw[wrap_i64]<;>omega
 have w2:IntKind.i64.wrap ((q:Int)*8)=(q:Int)*8:=by rw[wrap_i64]<;>omega
 have w3:IntKind.i64.wrap ((k:Int)*64+(q:Int)*8)=((k*64+q*8:Nat):Int):=by rw[wrap_i64]<;>omega
 have e:a7 ((k:Int),(q:Int),st,d,())=([((k*64+q*8:Nat):Int)]++(if(k:Int) != (0:Int)then sR (jm st)else []))++(if cR (k:Int)then(d.length:Int)::d else []):=by
  unfold a7
  simp only[w1,w2,w3]
 have a1:Int.tdiv ((k*64+q*8:Nat):Int) 64=(((k*64+q*8) / 64:Nat):Int):=rfl
 have a2:Int.tdiv ((k*64+q*8:Nat):Int) 8=(((k*64+q*8) / 8:Nat):Int):=rfl
 have c1:bh ((k*64+q*8:Nat):Int)=(k:Int):=by
  unfold bh
  rw[a1,wrap_i64]<;>omega
 have w4:IntKind.i64.wrap (((k*64+q*8) / 8:Nat):Int)=(((k*64+q*8) / 8:Nat):Int):=by rw[wrap_i64]<;>omega
 have a3:Int.tmod (((k*64+q*8) / 8:Nat):Int) 8=(((k*64+q*8) / 8 % 8:Nat):Int):=rfl
 have c2:∀s v,bL ((k*64+q*8:Nat):Int) s v=((k:Int),(q:Int),s,v,()):=fun s v=>by
  have c3:Int.tmod (IntKind.i64.wrap (Int.tdiv ((k*64+q*8:Nat):Int) (8:Int))) (8:Int)=(q:Int):=by
   rw[a2,w4,a3]
   omega
  unfold bL
  rw[c1,c3]
 have hok:rc (a7 ((k:Int),(q:Int),st,d,())) ((k:Int),(q:Int),st,d,())=true:=by
  unfold rc
  rw[hf]
  simp
 rw[e]at hok ⊢
 have fin:∀L,rc L ((k:Int),(q:Int),st,d,())=true→pZ L ((k*64+q*8:Nat):Int) st (if cR (k:Int)then(d.length:Int)::d else [])=(((k:Int),(q:Int),st,d,()),true):=fun L hL=>by
  unfold pZ
  rw[c1]
  cases hd:cR (k:Int)with
  |true=>
   simp only[if_true,c2,hL]
  |false=>
   have hd0:d= []:=by
    unfold cR at hd
    unfold fw at h3
    rw[Bool.or_eq_false_iff]at hd
    have x0:((k:Int)==0)=false:=hd.1
    have x2:((k:Int)==2)=false:=hd.2
    rw[x0,x2]at h3
    have:d.length=0:=by simpa using h3
    exact List.eq_nil_of_length_eq_zero this
   subst hd0
   simp only[c2,hL]
 rcases Bool.eq_false_or_eq_true ((k:Int) != (0:Int))with hk|hk
 ·have hst:=h5 hk
  rw[if_pos hk]at hok ⊢
  have hb8:=fV (jm st)
  have hs:kx (cY (sR (jm st)))=st:=by rw[SO (CD st) (Lg st hst)];exact SP hst
  generalize sR (jm st)=Y at *
  have e1:([((k*64+q*8:Nat):Int)]++Y)++(if cR (k:Int)then(d.length:Int)::d else [])=((k*64+q*8:Nat):Int)::(Y++(if cR (k:Int)then(d.length:Int)::d else [])):=by simp
  rw[e1]at hok ⊢
  generalize hR:(if cR (k:Int)then(d.length:Int)::d else [])=R at *
  have hlt:decide (((Y++R).length:Int)<(8:Int))=false:=by rw[List.length_append];exact decide_eq_false (by omega)
  unfold cg
  simp only[c1,hk,hlt]
  rw[List.take_left' hb8,List.drop_left' hb8,hs]
  exact fin _ hok
 ·have hk0:(k:Int)=0:=by simpa using hk
  have hst:st=gx:=by
   unfold bp at hf
   simp only[Bool.and_eq_true]at hf
   have hf5:=hf.2.2.2.2
   have hk2:((k:Int)==(0:Int))=true:=by rw[hk0];rfl
   rw[if_pos hk2]at hf5
   exact(N8 _ _).1 hf5
  have hnp:¬((k:Int) != (0:Int))=true:=by rw[hk];decide
  rw[if_neg hnp]at hok ⊢
  have e1:([((k*64+q*8:Nat):Int)]++ [])++(if cR (k:Int)then(d.length:Int)::d else [])=((k*64+q*8:Nat):Int)::(if cR (k:Int)then(d.length:Int)::d else []):=by simp
  rw[e1]at hok ⊢
  unfold cg
  simp only[c1,hk]
  rw[←hst]
  exact fin _ hok
theorem RD {f:aL.T}(hf:bp f=true):∃b t,a7 f=b::t∧bh b=f.1:=by
 obtain⟨h1,h2,h3,h4,h5⟩:=wl hf
 have k1:=bg.1 h1
 have k2:=bg.1 h2
 obtain⟨(k0:Int),(q0:Int),st,(d:List Int),⟨⟩⟩:=f
 simp only at h1 h2 h3 h4 h5 k1 k2
 obtain⟨k,rfl⟩:∃k:Nat,k0=k:=⟨k0.toNat,by omega⟩
 obtain⟨q,rfl⟩:∃q:Nat,q0=q:=⟨q0.toNat,by omega⟩
 have w1:IntKind.i64.wrap ((k:Int)*64)=(k:Int)*64:=by rw[wrap_i64]<;>omega
 have w2:IntKind.i64.wrap ((q:Int)*8)=(q:Int)*8:=by rw[wrap_i64]<;>omega
 have w3:IntKind.i64.wrap ((k:Int)*64+(q:Int)*8)=((k*64+q*8:Nat):Int):=by rw[wrap_i64]<;>omega
 have a1:Int.tdiv ((k*64+q*8:Nat):Int) 64=(((k*64+q*8) / 64:Nat):Int):=rfl
 refine⟨((k*64+q*8:Nat):Int),(if(k:Int) != (0:Int)then sR (jm st)else [])++(if cR (k:Int)then(d.length:Int)::d else []), ?_, ?_⟩
 ·unfold a7
  simp only[w1,w2,w3,List.nil_append,List.cons_append]
 ·unfold bh
  rw[a1,wrap_i64]<;>omega
theorem Qf {m:ap.T}{st:ak.T}{f:aL.T}(h:bC m=true)(hs:iw m st f=true):iu m st (aW f m.1.toNat st)=((3:Int),f,()):=by
 unfold iw at hs
 simp only[Bool.and_eq_true]at hs
 obtain⟨⟨hf,hfit⟩,heq⟩:=hs
 obtain⟨r,er,hr⟩:=jJ h
 have e:m.1.toNat=r:=by rw[er,Int.toNat_natCast]
 rw[e]
 obtain⟨b1,b2,b3⟩:=C8 hf
 have hfr:=SQ hf
 have hlen:(aW f r st).length=(a7 f).length+3:=by unfold aW;simp
 have hbp:aq (aW f r st)=a7 f:=by
  unfold aq
  rw[hlen,Nat.add_sub_cancel]
  unfold aW
  rw[List.take_left' rfl]
 have hdp:(aW f r st).drop ((aW f r st).length-3)= [((bc f.1 (a7 f) r st / 65536:Nat):Int),((bc f.1 (a7 f) r st / 256 % 256:Nat):Int),((bc f.1 (a7 f) r st % 256:Nat):Int)]:=by
  rw[hlen,Nat.add_sub_cancel]
  unfold aW
  rw[List.drop_left' rfl]
 obtain⟨b,t,hbt,hkb⟩:=RD hf
 have hopen:fc (aW f r st) r st=true:=by
  have hc:aW f r st=b::(t++ [((bc f.1 (a7 f) r st / 65536:Nat):Int),((bc f.1 (a7 f) r st / 256 % 256:Nat):Int),((bc f.1 (a7 f) r st % 256:Nat):Int)]):=by
   unfold aW
   rw[hbt]
   rfl
  have h4:4≤(aW f r st).length:=by rw[hlen,hbt,List.length_cons];omega
  generalize hL:aW f r st=L at *
  subst hc
  unfold fc
  simp only[hkb,hbp,hdp,hfr,decide_eq_true h4,heq,decide_true,Bool.and_self]
 unfold iu
 rw[e,hopen,hbp,hfr,hfit]
 rfl
end Go.Proofs.YtckljdhdadiphaaGreatDoor
namespace Go.Proofs.YtckljdhdadiphaaGreatDoor
open Go.RowKit
set_option linter.unusedVariables false
set_option linter.unusedSimpArgs false
theorem RE(l:List Int)(a n:Nat)(v w:Int)(hl:l.length≤1000000)(hn:a+n<l.length)(hall:∀i,i<n→l[a+i]? =some v)(hst:l[a+n]? =some w)(hw:(w==v)=false):∀(k m:Nat),m+k=n→ac jj (l,(a:Int),v,(m:Int),())=some (.inl ((n:Int),()))
 |0,m,h=>by
  have h:m=n:=by omega
  subst h
  have e:IntKind.i64.wrap ((a:Int)+(m:Int))=((a+m:Nat):Int):=by rw[wrap_i64]<;>omega
  have hi:au l ((a+m:Nat):Int)=some w:=by
   unfold au
   rw[if_pos (by omega),Int.toNat_natCast]
   exact hst
  rw[am]
  simp only[jj,e,bw hn,hi,ab,hw]
 |k+1,m,h=>by
  have hm:m<n:=by omega
  have e:IntKind.i64.wrap ((a:Int)+(m:Int))=((a+m:Nat):Int):=by rw[wrap_i64]<;>omega
  have hi:au l ((a+m:Nat):Int)=some v:=by
   unfold au
   rw[if_pos (by omega),Int.toNat_natCast]
   exact hall m hm
  have hvv:(v==v)=true:=by simp
  have e2:IntKind.i64.wrap ((m:Int)+1)=((m+1:Nat):Int):=by rw[wrap_i64]<;>omega
  rw[am]
  simp only[jj,e,bw (show a+m<l.length by omega),hi,ab,hvv,e2]
  exact RE l a n v w hl hn hall hst hw k (m+1) (by omega)
theorem S8(l:List Int)(a n:Nat)(v w:Int)(hl:l.length≤1000000)(hn:a+n<l.length)(hall:∀i,i<n→l[a+i]? =some v)(hst:l[a+n]? =some w)(hw:(w==v)=false):pV (l,(a:Int),v,())=some ((n:Int),()):=by
 have e:=RE l a n v w hl hn hall hst hw n 0 (by omega)
 have e:ac jj (l,(a:Int),v,(0:Int),())=_:=e
 unfold pV
 simp only[e]
theorem rm {A:Nat}{L:List Int}(i:Nat)(h:i<(ba 8 A L).length):(ba 8 A L)[i]? =some (if i<8 then 1 else iY L (i-8)):=by
 rw[List.getElem?_eq_getElem h,tv]
theorem SR {A:Nat}{L:List Int}(hb:∀v ∈ L,0≤v∧v≤255)(b:Nat)(h:b<L.length):ez (List.drop (19+10*b) (List.take (27+10*b) (ba 8 A L)))=L[b]:=by
 have hlen:=fB 8 A L
 have e:List.drop (19+10*b) (List.take (27+10*b) (ba 8 A L))=aV L[b] 8:=by
  refine List.ext_getElem? fun k=> ?_
  rw[List.getElem?_drop]
  by_cases hk:k<8
  ·rw[List.getElem?_take,if_pos (by omega),rm _ (by omega),if_neg (by omega),JD _ 8 k hk,show 19+10*b+k-8=11+10*b+k from by omega,(fZ L).bit b k h hk]
   unfold uW
   rw[List.getD_eq_getElem?_getD,List.getElem?_eq_getElem h]
   rfl
  ·rw[List.getElem?_take,if_neg (by omega),List.getElem?_eq_none (by rw[cQ];omega)]
 have hv:=hb _ (List.getElem_mem h)
 have h256:(2:Int)^8=256:=by decide
 rw[e,qb hv.1 (by decide) (by omega)]
theorem Pa(A:Nat)(L:List Int)(hb:∀v ∈ L,0≤v∧v≤255)(hl:(ba 8 A L).length≤8192):∀(k b:Nat),b+k=L.length→ac fU (ba 8 A L,(8:Int),(8:Int),L.take b,((17+10*b:Nat):Int),())=some (.inl (ba 8 A L,(8:Int),(8:Int),L,()))
 |0,b,h=>by
  have h:b=L.length:=by omega
  subst h
  have hlen:=fB 8 A L
  have e:IntKind.i64.wrap (((17+10*L.length:Nat):Int)+10)=((27+10*L.length:Nat):Int):=by rw[wrap_i64]<;>omega
  have hi:au (ba 8 A L) ((17+10*L.length:Nat):Int)=some 0:=by
   unfold au
   rw[if_pos (by omega),Int.toNat_natCast,rm _ (by omega),if_neg (by omega),show 17+10*L.length-8=9+10*L.length from by omega,(fZ L).low]
  have h01:((0:Int)==1)=false:=rfl
  rw[am,List.take_length]
  simp only[fU,e,hi,ab,h01]
  rcases Bool.eq_false_or_eq_true (decide (((27+10*L.length:Nat):Int)≤((ba 8 A L).length:Int)))with hq|hq<;>simp only[hq]
 |k+1,b,h=>by
  have hb':b<L.length:=by omega
  have hlen:=fB 8 A L
  have ih:=Pa A L hb hl k (b+1) (by omega)
  have e:IntKind.i64.wrap (((17+10*b:Nat):Int)+10)=((27+10*b:Nat):Int):=by rw[wrap_i64]<;>omega
  have e1:IntKind.i64.wrap (((17+10*b:Nat):Int)+1)=((18+10*b:Nat):Int):=by rw[wrap_i64]<;>omega
  have e2:IntKind.i64.wrap (((17+10*b:Nat):Int)+2)=((19+10*b:Nat):Int):=by rw[wrap_i64]<;>omega
  have hd:decide (((27+10*b:Nat):Int)≤((ba 8 A L).length:Int))=true:=decide_eq_true (by omega)
  have i1:au (ba 8 A L) ((17+10*b:Nat):Int)=some 1:=by
   unfold au
   rw[if_pos (by omega),Int.toNat_natCast,rm _ (by omega),if_neg (by omega),show 17+10*b-8=9+10*b from by omega,(fZ L).one b hb']
  have i2:au (ba 8 A L) ((18+10*b:Nat):Int)=some 0:=by
   unfold au
   rw[if_pos (by omega),Int.toNat_natCast,rm _ (by omega),if_neg (by omega),show 18+10*b-8=10+10*b from by omega,(fZ L).zero b hb']
  have hbd:aK (ba 8 A L).length (some (.dat (.int .i64) ((19+10*b:Nat):Int))) (some (.dat (.int .i64) ((27+10*b:Nat):Int)))=some (19+10*b,27+10*b):=q6 (by omega) (by omega)
  have hn:=rU (List.drop (19+10*b) (List.take (27+10*b) (ba 8 A L))) (by rw[List.length_drop,List.length_take];omega)
  rw[SR hb b hb']at hn
  have h11:((1:Int)==1)=true:=rfl
  have h00:((0:Int)==0)=true:=rfl
  have ht:L.take (b+1)=L.take b++ [L[b]]:=by rw[List.take_add_one,List.getElem?_eq_getElem hb'];rfl
  rw[ht,show 17+10*(b+1)=27+10*b from by omega]at ih
  rw[am]
  simp only[fU,e,hd,i1,i2,ab,h11,h00,e1,e2,hbd,hn]
  rw[aE (by rw[List.length_take];simp;omega)]
  exact ih
theorem K9(A:Nat)(L:List Int)(hb:∀v ∈ L,0≤v∧v≤255)(hl:(ba 8 A L).length≤8192):pi (ba 8 A L,())=some (L,(8:Int),(8:Int),true,()):=by
 have hlen:=fB 8 A L
 have hll:=lC L
 have r1:pV (ba 8 A L,(0:Int),(1:Int),())=some ((8:Int),()):=S8 (ba 8 A L) 0 8 1 0 (by omega) (by omega) (fun i hi=>by rw[rm _ (by omega),if_pos (by omega)]) (by rw[rm _ (by omega),if_neg (by omega)];exact congrArg some ((fZ L).pre 0 (by omega))) rfl
 have r2:pV (ba 8 A L,(8:Int),(0:Int),())=some ((8:Int),()):=S8 (ba 8 A L) 8 8 0 1 (by omega) (by omega) (fun i hi=>by rw[rm _ (by omega),if_neg (by omega),show 8+i-8=i from by omega,(fZ L).pre i hi]) (by rw[rm _ (by omega),if_neg (by omega)];exact congrArg some (fZ L).gap) rfl
 have hp:fv ((8:Int),())=some (true,()):=by
  unfold fv
  simp only[pj]
  rfl
 have e0:IntKind.i64.wrap (IntKind.i64.wrap ((8:Int)+8)+1)=17:=by decide
 have lp:=Pa A L hb hl L.length 0 (by omega)
 have lp:ac fU (ba 8 A L,(8:Int),(8:Int),[],(17:Int),())=_:=lp
 have hr:dy ([(1:Int)],(8:Int),())=some (List.replicate 8 (1:Int),()):=by
  have h1:EI [(1:Int)] (8:Int)=some (List.replicate 8 1):=by
   show(if(0:Int)≤(8:Int)∧(8:Int)≤1099511627776 then some (List.replicate (8:Int).toNat (1:Int))else none)=_
   rw[if_pos ⟨by omega,by omega⟩]
   rfl
  unfold dy
  simp only[h1,ab]
 have hc:=MZ L (by omega)
 have hX:(List.replicate 8 (1:Int)++bT L).length=19+10*L.length:=by rw[List.length_append,List.length_replicate,hll];omega
 have hgt:decide (((List.replicate 8 (1:Int)++bT L).length:Int)>((ba 8 A L).length:Int))=false:=decide_eq_false (by omega)
 have hpe:ba 8 A L=(List.replicate 8 (1:Int)++bT L)++List.replicate A 1:=rfl
 have b1:aK (ba 8 A L).length none (some (.dat (.int .i64) ((List.replicate 8 (1:Int)++bT L).length:Int)))=some (0,(List.replicate 8 (1:Int)++bT L).length):=kw (by omega)
 have b2:aK (ba 8 A L).length (some (.dat (.int .i64) ((List.replicate 8 (1:Int)++bT L).length:Int))) none=some ((List.replicate 8 (1:Int)++bT L).length,(ba 8 A L).length):=ql (by omega)
 have ht:List.drop 0 (List.take (List.replicate 8 (1:Int)++bT L).length (ba 8 A L))=List.replicate 8 (1:Int)++bT L:=by
  rw[List.drop_zero,hpe,List.take_left' rfl]
 have hd:List.drop (List.replicate 8 (1:Int)++bT L).length (List.take (ba 8 A L).length (ba 8 A L))=List.replicate A 1:=by
  rw[List.take_length,hpe,List.drop_left' rfl]
 have he:=HD (List.replicate 8 (1:Int)++bT L) (List.replicate 8 (1:Int)++bT L) (by omega)
 have hdec:decide (List.replicate 8 (1:Int)++bT L=List.replicate 8 (1:Int)++bT L)=true:=decide_eq_true rfl
 rw[hdec]at he
 have hz:=El (List.replicate A 1) 0 (by rw[List.length_replicate];omega)
 have hany:(List.replicate A (1:Int)).any (fun u=>u==0)=false:=by
  rw[List.any_eq_false]
  intro x hx
  rw[List.eq_of_mem_replicate hx]
  decide
 rw[hany]at hz
 unfold pi
 simp only[r1,r2,hp,Bool.not_true,e0,lp,hr,hc]
 rw[aE (by rw[List.length_replicate,hll];omega)]
 simp only[hgt,b1,b2,ab,ht,hd,he,hz,Bool.not_true]
theorem RF(c:List Int)(hl:c.length≤8192)(h01:∀b ∈ c,b=0∨b=1):jf (c,())=some (true,()):=by
 have hbit:=Cv c (Nat.le_trans hl (by decide))
 rw[yX h01 hl]at hbit
 exact hbit
theorem Qg(c L:List Int)(h:jf (c,())=some (true,()))(hread:pi (c,())=some (L,(8:Int),(8:Int),true,())):iG (c,())=some (L,(0:Int),()):=by
 unfold iG
 simp only[h,Bool.not_true,hread]
theorem N9(A:Nat)(L:List Int)(hb:∀v ∈ L,0≤v∧v≤255)(hl:(ba 8 A L).length≤8192)(h01:∀b ∈ ba 8 A L,b=0∨b=1):iG (ba 8 A L,())=some (L,(0:Int),()):=Qg _ _ (RF _ hl h01) (K9 A L hb hl)
end Go.Proofs.YtckljdhdadiphaaGreatDoor
