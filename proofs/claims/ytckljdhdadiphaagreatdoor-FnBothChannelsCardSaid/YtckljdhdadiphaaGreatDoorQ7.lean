import Derived.Test.YtckljdhdadiphaaGreatDoorQ3
namespace Go.Proofs.YtckljdhdadiphaaGreatDoor
open Go.RowKit
set_option linter.unusedVariables false
set_option linter.unusedSimpArgs false
theorem xC {α:Type}(q:α→Bool):∀(l:List α) (i:Nat) (g:Nat) (h:g<l.length),q l[g]=true→(∀k (hk:k<g),q (l[k]'(by omega))=false)→cj q i l=some (i+g)
 | [],_,_,h,_,_=>by simp at h
 |v::r,i,0,_,h1,_=>by
  have h1:q v=true:=h1
  simp[cj,h1]
 |v::r,i,g+1,h,h1,h2=>by
  have h0:q v=false:=h2 0 (by omega)
  have ih:=xC q r (i+1) g (by simpa using h) h1 (fun k hk=>h2 (k+1) (by omega))
  simp only[cj,h0,ih]
  simp;omega
theorem zk {α:Type}(q:α→Bool):∀(l:List α) (i:Nat),(∀v ∈ l,q v=false)→cj q i l=none
 | [],_,_=>rfl
 |v::r,i,h=>by simp[cj,h v (by simp),zk q r (i+1) (fun w hw=>h w (by simp[hw]))]
theorem Cf {l:List Int}{i:Nat}(h:i<l.length):hU l i=l[i]:=by
 unfold hU
 rw[if_neg (by omega),List.getD_eq_getElem?_getD,List.getElem?_eq_getElem h]
 rfl
theorem GQ {l:List Int}{i:Nat}(h:hU l i=0):i<l.length:=by
 unfold hU at h
 split at h
 ·cases h
 ·omega
theorem L7 {l:List Int}{j g:Nat}(hj:j≤g)(hg:hU l g=0)(hb:∀i,j≤i→i<g→hU l i=1):bo l 0 j=some g:=by
 have hlt:=GQ hg
 have h:=xC (fun x:Int=>x==0) (l.drop j) j (g-j) (by simp;omega) (by
  rw[Cf hlt]at hg
  simp only[List.getElem_drop,show j+(g-j)=g from by omega,hg];rfl) (fun k hk=>by
  have:=hb (j+k) (by omega) (by omega)
  rw[Cf (by omega)]at this
  simp only[List.getElem_drop,this];rfl)
 unfold bo
 rw[h]
 congr 1;omega
theorem S9 {l:List Int}{j:Nat}(hb:∀i,j≤i→hU l i=1):bo l 0 j=none:=by
 unfold bo
 refine zk _ _ _ fun v hv=> ?_
 obtain⟨k,hk,rfl⟩:=List.getElem_of_mem hv
 have hk':j+k<l.length:=by simp at hk;omega
 have:=hb (j+k) (by omega)
 rw[Cf hk']at this
 simp only[List.getElem_drop,this];rfl
theorem abk {l:List Int}{a h:Nat}(ha:a<h)(hl:h≤l.length)(hh:hU l h=1)(hb:∀i,a<i→i<h→hU l i=0):eL l a=h:=by
 unfold eL
 rcases Nat.lt_or_ge h l.length with hlt|hge
 ·have:=xC (fun x:Int=>x==1) (l.drop (a+1)) (a+1) (h-(a+1)) (by simp;omega) (by
   rw[Cf hlt]at hh
   simp only[List.getElem_drop,show a+1+(h-(a+1))=h from by omega,hh];rfl) (fun k hk=>by
   have:=hb (a+1+k) (by omega) (by omega)
   rw[Cf (by omega)]at this
   simp only[List.getElem_drop,this];rfl)
  unfold bo
  rw[this]
  simp only;omega
 ·have:bo l 1 (a+1)=none:=by
   unfold bo
   refine zk _ _ _ fun v hv=> ?_
   obtain⟨k,hk,rfl⟩:=List.getElem_of_mem hv
   have hk':a+1+k<l.length:=by simp at hk;omega
   have:=hb (a+1+k) (by omega) (by omega)
   rw[Cf hk']at this
   simp only[List.getElem_drop,this];rfl
  rw[this]
  simp only;omega
structure GR (n:Nat) (bv:Nat→Nat→Int) (cv:Nat→Int):Prop where
 pre:∀j,j<8→cv j=0
 gap:cv 8=1
 one:∀b,b<n→cv (9+10*b)=1
 zero:∀b,b<n→cv (10+10*b)=0
 bit:∀b k,b<n→k<8→cv (11+10*b+k)=bv b k
 low:cv (9+10*n)=0
 high:cv (10+10*n)=1
structure Shaped (y:List Int) (n:Nat) (cv:Nat→Int) (e:Nat→Nat):Prop where
 idle:∀i,i<e 0→hU y i=1
 cell:∀j,j<10+10*n→∀i,e j≤i→i<e (j+1)→hU y i=cv j
 rest:∀i,e (10+10*n)≤i→hU y i=1
 near:∀j m,m≤10→j+m≤10+10*n→e j+8*m≤e (j+m)+3∧e (j+m)≤e j+8*m+3
section
variable {y:List Int} {n:Nat} {bv:Nat→Nat→Int} {cv:Nat→Int} {e:Nat→Nat}
theorem Shaped.runs(h:Shaped y n cv e)(v:Int):∀(m j:Nat),j+m≤10+10*n→(∀k,j≤k→k<j+m→cv k=v)→∀i,e j≤i→i<e (j+m)→hU y i=v
 |0,j,_,_,i,h1,h2=>by simp at h2;omega
 |m+1,j,hj,hv,i,h1,h2=>by
  by_cases hi:i<e (j+m)
  ·exact h.runs v m j (by omega) (fun k hk hk2=>hv k hk (by omega)) i h1 hi
  ·have:=h.cell (j+m) (by omega) i (by omega) h2
   rw[this];exact hv (j+m) (by omega) (by omega)
theorem Shaped.edges(h:Shaped y n cv e)(hc:GR n bv cv):∀(k b fuel:Nat) (acc:List Int),b+(k+1)=n→k<fuel→
  gC y fuel (e (10+10*b)) acc=some (acc++(List.range (k+1)).map (fun q=>((e (10+10*(b+q)):Nat):Int)),e (10+10*(n-1))+72)
 |k,b,0,acc,hb,hf=>by omega
 |k,b,fuel+1,acc,hb,hf=>by
  have n9:=h.near (10+10*b) 9 (by omega) (by omega)
  have n10:=h.near (10+10*b) 10 (by omega) (by omega)
  have e9:10+10*b+9=9+10*(b+1):=by omega
  have e10:10+10*b+10=10+10*(b+1):=by omega
  rw[e9]at n9
  rw[e10]at n10
  have hs:=h.cell (9+10*(b+1)) (by omega) (e (10+10*b)+76) (by omega) (by
   rw[show 9+10*(b+1)+1=10+10*(b+1) from by omega];omega)
  cases k with
  |zero=>
   have hbn:b+1=n:=by omega
   rw[hbn,hc.low]at hs
   simp only[gC,if_pos hs]
   have:n-1=b:=by omega
   rw[this]
   rfl
  |succ k=>
   have hbn:b+1<n:=by omega
   rw[hc.one (b+1) hbn]at hs
   have hs':¬hU y (e (10+10*b)+76)=0:=by rw[hs];decide
   have hz:=h.near (10+10*(b+1)) 1 (by omega) (by omega)
   have hzero:=h.cell (10+10*(b+1)) (by omega) (e (10+10*(b+1))) (by omega) (by omega)
   rw[hc.zero (b+1) hbn]at hzero
   have hfirst:bo y 0 (e (10+10*b)+77)=some (e (10+10*(b+1))):=L7 (by omega) hzero (fun i hi hi2=>by
    have:=h.cell (9+10*(b+1)) (by omega) i (by omega) (by
     rw[show 9+10*(b+1)+1=10+10*(b+1) from by omega];omega)
    rw[this];exact hc.one (b+1) hbn)
   have hle:¬e (10+10*b)+84<e (10+10*(b+1)):=by omega
   simp only[gC,if_neg hs',hfirst,if_neg hle]
   rw[h.edges hc k (b+1) fuel _ (by omega) (by omega)]
   rw[List.range_succ_eq_map (n:=k+1),List.map_cons,List.map_map]
   simp only[List.append_assoc,List.singleton_append,Nat.add_zero]
   congr 5
   funext q
   simp only[Function.comp,Nat.succ_eq_add_one]
   rw[show b+(q+1)=b+1+q from by omega]
theorem Shaped.grow(h:Shaped y n cv e):∀b,b<n→b≤e (10+10*b)
 |0,_=>by omega
 |b+1,hb=>by
  have ih:=h.grow b (by omega)
  have n10:=h.near (10+10*b) 10 (by omega) (by omega)
  rw[show 10+10*b+10=10+10*(b+1) from by omega]at n10
  omega
theorem Shaped.tail(h:Shaped y n cv e){f:Nat}(hf:e (10+10*n)≤f+12):se y f=0:=by
 unfold se
 rw[S9 (fun i hi=>h.rest i (by omega))]
 rfl
theorem Shaped.run(h:Shaped y n cv e)(hc:GR n bv cv):gh y=0∧cZ y=(List.range n).map (fun b=>((e (10+10*b):Nat):Int)):=by
 have n8:=h.near 0 8 (by omega) (by omega)
 rw[Nat.zero_add]at n8
 have n1:=h.near 0 1 (by omega) (by omega)
 have n81:=h.near 8 1 (by omega) (by omega)
 have n91:=h.near 9 1 (by omega) (by omega)
 simp only[Nat.zero_add,Nat.reduceAdd]at n1 n81 n91
 have h0:hU y (e 0)=0:=by
  have:=h.cell 0 (by omega) (e 0) (by omega) (by simp only[Nat.zero_add];omega)
  rw[this];exact hc.pre 0 (by omega)
 have fa:bo y 0 0=some (e 0):=L7 (by omega) h0 (fun i _ hi=>h.idle i hi)
 have hrun:=h.runs 0 8 0 (by omega) (fun k _ hk=>hc.pre k (by omega))
 rw[Nat.zero_add]at hrun
 have h8:hU y (e 8)=1:=by
  have:=h.cell 8 (by omega) (e 8) (by omega) (show e 8<e 9 by omega)
  rw[this];exact hc.gap
 have hlen:e 8≤y.length:=by
  have:=GQ (hrun (e 8-1) (by omega) (by omega))
  omega
 have fh:eL y (e 0)=e 8:=abk (by omega) hlen h8 (fun i h1 h2=>hrun i (by omega) h2)
 have hd:Int.tdiv ((e 8:Int)-(e 0:Int)+4) 8=8:=by
  rw[Int.tdiv_eq_ediv_of_nonneg (by omega)]
  omega
 have hin:aY (8:Int) 3 15=true:=by decide
 cases n with
 |zero=>
  have h9:hU y (e 9)=0:=by
   have:=h.cell 9 (by omega) (e 9) (by omega) (show e 9<e 10 by omega)
   rw[this];exact hc.low
  have ff:bo y 0 (e 8+1)=some (e 9):=L7 (by omega) h9 (fun i h1 h2=>by
   have:=h.cell 8 (by omega) i (by omega) h2
   rw[this];exact hc.gap)
  have hw:xu (e 8) (e 9)=false:=by
   unfold xu
   simp only[Bool.or_eq_false_iff,decide_eq_false_iff_not]
   omega
  have hlt:(e 9:Int)-(e 8:Int)<12:=by omega
  have ht:=h.tail (f:=e 9) (show e 10≤e 9+12 by omega)
  have:rG y=((8:Int),[],(0:Int),()):=by
   unfold rG
   simp only[fa,fh,hd,hin,if_true,ff,hw,hlt,ht]
   rfl
  unfold gh cZ
  rw[this]
  exact⟨rfl,rfl⟩
 |succ n=>
  have n82:=h.near 8 2 (by omega) (by omega)
  simp only[Nat.reduceAdd]at n82
  have n101:e 10+8*1≤e 11+3∧e 11≤e 10+8*1+3:=h.near 10 1 (by omega) (by omega)
  have h10:hU y (e 10)=0:=by
   have:=h.cell 10 (by omega) (e 10) (by omega) (show e 10<e 11 by omega)
   rw[this];exact hc.zero 0 (by omega)
  have hr2:=h.runs 1 2 8 (by omega) (fun k h1 h2=>by
   have:k=8∨k=9:=by omega
   rcases this with rfl|rfl
   ·exact hc.gap
   ·exact hc.one 0 (by omega))
  have ff:bo y 0 (e 8+1)=some (e 10):=L7 (by omega) h10 (fun i h1 h2=>hr2 i (by omega) h2)
  have hw:xu (e 8) (e 10)=false:=by
   unfold xu
   simp only[Bool.or_eq_false_iff,decide_eq_false_iff_not]
   omega
  have hlt:¬(e 10:Int)-(e 8:Int)<12:=by omega
  have hg:=h.grow n (by omega)
  have n10:=h.near (10+10*n) 10 (by omega) (by omega)
  rw[show 10+10*n+10=10+10*(n+1) from by omega]at n10
  have nz:=h.near (10+10*n) 1 (by omega) (by omega)
  have hl2:e (10+10*n)<y.length:=GQ (by
   have:=h.cell (10+10*n) (by omega) (e (10+10*n)) (by omega) (show e (10+10*n)<e (10+10*n+1) by omega)
   rw[this];exact hc.zero n (by omega))
  have he:=h.edges hc n 0 (y.length+1) [] (by omega) (by omega)
  simp only[Nat.mul_zero,Nat.add_zero,List.nil_append,Nat.zero_add,Nat.add_sub_cancel]at he
  have ht:=h.tail (f:=e (10+10*n)+72) (by omega)
  have:rG y=((8:Int),(List.range (n+1)).map (fun b=>((e (10+10*b):Nat):Int)),(0:Int),()):=by
   unfold rG
   simp only[fa,fh,hd,hin,if_true,ff,hw,if_neg hlt,he,ht]
   rfl
  unfold gh cZ
  rw[this]
  exact⟨rfl,rfl⟩
theorem Shaped.val(h:Shaped y n cv e)(hc:GR n bv cv)(b:Nat)(hb:b<n)(k:Nat)(hk:k<8):hU y (e (10+10*b)+8*k+12)=bv b k:=by
 have n1:=h.near (10+10*b) (k+1) (by omega) (by omega)
 have n2:=h.near (10+10*b) (k+2) (by omega) (by omega)
 have:=h.cell (11+10*b+k) (by omega) (e (10+10*b)+8*k+12) (by
  rw[show 11+10*b+k=10+10*b+(k+1) from by omega];omega) (by
  rw[show 11+10*b+k+1=10+10*b+(k+2) from by omega];omega)
 rw[this]
 exact hc.bit b k hb hk
theorem Shaped.bytes(h:Shaped y n cv e)(hc:GR n bv cv):mJ y (cZ y)=(List.range n).map fun b=>2*(2*(2*(2*(2*(2*(2*bv b 0+bv b 1)+bv b 2)+bv b 3)+bv b 4)+bv b 5)+bv b 6)+bv b 7:=by
 rw[(h.run hc).2]
 unfold mJ
 rw[List.map_map]
 refine List.map_congr_left fun b hb=> ?_
 have hb:b<n:=List.mem_range.1 hb
 have hv:=fun k hk=>h.val hc b hb k hk
 simp only[Function.comp,Int.toNat_natCast,jA,hv 0 (by omega),hv 1 (by omega),hv 2 (by omega),hv 3 (by omega),hv 4 (by omega),hv 5 (by omega),hv 6 (by omega),hv 7 (by omega)]
 omega
end
structure ie (l:List Int) (M:Nat) (cv:Nat→Int) (p:Nat→Nat) (fl:Int→Int):Prop where
 c01:∀j,cv j=0∨cv j=1
 last:cv M=1
 f0:∀i,0≤fl i
 f6:∀i,fl i+fl (i+1)+fl (i+2)+fl (i+3)+fl (i+4)+fl (i+5)≤1
 idle:∀i:Int,i<p 0→dy l i=1-fl i
 one:∀j,j≤M→cv j=1→∀i:Int,(p j:Int)≤i→i<l.length→(j<M→i<p (j+1))→dy l i=1-fl i
 zero:∀j,j≤M→cv j=0→∀i:Int,(p j:Int)≤i→i<l.length→(j<M→i<p (j+1))→dy l i=fl i
 wide:∀j,j<M→p j+7≤p (j+1)
 long:p M+3≤l.length
 near:∀j m,m≤10→j+m≤M→p j+8*m≤p (j+m)+1∧p (j+m)≤p j+8*m+1
section
variable {l:List Int} {M:Nat} {cv:Nat→Int} {p:Nat→Nat} {fl:Int→Int}
theorem Ys(i:Nat):vb l i=0∨vb l i=1:=by
 unfold vb
 split
 ·exact .inr rfl
 ·exact .inl rfl
theorem GS(i:Nat):(vb l i=1∧3≤dy l ((i:Int)-4)+dy l ((i:Int)-3)+dy l ((i:Int)-2)+dy l ((i:Int)-1)+dy l i)∨(vb l i=0∧dy l ((i:Int)-4)+dy l ((i:Int)-3)+dy l ((i:Int)-2)+dy l ((i:Int)-1)+dy l i<3):=by
 unfold vb jV
 split
 ·rename_i h;exact .inl ⟨rfl,h⟩
 ·rename_i h;exact .inr ⟨rfl,by omega⟩
theorem ie.six(h:ie l M cv p fl)(i:Int):0≤fl (i-4)∧0≤fl (i-3)∧0≤fl (i-2)∧0≤fl (i-1)∧0≤fl i∧0≤fl (i+1)∧fl (i-4)+fl (i-3)+fl (i-2)+fl (i-1)+fl i+fl (i+1)≤1:=by
 have:=h.f6 (i-4)
 rw[show i-4+1=i-3 from by omega,show i-4+2=i-2 from by omega,show i-4+3=i-1 from by omega,show i-4+4=i from by omega,show i-4+5=i+1 from by omega]at this
 exact⟨h.f0 _,h.f0 _,h.f0 _,h.f0 _,h.f0 _,h.f0 _,this⟩
theorem ie.of(h:ie l M cv p fl){j:Nat}(hj:j≤M){i:Int}(h1:(p j:Int)≤i)(h2:i<l.length)(h3:j<M→i<p (j+1)):(cv j=1∧dy l i=1-fl i)∨(cv j=0∧dy l i=fl i):=by
 rcases h.c01 j with h0|h0
 ·exact .inr ⟨h0,h.zero j hj h0 i h1 h2 h3⟩
 ·exact .inl ⟨h0,h.one j hj h0 i h1 h2 h3⟩
def jX(cv:Nat→Int):Nat→Int
 |0=>1
 |j+1=>cv j
theorem ie.ahead(h:ie l M cv p fl):∀ {j:Nat},j≤M→∀ {i:Int},i<p j→(p j:Int)≤i+7→i<l.length→(jX cv j=1∧dy l i=1-fl i)∨(jX cv j=0∧dy l i=fl i)
 |0,_,i,h1,_,_=>.inl ⟨rfl,h.idle i h1⟩
 |j+1,hj,i,h1,h2,h3=>by
  have hw:=h.wide j (by omega)
  exact h.of (j:=j) (by omega) (by omega) h3 (fun _=>h1)
theorem ie.mid(h:ie l M cv p fl){j:Nat}(hj:j≤M){i:Nat}(h1:p j+3≤i)(h2:i<l.length)(h3:j<M→i≤p (j+1)):vb l i=cv j:=by
 have h6:=h.six i
 have hb:=GS (l:=l) i
 have a1:=h.of hj (i:=(i:Int)-1) (by omega) (by omega) (fun hm=>by have:=h3 hm;omega)
 have a2:=h.of hj (i:=(i:Int)-2) (by omega) (by omega) (fun hm=>by have:=h3 hm;omega)
 have a3:=h.of hj (i:=(i:Int)-3) (by omega) (by omega) (fun hm=>by have:=h3 hm;omega)
 by_cases hi:j<M∧i=p (j+1)
 ·have hw:=h.wide j hi.1
  have a4:=h.of hj (i:=(i:Int)-4) (by omega) (by omega) (fun hm=>by have:=h3 hm;omega)
  have a0:=h.of (j:=j+1) (by omega) (i:=(i:Int)) (by omega) (by omega) (fun hm=>by have:=h.wide (j+1) hm;omega)
  omega
 ·have a0:=h.of hj (i:=(i:Int)) (by omega) (by omega) (fun hm=>by have:=h3 hm;omega)
  by_cases h4:p j+4≤i
  ·have a4:=h.of hj (i:=(i:Int)-4) (by omega) (by omega) (fun hm=>by have:=h3 hm;omega)
   omega
  ·have a4:=h.ahead hj (i:=(i:Int)-4) (by omega) (by omega) (by omega)
   omega
theorem ie.edge(h:ie l M cv p fl){j:Nat}(hj:j≤M):(jX cv j=cv j→vb l (p j+1)=cv j)∧(vb l (p j+1)=cv j→vb l (p j+2)=cv j):=by
 have hp:p j+3≤l.length:=by
  rcases Nat.lt_or_ge j M with hm|hm
  ·have:=h.long
   have:∀m,j+m≤M→p j≤p (j+m):=by
    intro m
    induction m with
    |zero=>intro _;exact Nat.le_refl _
    |succ m ih=>
     intro hm
     have:=h.wide (j+m) (by omega)
     have:=ih (by omega)
     rw[←Nat.add_assoc]
     omega
   have:=this (M-j) (by omega)
   rw[show j+(M-j)=M from by omega]at this
   omega
  ·have:j=M:=by omega
   subst this
   exact h.long
 have hw:j<M→p j+7≤p (j+1):=fun hm=>h.wide j hm
 have b3:=h.ahead hj (i:=(p j:Int)-3) (by omega) (by omega) (by omega)
 have b2:=h.ahead hj (i:=(p j:Int)-2) (by omega) (by omega) (by omega)
 have b1:=h.ahead hj (i:=(p j:Int)-1) (by omega) (by omega) (by omega)
 have c0:=h.of hj (i:=(p j:Int)) (by omega) (by omega) (fun hm=>by have:=hw hm;omega)
 have c1:=h.of hj (i:=(p j:Int)+1) (by omega) (by omega) (fun hm=>by have:=hw hm;omega)
 have c2:=h.of hj (i:=(p j:Int)+2) (by omega) (by omega) (fun hm=>by have:=hw hm;omega)
 have e1:=GS (l:=l) (p j+1)
 have e2:=GS (l:=l) (p j+2)
 rw[show((p j+1:Nat):Int)-4=(p j:Int)-3 from by omega,show((p j+1:Nat):Int)-3=(p j:Int)-2 from by omega,show((p j+1:Nat):Int)-2=(p j:Int)-1 from by omega,show((p j+1:Nat):Int)-1=(p j:Int) from by omega,show((p j+1:Nat):Int)=(p j:Int)+1 from by omega]at e1
 rw[show((p j+2:Nat):Int)-4=(p j:Int)-2 from by omega,show((p j+2:Nat):Int)-3=(p j:Int)-1 from by omega,show((p j+2:Nat):Int)-2=(p j:Int) from by omega,show((p j+2:Nat):Int)-1=(p j:Int)+1 from by omega,show((p j+2:Nat):Int)=(p j:Int)+2 from by omega]at e2
 have h6:=h.six ((p j:Int)+1)
 rw[show(p j:Int)+1-4=(p j:Int)-3 from by omega,show(p j:Int)+1-3=(p j:Int)-2 from by omega,show(p j:Int)+1-2=(p j:Int)-1 from by omega,show(p j:Int)+1-1=(p j:Int) from by omega,show(p j:Int)+1+1=(p j:Int)+2 from by omega]at h6
 constructor
 ·intro hq;omega
 ·intro hq;omega
def qK(l:List Int)(cv:Nat→Int)(p:Nat→Nat)(j:Nat):Nat:=if vb l (p j+1)=cv j then p j+1 else if vb l (p j+2)=cv j then p j+2 else p j+3
theorem nj(j:Nat):p j+1≤qK l cv p j∧qK l cv p j≤p j+3:=by
 unfold qK
 split
 ·omega
 ·split<;>omega
theorem ie.vote(h:ie l M cv p fl){j:Nat}(hj:j≤M){i:Nat}(h1:qK l cv p j≤i)(h2:i<l.length)(h3:j<M→i<qK l cv p (j+1)):vb l i=cv j:=by
 obtain⟨r1,r2⟩:=h.edge hj
 have ra:=nj (l:=l) (cv:=cv) (p:=p) j
 by_cases hA:i<p j+3
 ·have hi:i=p j+1∨i=p j+2:=by omega
  unfold qK at h1
  rcases hi with rfl|rfl
  ·split at h1
   ·assumption
   ·split at h1<;>omega
  ·split at h1
   ·rename_i hq;exact r2 hq
   ·split at h1
    ·assumption
    ·omega
 ·by_cases hB:j<M→i≤p (j+1)
  ·exact h.mid hj (by omega) h2 hB
  ·have hm:j<M:=by
    rcases Nat.lt_or_ge j M with hm|hm
    ·exact hm
    ·exact absurd (fun h=>absurd h (by omega)) hB
   have hB:p (j+1)<i:=by
    rcases Nat.lt_or_ge (p (j+1)) i with hq|hq
    ·exact hq
    ·exact absurd (fun _=>hq) hB
   obtain⟨s1,_⟩:=h.edge (j:=j+1) (by omega)
   have rb:=nj (l:=l) (cv:=cv) (p:=p) (j+1)
   have h3:=h3 hm
   have hc:=h.c01 j
   have hc1:=h.c01 (j+1)
   have hv:=Ys (l:=l) i
   have hi:i=p (j+1)+1∨i=p (j+1)+2:=by omega
   unfold qK at h3
   have hs:jX cv (j+1)=cv j:=rfl
   rw[hs]at s1
   rcases hi with rfl|rfl
   ·split at h3
    ·omega
    ·omega
   ·split at h3
    ·omega
    ·split at h3
     ·omega
     ·omega
theorem ie.shaped {n:Nat}(h:ie l (10+10*n) cv p fl):Shaped (iX l) n cv (qK l cv p):=by
 have at_v:∀i,i<l.length→hU (iX l) i=vb l i:=fun i hi=>by
  have hi':i<(iX l).length:=by rw[oZ];exact hi
  rw[Cf hi']
  have:=BU (fun i (_:Int)=>vb l i) l 0 i hi
  have e:(iX l)[i]? =some (vb l (0+i)):=this
  rw[List.getElem?_eq_getElem hi',Nat.zero_add]at e
  exact Option.some.inj e
 have at_far:∀i,l.length≤i→hU (iX l) i=1:=fun i hi=>by
  unfold hU
  rw[oZ,if_pos hi]
 have mono:∀m j,j+m≤10+10*n→p j+m≤p (j+m):=by
  intro m
  induction m with
  |zero=>intro j _;exact Nat.le_refl _
  |succ m ih=>
   intro j hm
   have:=h.wide (j+m) (by omega)
   have:=ih j (by omega)
   have e:j+(m+1)=j+m+1:=rfl
   rw[e]
   omega
 have hlong:=h.long
 refine⟨fun i hi=> ?_,fun j hj i h1 h2=> ?_,fun i hi=> ?_,fun j m hm hj=> ?_⟩
 ·have r:=nj (l:=l) (cv:=cv) (p:=p) 0
  have hm0:=mono (10+10*n) 0 (by omega)
  rw[Nat.zero_add]at hm0
  have hil:i<l.length:=by omega
  rw[at_v i hil]
  have hv:=Ys (l:=l) i
  by_cases hp:i≤p 0
  ·have h6:=h.six i
   have hb:=GS (l:=l) i
   have a1:=h.idle ((i:Int)-1) (by omega)
   have a2:=h.idle ((i:Int)-2) (by omega)
   have a3:=h.idle ((i:Int)-3) (by omega)
   have a4:=h.idle ((i:Int)-4) (by omega)
   have a0:dy l i=1-fl i∨dy l i=fl i:=by
    by_cases hq:i<p 0
    ·exact .inl (h.idle i (by omega))
    ·have hw:=h.wide 0 (by omega)
     have hz:0+1=1:=rfl
     rw[hz]at hw
     rcases h.of (j:=0) (by omega) (i:=(i:Int)) (by omega) (by omega) (fun _=>by rw[hz];omega)with q|q
     ·exact .inl q.2
     ·exact .inr q.2
   omega
  ·obtain⟨s1,_⟩:=h.edge (j:=0) (by omega)
   have hc:=h.c01 0
   have hs:jX cv 0=1:=rfl
   rw[hs]at s1
   have hii:i=p 0+1∨i=p 0+2:=by omega
   unfold qK at hi
   rcases hii with rfl|rfl
   ·split at hi
    ·omega
    ·omega
   ·split at hi
    ·omega
    ·split at hi
     ·omega
     ·omega
 ·have r:=nj (l:=l) (cv:=cv) (p:=p) (j+1)
  have hm:=mono (10+10*n-(j+1)) (j+1) (by omega)
  rw[show j+1+(10+10*n-(j+1))=10+10*n from by omega]at hm
  have hil:i<l.length:=by omega
  rw[at_v i hil]
  exact h.vote (by omega) h1 hil (fun _=>h2)
 ·rcases Nat.lt_or_ge i l.length with hil|hil
  ·rw[at_v i hil,h.vote (Nat.le_refl _) hi hil (fun hq=>absurd hq (Nat.lt_irrefl _))]
   exact h.last
  ·exact at_far i hil
 ·have r1:=nj (l:=l) (cv:=cv) (p:=p) j
  have r2:=nj (l:=l) (cv:=cv) (p:=p) (j+m)
  have hn:=h.near j m hm hj
  omega
theorem ie.decoded {n:Nat}{bv:Nat→Nat→Int}(h:ie l (10+10*n) cv p fl)(hc:GR n bv cv):aW l=((List.range n).map (fun b=>2*(2*(2*(2*(2*(2*(2*bv b 0+bv b 1)+bv b 2)+bv b 3)+bv b 4)+bv b 5)+bv b 6)+bv b 7),(0:Int),()):=by
 have hs:=h.shaped
 unfold Proofs.YtckljdhdadiphaaGreatDoor.aW
 rw[if_pos (hs.run hc).1,hs.bytes hc]
end
end Go.Proofs.YtckljdhdadiphaaGreatDoor
namespace Go.Proofs.YtckljdhdadiphaaGreatDoor
open Go.RowKit
set_option linter.unusedVariables false
set_option linter.unusedSimpArgs false
theorem JS {α:Type}{w:Nat}{g:α→List Int}(hg:∀b,(g b).length=w):∀(l:List α) (b k:Nat) (hb:b<l.length),k<w→(l.flatMap g)[w*b+k]? =(g l[b])[k]?
 |x::r,0,k,_,hk=>by
  rw[List.flatMap_cons,Nat.mul_zero,Nat.zero_add,List.getElem?_append_left (by rw[hg];exact hk)]
  rfl
 |x::r,b+1,k,hb,hk=>by
  have e:w*(b+1)+k=(w*b+k)+w:=by rw[Nat.mul_succ];omega
  rw[List.flatMap_cons,e,List.getElem?_append_right (by rw[hg];omega),hg,Nat.add_sub_cancel,JS hg r b k (by simpa using hb) hk]
  rfl
theorem JT {α:Type}{w:Nat}{g:α→List Int}(hg:∀b,(g b).length=w):∀l:List α,(l.flatMap g).length=w*l.length
 | []=>by simp
 |x::r=>by rw[List.flatMap_cons,List.length_append,hg,JT hg r,List.length_cons,Nat.mul_succ];omega
theorem T0(v:Int):∀(w k:Nat),k<w→(bE v w)[k]? =some (bt v (w-1-k))
 |w+1,0,_=>rfl
 |w+1,k+1,h=>by
  have:=T0 v w k (by omega)
  rw[bE,List.getElem?_cons_succ,this,show w+1-1-(k+1)=w-1-k from by omega]
def kv(l:List Int)(j:Nat):Int:=(im l).getD j 1
def zl(l:List Int)(b k:Nat):Int:=bt (l.getD b 0) (7-k)
theorem Gm(b:Int):([1,0]++bE b 8).length=10:=by simp only[List.length_append,dZ,List.length_cons,List.length_nil]
theorem rR {l:List Int}{j:Nat}{v:Int}(h:(im l)[j]? =some v):kv l j=v:=by
 unfold kv
 rw[List.getD_eq_getElem?_getD,h]
 rfl
theorem Cg(l:List Int)(b k:Nat)(hb:b<l.length)(hk:k<10):(im l)[9+10*b+k]? =([1,0]++bE l[b] 8)[k]? :=by
 have h9:(List.replicate 8 (0:Int)++ [1]).length=9:=rfl
 have hf:=JT (w:=10) Gm l
 unfold im
 rw[List.getElem?_append_left (by rw[List.length_append,h9,hf];omega),List.getElem?_append_right (by rw[h9];omega),h9,show 9+10*b+k-9=10*b+k from by omega]
 exact JS (w:=10) Gm l b k hb hk
theorem RY(l:List Int)(k:Nat):(im l)[9+10*l.length+k]? =([0,1]:List Int)[k]? :=by
 have h9:(List.replicate 8 (0:Int)++ [1]).length=9:=rfl
 have hf:=JT (w:=10) Gm l
 unfold im
 rw[List.getElem?_append_right (by rw[List.length_append,h9,hf];omega),List.length_append,h9,hf]
 congr 1
 omega
theorem Ci(l:List Int):GR l.length (zl l) (kv l) where
 pre:=fun j hj=>rR (by
  have h9:(List.replicate 8 (0:Int)++ [1]).length=9:=rfl
  unfold im
  rw[List.getElem?_append_left (by rw[List.length_append,h9];omega),List.getElem?_append_left (by rw[h9];omega),List.getElem?_append_left (by simpa using hj),List.getElem?_replicate,if_pos hj])
 gap:=rR (by
  have h9:(List.replicate 8 (0:Int)++ [1]).length=9:=rfl
  unfold im
  rw[List.getElem?_append_left (by rw[List.length_append,h9];omega),List.getElem?_append_left (by rw[h9];omega)]
  rfl)
 one:=fun b hb=>rR (by
  have:=Cg l b 0 hb (by omega)
  rw[Nat.add_zero]at this
  rw[this]
  rfl)
 zero:=fun b hb=>rR (by
  have:=Cg l b 1 hb (by omega)
  rw[show 9+10*b+1=10+10*b from by omega]at this
  rw[this]
  rfl)
 bit:=fun b k hb hk=>rR (by
  have:=Cg l b (2+k) hb (by omega)
  rw[show 9+10*b+(2+k)=11+10*b+k from by omega]at this
  rw[this,List.getElem?_append_right (by simp),show 2+k-([1,0]:List Int).length=k from by simp,T0 l[b] 8 k hk]
  unfold zl
  rw[List.getD_eq_getElem?_getD,List.getElem?_eq_getElem hb]
  rfl)
 low:=rR (by rw[show 9+10*l.length=9+10*l.length+0 from rfl,RY];rfl)
 high:=rR (by rw[show 10+10*l.length=9+10*l.length+1 from by omega,RY];rfl)
theorem WJ {v:Int}(h0:0≤v)(h1:v≤255):2*(2*(2*(2*(2*(2*(2*bt v 7+bt v 6)+bt v 5)+bt v 4)+bt v 3)+bt v 2)+bt v 1)+bt v 0=v:=by
 obtain⟨n,rfl⟩:∃n:Nat,v=n:=⟨v.toNat,by omega⟩
 have b:∀k,bt (n:Int) k=((n / 2^k % 2:Nat):Int):=fun k=>Rr n k (by omega)
 simp only[b]
 simp only[Nat.reducePow]
 omega
theorem U8 {l:List Int}(h:∀v ∈ l,0≤v∧v≤255):(List.range l.length).map (fun b=>2*(2*(2*(2*(2*(2*(2*zl l b 0+zl l b 1)+zl l b 2)+zl l b 3)+zl l b 4)+zl l b 5)+zl l b 6)+zl l b 7)=l:=by
 refine List.ext_getElem (by simp) fun i h1 h2=> ?_
 have hv:=h _ (List.getElem_mem h2)
 rw[List.getElem_map,List.getElem_range]
 have e:l.getD i 0=l[i]:=by rw[List.getD_eq_getElem?_getD,List.getElem?_eq_getElem h2];rfl
 show 2*(2*(2*(2*(2*(2*(2*bt (l.getD i 0) 7+bt (l.getD i 0) 6)+bt (l.getD i 0) 5)+bt (l.getD i 0) 4)+bt (l.getD i 0) 3)+bt (l.getD i 0) 2)+bt (l.getD i 0) 1)+bt (l.getD i 0) 0=l[i]
 rw[e]
 exact WJ hv.1 hv.2
theorem U9(c:List Int)(i:Nat)(h:i<8*c.length):(ko c)[i]? =some (c[i / 8]'(by omega)):=by
 have hi:i / 8<c.length:=by omega
 have e:=JS (w:=8) (g:=fun c:Int=>List.replicate 8 c) (fun b=>by simp) c (i / 8) (i % 8) hi (by omega)
 rw[show 8*(i / 8)+i % 8=i from by omega]at e
 unfold ko
 rw[e,List.getElem?_replicate,if_pos (by omega)]
def qL(B A:Nat)(l:List Int):List Int:=(List.replicate B (1:Int)++im l)++List.replicate A 1
theorem L8(B A:Nat)(l:List Int):(qL B A l).length=B+(11+10*l.length)+A:=by
 unfold qL
 simp only[List.length_append,List.length_replicate,xz]
theorem Va(B A:Nat)(l:List Int)(i:Nat)(h:i<(qL B A l).length):(qL B A l)[i]=if i<B then 1 else kv l (i-B):=by
 have hl:=L8 B A l
 have hll:=xz l
 have e:(qL B A l)[i]? =some (if i<B then 1 else kv l (i-B)):=by
  unfold qL
  by_cases h1:i<B
  ·rw[if_pos h1,List.getElem?_append_left (by simp;omega),List.getElem?_append_left (by simpa using h1),List.getElem?_replicate,if_pos h1]
  ·rw[if_neg h1]
   by_cases h2:i-B<(im l).length
   ·rw[List.getElem?_append_left (by simp;omega),List.getElem?_append_right (by simp;omega),List.length_replicate]
    unfold kv
    rw[List.getD_eq_getElem?_getD,List.getElem?_eq_getElem h2]
    rfl
   ·rw[List.getElem?_append_right (by simp;omega),List.getElem?_replicate,if_pos (by simp;omega)]
    unfold kv
    rw[List.getD_eq_getElem?_getD,List.getElem?_eq_none (by omega)]
    rfl
 rw[List.getElem?_eq_getElem h]at e
 exact Option.some.inj e
theorem X0 {l:List Int}(h:∀v ∈ l,0≤v∧v≤255)(j:Nat):kv l j=0∨kv l j=1:=by
 unfold kv
 rw[List.getD_eq_getElem?_getD]
 by_cases hj:j<(im l).length
 ·rw[List.getElem?_eq_getElem hj]
  exact TR h _ (List.getElem_mem hj)
 ·rw[List.getElem?_eq_none (by omega)]
  exact .inr rfl
theorem L9(l:List Int)(j:Nat)(h:10+10*l.length≤j):kv l j=1:=by
 by_cases hj:j=10+10*l.length
 ·rw[hj]
  exact(Ci l).high
 ·unfold kv
  rw[List.getD_eq_getElem?_getD,List.getElem?_eq_none (by rw[xz];omega)]
  rfl
structure NX (B A:Nat) (l y:List Int) (fl:Int→Int):Prop where
 len:y.length=8*(B+(11+10*l.length)+A)
 f0:∀i,0≤fl i
 neg:∀i,i<0→fl i=0
 f6:∀i,fl i+fl (i+1)+fl (i+2)+fl (i+3)+fl (i+4)+fl (i+5)≤1
 at_:∀(i:Nat) (h:i<y.length),((ko (qL B A l))[i]? =some 1∧y[i]=1-fl i)∨((ko (qL B A l))[i]? =some 0∧y[i]=fl i)
theorem NX.cell {B A:Nat}{l y:List Int}{fl:Int→Int}(h:NX B A l y fl)(i:Nat)(hi:i<y.length):((if i / 8<B then 1 else kv l (i / 8-B))=1∧dy y (i:Int)=1-fl i)∨((if i / 8<B then 1 else kv l (i / 8-B))=0∧dy y (i:Int)=fl i):=by
 have hw:dy y (i:Int)=y[i]:=by
  unfold dy
  rw[if_neg (by omega),Int.toNat_natCast,List.getD_eq_getElem?_getD,List.getElem?_eq_getElem hi]
  rfl
 have hl:=h.len
 have hp:=L8 B A l
 have hs:=U9 (qL B A l) i (by omega)
 rw[Va]at hs
 have ha:=h.at_ i hi
 rw[hs]at ha
 rw[hw]
 rcases ha with⟨a,b⟩|⟨a,b⟩
 ·exact .inl ⟨Option.some.inj a,b⟩
 ·exact .inr ⟨Option.some.inj a,b⟩
theorem NX.signal {B A:Nat}{l y:List Int}{fl:Int→Int}(h:NX B A l y fl)(hb:∀v ∈ l,0≤v∧v≤255):ie y (10+10*l.length) (kv l) (fun j=>8*(B+j)) fl where
 c01:=X0 hb
 last:=(Ci l).high
 f0:=h.f0
 f6:=h.f6
 idle:=fun i hi=>by
  by_cases h0:i<0
  ·unfold dy
   rw[if_pos h0,h.neg i h0]
   rfl
  ·obtain⟨n,rfl⟩:∃n:Nat,i=n:=⟨i.toNat,by omega⟩
   have hl:=h.len
   have hi:(n:Int)<((8*(B+0):Nat):Int):=hi
   have hc:=h.cell n (by omega)
   rw[if_pos (by omega)]at hc
   rcases hc with⟨a,b⟩|⟨a,b⟩
   ·exact b
   ·exact absurd a (by decide)
 one:=fun j hj hc i h1 h2 h3=>by
  have h1:((8*(B+j):Nat):Int)≤i:=h1
  have h3:j<10+10*l.length→i<((8*(B+(j+1)):Nat):Int):=h3
  obtain⟨n,rfl⟩:∃n:Nat,i=n:=⟨i.toNat,by omega⟩
  have hq:=h.cell n (by omega)
  rw[if_neg (by omega)]at hq
  have e:kv l (n / 8-B)=1:=by
   rcases Nat.lt_or_ge j (10+10*l.length)with hjm|hjm
   ·have:=h3 hjm
    rw[show n / 8-B=j from by omega]
    exact hc
   ·exact L9 l _ (by omega)
  rcases hq with⟨a,b⟩|⟨a,b⟩
  ·exact b
  ·rw[e]at a
   exact absurd a (by decide)
 zero:=fun j hj hc i h1 h2 h3=>by
  have h1:((8*(B+j):Nat):Int)≤i:=h1
  have h3:j<10+10*l.length→i<((8*(B+(j+1)):Nat):Int):=h3
  obtain⟨n,rfl⟩:∃n:Nat,i=n:=⟨i.toNat,by omega⟩
  have hq:=h.cell n (by omega)
  rw[if_neg (by omega)]at hq
  have hjm:j<10+10*l.length:=by
   rcases Nat.lt_or_ge j (10+10*l.length)with hjm|hjm
   ·exact hjm
   ·rw[L9 l j hjm]at hc
    exact absurd hc (by decide)
  have:=h3 hjm
  rw[show n / 8-B=j from by omega,hc]at hq
  rcases hq with⟨a,b⟩|⟨a,b⟩
  ·exact absurd a (by decide)
  ·exact b
 wide:=fun j _=>by
  show 8*(B+j)+7≤8*(B+(j+1))
  omega
 long:=by
  have:=h.len
  show 8*(B+(10+10*l.length))+3≤y.length
  omega
 near:=fun j m _ _=>by
  show 8*(B+j)+8*m≤8*(B+(j+m))+1∧8*(B+(j+m))≤8*(B+j)+8*m+1
  omega
theorem NX.decoded {B A:Nat}{l y:List Int}{fl:Int→Int}(h:NX B A l y fl)(hb:∀v ∈ l,0≤v∧v≤255):aW y=(l,(0:Int),()):=by
 have:=(h.signal hb).decoded (Ci l)
 rw[U8 hb]at this
 exact this
end Go.Proofs.YtckljdhdadiphaaGreatDoor
namespace Go.Proofs.YtckljdhdadiphaaGreatDoor
open Go.RowKit
set_option linter.unusedVariables false
set_option linter.unusedSimpArgs false
end Go.Proofs.YtckljdhdadiphaaGreatDoor
