import Derived.Test.YtkgcbbkodalfmaaGreatDoorQ4
namespace Go.Proofs.YtkgcbbkodalfmaaGreatDoor
open Go.RowKit
set_option linter.unusedVariables false
set_option linter.unusedSimpArgs false
theorem acM {α:Type}(q:α→Bool):∀(l:List α) (i:Nat) (g:Nat) (h:g<l.length),q l[g]=true→(∀k (hk:k<g),q (l[k]'(by omega))=false)→bv q i l=some (i+g)
 | [],_,_,h,_,_=>by simp at h
 |v::r,i,0,_,h1,_=>by
  have h1:q v=true:=h1
  simp[bv,h1]
 |v::r,i,g+1,h,h1,h2=>by
  have h0:q v=false:=h2 0 (by omega)
  have ih:=acM q r (i+1) g (by simpa using h) h1 (fun k hk=>h2 (k+1) (by omega))
  simp only[bv,h0,ih]
  simp;omega
theorem acR {α:Type}(q:α→Bool):∀(l:List α) (i:Nat),(∀v ∈ l,q v=false)→bv q i l=none
 | [],_,_=>rfl
 |v::r,i,h=>by simp[bv,h v (by simp),acR q r (i+1) (fun w hw=>h w (by simp[hw]))]
theorem ac6 {l:List Int}{i:Nat}(h:i<l.length):zm l i=l[i]:=by
 unfold zm
 rw[if_neg (by omega),List.getD_eq_getElem?_getD,List.getElem?_eq_getElem h]
 rfl
theorem ad2 {l:List Int}{i:Nat}(h:zm l i=0):i<l.length:=by
 unfold zm at h
 split at h
 ·cases h
 ·omega
theorem acN {l:List Int}{j g:Nat}(hj:j≤g)(hg:zm l g=0)(hb:∀i,j≤i→i<g→zm l i=1):b9 l 0 j=some g:=by
 have hlt:=ad2 hg
 have h:=acM (fun x:Int=>x==0) (l.drop j) j (g-j) (by simp;omega) (by
  rw[ac6 hlt]at hg
  simp only[List.getElem_drop,show j+(g-j)=g from by omega,hg];rfl) (fun k hk=>by
  have:=hb (j+k) (by omega) (by omega)
  rw[ac6 (by omega)]at this
  simp only[List.getElem_drop,this];rfl)
 unfold b9
 rw[h]
 congr 1;omega
theorem abX {l:List Int}{j:Nat}(hb:∀i,j≤i→zm l i=1):b9 l 0 j=none:=by
 unfold b9
 refine acR _ _ _ fun v hv=> ?_
 obtain⟨k,hk,rfl⟩:=List.getElem_of_mem hv
 have hk':j+k<l.length:=by simp at hk;omega
 have:=hb (j+k) (by omega)
 rw[ac6 hk']at this
 simp only[List.getElem_drop,this];rfl
theorem ae2 {l:List Int}{a h:Nat}(ha:a<h)(hl:h≤l.length)(hh:zm l h=1)(hb:∀i,a<i→i<h→zm l i=0):fK l a=h:=by
 unfold fK
 rcases Nat.lt_or_ge h l.length with hlt|hge
 ·have:=acM (fun x:Int=>x==1) (l.drop (a+1)) (a+1) (h-(a+1)) (by simp;omega) (by
   rw[ac6 hlt]at hh
   simp only[List.getElem_drop,show a+1+(h-(a+1))=h from by omega,hh];rfl) (fun k hk=>by
   have:=hb (a+1+k) (by omega) (by omega)
   rw[ac6 (by omega)]at this
   simp only[List.getElem_drop,this];rfl)
  unfold b9
  rw[this]
  simp only;omega
 ·have:b9 l 1 (a+1)=none:=by
   unfold b9
   refine acR _ _ _ fun v hv=> ?_
   obtain⟨k,hk,rfl⟩:=List.getElem_of_mem hv
   have hk':a+1+k<l.length:=by simp at hk;omega
   have:=hb (a+1+k) (by omega) (by omega)
   rw[ac6 hk']at this
   simp only[List.getElem_drop,this];rfl
  rw[this]
  simp only;omega
structure adx (n:Nat) (bv_z:Nat→Nat→Int) (cv_z:Nat→Int):Prop where
 pre:∀j,j<8→cv_z j=0
 gap:cv_z 8=1
 one:∀b,b<n→cv_z (9+10*b)=1
 zero:∀b,b<n→cv_z (10+10*b)=0
 bit:∀b k,b<n→k<8→cv_z (11+10*b+k)=bv_z b k
 low:cv_z (9+10*n)=0
 high:cv_z (10+10*n)=1
structure Shaped (y:List Int) (n:Nat) (cv_z:Nat→Int) (e:Nat→Nat):Prop where
 idle:∀i,i<e 0→zm y i=1
 cell:∀j,j<10+10*n→∀i,e j≤i→i<e (j+1)→zm y i=cv_z j
 rest:∀i,e (10+10*n)≤i→zm y i=1
 near:∀j m,m≤10→j+m≤10+10*n→e j+8*m≤e (j+m)+3∧e (j+m)≤e j+8*m+3
section
variable {y:List Int} {n:Nat} {bv_z:Nat→Nat→Int} {cv_z:Nat→Int} {e:Nat→Nat}
theorem Shaped.runs(h:Shaped y n cv_z e)(v:Int):∀(m j:Nat),j+m≤10+10*n→(∀k,j≤k→k<j+m→cv_z k=v)→∀i,e j≤i→i<e (j+m)→zm y i=v
 |0,j,_,_,i,h1,h2=>by simp at h2;omega
 |m+1,j,hj,hv,i,h1,h2=>by
  by_cases hi:i<e (j+m)
  ·exact h.runs v m j (by omega) (fun k hk hk2=>hv k hk (by omega)) i h1 hi
  ·have:=h.cell (j+m) (by omega) i (by omega) h2
   rw[this];exact hv (j+m) (by omega) (by omega)
theorem Shaped.edges(h:Shaped y n cv_z e)(hc:adx n bv_z cv_z):∀(k b fuel:Nat) (acc:List Int),b+(k+1)=n→k<fuel→
  lr y fuel (e (10+10*b)) acc=some (acc++(List.range (k+1)).map (fun q=>((e (10+10*(b+q)):Nat):Int)),e (10+10*(n-1))+72)
 |k,b,0,acc,hb,hf=>by omega
 |k,b,fuel+1,acc,hb,hf=>by
  have n9_z:=h.near (10+10*b) 9 (by omega) (by omega)
  have n10:=h.near (10+10*b) 10 (by omega) (by omega)
  have e9:10+10*b+9=9+10*(b+1):=by omega
  have e10:10+10*b+10=10+10*(b+1):=by omega
  rw[e9]at n9_z
  rw[e10]at n10
  have hs:=h.cell (9+10*(b+1)) (by omega) (e (10+10*b)+76) (by omega) (by
   rw[show 9+10*(b+1)+1=10+10*(b+1) from by omega];omega)
  cases k with
  |zero=>
   have hbn:b+1=n:=by omega
   rw[hbn,hc.low]at hs
   simp only[lr,if_pos hs]
   have:n-1=b:=by omega
   rw[this]
   rfl
  |succ k=>
   have hbn:b+1<n:=by omega
   rw[hc.one (b+1) hbn]at hs
   have hs':¬zm y (e (10+10*b)+76)=0:=by rw[hs];decide
   have hz:=h.near (10+10*(b+1)) 1 (by omega) (by omega)
   have hzero:=h.cell (10+10*(b+1)) (by omega) (e (10+10*(b+1))) (by omega) (by omega)
   rw[hc.zero (b+1) hbn]at hzero
   have hfirst:b9 y 0 (e (10+10*b)+77)=some (e (10+10*(b+1))):=acN (by omega) hzero (fun i hi hi2=>by
    have:=h.cell (9+10*(b+1)) (by omega) i (by omega) (by
     rw[show 9+10*(b+1)+1=10+10*(b+1) from by omega];omega)
    rw[this];exact hc.one (b+1) hbn)
   have hle:¬e (10+10*b)+84<e (10+10*(b+1)):=by omega
   simp only[lr,if_neg hs',hfirst,if_neg hle]
   rw[h.edges hc k (b+1) fuel _ (by omega) (by omega)]
   rw[List.range_succ_eq_map (n:=k+1),List.map_cons,List.map_map]
   simp only[List.append_assoc,List.singleton_append,Nat.add_zero]
   congr 5
   funext q
   simp only[Function.comp,Nat.succ_eq_add_one]
   rw[show b+(q+1)=b+1+q from by omega]
theorem Shaped.grow(h:Shaped y n cv_z e):∀b,b<n→b≤e (10+10*b)
 |0,_=>by omega
 |b+1,hb=>by
  have ih:=h.grow b (by omega)
  have n10:=h.near (10+10*b) 10 (by omega) (by omega)
  rw[show 10+10*b+10=10+10*(b+1) from by omega]at n10
  omega
theorem Shaped.tail(h:Shaped y n cv_z e){f:Nat}(hf:e (10+10*n)≤f+12):w9 y f=0:=by
 unfold w9
 rw[abX (fun i hi=>h.rest i (by omega))]
 rfl
theorem Shaped.run(h:Shaped y n cv_z e)(hc:adx n bv_z cv_z):g8 y=0∧dU y=(List.range n).map (fun b=>((e (10+10*b):Nat):Int)):=by
 have n8_z:=h.near 0 8 (by omega) (by omega)
 rw[Nat.zero_add]at n8_z
 have n1:=h.near 0 1 (by omega) (by omega)
 have n81:=h.near 8 1 (by omega) (by omega)
 have n91:=h.near 9 1 (by omega) (by omega)
 simp only[Nat.zero_add,Nat.reduceAdd]at n1 n81 n91
 have h0:zm y (e 0)=0:=by
  have:=h.cell 0 (by omega) (e 0) (by omega) (by simp only[Nat.zero_add];omega)
  rw[this];exact hc.pre 0 (by omega)
 have fa_z:b9 y 0 0=some (e 0):=acN (by omega) h0 (fun i _ hi=>h.idle i hi)
 have hrun:=h.runs 0 8 0 (by omega) (fun k _ hk=>hc.pre k (by omega))
 rw[Nat.zero_add]at hrun
 have h8:zm y (e 8)=1:=by
  have:=h.cell 8 (by omega) (e 8) (by omega) (show e 8<e 9 by omega)
  rw[this];exact hc.gap
 have hlen:e 8≤y.length:=by
  have:=ad2 (hrun (e 8-1) (by omega) (by omega))
  omega
 have fh_z:fK y (e 0)=e 8:=ae2 (by omega) hlen h8 (fun i h1 h2=>hrun i (by omega) h2)
 have hd:Int.tdiv ((e 8:Int)-(e 0:Int)+4) 8=8:=by
  rw[Int.tdiv_eq_ediv_of_nonneg (by omega)]
  omega
 have hin:aS (8:Int) 3 15=true:=by decide
 cases n with
 |zero=>
  have h9:zm y (e 9)=0:=by
   have:=h.cell 9 (by omega) (e 9) (by omega) (show e 9<e 10 by omega)
   rw[this];exact hc.low
  have ff_z:b9 y 0 (e 8+1)=some (e 9):=acN (by omega) h9 (fun i h1 h2=>by
   have:=h.cell 8 (by omega) i (by omega) h2
   rw[this];exact hc.gap)
  have hw:QW (e 8) (e 9)=false:=by
   unfold QW
   simp only[Bool.or_eq_false_iff,decide_eq_false_iff_not]
   omega
  have hlt:(e 9:Int)-(e 8:Int)<12:=by omega
  have ht:=h.tail (f:=e 9) (show e 10≤e 9+12 by omega)
  have:ED y=((8:Int),[],(0:Int),()):=by
   unfold ED
   simp only[fa_z,fh_z,hd,hin,if_true,ff_z,hw,hlt,ht]
   rfl
  unfold g8 dU
  rw[this]
  exact⟨rfl,rfl⟩
 |succ n=>
  have n82:=h.near 8 2 (by omega) (by omega)
  simp only[Nat.reduceAdd]at n82
  have n101:e 10+8*1≤e 11+3∧e 11≤e 10+8*1+3:=h.near 10 1 (by omega) (by omega)
  have h10:zm y (e 10)=0:=by
   have:=h.cell 10 (by omega) (e 10) (by omega) (show e 10<e 11 by omega)
   rw[this];exact hc.zero 0 (by omega)
  have hr2:=h.runs 1 2 8 (by omega) (fun k h1 h2=>by
   have:k=8∨k=9:=by omega
   rcases this with rfl|rfl
   ·exact hc.gap
   ·exact hc.one 0 (by omega))
  have ff_z:b9 y 0 (e 8+1)=some (e 10):=acN (by omega) h10 (fun i h1 h2=>hr2 i (by omega) h2)
  have hw:QW (e 8) (e 10)=false:=by
   unfold QW
   simp only[Bool.or_eq_false_iff,decide_eq_false_iff_not]
   omega
  have hlt:¬(e 10:Int)-(e 8:Int)<12:=by omega
  have hg:=h.grow n (by omega)
  have n10:=h.near (10+10*n) 10 (by omega) (by omega)
  rw[show 10+10*n+10=10+10*(n+1) from by omega]at n10
  have nz_z:=h.near (10+10*n) 1 (by omega) (by omega)
  have hl2:e (10+10*n)<y.length:=ad2 (by
   have:=h.cell (10+10*n) (by omega) (e (10+10*n)) (by omega) (show e (10+10*n)<e (10+10*n+1) by omega)
   rw[this];exact hc.zero n (by omega))
  have he:=h.edges hc n 0 (y.length+1) [] (by omega) (by omega)
  simp only[Nat.mul_zero,Nat.add_zero,List.nil_append,Nat.zero_add,Nat.add_sub_cancel]at he
  have ht:=h.tail (f:=e (10+10*n)+72) (by omega)
  have:ED y=((8:Int),(List.range (n+1)).map (fun b=>((e (10+10*b):Nat):Int)),(0:Int),()):=by
   unfold ED
   simp only[fa_z,fh_z,hd,hin,if_true,ff_z,hw,if_neg hlt,he,ht]
   rfl
  unfold g8 dU
  rw[this]
  exact⟨rfl,rfl⟩
theorem Shaped.val(h:Shaped y n cv_z e)(hc:adx n bv_z cv_z)(b:Nat)(hb:b<n)(k:Nat)(hk:k<8):zm y (e (10+10*b)+8*k+12)=bv_z b k:=by
 have n1:=h.near (10+10*b) (k+1) (by omega) (by omega)
 have n2:=h.near (10+10*b) (k+2) (by omega) (by omega)
 have:=h.cell (11+10*b+k) (by omega) (e (10+10*b)+8*k+12) (by
  rw[show 11+10*b+k=10+10*b+(k+1) from by omega];omega) (by
  rw[show 11+10*b+k+1=10+10*b+(k+2) from by omega];omega)
 rw[this]
 exact hc.bit b k hb hk
theorem Shaped.bytes(h:Shaped y n cv_z e)(hc:adx n bv_z cv_z):vD y (dU y)=(List.range n).map fun b=>2*(2*(2*(2*(2*(2*(2*bv_z b 0+bv_z b 1)+bv_z b 2)+bv_z b 3)+bv_z b 4)+bv_z b 5)+bv_z b 6)+bv_z b 7:=by
 rw[(h.run hc).2]
 unfold vD
 rw[List.map_map]
 refine List.map_congr_left fun b hb=> ?_
 have hb:b<n:=List.mem_range.1 hb
 have hv:=fun k hk=>h.val hc b hb k hk
 simp only[Function.comp,Int.toNat_natCast,jR,hv 0 (by omega),hv 1 (by omega),hv 2 (by omega),hv 3 (by omega),hv 4 (by omega),hv 5 (by omega),hv 6 (by omega),hv 7 (by omega)]
 omega
end
structure QT (l:List Int) (M:Nat) (cv_z:Nat→Int) (p:Nat→Nat) (fl_z:Int→Int):Prop where
 c01:∀j,cv_z j=0∨cv_z j=1
 last:cv_z M=1
 f0_z:∀i,0≤fl_z i
 f6:∀i,fl_z i+fl_z (i+1)+fl_z (i+2)+fl_z (i+3)+fl_z (i+4)+fl_z (i+5)≤1
 idle:∀i:Int,i<p 0→ns l i=1-fl_z i
 one:∀j,j≤M→cv_z j=1→∀i:Int,(p j:Int)≤i→i<l.length→(j<M→i<p (j+1))→ns l i=1-fl_z i
 zero:∀j,j≤M→cv_z j=0→∀i:Int,(p j:Int)≤i→i<l.length→(j<M→i<p (j+1))→ns l i=fl_z i
 wide:∀j,j<M→p j+7≤p (j+1)
 long:p M+3≤l.length
 near:∀j m,m≤10→j+m≤M→p j+8*m≤p (j+m)+1∧p (j+m)≤p j+8*m+1
section
variable {l:List Int} {M:Nat} {cv_z:Nat→Int} {p:Nat→Nat} {fl_z:Int→Int}
theorem af4(i:Nat):vb l i=0∨vb l i=1:=by
 unfold vb
 split
 ·exact .inr rfl
 ·exact .inl rfl
theorem ady(i:Nat):(vb l i=1∧3≤ns l ((i:Int)-4)+ns l ((i:Int)-3)+ns l ((i:Int)-2)+ns l ((i:Int)-1)+ns l i)∨(vb l i=0∧ns l ((i:Int)-4)+ns l ((i:Int)-3)+ns l ((i:Int)-2)+ns l ((i:Int)-1)+ns l i<3):=by
 unfold vb jZ
 split
 ·rename_i h;exact .inl ⟨rfl,h⟩
 ·rename_i h;exact .inr ⟨rfl,by omega⟩
theorem QT.six(h:QT l M cv_z p fl_z)(i:Int):0≤fl_z (i-4)∧0≤fl_z (i-3)∧0≤fl_z (i-2)∧0≤fl_z (i-1)∧0≤fl_z i∧0≤fl_z (i+1)∧fl_z (i-4)+fl_z (i-3)+fl_z (i-2)+fl_z (i-1)+fl_z i+fl_z (i+1)≤1:=by
 have:=h.f6 (i-4)
 rw[show i-4+1=i-3 from by omega,show i-4+2=i-2 from by omega,show i-4+3=i-1 from by omega,show i-4+4=i from by omega,show i-4+5=i+1 from by omega]at this
 exact⟨h.f0_z _,h.f0_z _,h.f0_z _,h.f0_z _,h.f0_z _,h.f0_z _,this⟩
theorem QT.of(h:QT l M cv_z p fl_z){j:Nat}(hj:j≤M){i:Int}(h1:(p j:Int)≤i)(h2:i<l.length)(h3:j<M→i<p (j+1)):(cv_z j=1∧ns l i=1-fl_z i)∨(cv_z j=0∧ns l i=fl_z i):=by
 rcases h.c01 j with h0|h0
 ·exact .inr ⟨h0,h.zero j hj h0 i h1 h2 h3⟩
 ·exact .inl ⟨h0,h.one j hj h0 i h1 h2 h3⟩
def aaP(cv_z:Nat→Int):Nat→Int
 |0=>1
 |j+1=>cv_z j
theorem QT.ahead(h:QT l M cv_z p fl_z):∀ {j:Nat},j≤M→∀ {i:Int},i<p j→(p j:Int)≤i+7→i<l.length→(aaP cv_z j=1∧ns l i=1-fl_z i)∨(aaP cv_z j=0∧ns l i=fl_z i)
 |0,_,i,h1,_,_=>.inl ⟨rfl,h.idle i h1⟩
 |j+1,hj,i,h1,h2,h3=>by
  have hw:=h.wide j (by omega)
  exact h.of (j:=j) (by omega) (by omega) h3 (fun _=>h1)
theorem QT.mid(h:QT l M cv_z p fl_z){j:Nat}(hj:j≤M){i:Nat}(h1:p j+3≤i)(h2:i<l.length)(h3:j<M→i≤p (j+1)):vb l i=cv_z j:=by
 have h6:=h.six i
 have hb:=ady (l:=l) i
 have a1:=h.of hj (i:=(i:Int)-1) (by omega) (by omega) (fun hm=>by have:=h3 hm;omega)
 have a2:=h.of hj (i:=(i:Int)-2) (by omega) (by omega) (fun hm=>by have:=h3 hm;omega)
 have a3:=h.of hj (i:=(i:Int)-3) (by omega) (by omega) (fun hm=>by have:=h3 hm;omega)
 by_cases hi:j<M∧i=p (j+1)
 ·have hw:=h.wide j hi.1
  have a4:=h.of hj (i:=(i:Int)-4) (by omega) (by omega) (fun hm=>by have:=h3 hm;omega)
  have a0:=h.of (j:=j+1) (by omega) (i:=(i:Int)) (by omega) (by omega) (fun hm=>by have:=h.wide (j+1) hm;omega)
  omega
 ·have a0:=h.of hj (i:=(i:Int)) (by omega) (by omega) (fun hm=>by have:=h3 hm;omega)
  by_cases h4:p j+4≤i
  ·have a4:=h.of hj (i:=(i:Int)-4) (by omega) (by omega) (fun hm=>by have:=h3 hm;omega)
   omega
  ·have a4:=h.ahead hj (i:=(i:Int)-4) (by omega) (by omega) (by omega)
   omega
theorem QT.edge(h:QT l M cv_z p fl_z){j:Nat}(hj:j≤M):(aaP cv_z j=cv_z j→vb l (p j+1)=cv_z j)∧(vb l (p j+1)=cv_z j→vb l (p j+2)=cv_z j):=by
 have hp:p j+3≤l.length:=by
  rcases Nat.lt_or_ge j M with hm|hm
  ·have:=h.long
   have:∀m,j+m≤M→p j≤p (j+m):=by
    intro m
    induction m with
    |zero=>intro _;exact Nat.le_refl _
    |succ m ih=>
     intro hm
     have:=h.wide (j+m) (by omega)
     have:=ih (by omega)
     rw[←Nat.add_assoc]
     omega
   have:=this (M-j) (by omega)
   rw[show j+(M-j)=M from by omega]at this
   omega
  ·have:j=M:=by omega
   subst this
   exact h.long
 have hw:j<M→p j+7≤p (j+1):=fun hm=>h.wide j hm
 have b3:=h.ahead hj (i:=(p j:Int)-3) (by omega) (by omega) (by omega)
 have b2:=h.ahead hj (i:=(p j:Int)-2) (by omega) (by omega) (by omega)
 have b1:=h.ahead hj (i:=(p j:Int)-1) (by omega) (by omega) (by omega)
 have c0:=h.of hj (i:=(p j:Int)) (by omega) (by omega) (fun hm=>by have:=hw hm;omega)
 have c1:=h.of hj (i:=(p j:Int)+1) (by omega) (by omega) (fun hm=>by have:=hw hm;omega)
 have c2:=h.of hj (i:=(p j:Int)+2) (by omega) (by omega) (fun hm=>by have:=hw hm;omega)
 have e1:=ady (l:=l) (p j+1)
 have e2:=ady (l:=l) (p j+2)
 rw[show((p j+1:Nat):Int)-4=(p j:Int)-3 from by omega,show((p j+1:Nat):Int)-3=(p j:Int)-2 from by omega,show((p j+1:Nat):Int)-2=(p j:Int)-1 from by omega,show((p j+1:Nat):Int)-1=(p j:Int) from by omega,show((p j+1:Nat):Int)=(p j:Int)+1 from by omega]at e1
 rw[show((p j+2:Nat):Int)-4=(p j:Int)-2 from by omega,show((p j+2:Nat):Int)-3=(p j:Int)-1 from by omega,show((p j+2:Nat):Int)-2=(p j:Int) from by omega,show((p j+2:Nat):Int)-1=(p j:Int)+1 from by omega,show((p j+2:Nat):Int)=(p j:Int)+2 from by omega]at e2
 have h6:=h.six ((p j:Int)+1)
 rw[show(p j:Int)+1-4=(p j:Int)-3 from by omega,show(p j:Int)+1-3=(p j:Int)-2 from by omega,show(p j:Int)+1-2=(p j:Int)-1 from by omega,show(p j:Int)+1-1=(p j:Int) from by omega,show(p j:Int)+1+1=(p j:Int)+2 from by omega]at h6
 constructor
 ·intro hq;omega
 ·intro hq;omega
def abv(l:List Int)(cv_z:Nat→Int)(p:Nat→Nat)(j:Nat):Nat:=if vb l (p j+1)=cv_z j then p j+1 else if vb l (p j+2)=cv_z j then p j+2 else p j+3
theorem aa0(j:Nat):p j+1≤abv l cv_z p j∧abv l cv_z p j≤p j+3:=by
 unfold abv
 split
 ·omega
 ·split<;>omega
theorem QT.vote(h:QT l M cv_z p fl_z){j:Nat}(hj:j≤M){i:Nat}(h1:abv l cv_z p j≤i)(h2:i<l.length)(h3:j<M→i<abv l cv_z p (j+1)):vb l i=cv_z j:=by
 obtain⟨r1,r2⟩:=h.edge hj
 have ra_z:=aa0 (l:=l) (cv_z:=cv_z) (p:=p) j
 by_cases hA:i<p j+3
 ·have hi:i=p j+1∨i=p j+2:=by omega
  unfold abv at h1
  rcases hi with rfl|rfl
  ·split at h1
   ·assumption
   ·split at h1<;>omega
  ·split at h1
   ·rename_i hq;exact r2 hq
   ·split at h1
    ·assumption
    ·omega
 ·by_cases hB:j<M→i≤p (j+1)
  ·exact h.mid hj (by omega) h2 hB
  ·have hm:j<M:=by
    rcases Nat.lt_or_ge j M with hm|hm
    ·exact hm
    ·exact absurd (fun h=>absurd h (by omega)) hB
   have hB:p (j+1)<i:=by
    rcases Nat.lt_or_ge (p (j+1)) i with hq|hq
    ·exact hq
    ·exact absurd (fun _=>hq) hB
   obtain⟨s1,_⟩:=h.edge (j:=j+1) (by omega)
   have rb_z:=aa0 (l:=l) (cv_z:=cv_z) (p:=p) (j+1)
   have h3:=h3 hm
   have hc:=h.c01 j
   have hc1:=h.c01 (j+1)
   have hv:=af4 (l:=l) i
   have hi:i=p (j+1)+1∨i=p (j+1)+2:=by omega
   unfold abv at h3
   have hs:aaP cv_z (j+1)=cv_z j:=rfl
   rw[hs]at s1
   rcases hi with rfl|rfl
   ·split at h3
    ·omega
    ·omega
   ·split at h3
    ·omega
    ·split at h3
     ·omega
     ·omega
theorem QT.shaped {n:Nat}(h:QT l (10+10*n) cv_z p fl_z):Shaped (qg l) n cv_z (abv l cv_z p):=by
 have at_v:∀i,i<l.length→zm (qg l) i=vb l i:=fun i hi=>by
  have hi':i<(qg l).length:=by rw[Au];exact hi
  rw[ac6 hi']
  have:=KT (fun i (_:Int)=>vb l i) l 0 i hi
  have e:(qg l)[i]? =some (vb l (0+i)):=this
  rw[List.getElem?_eq_getElem hi',Nat.zero_add]at e
  exact Option.some.inj e
 have at_far:∀i,l.length≤i→zm (qg l) i=1:=fun i hi=>by
  unfold zm
  rw[Au,if_pos hi]
 have mono:∀m j,j+m≤10+10*n→p j+m≤p (j+m):=by
  intro m
  induction m with
  |zero=>intro j _;exact Nat.le_refl _
  |succ m ih=>
   intro j hm
   have:=h.wide (j+m) (by omega)
   have:=ih j (by omega)
   have e:j+(m+1)=j+m+1:=rfl
   rw[e]
   omega
 have hlong:=h.long
 refine⟨fun i hi=> ?_,fun j hj i h1 h2=> ?_,fun i hi=> ?_,fun j m hm hj=> ?_⟩
 ·have r:=aa0 (l:=l) (cv_z:=cv_z) (p:=p) 0
  have hm0:=mono (10+10*n) 0 (by omega)
  rw[Nat.zero_add]at hm0
  have hil:i<l.length:=by omega
  rw[at_v i hil]
  have hv:=af4 (l:=l) i
  by_cases hp:i≤p 0
  ·have h6:=h.six i
   have hb:=ady (l:=l) i
   have a1:=h.idle ((i:Int)-1) (by omega)
   have a2:=h.idle ((i:Int)-2) (by omega)
   have a3:=h.idle ((i:Int)-3) (by omega)
   have a4:=h.idle ((i:Int)-4) (by omega)
   have a0:ns l i=1-fl_z i∨ns l i=fl_z i:=by
    by_cases hq:i<p 0
    ·exact .inl (h.idle i (by omega))
    ·have hw:=h.wide 0 (by omega)
     have hz:0+1=1:=rfl
     rw[hz]at hw
     rcases h.of (j:=0) (by omega) (i:=(i:Int)) (by omega) (by omega) (fun _=>by rw[hz];omega)with q|q
     ·exact .inl q.2
     ·exact .inr q.2
   omega
  ·obtain⟨s1,_⟩:=h.edge (j:=0) (by omega)
   have hc:=h.c01 0
   have hs:aaP cv_z 0=1:=rfl
   rw[hs]at s1
   have hii:i=p 0+1∨i=p 0+2:=by omega
   unfold abv at hi
   rcases hii with rfl|rfl
   ·split at hi
    ·omega
    ·omega
   ·split at hi
    ·omega
    ·split at hi
     ·omega
     ·omega
 ·have r:=aa0 (l:=l) (cv_z:=cv_z) (p:=p) (j+1)
  have hm:=mono (10+10*n-(j+1)) (j+1) (by omega)
  rw[show j+1+(10+10*n-(j+1))=10+10*n from by omega]at hm
  have hil:i<l.length:=by omega
  rw[at_v i hil]
  exact h.vote (by omega) h1 hil (fun _=>h2)
 ·rcases Nat.lt_or_ge i l.length with hil|hil
  ·rw[at_v i hil,h.vote (Nat.le_refl _) hi hil (fun hq=>absurd hq (Nat.lt_irrefl _))]
   exact h.last
  ·exact at_far i hil
 ·have r1:=aa0 (l:=l) (cv_z:=cv_z) (p:=p) j
  have r2:=aa0 (l:=l) (cv_z:=cv_z) (p:=p) (j+m)
  have hn:=h.near j m hm hj
  omega
theorem QT.decoded {n:Nat}{bv_z:Nat→Nat→Int}(h:QT l (10+10*n) cv_z p fl_z)(hc:adx n bv_z cv_z):cX l=((List.range n).map (fun b=>2*(2*(2*(2*(2*(2*(2*bv_z b 0+bv_z b 1)+bv_z b 2)+bv_z b 3)+bv_z b 4)+bv_z b 5)+bv_z b 6)+bv_z b 7),(0:Int),()):=by
 have hs:=h.shaped
 unfold Proofs.YtkgcbbkodalfmaaGreatDoor.cX
 rw[if_pos (hs.run hc).1,hs.bytes hc]
end
end Go.Proofs.YtkgcbbkodalfmaaGreatDoor
namespace Go.Proofs.YtkgcbbkodalfmaaGreatDoor
open Go.RowKit
set_option linter.unusedVariables false
set_option linter.unusedSimpArgs false
theorem adG {α:Type}{w:Nat}{g:α→List Int}(hg:∀b,(g b).length=w):∀(l:List α) (b k:Nat) (hb:b<l.length),k<w→(l.flatMap g)[w*b+k]? =(g l[b])[k]?
 |x::r,0,k,_,hk=>by
  rw[List.flatMap_cons,Nat.mul_zero,Nat.zero_add,List.getElem?_append_left (by rw[hg];exact hk)]
  rfl
 |x::r,b+1,k,hb,hk=>by
  have e:w*(b+1)+k=(w*b+k)+w:=by rw[Nat.mul_succ];omega
  rw[List.flatMap_cons,e,List.getElem?_append_right (by rw[hg];omega),hg,Nat.add_sub_cancel,adG hg r b k (by simpa using hb) hk]
  rfl
theorem adH {α:Type}{w:Nat}{g:α→List Int}(hg:∀b,(g b).length=w):∀l:List α,(l.flatMap g).length=w*l.length
 | []=>by simp
 |x::r=>by rw[List.flatMap_cons,List.length_append,hg,adH hg r,List.length_cons,Nat.mul_succ];omega
theorem aeC(v:Int):∀(w k:Nat),k<w→(bD v w)[k]? =some (bt v (w-1-k))
 |w+1,0,_=>rfl
 |w+1,k+1,h=>by
  have:=aeC v w k (by omega)
  rw[bD,List.getElem?_cons_succ,this,show w+1-1-(k+1)=w-1-k from by omega]
def aaO(l:List Int)(j:Nat):Int:=(lJ l).getD j 1
def acS(l:List Int)(b k:Nat):Int:=bt (l.getD b 0) (7-k)
theorem adu(b:Int):([1,0]++bD b 8).length=10:=by simp only[List.length_append,fL,List.length_cons,List.length_nil]
theorem abW {l:List Int}{j:Nat}{v:Int}(h:(lJ l)[j]? =some v):aaO l j=v:=by
 unfold aaO
 rw[List.getD_eq_getElem?_getD,h]
 rfl
theorem ac7(l:List Int)(b k:Nat)(hb:b<l.length)(hk:k<10):(lJ l)[9+10*b+k]? =([1,0]++bD l[b] 8)[k]? :=by
 have h9:(List.replicate 8 (0:Int)++ [1]).length=9:=rfl
 have hf:=adH (w:=10) adu l
 unfold lJ
 rw[List.getElem?_append_left (by rw[List.length_append,h9,hf];omega),List.getElem?_append_right (by rw[h9];omega),h9,show 9+10*b+k-9=10*b+k from by omega]
 exact adG (w:=10) adu l b k hb hk
theorem aeq(l:List Int)(k:Nat):(lJ l)[9+10*l.length+k]? =([0,1]:List Int)[k]? :=by
 have h9:(List.replicate 8 (0:Int)++ [1]).length=9:=rfl
 have hf:=adH (w:=10) adu l
 unfold lJ
 rw[List.getElem?_append_right (by rw[List.length_append,h9,hf];omega),List.length_append,h9,hf]
 congr 1
 omega
theorem ac8(l:List Int):adx l.length (acS l) (aaO l) where
 pre:=fun j hj=>abW (by
  have h9:(List.replicate 8 (0:Int)++ [1]).length=9:=rfl
  unfold lJ
  rw[List.getElem?_append_left (by rw[List.length_append,h9];omega),List.getElem?_append_left (by rw[h9];omega),List.getElem?_append_left (by simpa using hj),List.getElem?_replicate,if_pos hj])
 gap:=abW (by
  have h9:(List.replicate 8 (0:Int)++ [1]).length=9:=rfl
  unfold lJ
  rw[List.getElem?_append_left (by rw[List.length_append,h9];omega),List.getElem?_append_left (by rw[h9];omega)]
  rfl)
 one:=fun b hb=>abW (by
  have:=ac7 l b 0 hb (by omega)
  rw[Nat.add_zero]at this
  rw[this]
  rfl)
 zero:=fun b hb=>abW (by
  have:=ac7 l b 1 hb (by omega)
  rw[show 9+10*b+1=10+10*b from by omega]at this
  rw[this]
  rfl)
 bit:=fun b k hb hk=>abW (by
  have:=ac7 l b (2+k) hb (by omega)
  rw[show 9+10*b+(2+k)=11+10*b+k from by omega]at this
  rw[this,List.getElem?_append_right (by simp),show 2+k-([1,0]:List Int).length=k from by simp,aeC l[b] 8 k hk]
  unfold acS
  rw[List.getD_eq_getElem?_getD,List.getElem?_eq_getElem hb]
  rfl)
 low:=abW (by rw[show 9+10*l.length=9+10*l.length+0 from rfl,aeq];rfl)
 high:=abW (by rw[show 10+10*l.length=9+10*l.length+1 from by omega,aeq];rfl)
theorem ae6 {v:Int}(h0:0≤v)(h1:v≤255):2*(2*(2*(2*(2*(2*(2*bt v 7+bt v 6)+bt v 5)+bt v 4)+bt v 3)+bt v 2)+bt v 1)+bt v 0=v:=by
 obtain⟨n,rfl⟩:∃n:Nat,v=n:=⟨v.toNat,by omega⟩
 have b:∀k,bt (n:Int) k=((n / 2^k % 2:Nat):Int):=fun k=>Wn n k (by omega)
 simp only[b]
 simp only[Nat.reducePow]
 omega
theorem ae3 {l:List Int}(h:∀v ∈ l,0≤v∧v≤255):(List.range l.length).map (fun b=>2*(2*(2*(2*(2*(2*(2*acS l b 0+acS l b 1)+acS l b 2)+acS l b 3)+acS l b 4)+acS l b 5)+acS l b 6)+acS l b 7)=l:=by
 refine List.ext_getElem (by simp) fun i h1 h2=> ?_
 have hv:=h _ (List.getElem_mem h2)
 rw[List.getElem_map,List.getElem_range]
 have e:l.getD i 0=l[i]:=by rw[List.getD_eq_getElem?_getD,List.getElem?_eq_getElem h2];rfl
 show 2*(2*(2*(2*(2*(2*(2*bt (l.getD i 0) 7+bt (l.getD i 0) 6)+bt (l.getD i 0) 5)+bt (l.getD i 0) 4)+bt (l.getD i 0) 3)+bt (l.getD i 0) 2)+bt (l.getD i 0) 1)+bt (l.getD i 0) 0=l[i]
 rw[e]
 exact ae6 hv.1 hv.2
theorem adP(c:List Int)(i:Nat)(h:i<8*c.length):(fy c)[i]? =some (c[i / 8]'(by omega)):=by
 have hi:i / 8<c.length:=by omega
 have e:=adG (w:=8) (g:=fun c:Int=>List.replicate 8 c) (fun b=>by simp) c (i / 8) (i % 8) hi (by omega)
 rw[show 8*(i / 8)+i % 8=i from by omega]at e
 unfold fy
 rw[e,List.getElem?_replicate,if_pos (by omega)]
def GB(B A:Nat)(l:List Int):List Int:=(List.replicate B (1:Int)++lJ l)++List.replicate A 1
theorem abw(B A:Nat)(l:List Int):(GB B A l).length=B+(11+10*l.length)+A:=by
 unfold GB
 simp only[List.length_append,List.length_replicate,IJ]
theorem adQ(B A:Nat)(l:List Int)(i:Nat)(h:i<(GB B A l).length):(GB B A l)[i]=if i<B then 1 else aaO l (i-B):=by
 have hl:=abw B A l
 have hll:=IJ l
 have e:(GB B A l)[i]? =some (if i<B then 1 else aaO l (i-B)):=by
  unfold GB
  by_cases h1:i<B
  ·rw[if_pos h1,List.getElem?_append_left (by simp;omega),List.getElem?_append_left (by simpa using h1),List.getElem?_replicate,if_pos h1]
  ·rw[if_neg h1]
   by_cases h2:i-B<(lJ l).length
   ·rw[List.getElem?_append_left (by simp;omega),List.getElem?_append_right (by simp;omega),List.length_replicate]
    unfold aaO
    rw[List.getD_eq_getElem?_getD,List.getElem?_eq_getElem h2]
    rfl
   ·rw[List.getElem?_append_right (by simp;omega),List.getElem?_replicate,if_pos (by simp;omega)]
    unfold aaO
    rw[List.getD_eq_getElem?_getD,List.getElem?_eq_none (by omega)]
    rfl
 rw[List.getElem?_eq_getElem h]at e
 exact Option.some.inj e
theorem aer {l:List Int}(h:∀v ∈ l,0≤v∧v≤255)(j:Nat):aaO l j=0∨aaO l j=1:=by
 unfold aaO
 rw[List.getD_eq_getElem?_getD]
 by_cases hj:j<(lJ l).length
 ·rw[List.getElem?_eq_getElem hj]
  exact Y2 h _ (List.getElem_mem hj)
 ·rw[List.getElem?_eq_none (by omega)]
  exact .inr rfl
theorem adR(l:List Int)(j:Nat)(h:10+10*l.length≤j):aaO l j=1:=by
 by_cases hj:j=10+10*l.length
 ·rw[hj]
  exact(ac8 l).high
 ·unfold aaO
  rw[List.getD_eq_getElem?_getD,List.getElem?_eq_none (by rw[IJ];omega)]
  rfl
structure ac9 (B A:Nat) (l y:List Int) (fl_z:Int→Int):Prop where
 len:y.length=8*(B+(11+10*l.length)+A)
 f0_z:∀i,0≤fl_z i
 neg:∀i,i<0→fl_z i=0
 f6:∀i,fl_z i+fl_z (i+1)+fl_z (i+2)+fl_z (i+3)+fl_z (i+4)+fl_z (i+5)≤1
 at_:∀(i:Nat) (h:i<y.length),((fy (GB B A l))[i]? =some 1∧y[i]=1-fl_z i)∨((fy (GB B A l))[i]? =some 0∧y[i]=fl_z i)
theorem ac9.cell {B A:Nat}{l y:List Int}{fl_z:Int→Int}(h:ac9 B A l y fl_z)(i:Nat)(hi:i<y.length):((if i / 8<B then 1 else aaO l (i / 8-B))=1∧ns y (i:Int)=1-fl_z i)∨((if i / 8<B then 1 else aaO l (i / 8-B))=0∧ns y (i:Int)=fl_z i):=by
 have hw:ns y (i:Int)=y[i]:=by
  unfold ns
  rw[if_neg (by omega),Int.toNat_natCast,List.getD_eq_getElem?_getD,List.getElem?_eq_getElem hi]
  rfl
 have hl:=h.len
 have hp:=abw B A l
 have hs:=adP (GB B A l) i (by omega)
 rw[adQ]at hs
 have ha:=h.at_ i hi
 rw[hs]at ha
 rw[hw]
 rcases ha with⟨a,b⟩|⟨a,b⟩
 ·exact .inl ⟨Option.some.inj a,b⟩
 ·exact .inr ⟨Option.some.inj a,b⟩
theorem ac9.signal {B A:Nat}{l y:List Int}{fl_z:Int→Int}(h:ac9 B A l y fl_z)(hb:∀v ∈ l,0≤v∧v≤255):QT y (10+10*l.length) (aaO l) (fun j=>8*(B+j)) fl_z where
 c01:=aer hb
 last:=(ac8 l).high
 f0_z:=h.f0_z
 f6:=h.f6
 idle:=fun i hi=>by
  by_cases h0:i<0
  ·unfold ns
   rw[if_pos h0,h.neg i h0]
   rfl
  ·obtain⟨n,rfl⟩:∃n:Nat,i=n:=⟨i.toNat,by omega⟩
   have hl:=h.len
   have hi:(n:Int)<((8*(B+0):Nat):Int):=hi
   have hc:=h.cell n (by omega)
   rw[if_pos (by omega)]at hc
   rcases hc with⟨a,b⟩|⟨a,b⟩
   ·exact b
   ·exact absurd a (by decide)
 one:=fun j hj hc i h1 h2 h3=>by
  have h1:((8*(B+j):Nat):Int)≤i:=h1
  have h3:j<10+10*l.length→i<((8*(B+(j+1)):Nat):Int):=h3
  obtain⟨n,rfl⟩:∃n:Nat,i=n:=⟨i.toNat,by omega⟩
  have hq:=h.cell n (by omega)
  rw[if_neg (by omega)]at hq
  have e:aaO l (n / 8-B)=1:=by
   rcases Nat.lt_or_ge j (10+10*l.length)with hjm|hjm
   ·have:=h3 hjm
    rw[show n / 8-B=j from by omega]
    exact hc
   ·exact adR l _ (by omega)
  rcases hq with⟨a,b⟩|⟨a,b⟩
  ·exact b
  ·rw[e]at a
   exact absurd a (by decide)
 zero:=fun j hj hc i h1 h2 h3=>by
  have h1:((8*(B+j):Nat):Int)≤i:=h1
  have h3:j<10+10*l.length→i<((8*(B+(j+1)):Nat):Int):=h3
  obtain⟨n,rfl⟩:∃n:Nat,i=n:=⟨i.toNat,by omega⟩
  have hq:=h.cell n (by omega)
  rw[if_neg (by omega)]at hq
  have hjm:j<10+10*l.length:=by
   rcases Nat.lt_or_ge j (10+10*l.length)with hjm|hjm
   ·exact hjm
   ·rw[adR l j hjm]at hc
    exact absurd hc (by decide)
  have:=h3 hjm
  rw[show n / 8-B=j from by omega,hc]at hq
  rcases hq with⟨a,b⟩|⟨a,b⟩
  ·exact absurd a (by decide)
  ·exact b
 wide:=fun j _=>by
  show 8*(B+j)+7≤8*(B+(j+1))
  omega
 long:=by
  have:=h.len
  show 8*(B+(10+10*l.length))+3≤y.length
  omega
 near:=fun j m _ _=>by
  show 8*(B+j)+8*m≤8*(B+(j+m))+1∧8*(B+(j+m))≤8*(B+j)+8*m+1
  omega
theorem ac9.decoded {B A:Nat}{l y:List Int}{fl_z:Int→Int}(h:ac9 B A l y fl_z)(hb:∀v ∈ l,0≤v∧v≤255):cX y=(l,(0:Int),()):=by
 have:=(h.signal hb).decoded (ac8 l)
 rw[ae3 hb]at this
 exact this
theorem abx(B A:Nat)(l:List Int)(hb:∀v ∈ l,0≤v∧v≤255):ac9 B A l (fy (GB B A l)) (fun _=>0) where
 len:=by rw[S7,abw]
 f0_z:=fun _=>Int.le_refl 0
 neg:=fun _ _=>rfl
 f6:=fun _=>(show(0:Int)+0+0+0+0+0≤1 by decide)
 at_:=fun i hi=>by
  have hp:=abw B A l
  have hi2:i<8*(GB B A l).length:=by rw[S7]at hi;exact hi
  have hs:=adP (GB B A l) i hi2
  have hv:(fy (GB B A l))[i]=(GB B A l)[i / 8]'(by omega):=by
   rw[List.getElem?_eq_getElem hi]at hs
   exact Option.some.inj hs
  have h01:(GB B A l)[i / 8]'(by omega)=0∨(GB B A l)[i / 8]'(by omega)=1:=by
   rw[adQ]
   split
   ·exact .inr rfl
   ·exact aer hb _
  rw[hs,hv]
  rcases h01 with e|e
  ·exact .inr ⟨by rw[e],by rw[e]⟩
  ·exact .inl ⟨by rw[e],by rw[e];rfl⟩
theorem ae7(B A:Nat)(l:List Int)(hb:∀v ∈ l,0≤v∧v≤255)(y:List Int)(a:Nat)(hy:y.length=(fy (GB B A l)).length)
  (hv:∀(i:Nat) (h:i<y.length),y[i]=if i=a then 1-(fy (GB B A l))[i]'(by omega)else(fy (GB B A l))[i]'(by omega)):ac9 B A l y (fun i=>if i=(a:Int)then 1 else 0) where
 len:=by rw[hy,S7,abw]
 f0_z:=fun i=>by
  show(0:Int)≤if i=(a:Int)then 1 else 0
  split<;>decide
 neg:=fun i hi=>by
  show(if i=(a:Int)then(1:Int)else 0)=0
  rw[if_neg (by omega)]
 f6:=fun i=>by
  show(if i=(a:Int)then(1:Int)else 0)+(if i+1=(a:Int)then(1:Int)else 0)+(if i+2=(a:Int)then(1:Int)else 0)+(if i+3=(a:Int)then(1:Int)else 0)+(if i+4=(a:Int)then(1:Int)else 0)+(if i+5=(a:Int)then(1:Int)else 0)≤1
  repeat' split
  all_goals omega
 at_:=fun i hi=>by
  have hc:=(abx B A l hb).at_ i (by omega)
  have hq:=hv i hi
  by_cases h:i=a
  ·rw[if_pos h]at hq
   have e:(if(i:Int)=(a:Int)then(1:Int)else 0)=1:=if_pos (by omega)
   show(_∧y[i]=1-(if(i:Int)=(a:Int)then(1:Int)else 0))∨(_∧y[i]=(if(i:Int)=(a:Int)then(1:Int)else 0))
   rw[e,hq]
   rcases hc with⟨p,q⟩|⟨p,q⟩
   ·exact .inl ⟨p,by rw[q];rfl⟩
   ·exact .inr ⟨p,by rw[q];rfl⟩
  ·rw[if_neg h]at hq
   have e:(if(i:Int)=(a:Int)then(1:Int)else 0)=0:=if_neg (by omega)
   show(_∧y[i]=1-(if(i:Int)=(a:Int)then(1:Int)else 0))∨(_∧y[i]=(if(i:Int)=(a:Int)then(1:Int)else 0))
   rw[e,hq]
   exact hc
end Go.Proofs.YtkgcbbkodalfmaaGreatDoor
namespace Go.Proofs.YtkgcbbkodalfmaaGreatDoor
open Go.RowKit
set_option linter.unusedVariables false
set_option linter.unusedSimpArgs false
def acx(n b:Int):Int:=IntKind.i64.wrap (IntKind.i64.wrap (2*n)+b)
theorem aeD(l:List Int):gV l=l.foldl acx 0:=rfl
theorem aes {n b:Int}(h0:0≤n)(h1:n≤1000000000000)(hb:b=0∨b=1):acx n b=2*n+b:=by
 have w1:IntKind.i64.wrap (2*n)=2*n:=by rw[wrap_i64]<;>omega
 unfold acx
 rw[w1,wrap_i64]<;>omega
theorem ad6(v:Nat)(hv:v<9223372036854775808):∀(w s:Nat),w≤32→(s+1)*2^w≤1000000000000→(bD (v:Int) w).foldl acx (s:Int)=((s*2^w+v % 2^w:Nat):Int)
 |0,s,_,_=>by
  simp only[bD,List.foldl_nil,Nat.pow_zero,Nat.mul_one,Nat.mod_one,Nat.add_zero]
 |w+1,s,hw,hs=>by
  have hp:1≤2^w:=Nat.one_le_two_pow
  have e2:(s+1)*2^(w+1)=(2*s+2)*2^w:=by rw[Nat.pow_succ,Nat.mul_comm (2^w) 2,←Nat.mul_assoc];congr 1;omega
  have hle:2*s+2≤(2*s+2)*2^w:=Nat.le_mul_of_pos_right _ (by omega)
  have hb:v / 2^w % 2<2:=Nat.mod_lt _ (by decide)
  have hsw:acx (s:Int) (bt (v:Int) w)=((2*s+v / 2^w % 2:Nat):Int):=by
   rw[Wn v w hv,aes (by omega) (by omega) (by omega)]
   omega
  have hm:(2*s+v / 2^w % 2+1)*2^w≤(2*s+2)*2^w:=Nat.mul_le_mul_right _ (by omega)
  have ih:=ad6 v hv w (2*s+v / 2^w % 2) (by omega) (by omega)
  rw[bD,List.foldl_cons,hsw,ih]
  congr 1
  have e3:v % 2^(w+1)=v % 2^w+2^w*(v / 2^w % 2):=Nat.mod_pow_succ
  rw[e3,Nat.add_mul,Nat.pow_succ,Nat.mul_comm (2^w) (v / 2^w % 2),Nat.mul_comm (2^w) 2,←Nat.mul_assoc,Nat.mul_comm s 2]
  omega
theorem acO {v:Int}{w:Nat}(h0:0≤v)(hw:w≤32)(h1:v<2^w):gV (bD v w)=v:=by
 obtain⟨n,rfl⟩:∃n:Nat,v=n:=⟨v.toNat,by omega⟩
 have hn:n<2^w:=by
  have:((n:Nat):Int)<((2^w:Nat):Int):=by rw[Int.natCast_pow];exact h1
  omega
 have h32:2^w≤2^32:=Nat.pow_le_pow_right (by decide) hw
 have h33:(2:Nat)^32=4294967296:=by decide
 have:=ad6 n (by omega) w 0 hw (by omega)
 rw[aeD]
 have this:(bD (n:Int) w).foldl acx 0=_:=this
 rw[this,Nat.zero_mul,Nat.zero_add,Nat.mod_eq_of_lt hn]
def abk:List Int→Nat
 | []=>0
 |b::r=>b.toNat*2^r.length+abk r
theorem ad3:∀ {l:List Int},(∀b ∈ l,b=0∨b=1)→abk l<2^l.length
 | [],_=>by simp[abk]
 |b::r,h=>by
  have:=ad3 (fun x hx=>h x (by simp[hx]):∀b ∈ r,b=0∨b=1)
  have hb:=h b (by simp)
  have e:2^(b::r).length=2^r.length+2^r.length:=by rw[List.length_cons,Nat.pow_succ];omega
  unfold abk
  rcases hb with rfl|rfl
  ·have:(0:Int).toNat=0:=rfl
   rw[this,Nat.zero_mul]
   omega
  ·have:(1:Int).toNat=1:=rfl
   rw[this,Nat.one_mul]
   omega
theorem ad7:∀(l:List Int) (s:Nat),(∀b ∈ l,b=0∨b=1)→(s+1)*2^l.length≤1000000000000→l.foldl acx (s:Int)=((s*2^l.length+abk l:Nat):Int)
 | [],s,_,_=>by
   simp only[List.foldl_nil,List.length_nil,Nat.pow_zero,Nat.mul_one,abk,Nat.add_zero]
 |b::r,s,h,hs=>by
  have hb:=h b (by simp)
  have hp:1≤2^r.length:=Nat.one_le_two_pow
  rw[List.length_cons,Nat.pow_succ]at hs
  have e2:(s+1)*(2^r.length*2)=(2*s+2)*2^r.length:=by rw[Nat.mul_comm (2^r.length) 2,←Nat.mul_assoc];congr 1;omega
  rw[e2]at hs
  have hle:2*s+2≤(2*s+2)*2^r.length:=Nat.le_mul_of_pos_right _ (by omega)
  have hsw:acx (s:Int) b=((2*s+b.toNat:Nat):Int):=by
   rw[aes (by omega) (by omega) hb]
   omega
  have hm:(2*s+b.toNat+1)*2^r.length≤(2*s+2)*2^r.length:=Nat.mul_le_mul_right _ (by omega)
  have ih:=ad7 r (2*s+b.toNat) (fun x hx=>h x (by simp[hx])) (by omega)
  rw[List.foldl_cons,hsw,ih,abk,List.length_cons,Nat.pow_succ,Nat.add_mul,Nat.mul_comm (2^r.length) 2,←Nat.mul_assoc,Nat.mul_comm s 2,Nat.add_assoc]
theorem afC {l:List Int}(h:∀b ∈ l,b=0∨b=1)(hl:l.length≤32):gV l=(abk l:Int):=by
 have h32:2^l.length≤2^32:=Nat.pow_le_pow_right (by decide) hl
 have h33:(2:Nat)^32=4294967296:=by decide
 have:=ad7 l 0 h (by omega)
 rw[aeD]
 have this:l.foldl acx 0=_:=this
 rw[this,Nat.zero_mul,Nat.zero_add]
theorem aeE(q x:Nat):∀(w W:Nat),w≤W→q*2^W+x<9223372036854775808→bD ((q*2^W+x:Nat):Int) w=bD ((x:Nat):Int) w
 |0,_,_,_=>rfl
 |w+1,W,hw,hq=>by
  obtain⟨k,hk⟩:∃k,W=(w+1)+k:=⟨W-(w+1),by omega⟩
  have hx:x<9223372036854775808:=by omega
  have e:(q*2^W+x) / 2^w % 2=x / 2^w % 2:=by
   have e1:q*2^W+x=x+2^w*(2*(q*2^k)):=by
    rw[hk,Nat.pow_add,Nat.pow_succ]
    have:q*(2^w*2*2^k)=2^w*(2*(q*2^k)):=by
     rw[Nat.mul_assoc (2^w) 2 (2^k),Nat.mul_left_comm q (2^w),Nat.mul_left_comm q 2]
    rw[this,Nat.add_comm]
   rw[e1,Nat.add_mul_div_left _ _ (Nat.two_pow_pos w)]
   omega
  rw[bD,bD,Wn _ w hq,Wn _ w hx,e,aeE q x w W (by omega) hq]
theorem aeF:∀ {l:List Int},(∀b ∈ l,b=0∨b=1)→l.length≤32→bD ((abk l:Nat):Int) l.length=l
 | [],_,_=>rfl
 |b::r,h,hl=>by
  have hr:∀b ∈ r,b=0∨b=1:=fun x hx=>h x (by simp[hx])
  have hlt:=ad3 hr
  have hlt2:=ad3 h
  have hlr:r.length≤31:=by simpa using hl
  have h32:2^(b::r).length≤2^32:=Nat.pow_le_pow_right (by decide) hl
  have h33:(2:Nat)^32=4294967296:=by decide
  have hb:=h b (by simp)
  have hB:b.toNat<2:=by omega
  have ih:=aeF hr (by omega)
  have hv:abk (b::r)<9223372036854775808:=by omega
  have e1:abk (b::r) / 2^r.length % 2=b.toNat:=by
   unfold abk
   rw[Nat.add_comm,Nat.mul_comm,Nat.add_mul_div_left _ _ (Nat.two_pow_pos _),Nat.div_eq_of_lt hlt,Nat.zero_add,Nat.mod_eq_of_lt hB]
  have e2:bD ((abk (b::r):Nat):Int) r.length=r:=by
   have:=aeE b.toNat (abk r) r.length r.length (Nat.le_refl _) hv
   unfold abk
   rw[this,ih]
  rw[List.length_cons,bD,Wn _ _ hv,e1,e2]
  congr 1
  omega
theorem agJ {l:List Int}{w:Nat}(h:∀b ∈ l,b=0∨b=1)(hw:w≤32)(hl:l.length=w):bD (gV l) w=l:=by
 subst hl
 rw[afC h hw]
 exact aeF h hw
theorem afD {l:List Int}(hl:l.length=64)(h:∀b ∈ l,b=0∨b=1):dR (K2 l)=l:=by
 have hc:∀k,k<8→bD (gV (fQ l k)) 8=fQ l k:=fun k hk=>agJ (fun b hb=>h b (List.mem_of_mem_drop (List.mem_of_mem_take hb))) (by decide) (by rw[sz];omega)
 have e:dR (K2 l)=((List.range 8).map fun k=>fQ l k).flatten:=by
  unfold dR K2
  rw[List.flatMap_map,←List.flatMap_def]
  simp only[List.flatMap_def]
  congr 1
  refine List.map_congr_left fun k hk=> ?_
  exact hc k (List.mem_range.1 hk)
 have e8:(List.range 8).map (fun k=>fQ l k)= [fQ l 0,fQ l 1,fQ l 2,fQ l 3,fQ l 4,fQ l 5,fQ l 6,fQ l 7]:=rfl
 have q:∀n,l.drop (8*n)=(l.drop (8*n)).take 8++l.drop (8*(n+1)):=fun n=>by
  have:=(List.take_append_drop 8 (l.drop (8*n))).symm
  rw[List.drop_drop]at this
  rw[show 8*(n+1)=8*n+8 from by omega]
  exact this
 have q8_z:l.drop (8*8)= []:=List.drop_eq_nil_of_le (by omega)
 have all:l.drop (8*0)=fQ l 0++(fQ l 1++(fQ l 2++(fQ l 3++(fQ l 4++(fQ l 5++(fQ l 6++(fQ l 7++ []))))))):=by
  unfold fQ
  rw[←q8_z,←q 7,←q 6,←q 5,←q 4,←q 3,←q 2,←q 1,←q 0]
 rw[e,e8]
 simp only[List.flatten_cons,List.flatten_nil]
 exact all.symm
theorem afE {st:ab.T}(h:br st=true):qM (nP st)=st:=by
 obtain⟨(a:Int),(b:Int),(c:Int),(d:Int),(e:Int),⟨⟩⟩:=st
 unfold br at h
 simp only[Bool.and_eq_true,aR]at h
 obtain⟨⟨⟨⟨h1,h2⟩,h3⟩,h4⟩,h5⟩:=h
 have l1:=fL a 16
 have l2:=fL b 4
 have l3:=fL c 4
 have l4:=fL d 8
 have l5_z:=fL e 32
 have n1:=acO (v:=a) (w:=16) h1.1 (by decide) (by have:(2:Int)^16=65536:=by decide
                                                  omega)
 have n2:=acO (v:=b) (w:=4) h2.1 (by decide) (by have:(2:Int)^4=16:=by decide
                                                 omega)
 have n3:=acO (v:=c) (w:=4) h3.1 (by decide) (by have:(2:Int)^4=16:=by decide
                                                 omega)
 have n4:=acO (v:=d) (w:=8) h4.1 (by decide) (by have:(2:Int)^8=256:=by decide
                                                 omega)
 have n5:=acO (v:=e) (w:=32) h5.1 (by decide) (by have:(2:Int)^32=4294967296:=by decide
                                                  omega)
 have hs:nP (a,b,c,d,e,())=(((bD a 16++bD b 4)++bD c 4)++bD d 8)++bD e 32:=rfl
 generalize bD a 16=A at *
 generalize bD b 4=B at *
 generalize bD c 4=C at *
 generalize bD d 8=D at *
 generalize bD e 32=E at *
 have t1:((A++B++C++D++E).drop 0).take 16=A:=by
  simp only[List.append_assoc,List.drop_zero]
  exact List.take_left' l1
 have t2:((A++B++C++D++E).drop 16).take 4=B:=by
  simp only[List.append_assoc]
  rw[List.drop_left' l1,List.take_left' l2]
 have t3:((A++B++C++D++E).drop 20).take 4=C:=by
  rw[show A++B++C++D++E=(A++B)++(C++(D++E)) from by simp only[List.append_assoc],List.drop_left' (by simp;omega),List.take_left' l3]
 have t4:((A++B++C++D++E).drop 24).take 8=D:=by
  rw[show A++B++C++D++E=(A++B++C)++(D++E) from by simp only[List.append_assoc],List.drop_left' (by simp;omega),List.take_left' l4]
 have t5:((A++B++C++D++E).drop 32).take 32=E:=by
  rw[List.drop_left' (by simp;omega),List.take_of_length_le (by omega)]
 unfold qM
 rw[hs,t1,t2,t3,t4,t5,n1,n2,n3,n4,n5]
theorem afF {f:aU.T}(hf:bK f=true):cB (bG f)=(f,true):=by
 obtain⟨h1,h2,h3,h4,h5⟩:=G6 hf
 have k1:=aR.1 h1
 have k2:=aR.1 h2
 obtain⟨(k0:Int),(q0:Int),st,(d:List Int),⟨⟩⟩:=f
 simp only at h1 h2 h3 h4 h5 k1 k2
 obtain⟨k,rfl⟩:∃k:Nat,k0=k:=⟨k0.toNat,by omega⟩
 obtain⟨q,rfl⟩:∃q:Nat,q0=q:=⟨q0.toNat,by omega⟩
 have w1:IntKind.i64.wrap ((k:Int)*64)=(k:Int)*64:=by rw[wrap_i64]<;>omega
 have w2:IntKind.i64.wrap ((q:Int)*8)=(q:Int)*8:=by rw[wrap_i64]<;>omega
 have w3:IntKind.i64.wrap ((k:Int)*64+(q:Int)*8)=((k*64+q*8:Nat):Int):=by rw[wrap_i64]<;>omega
 have e:bG ((k:Int),(q:Int),st,d,())=([((k*64+q*8:Nat):Int)]++(if(k:Int) != (0:Int)then K2 (nP st)else []))++(if g9 (k:Int)then(d.length:Int)::d else []):=by
  unfold bG
  simp only[w1,w2,w3]
 have a1:Int.tdiv ((k*64+q*8:Nat):Int) 64=(((k*64+q*8) / 64:Nat):Int):=rfl
 have a2:Int.tdiv ((k*64+q*8:Nat):Int) 8=(((k*64+q*8) / 8:Nat):Int):=rfl
 have c1:bw ((k*64+q*8:Nat):Int)=(k:Int):=by
  unfold bw
  rw[a1,wrap_i64]<;>omega
 have w4:IntKind.i64.wrap (((k*64+q*8) / 8:Nat):Int)=(((k*64+q*8) / 8:Nat):Int):=by rw[wrap_i64]<;>omega
 have a3:Int.tmod (((k*64+q*8) / 8:Nat):Int) 8=(((k*64+q*8) / 8 % 8:Nat):Int):=rfl
 have c2:∀s v,bX ((k*64+q*8:Nat):Int) s v=((k:Int),(q:Int),s,v,()):=fun s v=>by
  have c3:Int.tmod (IntKind.i64.wrap (Int.tdiv ((k*64+q*8:Nat):Int) (8:Int))) (8:Int)=(q:Int):=by
   rw[a2,w4,a3]
   omega
  unfold bX
  rw[c1,c3]
 have hok:xb (bG ((k:Int),(q:Int),st,d,())) ((k:Int),(q:Int),st,d,())=true:=by
  unfold xb
  rw[hf]
  simp
 rw[e]at hok ⊢
 have fin:∀L,xb L ((k:Int),(q:Int),st,d,())=true→vH L ((k*64+q*8:Nat):Int) st (if g9 (k:Int)then(d.length:Int)::d else [])=(((k:Int),(q:Int),st,d,()),true):=fun L hL=>by
  unfold vH
  rw[c1]
  cases hd:g9 (k:Int)with
  |true=>
   simp only[if_true,c2,hL]
  |false=>
   have hd0:d= []:=by
    unfold g9 at hd
    unfold jc at h3
    rw[Bool.or_eq_false_iff]at hd
    have x0:((k:Int)==0)=false:=hd.1
    have x2:((k:Int)==2)=false:=hd.2
    rw[x0,x2]at h3
    have:d.length=0:=by simpa using h3
    exact List.eq_nil_of_length_eq_zero this
   subst hd0
   simp only[c2,hL]
 rcases Bool.eq_false_or_eq_true ((k:Int) != (0:Int))with hk|hk
 ·have hst:=h5 hk
  rw[if_pos hk]at hok ⊢
  have hb8:=hU (nP st)
  have hs:qM (dR (K2 (nP st)))=st:=by rw[afD (K1 st) (UR st hst)];exact afE hst
  generalize K2 (nP st)=Y at *
  have e1:([((k*64+q*8:Nat):Int)]++Y)++(if g9 (k:Int)then(d.length:Int)::d else [])=((k*64+q*8:Nat):Int)::(Y++(if g9 (k:Int)then(d.length:Int)::d else [])):=by simp
  rw[e1]at hok ⊢
  generalize hR:(if g9 (k:Int)then(d.length:Int)::d else [])=R at *
  have hlt:decide (((Y++R).length:Int)<(8:Int))=false:=by rw[List.length_append];exact decide_eq_false (by omega)
  unfold cB
  simp only[c1,hk,hlt]
  rw[List.take_left' hb8,List.drop_left' hb8,hs]
  exact fin _ hok
 ·have hk0:(k:Int)=0:=by simpa using hk
  have hst:st=dV:=by
   unfold bK at hf
   simp only[Bool.and_eq_true]at hf
   have hf5:=hf.2.2.2.2
   have hk2:((k:Int)==(0:Int))=true:=by rw[hk0];rfl
   rw[if_pos hk2]at hf5
   exact(G5 _ _).1 hf5
  have hnp:¬((k:Int) != (0:Int))=true:=by rw[hk];decide
  rw[if_neg hnp]at hok ⊢
  have e1:([((k*64+q*8:Nat):Int)]++ [])++(if g9 (k:Int)then(d.length:Int)::d else [])=((k*64+q*8:Nat):Int)::(if g9 (k:Int)then(d.length:Int)::d else []):=by simp
  rw[e1]at hok ⊢
  unfold cB
  simp only[c1,hk]
  rw[←hst]
  exact fin _ hok
theorem ae8 {f:aU.T}(hf:bK f=true):∃b t,bG f=b::t∧bw b=f.1:=by
 obtain⟨h1,h2,h3,h4,h5⟩:=G6 hf
 have k1:=aR.1 h1
 have k2:=aR.1 h2
 obtain⟨(k0:Int),(q0:Int),st,(d:List Int),⟨⟩⟩:=f
 simp only at h1 h2 h3 h4 h5 k1 k2
 obtain⟨k,rfl⟩:∃k:Nat,k0=k:=⟨k0.toNat,by omega⟩
 obtain⟨q,rfl⟩:∃q:Nat,q0=q:=⟨q0.toNat,by omega⟩
 have w1:IntKind.i64.wrap ((k:Int)*64)=(k:Int)*64:=by rw[wrap_i64]<;>omega
 have w2:IntKind.i64.wrap ((q:Int)*8)=(q:Int)*8:=by rw[wrap_i64]<;>omega
 have w3:IntKind.i64.wrap ((k:Int)*64+(q:Int)*8)=((k*64+q*8:Nat):Int):=by rw[wrap_i64]<;>omega
 have a1:Int.tdiv ((k*64+q*8:Nat):Int) 64=(((k*64+q*8) / 64:Nat):Int):=rfl
 refine⟨((k*64+q*8:Nat):Int),(if(k:Int) != (0:Int)then K2 (nP st)else [])++(if g9 (k:Int)then(d.length:Int)::d else []), ?_, ?_⟩
 ·unfold bG
  simp only[w1,w2,w3,List.nil_append,List.cons_append]
 ·unfold bw
  rw[a1,wrap_i64]<;>omega
theorem adS {m:ac.T}{st:ab.T}{f:aU.T}(h:a8 m=true)(hs:dj m st f=true):vN m st (di f m.1.toNat st)=((3:Int),f,()):=by
 unfold dj at hs
 simp only[Bool.and_eq_true]at hs
 obtain⟨⟨hf,hfit⟩,heq⟩:=hs
 obtain⟨r,er,hr⟩:=zr h
 have e:m.1.toNat=r:=by rw[er,Int.toNat_natCast]
 rw[e]
 obtain⟨b1,b2,b3⟩:=MW hf
 have hfr:=afF hf
 have hlen:(di f r st).length=(bG f).length+3:=by unfold di;simp
 have hbp:av (di f r st)=bG f:=by
  unfold av
  rw[hlen,Nat.add_sub_cancel]
  unfold di
  rw[List.take_left' rfl]
 have hdp:(di f r st).drop ((di f r st).length-3)= [((bE f.1 (bG f) r st / 65536:Nat):Int),((bE f.1 (bG f) r st / 256 % 256:Nat):Int),((bE f.1 (bG f) r st % 256:Nat):Int)]:=by
  rw[hlen,Nat.add_sub_cancel]
  unfold di
  rw[List.drop_left' rfl]
 obtain⟨b,t,hbt,hkb⟩:=ae8 hf
 have hopen:gJ (di f r st) r st=true:=by
  have hc:di f r st=b::(t++ [((bE f.1 (bG f) r st / 65536:Nat):Int),((bE f.1 (bG f) r st / 256 % 256:Nat):Int),((bE f.1 (bG f) r st % 256:Nat):Int)]):=by
   unfold di
   rw[hbt]
   rfl
  have h4:4≤(di f r st).length:=by rw[hlen,hbt,List.length_cons];omega
  generalize hL:di f r st=L at *
  subst hc
  unfold gJ
  simp only[hkb,hbp,hdp,hfr,decide_eq_true h4,heq,decide_true,Bool.and_self]
 unfold vN
 rw[e,hopen,hbp,hfr,hfit]
 rfl
end Go.Proofs.YtkgcbbkodalfmaaGreatDoor
namespace Go.Proofs.YtkgcbbkodalfmaaGreatDoor
open Go.RowKit
set_option linter.unusedVariables false
set_option linter.unusedSimpArgs false
theorem aet(P:Nat→Prop)[DecidablePred P]:∀n j,P (j+n)→∃g,j≤g∧g≤j+n∧P g∧∀i,j≤i→i<g→¬P i
 |0,j,h=>⟨j,Nat.le_refl _,Nat.le_refl _,h,fun i h1 h2=>by omega⟩
 |n+1,j,h=>by
  by_cases hj:P j
  ·exact⟨j,Nat.le_refl _,by omega,hj,fun i h1 h2=>by omega⟩
  ·obtain⟨g,h1,h2,h3,h4⟩:=aet P n (j+1) (by rw[show j+1+n=j+(n+1) from by omega];exact h)
   refine⟨g,by omega,by omega,h3,fun i h5 h6=> ?_⟩
   by_cases hi:i=j
   ·rw[hi];exact hj
   ·exact h4 i (by omega) h6
theorem PB {l:List Int}(h01:∀i,zm l i=0∨zm l i=1)(j:Nat):(b9 l 0 j=none∧∀i,j≤i→zm l i=1)∨∃g,b9 l 0 j=some g∧j≤g∧zm l g=0∧∀i,j≤i→i<g→zm l i=1:=by
 by_cases h:∃n,zm l (j+n)=0
 ·obtain⟨n,hn⟩:=h
  obtain⟨g,h1,h2,h3,h4⟩:=aet (fun i=>zm l i=0) n j hn
  have h5:∀i,j≤i→i<g→zm l i=1:=fun i a b=>by
   rcases h01 i with e|e
   ·exact absurd e (h4 i a b)
   ·exact e
  exact .inr ⟨g,acN h1 h3 h5,h1,h3,h5⟩
 ·have h1:∀i,j≤i→zm l i=1:=fun i a=>by
   rcases h01 i with e|e
   ·exact absurd ⟨i-j,by rw[show j+(i-j)=i from by omega];exact e⟩ h
   ·exact e
  exact .inl ⟨abX h1,h1⟩
theorem aeu {l:List Int}(h01:∀i,zm l i=0∨zm l i=1){a:Nat}(ha:a<l.length):∃h,fK l a=h∧a<h∧h≤l.length∧zm l h=1∧∀i,a<i→i<h→zm l i=0:=by
 have hl:zm l (a+1+(l.length-(a+1)))=1:=by
  rw[show a+1+(l.length-(a+1))=l.length from by omega]
  unfold zm
  rw[if_pos (Nat.le_refl _)]
 obtain⟨g,h1,h2,h3,h4⟩:=aet (fun i=>zm l i=1) (l.length-(a+1)) (a+1) hl
 have h5:∀i,a<i→i<g→zm l i=0:=fun i p q=>by
  rcases h01 i with e|e
  ·exact e
  ·exact absurd e (h4 i (by omega) q)
 exact⟨g,ae2 (by omega) (by omega) h3 h5,by omega,by omega,h3,h5⟩
theorem af5 {l:List Int}(h01:∀i,zm l i=0∨zm l i=1)(h:g8 l=0)(hne:dU l≠ []):∃a0 h0 f e f',a0<l.length∧zm l a0=0∧(∀i,i<a0→zm l i=1)∧a0<h0∧h0≤l.length∧zm l h0=1∧(∀i,a0<i→i<h0→zm l i=0)∧
  aS (Int.tdiv ((h0:Int)-a0+4) 8) 3 15=true∧h0<f∧zm l f=0∧(∀i,h0<i→i<f→zm l i=1)∧QW h0 f=false∧¬((f:Int)-h0<12)∧lr l (l.length+1) f []=some (e,f')∧w9 l f'=0∧dU l=e:=by
 have hE:dU l=(ED l).2.1:=rfl
 have hC:g8 l=(ED l).2.2.1:=rfl
 rw[hC]at h
 rw[hE]at hne ⊢
 unfold ED at h hne ⊢
 rcases PB h01 0 with⟨e0,_⟩|⟨a0,e0,_,z0,b0⟩
 ·rw[e0]at h
  exact absurd h (show ¬(4:Int)=0 by decide)
 ·have ha:=mw e0
  obtain⟨h0,q0,q1,q2,q3,q4⟩:=aeu h01 ha
  rw[e0]at h hne ⊢
  simp only[q0]at h hne ⊢
  by_cases hp:aS (Int.tdiv ((h0:Int)-a0+4) 8) 3 15=true
  ·rw[if_pos hp]at h hne ⊢
   rcases PB h01 (h0+1)with⟨e1,_⟩|⟨f,e1,f1,z1,b1⟩
   ·rw[e1]at h
    exact absurd h (show ¬(6:Int)=0 by decide)
   ·rw[e1]at h hne ⊢
    simp only at h hne ⊢
    by_cases hw:QW h0 f=true
    ·rw[if_pos hw]at h
     exact absurd h (by decide)
    ·rw[if_neg hw]at h hne ⊢
     by_cases h12:(f:Int)-h0<12
     ·rw[if_pos h12]at hne
      exact absurd rfl hne
     ·rw[if_neg h12]at h hne ⊢
      cases he:lr l (l.length+1) f []with
      |none=>
       rw[he]at h
       exact absurd h (show ¬(6:Int)=0 by decide)
      |some r=>
       obtain⟨e,f'⟩:=r
       rw[he]at h
       exact⟨a0,h0,f,e,f',ha,z0,fun i hi=>b0 i (by omega) hi,q1,q2,q3,q4,hp,by omega,z1,fun i p q=>b1 i (by omega) q,by simpa using hw,h12,he,h,rfl⟩
  ·rw[if_neg hp]at h
   exact absurd h (by decide)
structure Cut (U D:List Int) (a:Nat):Prop where
 len:D.length=U.length
 u01:∀i,zm U i=0∨zm U i=1
 d01:∀i,zm D i=0∨zm D i=1
 lo:∀i,i<a→zm D i=zm U i
 hi:∀i,a+2≤i→zm D i=1
 up_z:∀i,zm U i=1→zm D i=1
section
variable {U D:List Int} {a:Nat}
theorem Cut.dead(c:Cut U D a)(f:Nat)(hf:a+1≤f):∀(fuel:Nat) (acc:List Int),lr D fuel f acc=none
 |0,_=>rfl
 |n+1,acc=>by
  have h1:zm D (f+76)=1:=c.hi _ (by omega)
  have h2:¬zm D (f+76)=0:=by rw[h1];decide
  have h3:b9 D 0 (f+77)=none:=abX fun i hi=>c.hi i (by omega)
  rw[lr,if_neg h2,h3]
theorem Cut.raised(c:Cut U D a){i:Nat}(h0:zm U i=0)(h1:zm D i=1):a≤i:=by
 rcases Nat.lt_or_ge i a with h|h
 ·have:=c.lo i h
  rw[h0,h1]at this
  exact absurd this (by decide)
 ·exact h
theorem Cut.edges(c:Cut U D a){e:List Int}{f':Nat}:∀(fuel f:Nat) (acc:List Int),lr U fuel f acc=some (e,f')→lr D fuel f acc=none∨(lr D fuel f acc=some (e,f')∧f'+4≤a+1∧f+72≤f'∧∀x ∈ e,x ∈ acc∨x.toNat+72≤f')
 |0,_,_,h=>by cases h
 |n+1,f,acc,h=>by
  rw[lr]at h
  by_cases h0:zm U (f+76)=0
  ·rw[if_pos h0]at h
   cases h
   rcases c.d01 (f+76)with d0|d0
   ·refine .inr ⟨by rw[lr,if_pos d0], ?_,Nat.le_refl _,fun x hx=> ?_⟩
    ·have:¬a+2≤f+76:=fun q=>by
      rw[c.hi _ q]at d0
      exact absurd d0 (by decide)
     omega
    ·rcases List.mem_append.1 hx with hx|hx
     ·exact .inl hx
     ·simp only[List.mem_singleton]at hx
      subst hx
      exact .inr (by rw[Int.toNat_natCast];exact Nat.le_refl _)
   ·left
    have hr:=c.raised h0 d0
    have h2:¬zm D (f+76)=0:=by rw[d0];decide
    rw[lr,if_neg h2]
    rcases PB c.d01 (f+77)with⟨e1,_⟩|⟨g,e1,g1,z1,_⟩
    ·rw[e1]
    ·rw[e1]
     simp only
     split
     ·rfl
     ·exact c.dead g (by omega) n _
  ·rw[if_neg h0]at h
   have u1:zm U (f+76)=1:=by
    rcases c.u01 (f+76)with q|q
    ·exact absurd q h0
    ·exact q
   have d0:¬zm D (f+76)=0:=by rw[c.up_z _ u1];decide
   rcases PB c.u01 (f+77)with⟨e1,_⟩|⟨g,e1,g1,z1,b1⟩
   ·rw[e1]at h
    cases h
   ·rw[e1]at h
    simp only at h
    by_cases hg:f+84<g
    ·rw[if_pos hg]at h
     cases h
    ·rw[if_neg hg]at h
     rw[lr,if_neg d0]
     have bD_z:∀i,f+77≤i→i<g→zm D i=1:=fun i p q=>c.up_z i (b1 i p q)
     rcases c.d01 g with dg_z|dg_z
     ·rw[acN g1 dg_z bD_z]
      simp only
      rw[if_neg hg]
      rcases c.edges n g (acc++ [(f:Int)]) h with q|⟨q1,q2,q3,q4⟩
      ·exact .inl q
      ·refine .inr ⟨q1,q2,by omega,fun x hx=> ?_⟩
       rcases q4 x hx with hx|hx
       ·rcases List.mem_append.1 hx with hx|hx
        ·exact .inl hx
        ·simp only[List.mem_singleton]at hx
         subst hx
         exact .inr (by rw[Int.toNat_natCast];omega)
       ·exact .inr hx
     ·left
      have hr:=c.raised z1 dg_z
      rcases PB c.d01 (f+77)with⟨e2,_⟩|⟨g',e2,g2,z2,_⟩
      ·rw[e2]
      ·rw[e2]
       simp only
       split
       ·rfl
       ·have hgg:g≤g':=by
         rcases Nat.lt_or_ge g' g with q|q
         ·rw[bD_z g' g2 q]at z2
          exact absurd z2 (by decide)
         ·exact q
        have hne:g'≠g:=fun q=>by
         rw[q,dg_z]at z2
         exact absurd z2 (by decide)
        exact c.dead g' (by omega) n _
theorem aeG(c:Cut U D a)(f:Nat)(hf:f+68<a):∀k,k≤8→jR D f k=jR U f k
 |0,_=>rfl
 |k+1,hk=>by
  rw[jR,jR,aeG c f hf k (by omega),c.lo (f+8*k+12) (by omega)]
theorem Cut.run(c:Cut U D a)(hU_z:g8 U=0)(hne:dU U≠ []):g8 D≠0∨(g8 D=0∧vD D (dU D)=vD U (dU U)):=by
 obtain⟨a0,h0,f,e,f',p1,p2,p3,p4_z,p5_z,p6_z,p7_z,p8_z,p9_z,p10,p11,p12,p13,p14,p15,p16⟩:=af5 c.u01 hU_z hne
 have six:¬(6:Int)=0:=by decide
 have hC:g8 D=(ED D).2.2.1:=rfl
 have hE:dU D=(ED D).2.1:=rfl
 rw[hC,hE,p16]
 unfold ED
 rcases PB c.d01 0 with⟨e0,_⟩|⟨a1,e0,_,z0,b0⟩
 ·rw[e0]
  exact .inl (show ¬(4:Int)=0 by decide)
 ·rw[e0]
  simp only
  have ha1:=mw e0
  have hge:a0≤a1:=by
   rcases Nat.lt_or_ge a1 a0 with q|q
   ·rw[c.up_z a1 (p3 a1 q)]at z0
    exact absurd z0 (by decide)
   ·exact q
  rcases c.d01 a0 with d0|d0
  ·have ea:a1=a0:=by
    rcases Nat.lt_or_ge a0 a1 with q|q
    ·rw[b0 a0 (by omega) q]at d0
     exact absurd d0 (by decide)
    ·omega
   subst ea
   obtain⟨h1,q0,q1,q2,q3,q4⟩:=aeu c.d01 ha1
   rw[q0]
   have hle:h1≤h0:=by
    rcases Nat.lt_or_ge h0 h1 with q|q
    ·have:=c.up_z h0 p6_z
     rw[q4 h0 p4_z q]at this
     exact absurd this (by decide)
    ·exact q
   rcases Nat.lt_or_ge h1 h0 with hlt|hge2
   ·have hr:=c.raised (p7_z h1 q1 hlt) q3
    left
    split
    ·rcases PB c.d01 (h1+1)with⟨e2,_⟩|⟨f1,e2,g2,z2,_⟩
     ·rw[e2]
      exact six
     ·rw[e2]
      have hf1:f1=h1+1:=by
       rcases Nat.lt_or_ge (h1+1) f1 with q|q
       ·rw[c.hi f1 (by omega)]at z2
        exact absurd z2 (by decide)
       ·omega
      have hw:QW h1 f1=true:=by
       unfold QW
       rw[hf1]
       have:decide ((((h1+1:Nat):Int))-(h1:Int)<5)=true:=decide_eq_true (by omega)
       rw[this]
       simp
      simp only
      rw[if_pos hw]
      exact six
    ·exact six
   ·have eh_z:h1=h0:=by omega
    subst eh_z
    rw[if_pos p8_z]
    have bD_z:∀i,h1+1≤i→i<f→zm D i=1:=fun i p q=>c.up_z i (p11 i (by omega) q)
    rcases c.d01 f with df_z|df_z
    ·rw[acN (show h1+1≤f by omega) df_z bD_z]
     have hw:¬QW h1 f=true:=by rw[p12];decide
     simp only
     rw[if_neg hw,if_neg p13,c.len]
     rcases c.edges _ f [] p14 with q|⟨r1,r2,r3,r4_z⟩
     ·rw[q]
      exact .inl six
     ·rw[r1]
      right
      have ht:w9 D f'=0:=by
       unfold w9 at p15 ⊢
       rcases PB c.u01 (f'+12)with⟨e3,b3⟩|⟨g,e3,_⟩
       ·rw[abX fun i hi=>c.up_z i (b3 i hi)]
        rfl
       ·rw[e3]at p15
        exact absurd p15 (show ¬(6:Int)=0 by decide)
      refine⟨ht, ?_⟩
      unfold vD
      refine List.map_congr_left fun x hx=> ?_
      rcases r4_z x hx with q|q
      ·cases q
      ·exact aeG c _ (by omega) 8 (Nat.le_refl _)
    ·have hr:=c.raised p10 df_z
     left
     rcases PB c.d01 (h1+1)with⟨e2,_⟩|⟨f1,e2,g2,z2,_⟩
     ·rw[e2]
      exact six
     ·rw[e2]
      have hff:f≤f1:=by
       rcases Nat.lt_or_ge f1 f with q|q
       ·rw[bD_z f1 g2 q]at z2
        exact absurd z2 (by decide)
       ·exact q
      have hne2:f1≠f:=fun q=>by
       rw[q,df_z]at z2
       exact absurd z2 (by decide)
      simp only
      split
      ·exact six
      ·split
       ·rename_i hq
        omega
       ·rw[c.dead f1 (by omega)]
        exact six
  ·have hr:=c.raised p2 d0
   left
   have hne3:a1≠a0:=fun q=>by
    rw[q,d0]at z0
    exact absurd z0 (by decide)
   have h1:fK D a1=a1+1:=ae2 (by omega) (by omega) (c.hi _ (by omega)) (fun i p q=>by omega)
   rw[h1]
   have hp:¬aS (Int.tdiv (((a1+1:Nat):Int)-a1+4) 8) 3 15=true:=by
    rw[show((a1+1:Nat):Int)-a1+4=5 from by omega]
    decide
   rw[if_neg hp]
   exact six
end
theorem acA(l:List Int)(i:Nat):zm (qg l) i=if i<l.length then vb l i else 1:=by
 unfold zm
 rw[Au]
 by_cases h:i<l.length
 ·have:=KT (fun i (_:Int)=>vb l i) l 0 i h
  rw[Nat.zero_add]at this
  have e:(qg l)[i]? =some (vb l i):=this
  rw[if_neg (by omega),if_pos h,List.getD_eq_getElem?_getD,e]
  rfl
 ·rw[if_pos (by omega),if_neg h]
theorem afG {y z:List Int}{a:Nat}(hy:∀v ∈ y,v=0∨v=1)(hlen:z.length=y.length)(lo:∀i,i<a→z[i]? =y[i]?)(hi:∀i,a≤i→i<y.length→z[i]? =some 1):Cut (qg y) (qg z) a:=by
 have w01:∀k:Int,k<y.length→ns y k=0∨ns y k=1:=fun k hk=>by
  unfold ns
  split
  ·exact .inr rfl
  ·have hq:k.toNat<y.length:=by omega
   rw[List.getD_eq_getElem?_getD,List.getElem?_eq_getElem hq]
   exact hy _ (List.getElem_mem hq)
 have wlo:∀k:Int,k<a→ns z k=ns y k:=fun k hk=>by
  unfold ns
  split
  ·rfl
  ·rw[List.getD_eq_getElem?_getD,List.getD_eq_getElem?_getD,lo _ (by omega)]
 have whi:∀k:Int,(a:Int)≤k→k<y.length→ns z k=1:=fun k h1 h2=>by
  unfold ns
  rw[if_neg (by omega),List.getD_eq_getElem?_getD,hi _ (by omega) (by omega)]
  rfl
 have wup:∀k:Int,k<y.length→ns y k≤ns z k∧0≤ns z k:=fun k hk=>by
  rcases Int.lt_or_le k a with h|h
  ·rw[wlo k h]
   have:=w01 k hk
   omega
  ·rw[whi k h hk]
   have:=w01 k hk
   omega
 have vb01:∀(l:List Int) (i:Nat),vb l i=0∨vb l i=1:=fun l i=>by
  unfold vb
  split
  ·exact .inr rfl
  ·exact .inl rfl
 refine⟨by rw[Au,Au];exact hlen,fun i=> ?_,fun i=> ?_,fun i h=> ?_,fun i h=> ?_,fun i h=> ?_⟩
 ·rw[acA]
  split
  ·exact vb01 _ _
  ·exact .inr rfl
 ·rw[acA]
  split
  ·exact vb01 _ _
  ·exact .inr rfl
 ·rw[acA,acA,hlen]
  split
  ·unfold vb jZ
   rw[wlo _ (by omega),wlo _ (by omega),wlo _ (by omega),wlo _ (by omega),wlo _ (by omega)]
  ·rfl
 ·rw[acA,hlen]
  split
  ·rename_i hl
   unfold vb jZ
   have u1:=(wup ((i:Int)-4) (by omega)).2
   have u2:=(wup ((i:Int)-3) (by omega)).2
   rw[whi ((i:Int)-2) (by omega) (by omega),whi ((i:Int)-1) (by omega) (by omega),whi (i:Int) (by omega) (by omega),if_pos (by omega)]
  ·rfl
 ·rw[acA]at h ⊢
  rw[hlen]
  split
  ·rename_i hl
   rw[if_pos hl]at h
   unfold vb jZ at h ⊢
   have u1:=(wup ((i:Int)-4) (by omega)).1
   have u2:=(wup ((i:Int)-3) (by omega)).1
   have u3:=(wup ((i:Int)-2) (by omega)).1
   have u4:=(wup ((i:Int)-1) (by omega)).1
   have u5:=(wup (i:Int) (by omega)).1
   by_cases hq:ns y ((i:Int)-4)+ns y ((i:Int)-3)+ns y ((i:Int)-2)+ns y ((i:Int)-1)+ns y i≥3
   ·rw[if_pos (by omega)]
   ·rw[if_neg hq]at h
    exact absurd h (by decide)
  ·rfl
theorem aeA {y z data:List Int}{a:Nat}(hy:∀v ∈ y,v=0∨v=1)(hlen:z.length=y.length)(lo:∀i,i<a→z[i]? =y[i]?)(hi:∀i,a≤i→i<y.length→z[i]? =some 1)
  (hd:cX y=(data,(0:Int),())) (hne:data≠ []):(cX z).2.1≠0∨cX z=(data,(0:Int),()):=by
 have c:=afG hy hlen lo hi
 have hU_z:g8 (qg y)=0∧vD (qg y) (dU (qg y))=data:=by
  unfold cX at hd
  by_cases h:g8 (qg y)=0
  ·rw[if_pos h]at hd
   exact⟨h,congrArg Prod.fst hd⟩
  ·rw[if_neg h]at hd
   exact absurd (congrArg (fun x:List Int×Int×Unit=>x.2.1) hd) h
 have hE:dU (qg y)≠ []:=fun q=>by
  rw[q]at hU_z
  exact hne hU_z.2.symm
 unfold cX
 rcases c.run hU_z.1 hE with q|⟨q1,q2⟩
 ·rw[if_neg q]
  exact .inl q
 ·rw[if_pos q1,q2,hU_z.2]
  exact .inr rfl
end Go.Proofs.YtkgcbbkodalfmaaGreatDoor
namespace Go.Proofs.YtkgcbbkodalfmaaGreatDoor
open Go.RowKit
set_option linter.unusedVariables false
set_option linter.unusedSimpArgs false
theorem aby(m:ac.T)(st:ab.T)(f:aU.T):fM m st f=GB 8 ((bL m st).2.2.2.1.toNat-(19+10*(di f m.1.toNat st).length)) (di f m.1.toNat st):=rfl
theorem acy {m:ac.T}{st:ab.T}{f:aU.T}(hs:dj m st f=true):bK f=true:=by
 unfold dj at hs
 simp only[Bool.and_eq_true]at hs
 exact hs.1.1
theorem acz {m:ac.T}{st:ab.T}{f:aU.T}(h:a8 m=true)(hf:bK f=true):∀v ∈ di f m.1.toNat st,0≤v∧v≤255:=by
 obtain⟨r,er,hr⟩:=zr h
 have e:m.1.toNat=r:=by rw[er,Int.toNat_natCast]
 rw[e]
 exact(Fl hf hr).1
theorem ad8 {m:ac.T}{st:ab.T}{f:aU.T}{B A:Nat}{y:List Int}{fl_z:Int→Int}(h:a8 m=true)(hs:dj m st f=true)(hn:ac9 B A (di f m.1.toNat st) y fl_z):gK m st y=((3:Int),f,()):=by
 unfold gK
 rw[hn.decoded (acz h (acy hs)),if_pos rfl]
 exact adS h hs
theorem ae4 {m:ac.T}{st:ab.T}{f:aU.T}(h:a8 m=true)(hs:dj m st f=true):gK m st (fy (fM m st f))=((3:Int),f,()):=
 ad8 h hs (by rw[aby];exact abx _ _ _ (acz h (acy hs)))
theorem ae9 {v:Int}(h:v=0∨v=1):xg v=1-v:=by
 unfold xg
 rw[wrap_i64]<;>omega
theorem adI(x:List Int)(n:Nat):(vP xg x n (n+1)).length=x.length:=by
 unfold vP
 rw[zt]
theorem afH {x:List Int}(h01:∀(i:Nat) (hi:i<x.length),x[i]=0∨x[i]=1)(n:Nat):∀(i:Nat) (hi:i<(vP xg x n (n+1)).length),(vP xg x n (n+1))[i]=if i=n then 1-x[i]'(by rw[adI]at hi;exact hi)else x[i]'(by rw[adI]at hi;exact hi):=by
 intro i hi
 have hx:i<x.length:=by rw[adI]at hi;exact hi
 by_cases ha:n<x.length
 ·have e:vP xg x n (n+1)=x.set n (xg (x.getD n 0)):=by
   unfold vP
   rw[show min (n+1) x.length-min n x.length=1 from by omega,show min n x.length=n from by omega]
   rfl
  simp only[e,List.getElem_set]
  by_cases hq:n=i
  ·subst hq
   rw[if_pos rfl,if_pos rfl,List.getD_eq_getElem?_getD,List.getElem?_eq_getElem hx]
   exact ae9 (h01 n hx)
  ·rw[if_neg hq,if_neg (fun q=>hq q.symm)]
 ·have e:vP xg x n (n+1)=x:=by
   unfold vP
   rw[show min (n+1) x.length-min n x.length=0 from by omega]
   rfl
  simp only[e]
  rw[if_neg (by omega)]
theorem afa {m:ac.T}{st:ab.T}{f:aU.T}(h:a8 m=true)(hs:dj m st f=true)(a c v:Int):gK m st (gp (fy (fM m st f)) ((1:Int),a,c,v,()))=((3:Int),f,()):=by
 have hb:=acz (st:=st) h (acy hs)
 have e:gp (fy (fM m st f)) ((1:Int),a,c,v,())=vP xg (fy (fM m st f)) a.toNat (a.toNat+1):=by
  unfold gp
  exact if_pos rfl
 rw[e,aby]
 generalize hA:(bL m st).2.2.2.1.toNat-(19+10*(di f m.1.toNat st).length)=A
 have h01:∀(i:Nat) (hi:i<(fy (GB 8 A (di f m.1.toNat st))).length),(fy (GB 8 A (di f m.1.toNat st)))[i]=0∨(fy (GB 8 A (di f m.1.toNat st)))[i]=1:=fun i hi=>by
  have:=(abx 8 A (di f m.1.toNat st) hb).at_ i hi
  rcases this with⟨_,q⟩|⟨_,q⟩
  ·exact .inr q
  ·exact .inl q
 refine ad8 (B:=8) (A:=A) h hs (ae7 8 A _ hb _ a.toNat ?_ ?_)
 ·unfold vP
  rw[zt]
 ·exact afH h01 a.toNat
theorem aeH:∀(k i:Nat) (l:List Int),i+k=l.length→(∀j,j<i→(chg (fun _=>1) k i l)[j]? =l[j]?)∧∀j,i≤j→j<l.length→(chg (fun _=>1) k i l)[j]? =some 1
 |0,i,l,h=>⟨fun j _=>rfl,fun j h1 h2=>by omega⟩
 |k+1,i,l,h=>by
  obtain⟨h1,h2⟩:=aeH k (i+1) (l.set i 1) (by rw[List.length_set];omega)
  refine⟨fun j hj=> ?_,fun j hj hl=> ?_⟩
  ·rw[chg,h1 j (by omega),List.getElem?_set,if_neg (by omega)]
  ·by_cases hq:j=i
   ·rw[chg,h1 j (by omega),hq,List.getElem?_set,if_pos rfl,if_pos (by omega)]
   ·rw[chg]
    exact h2 j (by omega) (by rw[List.length_set];exact hl)
theorem aev(m:ac.T)(st:ab.T){z:List Int}(h:(cX z).2.1≠0):(gK m st z).2.1.2.1=(0:Int):=by
 unfold gK
 rw[if_neg h]
 split<;>rfl
theorem aew {m:ac.T}{st:ab.T}{f:aU.T}(h:a8 m=true)(hs:dj m st f=true)(h0:f.2.1=(0:Int))(a c v:Int):(gK m st (gp (fy (fM m st f)) ((5:Int),a,c,v,()))).2.1.2.1=(0:Int):=by
 have hb:=acz (st:=st) h (acy hs)
 have e:gp (fy (fM m st f)) ((5:Int),a,c,v,())=vP (fun _=>1) (fy (fM m st f)) a.toNat (fy (fM m st f)).length:=by
  unfold gp
  rw[if_neg (show ¬(5:Int)=1 by decide),if_neg (show ¬(5:Int)=2 by decide),if_neg (show ¬(5:Int)=3 by decide),if_neg (show ¬(5:Int)=4 by decide)]
  exact if_pos rfl
 rw[e]
 have hd:cX (fy (fM m st f))=(di f m.1.toNat st,(0:Int),()):=by
  rw[aby]
  exact(abx _ _ _ hb).decoded hb
 have hne:di f m.1.toNat st≠ []:=by unfold di;simp
 have h01:∀v ∈ fy (fM m st f),v=0∨v=1:=fun v hv=>by
  rw[aby]at hv
  obtain⟨i,hi,rfl⟩:=List.getElem_of_mem hv
  rcases(abx _ _ _ hb).at_ i hi with⟨_,q⟩|⟨_,q⟩
  ·exact .inr q
  ·exact .inl q
 generalize fy (fM m st f)=x at *
 unfold vP
 rw[Nat.min_self]
 obtain⟨c1,c2⟩:=aeH (x.length-min a.toNat x.length) (min a.toNat x.length) x (by omega)
 rcases aeA (a:=min a.toNat x.length) h01 (by rw[zt]) c1 c2 hd hne with q|q
 ·exact aev m st q
 ·unfold gK
  rw[q,if_pos rfl,adS h hs]
  exact h0
theorem afb(m:ac.T)(st:ab.T)(z:List Int):(gK m st z).2.1.2.1=(0:Int)∨(bK (gK m st z).2.1=true∧ji (bL m st) (gK m st z).2.1=true):=by
 by_cases h:(cX z).2.1=0
 ·unfold gK
  rw[if_pos h]
  unfold vN
  cases hj:gJ (cX z).1 m.1.toNat st&&ji (bL m st) (cB (av (cX z).1)).1 with
  |false=>exact .inl rfl
  |true=>
   rw[Bool.and_eq_true]at hj
   exact .inr ⟨EJ (MV hj.1),hj.2⟩
 ·exact .inl (aev m st h)
theorem ad9 {m:ac.T}{st:ab.T}(hk:(bL m st).2.1=(3:Int))(z:List Int):(gK m st z).2.1.2.1=(0:Int):=by
 rcases afb m st z with q|⟨q1,q2⟩
 ·exact q
 ·unfold ji at q2
  simp only[Bool.and_eq_true]at q2
  have h3:(gK m st z).2.1.1=(3:Int):=by
   have:(gK m st z).2.1.1=(bL m st).2.1:=by simpa using q2.1
   rw[this,hk]
  unfold bK at q1
  simp only[Bool.and_eq_true]at q1
  have q5:=q1.2.2.2.2
  have e0:((gK m st z).2.1.1==(0:Int))=false:=by rw[h3];rfl
  have e3:((gK m st z).2.1.1==(3:Int))=true:=by rw[h3];rfl
  rw[e0,e3]at q5
  simp only[Bool.false_eq_true,if_false,if_true,Bool.and_eq_true]at q5
  simpa using q5.2.2.2
theorem afc {m:ac.T}{st:ab.T}(h:a8 m=true)(hb:aC m st=true)(hk:(bL m st).2.1≠(3:Int)){fill:Int}(hf:aS fill 0 255=true):dj m st (bV m st fill 0)=true:=by
 obtain⟨_,_,hq⟩:=dF m st h hb
 obtain⟨n,hn,hn2⟩:=EN hq
 unfold kU at hq
 simp only[Bool.and_eq_true]at hq
 obtain⟨_,hk1,hk2,_⟩:=hq
 have hst:br st=true:=by unfold aC at hb;rw[Bool.and_eq_true]at hb;exact hb.1
 have hlen:((List.replicate (bL m st).2.2.1.toNat fill).length:Int)=(bL m st).2.2.1:=by rw[List.length_replicate,hn,Int.toNat_natCast]
 have e1:(bV m st fill 0).1=(bL m st).2.1:=rfl
 have e2:(bV m st fill 0).2.1=(0:Int):=rfl
 have e3:(bV m st fill 0).2.2.1=if((bL m st).2.1 != (0:Int))=true then st else dV:=rfl
 have e4:(bV m st fill 0).2.2.2.1=List.replicate (bL m st).2.2.1.toNat fill:=rfl
 have hby:jb (List.replicate (bL m st).2.2.1.toNat fill)=true:=by
  unfold jb
  simp only[Bool.and_eq_true,List.all_eq_true]
  refine⟨by rw[hlen,hn];exact decide_eq_true (by omega),fun v hv=> ?_⟩
  rw[List.eq_of_mem_replicate hv]
  exact hf
 have hn3:((bL m st).2.1==(3:Int))=false:=by simpa using hk
 have hbb:∀x:Int,(x==x)=true:=fun x=>by simp
 have hin:aS 0 0 7=true:=rfl
 unfold dj bK ji
 rw[e1,e2,e3,e4,hlen]
 simp only[hk1,hk2,hby,hn3,hbb,hin,Bool.true_and,Bool.and_true,Bool.true_or,Bool.false_eq_true,if_false]
 rcases Bool.eq_false_or_eq_true ((bL m st).2.1 != (0:Int))with k|k
 ·have k0:((bL m st).2.1==(0:Int))=false:=by simpa using k
  rw[k0,if_pos k]
  simp only[k,Bool.not_true,Bool.false_or,Bool.false_eq_true,if_false,hst,(G5 st st).2 rfl,Bool.and_self]
 ·have k0:((bL m st).2.1==(0:Int))=true:=by simpa using k
  have kn:¬((bL m st).2.1 != (0:Int))=true:=by rw[k];decide
  rw[k0,if_neg kn]
  simp only[k,Bool.not_false,Bool.true_or,if_true,Bool.and_true]
  exact(G5 dV dV).2 rfl
theorem aeB(a b:aB.T):jE a b=a∨jE a b=b∨∃s,jE a b=fp s:=by
 unfold jE
 repeat' split
 all_goals first
  |exact .inl rfl
  |exact .inr (.inl rfl)
  |exact .inr (.inr ⟨_,rfl⟩)
theorem af6 {a b:aB.T}(ha:a.1=(3:Int)):jE a b=a∨jE a b=fp 4:=by
 have e:(a.1==(3:Int))=true:=by rw[ha];rfl
 unfold jE
 rw[e]
 repeat' split
 all_goals first
  |exact .inl rfl
  |exact .inr rfl
  |simp_all
theorem af7 {a b:aB.T}(hb:b.1=(3:Int)):jE a b=b∨(∃s,jE a b=fp s)∨(jE a b=a∧a.2.1=b.2.1):=by
 have e:(b.1==(3:Int))=true:=by rw[hb];rfl
 unfold jE
 rw[e]
 by_cases h1:(a.1==(3:Int))=true
 ·rw[h1]
  by_cases h2:cp a.2.1 b.2.1=true
  ·rw[h2]
   exact .inr (.inr ⟨rfl,(Cb _ _).1 h2⟩)
  ·have h2:cp a.2.1 b.2.1=false:=by simpa using h2
   rw[h2]
   exact .inr (.inl ⟨4,rfl⟩)
 ·have h1:(a.1==(3:Int))=false:=by simpa using h1
  rw[h1]
  simp only[Bool.false_and,Bool.false_eq_true,if_false,Bool.false_or,if_true]
  split
  ·exact .inr (.inl ⟨4,rfl⟩)
  ·exact .inl rfl
abbrev ada(v:aB.T):Int:=v.2.1.2.1
theorem aeI {a b:aB.T}(ha:ada a=0)(hb:ada b=0):ada (jE a b)=0:=by
 rcases aeB a b with e|e|⟨s,e⟩
 ·rw[e];exact ha
 ·rw[e];exact hb
 ·rw[e];rfl
theorem aex {a b:aB.T}(h:a.1=(3:Int))(ha:ada a=0):ada (jE a b)=0:=by
 rcases af6 (b:=b) h with e|e
 ·rw[e];exact ha
 ·rw[e];rfl
theorem afI {a b:aB.T}(h:b.1=(3:Int))(hb:ada b=0):ada (jE a b)=0:=by
 rcases af7 (a:=a) h with e|⟨s,e⟩|⟨e,e2⟩
 ·rw[e];exact hb
 ·rw[e];rfl
 ·rw[e]
  show a.2.1.2.1=0
  rw[e2]
  exact hb
end Go.Proofs.YtkgcbbkodalfmaaGreatDoor
