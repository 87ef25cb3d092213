import Derived.Test.YtkgcbbkodalfmaaGreatDoorQ3
namespace Go.Proofs.YtkgcbbkodalfmaaGreatDoor
open Go.RowKit
set_option linter.unusedVariables false
set_option linter.unusedSimpArgs false
theorem yl {α:Type}(q:α→Bool):∀(l:List α) (i:Nat) (g:Nat) (h:g<l.length),q l[g]=true→(∀k (hk:k<g),q (l[k]'(by omega))=false)→cd q i l=some (i+g)
 | [],_,_,h,_,_=>by simp at h
 |v::r,i,0,_,h1,_=>by
  have h1:q v=true:=h1
  simp[cd,h1]
 |v::r,i,g+1,h,h1,h2=>by
  have h0:q v=false:=h2 0 (by omega)
  have ih:=yl q r (i+1) g (by simpa using h) h1 (fun k hk=>h2 (k+1) (by omega))
  simp only[cd,h0,ih]
  simp;omega
theorem Ab {α:Type}(q:α→Bool):∀(l:List α) (i:Nat),(∀v ∈ l,q v=false)→cd q i l=none
 | [],_,_=>rfl
 |v::r,i,h=>by simp[cd,h v (by simp),Ab q r (i+1) (fun w hw=>h w (by simp[hw]))]
theorem CU {l:List Int}{i:Nat}(h:i<l.length):bT l i=l[i]:=by
 unfold bT
 rw[if_neg (by omega),List.getD_eq_getElem?_getD,List.getElem?_eq_getElem h]
 rfl
theorem OS {l:List Int}{i:Nat}(h:bT l i=0):i<l.length:=by
 unfold bT at h
 split at h
 ·cases h
 ·omega
theorem yn {l:List Int}{j g:Nat}(hj:j≤g)(hg:bT l g=0)(hb:∀i,j≤i→i<g→bT l i=1):bh l 0 j=some g:=by
 have hlt:=OS hg
 have h:=yl (fun x:Int=>x==0) (l.drop j) j (g-j) (by simp;omega) (by
  rw[CU hlt]at hg
  simp only[List.getElem_drop,show j+(g-j)=g from by omega,hg];rfl) (fun k hk=>by
  have:=hb (j+k) (by omega) (by omega)
  rw[CU (by omega)]at this
  simp only[List.getElem_drop,this];rfl)
 unfold bh
 rw[h]
 congr 1;omega
theorem oT {l:List Int}{j:Nat}(hb:∀i,j≤i→bT l i=1):bh l 0 j=none:=by
 unfold bh
 refine Ab _ _ _ fun v hv=> ?_
 obtain⟨k,hk,rfl⟩:=List.getElem_of_mem hv
 have hk':j+k<l.length:=by simp at hk;omega
 have:=hb (j+k) (by omega)
 rw[CU hk']at this
 simp only[List.getElem_drop,this];rfl
theorem WH {l:List Int}{a h:Nat}(ha:a<h)(hl:h≤l.length)(hh:bT l h=1)(hb:∀i,a<i→i<h→bT l i=0):eV l a=h:=by
 unfold eV
 rcases Nat.lt_or_ge h l.length with hlt|hge
 ·have:=yl (fun x:Int=>x==1) (l.drop (a+1)) (a+1) (h-(a+1)) (by simp;omega) (by
   rw[CU hlt]at hh
   simp only[List.getElem_drop,show a+1+(h-(a+1))=h from by omega,hh];rfl) (fun k hk=>by
   have:=hb (a+1+k) (by omega) (by omega)
   rw[CU (by omega)]at this
   simp only[List.getElem_drop,this];rfl)
  unfold bh
  rw[this]
  simp only;omega
 ·have:bh l 1 (a+1)=none:=by
   unfold bh
   refine Ab _ _ _ fun v hv=> ?_
   obtain⟨k,hk,rfl⟩:=List.getElem_of_mem hv
   have hk':a+1+k<l.length:=by simp at hk;omega
   have:=hb (a+1+k) (by omega) (by omega)
   rw[CU hk']at this
   simp only[List.getElem_drop,this];rfl
  rw[this]
  simp only;omega
structure Hl (n:Nat) (bv:Nat→Nat→Int) (cv:Nat→Int):Prop where
 pre:∀j,j<8→cv j=0
 gap:cv 8=1
 one:∀b,b<n→cv (9+10*b)=1
 zero:∀b,b<n→cv (10+10*b)=0
 bit:∀b k,b<n→k<8→cv (11+10*b+k)=bv b k
 low:cv (9+10*n)=0
 high:cv (10+10*n)=1
structure Shaped (y:List Int) (n:Nat) (cv:Nat→Int) (e:Nat→Nat):Prop where
 idle:∀i,i<e 0→bT y i=1
 cell:∀j,j<10+10*n→∀i,e j≤i→i<e (j+1)→bT y i=cv j
 rest:∀i,e (10+10*n)≤i→bT y i=1
 near:∀j m,m≤10→j+m≤10+10*n→e j+8*m≤e (j+m)+3∧e (j+m)≤e j+8*m+3
section
variable {y:List Int} {n:Nat} {bv:Nat→Nat→Int} {cv:Nat→Int} {e:Nat→Nat}
theorem Shaped.runs(h:Shaped y n cv e)(v:Int):∀(m j:Nat),j+m≤10+10*n→(∀k,j≤k→k<j+m→cv k=v)→∀i,e j≤i→i<e (j+m)→bT y i=v
 |0,j,_,_,i,h1,h2=>by simp at h2;omega
 |m+1,j,hj,hv,i,h1,h2=>by
  by_cases hi:i<e (j+m)
  ·exact h.runs v m j (by omega) (fun k hk hk2=>hv k hk (by omega)) i h1 hi
  ·have:=h.cell (j+m) (by omega) i (by omega) h2
   rw[this];exact hv (j+m) (by omega) (by omega)
theorem Shaped.edges(h:Shaped y n cv e)(hc:Hl n bv cv):∀(k b fuel:Nat) (acc:List Int),b+(k+1)=n→k<fuel→
  dJ y fuel (e (10+10*b)) acc=some (acc++(List.range (k+1)).map (fun q=>((e (10+10*(b+q)):Nat):Int)),e (10+10*(n-1))+72)
 |k,b,0,acc,hb,hf=>by omega
 |k,b,fuel+1,acc,hb,hf=>by
  have n9:=h.near (10+10*b) 9 (by omega) (by omega)
  have n10:=h.near (10+10*b) 10 (by omega) (by omega)
  have e9:10+10*b+9=9+10*(b+1):=by omega
  have e10:10+10*b+10=10+10*(b+1):=by omega
  rw[e9]at n9
  rw[e10]at n10
  have hs:=h.cell (9+10*(b+1)) (by omega) (e (10+10*b)+76) (by omega) (by
   rw[show 9+10*(b+1)+1=10+10*(b+1) from by omega];omega)
  cases k with
  |zero=>
   have hbn:b+1=n:=by omega
   rw[hbn,hc.low]at hs
   simp only[dJ,if_pos hs]
   have:n-1=b:=by omega
   rw[this]
   rfl
  |succ k=>
   have hbn:b+1<n:=by omega
   rw[hc.one (b+1) hbn]at hs
   have hs':¬bT y (e (10+10*b)+76)=0:=by rw[hs];decide
   have hz:=h.near (10+10*(b+1)) 1 (by omega) (by omega)
   have hzero:=h.cell (10+10*(b+1)) (by omega) (e (10+10*(b+1))) (by omega) (by omega)
   rw[hc.zero (b+1) hbn]at hzero
   have hfirst:bh y 0 (e (10+10*b)+77)=some (e (10+10*(b+1))):=yn (by omega) hzero (fun i hi hi2=>by
    have:=h.cell (9+10*(b+1)) (by omega) i (by omega) (by
     rw[show 9+10*(b+1)+1=10+10*(b+1) from by omega];omega)
    rw[this];exact hc.one (b+1) hbn)
   have hle:¬e (10+10*b)+84<e (10+10*(b+1)):=by omega
   simp only[dJ,if_neg hs',hfirst,if_neg hle]
   rw[h.edges hc k (b+1) fuel _ (by omega) (by omega)]
   rw[List.range_succ_eq_map (n:=k+1),List.map_cons,List.map_map]
   simp only[List.append_assoc,List.singleton_append,Nat.add_zero]
   congr 5
   funext q
   simp only[Function.comp,Nat.succ_eq_add_one]
   rw[show b+(q+1)=b+1+q from by omega]
theorem Shaped.grow(h:Shaped y n cv e):∀b,b<n→b≤e (10+10*b)
 |0,_=>by omega
 |b+1,hb=>by
  have ih:=h.grow b (by omega)
  have n10:=h.near (10+10*b) 10 (by omega) (by omega)
  rw[show 10+10*b+10=10+10*(b+1) from by omega]at n10
  omega
theorem Shaped.tail(h:Shaped y n cv e){f:Nat}(hf:e (10+10*n)≤f+12):nB y f=0:=by
 unfold nB
 rw[oT (fun i hi=>h.rest i (by omega))]
 rfl
theorem Shaped.run(h:Shaped y n cv e)(hc:Hl n bv cv):dV y=0∧cO y=(List.range n).map (fun b=>((e (10+10*b):Nat):Int)):=by
 have n8:=h.near 0 8 (by omega) (by omega)
 rw[Nat.zero_add]at n8
 have n1:=h.near 0 1 (by omega) (by omega)
 have n81:=h.near 8 1 (by omega) (by omega)
 have n91:=h.near 9 1 (by omega) (by omega)
 simp only[Nat.zero_add,Nat.reduceAdd]at n1 n81 n91
 have h0:bT y (e 0)=0:=by
  have:=h.cell 0 (by omega) (e 0) (by omega) (by simp only[Nat.zero_add];omega)
  rw[this];exact hc.pre 0 (by omega)
 have fa:bh y 0 0=some (e 0):=yn (by omega) h0 (fun i _ hi=>h.idle i hi)
 have hrun:=h.runs 0 8 0 (by omega) (fun k _ hk=>hc.pre k (by omega))
 rw[Nat.zero_add]at hrun
 have h8:bT y (e 8)=1:=by
  have:=h.cell 8 (by omega) (e 8) (by omega) (show e 8<e 9 by omega)
  rw[this];exact hc.gap
 have hlen:e 8≤y.length:=by
  have:=OS (hrun (e 8-1) (by omega) (by omega))
  omega
 have fh:eV y (e 0)=e 8:=WH (by omega) hlen h8 (fun i h1 h2=>hrun i (by omega) h2)
 have hd:Int.tdiv ((e 8:Int)-(e 0:Int)+4) 8=8:=by
  rw[Int.tdiv_eq_ediv_of_nonneg (by omega)]
  omega
 have hin:aP (8:Int) 3 15=true:=by decide
 cases n with
 |zero=>
  have h9:bT y (e 9)=0:=by
   have:=h.cell 9 (by omega) (e 9) (by omega) (show e 9<e 10 by omega)
   rw[this];exact hc.low
  have ff:bh y 0 (e 8+1)=some (e 9):=yn (by omega) h9 (fun i h1 h2=>by
   have:=h.cell 8 (by omega) i (by omega) h2
   rw[this];exact hc.gap)
  have hw:lQ (e 8) (e 9)=false:=by
   unfold lQ
   simp only[Bool.or_eq_false_iff,decide_eq_false_iff_not]
   omega
  have hlt:(e 9:Int)-(e 8:Int)<12:=by omega
  have ht:=h.tail (f:=e 9) (show e 10≤e 9+12 by omega)
  have:lA y=((8:Int),[],(0:Int),()):=by
   unfold lA
   simp only[fa,fh,hd,hin,if_true,ff,hw,hlt,ht]
   rfl
  unfold dV cO
  rw[this]
  exact⟨rfl,rfl⟩
 |succ n=>
  have n82:=h.near 8 2 (by omega) (by omega)
  simp only[Nat.reduceAdd]at n82
  have n101:e 10+8*1≤e 11+3∧e 11≤e 10+8*1+3:=h.near 10 1 (by omega) (by omega)
  have h10:bT y (e 10)=0:=by
   have:=h.cell 10 (by omega) (e 10) (by omega) (show e 10<e 11 by omega)
   rw[this];exact hc.zero 0 (by omega)
  have hr2:=h.runs 1 2 8 (by omega) (fun k h1 h2=>by
   have:k=8∨k=9:=by omega
   rcases this with rfl|rfl
   ·exact hc.gap
   ·exact hc.one 0 (by omega))
  have ff:bh y 0 (e 8+1)=some (e 10):=yn (by omega) h10 (fun i h1 h2=>hr2 i (by omega) h2)
  have hw:lQ (e 8) (e 10)=false:=by
   unfold lQ
   simp only[Bool.or_eq_false_iff,decide_eq_false_iff_not]
   omega
  have hlt:¬(e 10:Int)-(e 8:Int)<12:=by omega
  have hg:=h.grow n (by omega)
  have n10:=h.near (10+10*n) 10 (by omega) (by omega)
  rw[show 10+10*n+10=10+10*(n+1) from by omega]at n10
  have nz:=h.near (10+10*n) 1 (by omega) (by omega)
  have hl2:e (10+10*n)<y.length:=OS (by
   have:=h.cell (10+10*n) (by omega) (e (10+10*n)) (by omega) (show e (10+10*n)<e (10+10*n+1) by omega)
   rw[this];exact hc.zero n (by omega))
  have he:=h.edges hc n 0 (y.length+1) [] (by omega) (by omega)
  simp only[Nat.mul_zero,Nat.add_zero,List.nil_append,Nat.zero_add,Nat.add_sub_cancel]at he
  have ht:=h.tail (f:=e (10+10*n)+72) (by omega)
  have:lA y=((8:Int),(List.range (n+1)).map (fun b=>((e (10+10*b):Nat):Int)),(0:Int),()):=by
   unfold lA
   simp only[fa,fh,hd,hin,if_true,ff,hw,if_neg hlt,he,ht]
   rfl
  unfold dV cO
  rw[this]
  exact⟨rfl,rfl⟩
theorem Shaped.val(h:Shaped y n cv e)(hc:Hl n bv cv)(b:Nat)(hb:b<n)(k:Nat)(hk:k<8):bT y (e (10+10*b)+8*k+12)=bv b k:=by
 have n1:=h.near (10+10*b) (k+1) (by omega) (by omega)
 have n2:=h.near (10+10*b) (k+2) (by omega) (by omega)
 have:=h.cell (11+10*b+k) (by omega) (e (10+10*b)+8*k+12) (by
  rw[show 11+10*b+k=10+10*b+(k+1) from by omega];omega) (by
  rw[show 11+10*b+k+1=10+10*b+(k+2) from by omega];omega)
 rw[this]
 exact hc.bit b k hb hk
theorem Shaped.bytes(h:Shaped y n cv e)(hc:Hl n bv cv):lR y (cO y)=(List.range n).map fun b=>2*(2*(2*(2*(2*(2*(2*bv b 0+bv b 1)+bv b 2)+bv b 3)+bv b 4)+bv b 5)+bv b 6)+bv b 7:=by
 rw[(h.run hc).2]
 unfold lR
 rw[List.map_map]
 refine List.map_congr_left fun b hb=> ?_
 have hb:b<n:=List.mem_range.1 hb
 have hv:=fun k hk=>h.val hc b hb k hk
 simp only[Function.comp,Int.toNat_natCast,iw,hv 0 (by omega),hv 1 (by omega),hv 2 (by omega),hv 3 (by omega),hv 4 (by omega),hv 5 (by omega),hv 6 (by omega),hv 7 (by omega)]
 omega
end
structure gM (l:List Int) (M:Nat) (cv:Nat→Int) (p:Nat→Nat) (fl:Int→Int):Prop where
 c01:∀j,cv j=0∨cv j=1
 last:cv M=1
 f0:∀i,0≤fl i
 f6:∀i,fl i+fl (i+1)+fl (i+2)+fl (i+3)+fl (i+4)+fl (i+5)≤1
 idle:∀i:Int,i<p 0→cR l i=1-fl i
 one:∀j,j≤M→cv j=1→∀i:Int,(p j:Int)≤i→i<l.length→(j<M→i<p (j+1))→cR l i=1-fl i
 zero:∀j,j≤M→cv j=0→∀i:Int,(p j:Int)≤i→i<l.length→(j<M→i<p (j+1))→cR l i=fl i
 wide:∀j,j<M→p j+7≤p (j+1)
 long:p M+3≤l.length
 near:∀j m,m≤10→j+m≤M→p j+8*m≤p (j+m)+1∧p (j+m)≤p j+8*m+1
section
variable {l:List Int} {M:Nat} {cv:Nat→Int} {p:Nat→Nat} {fl:Int→Int}
theorem aap(i:Nat):vb l i=0∨vb l i=1:=by
 unfold vb
 split
 ·exact .inr rfl
 ·exact .inl rfl
theorem Hm(i:Nat):(vb l i=1∧3≤cR l ((i:Int)-4)+cR l ((i:Int)-3)+cR l ((i:Int)-2)+cR l ((i:Int)-1)+cR l i)∨(vb l i=0∧cR l ((i:Int)-4)+cR l ((i:Int)-3)+cR l ((i:Int)-2)+cR l ((i:Int)-1)+cR l i<3):=by
 unfold vb jP
 split
 ·rename_i h;exact .inl ⟨rfl,h⟩
 ·rename_i h;exact .inr ⟨rfl,by omega⟩
theorem gM.six(h:gM l M cv p fl)(i:Int):0≤fl (i-4)∧0≤fl (i-3)∧0≤fl (i-2)∧0≤fl (i-1)∧0≤fl i∧0≤fl (i+1)∧fl (i-4)+fl (i-3)+fl (i-2)+fl (i-1)+fl i+fl (i+1)≤1:=by
 have:=h.f6 (i-4)
 rw[show i-4+1=i-3 from by omega,show i-4+2=i-2 from by omega,show i-4+3=i-1 from by omega,show i-4+4=i from by omega,show i-4+5=i+1 from by omega]at this
 exact⟨h.f0 _,h.f0 _,h.f0 _,h.f0 _,h.f0 _,h.f0 _,this⟩
theorem gM.of(h:gM l M cv p fl){j:Nat}(hj:j≤M){i:Int}(h1:(p j:Int)≤i)(h2:i<l.length)(h3:j<M→i<p (j+1)):(cv j=1∧cR l i=1-fl i)∨(cv j=0∧cR l i=fl i):=by
 rcases h.c01 j with h0|h0
 ·exact .inr ⟨h0,h.zero j hj h0 i h1 h2 h3⟩
 ·exact .inl ⟨h0,h.one j hj h0 i h1 h2 h3⟩
def ld(cv:Nat→Int):Nat→Int
 |0=>1
 |j+1=>cv j
theorem gM.ahead(h:gM l M cv p fl):∀ {j:Nat},j≤M→∀ {i:Int},i<p j→(p j:Int)≤i+7→i<l.length→(ld cv j=1∧cR l i=1-fl i)∨(ld cv j=0∧cR l i=fl i)
 |0,_,i,h1,_,_=>.inl ⟨rfl,h.idle i h1⟩
 |j+1,hj,i,h1,h2,h3=>by
  have hw:=h.wide j (by omega)
  exact h.of (j:=j) (by omega) (by omega) h3 (fun _=>h1)
theorem gM.mid(h:gM l M cv p fl){j:Nat}(hj:j≤M){i:Nat}(h1:p j+3≤i)(h2:i<l.length)(h3:j<M→i≤p (j+1)):vb l i=cv j:=by
 have h6:=h.six i
 have hb:=Hm (l:=l) i
 have a1:=h.of hj (i:=(i:Int)-1) (by omega) (by omega) (fun hm=>by have:=h3 hm;omega)
 have a2:=h.of hj (i:=(i:Int)-2) (by omega) (by omega) (fun hm=>by have:=h3 hm;omega)
 have a3:=h.of hj (i:=(i:Int)-3) (by omega) (by omega) (fun hm=>by have:=h3 hm;omega)
 by_cases hi:j<M∧i=p (j+1)
 ·have hw:=h.wide j hi.1
  have a4:=h.of hj (i:=(i:Int)-4) (by omega) (by omega) (fun hm=>by have:=h3 hm;omega)
  have a0:=h.of (j:=j+1) (by omega) (i:=(i:Int)) (by omega) (by omega) (fun hm=>by have:=h.wide (j+1) hm;omega)
  omega
 ·have a0:=h.of hj (i:=(i:Int)) (by omega) (by omega) (fun hm=>by have:=h3 hm;omega)
  by_cases h4:p j+4≤i
  ·have a4:=h.of hj (i:=(i:Int)-4) (by omega) (by omega) (fun hm=>by have:=h3 hm;omega)
   omega
  ·have a4:=h.ahead hj (i:=(i:Int)-4) (by omega) (by omega) (by omega)
   omega
theorem gM.edge(h:gM l M cv p fl){j:Nat}(hj:j≤M):(ld cv j=cv j→vb l (p j+1)=cv j)∧(vb l (p j+1)=cv j→vb l (p j+2)=cv j):=by
 have hp:p j+3≤l.length:=by
  rcases Nat.lt_or_ge j M with hm|hm
  ·have:=h.long
   have:∀m,j+m≤M→p j≤p (j+m):=by
    intro m
    induction m with
    |zero=>intro _;exact Nat.le_refl _
    |succ m ih=>
     intro hm
     have:=h.wide (j+m) (by omega)
     have:=ih (by omega)
     rw[←Nat.add_assoc]
     omega
   have:=this (M-j) (by omega)
   rw[show j+(M-j)=M from by omega]at this
   omega
  ·have:j=M:=by omega
   subst this
   exact h.long
 have hw:j<M→p j+7≤p (j+1):=fun hm=>h.wide j hm
 have b3:=h.ahead hj (i:=(p j:Int)-3) (by omega) (by omega) (by omega)
 have b2:=h.ahead hj (i:=(p j:Int)-2) (by omega) (by omega) (by omega)
 have b1:=h.ahead hj (i:=(p j:Int)-1) (by omega) (by omega) (by omega)
 have c0:=h.of hj (i:=(p j:Int)) (by omega) (by omega) (fun hm=>by have:=hw hm;omega)
 have c1:=h.of hj (i:=(p j:Int)+1) (by omega) (by omega) (fun hm=>by have:=hw hm;omega)
 have c2:=h.of hj (i:=(p j:Int)+2) (by omega) (by omega) (fun hm=>by have:=hw hm;omega)
 have e1:=Hm (l:=l) (p j+1)
 have e2:=Hm (l:=l) (p j+2)
 rw[show((p j+1:Nat):Int)-4=(p j:Int)-3 from by omega,show((p j+1:Nat):Int)-3=(p j:Int)-2 from by omega,show((p j+1:Nat):Int)-2=(p j:Int)-1 from by omega,show((p j+1:Nat):Int)-1=(p j:Int) from by omega,show((p j+1:Nat):Int)=(p j:Int)+1 from by omega]at e1
 rw[show((p j+2:Nat):Int)-4=(p j:Int)-2 from by omega,show((p j+2:Nat):Int)-3=(p j:Int)-1 from by omega,show((p j+2:Nat):Int)-2=(p j:Int) from by omega,show((p j+2:Nat):Int)-1=(p j:Int)+1 from by omega,show((p j+2:Nat):Int)=(p j:Int)+2 from by omega]at e2
 have h6:=h.six ((p j:Int)+1)
 rw[show(p j:Int)+1-4=(p j:Int)-3 from by omega,show(p j:Int)+1-3=(p j:Int)-2 from by omega,show(p j:Int)+1-2=(p j:Int)-1 from by omega,show(p j:Int)+1-1=(p j:Int) from by omega,show(p j:Int)+1+1=(p j:Int)+2 from by omega]at h6
 constructor
 ·intro hq;omega
 ·intro hq;omega
def rP(l:List Int)(cv:Nat→Int)(p:Nat→Nat)(j:Nat):Nat:=if vb l (p j+1)=cv j then p j+1 else if vb l (p j+2)=cv j then p j+2 else p j+3
theorem nH(j:Nat):p j+1≤rP l cv p j∧rP l cv p j≤p j+3:=by
 unfold rP
 split
 ·omega
 ·split<;>omega
theorem gM.vote(h:gM l M cv p fl){j:Nat}(hj:j≤M){i:Nat}(h1:rP l cv p j≤i)(h2:i<l.length)(h3:j<M→i<rP l cv p (j+1)):vb l i=cv j:=by
 obtain⟨r1,r2⟩:=h.edge hj
 have ra:=nH (l:=l) (cv:=cv) (p:=p) j
 by_cases hA:i<p j+3
 ·have hi:i=p j+1∨i=p j+2:=by omega
  unfold rP at h1
  rcases hi with rfl|rfl
  ·split at h1
   ·assumption
   ·split at h1<;>omega
  ·split at h1
   ·rename_i hq;exact r2 hq
   ·split at h1
    ·assumption
    ·omega
 ·by_cases hB:j<M→i≤p (j+1)
  ·exact h.mid hj (by omega) h2 hB
  ·have hm:j<M:=by
    rcases Nat.lt_or_ge j M with hm|hm
    ·exact hm
    ·exact absurd (fun h=>absurd h (by omega)) hB
   have hB:p (j+1)<i:=by
    rcases Nat.lt_or_ge (p (j+1)) i with hq|hq
    ·exact hq
    ·exact absurd (fun _=>hq) hB
   obtain⟨s1,_⟩:=h.edge (j:=j+1) (by omega)
   have rb:=nH (l:=l) (cv:=cv) (p:=p) (j+1)
   have h3:=h3 hm
   have hc:=h.c01 j
   have hc1:=h.c01 (j+1)
   have hv:=aap (l:=l) i
   have hi:i=p (j+1)+1∨i=p (j+1)+2:=by omega
   unfold rP at h3
   have hs:ld cv (j+1)=cv j:=rfl
   rw[hs]at s1
   rcases hi with rfl|rfl
   ·split at h3
    ·omega
    ·omega
   ·split at h3
    ·omega
    ·split at h3
     ·omega
     ·omega
theorem gM.shaped {n:Nat}(h:gM l (10+10*n) cv p fl):Shaped (ie l) n cv (rP l cv p):=by
 have at_v:∀i,i<l.length→bT (ie l) i=vb l i:=fun i hi=>by
  have hi':i<(ie l).length:=by rw[pE];exact hi
  rw[CU hi']
  have:=wB (fun i (_:Int)=>vb l i) l 0 i hi
  have e:(ie l)[i]? =some (vb l (0+i)):=this
  rw[List.getElem?_eq_getElem hi',Nat.zero_add]at e
  exact Option.some.inj e
 have at_far:∀i,l.length≤i→bT (ie l) i=1:=fun i hi=>by
  unfold bT
  rw[pE,if_pos hi]
 have mono:∀m j,j+m≤10+10*n→p j+m≤p (j+m):=by
  intro m
  induction m with
  |zero=>intro j _;exact Nat.le_refl _
  |succ m ih=>
   intro j hm
   have:=h.wide (j+m) (by omega)
   have:=ih j (by omega)
   have e:j+(m+1)=j+m+1:=rfl
   rw[e]
   omega
 have hlong:=h.long
 refine⟨fun i hi=> ?_,fun j hj i h1 h2=> ?_,fun i hi=> ?_,fun j m hm hj=> ?_⟩
 ·have r:=nH (l:=l) (cv:=cv) (p:=p) 0
  have hm0:=mono (10+10*n) 0 (by omega)
  rw[Nat.zero_add]at hm0
  have hil:i<l.length:=by omega
  rw[at_v i hil]
  have hv:=aap (l:=l) i
  by_cases hp:i≤p 0
  ·have h6:=h.six i
   have hb:=Hm (l:=l) i
   have a1:=h.idle ((i:Int)-1) (by omega)
   have a2:=h.idle ((i:Int)-2) (by omega)
   have a3:=h.idle ((i:Int)-3) (by omega)
   have a4:=h.idle ((i:Int)-4) (by omega)
   have a0:cR l i=1-fl i∨cR l i=fl i:=by
    by_cases hq:i<p 0
    ·exact .inl (h.idle i (by omega))
    ·have hw:=h.wide 0 (by omega)
     have hz:0+1=1:=rfl
     rw[hz]at hw
     rcases h.of (j:=0) (by omega) (i:=(i:Int)) (by omega) (by omega) (fun _=>by rw[hz];omega)with q|q
     ·exact .inl q.2
     ·exact .inr q.2
   omega
  ·obtain⟨s1,_⟩:=h.edge (j:=0) (by omega)
   have hc:=h.c01 0
   have hs:ld cv 0=1:=rfl
   rw[hs]at s1
   have hii:i=p 0+1∨i=p 0+2:=by omega
   unfold rP at hi
   rcases hii with rfl|rfl
   ·split at hi
    ·omega
    ·omega
   ·split at hi
    ·omega
    ·split at hi
     ·omega
     ·omega
 ·have r:=nH (l:=l) (cv:=cv) (p:=p) (j+1)
  have hm:=mono (10+10*n-(j+1)) (j+1) (by omega)
  rw[show j+1+(10+10*n-(j+1))=10+10*n from by omega]at hm
  have hil:i<l.length:=by omega
  rw[at_v i hil]
  exact h.vote (by omega) h1 hil (fun _=>h2)
 ·rcases Nat.lt_or_ge i l.length with hil|hil
  ·rw[at_v i hil,h.vote (Nat.le_refl _) hi hil (fun hq=>absurd hq (Nat.lt_irrefl _))]
   exact h.last
  ·exact at_far i hil
 ·have r1:=nH (l:=l) (cv:=cv) (p:=p) j
  have r2:=nH (l:=l) (cv:=cv) (p:=p) (j+m)
  have hn:=h.near j m hm hj
  omega
theorem gM.decoded {n:Nat}{bv:Nat→Nat→Int}(h:gM l (10+10*n) cv p fl)(hc:Hl n bv cv):cG l=((List.range n).map (fun b=>2*(2*(2*(2*(2*(2*(2*bv b 0+bv b 1)+bv b 2)+bv b 3)+bv b 4)+bv b 5)+bv b 6)+bv b 7),(0:Int),()):=by
 have hs:=h.shaped
 unfold Proofs.YtkgcbbkodalfmaaGreatDoor.cG
 rw[if_pos (hs.run hc).1,hs.bytes hc]
end
end Go.Proofs.YtkgcbbkodalfmaaGreatDoor
namespace Go.Proofs.YtkgcbbkodalfmaaGreatDoor
open Go.RowKit
set_option linter.unusedVariables false
set_option linter.unusedSimpArgs false
theorem Kx {α:Type}{w:Nat}{g:α→List Int}(hg:∀b,(g b).length=w):∀(l:List α) (b k:Nat) (hb:b<l.length),k<w→(l.flatMap g)[w*b+k]? =(g l[b])[k]?
 |x::r,0,k,_,hk=>by
  rw[List.flatMap_cons,Nat.mul_zero,Nat.zero_add,List.getElem?_append_left (by rw[hg];exact hk)]
  rfl
 |x::r,b+1,k,hb,hk=>by
  have e:w*(b+1)+k=(w*b+k)+w:=by rw[Nat.mul_succ];omega
  rw[List.flatMap_cons,e,List.getElem?_append_right (by rw[hg];omega),hg,Nat.add_sub_cancel,Kx hg r b k (by simpa using hb) hk]
  rfl
theorem Ky {α:Type}{w:Nat}{g:α→List Int}(hg:∀b,(g b).length=w):∀l:List α,(l.flatMap g).length=w*l.length
 | []=>by simp
 |x::r=>by rw[List.flatMap_cons,List.length_append,hg,Ky hg r,List.length_cons,Nat.mul_succ];omega
theorem Vi(v:Int):∀(w k:Nat),k<w→(aU v w)[k]? =some (bt v (w-1-k))
 |w+1,0,_=>rfl
 |w+1,k+1,h=>by
  have:=Vi v w k (by omega)
  rw[aU,List.getElem?_cons_succ,this,show w+1-1-(k+1)=w-1-k from by omega]
def ji(l:List Int)(j:Nat):Int:=(fQ l).getD j 1
def Ac(l:List Int)(b k:Nat):Int:=bt (l.getD b 0) (7-k)
theorem GT(b:Int):([1,0]++aU b 8).length=10:=by simp only[List.length_append,dA,List.length_cons,List.length_nil]
theorem sW {l:List Int}{j:Nat}{v:Int}(h:(fQ l)[j]? =some v):ji l j=v:=by
 unfold ji
 rw[List.getD_eq_getElem?_getD,h]
 rfl
theorem CV(l:List Int)(b k:Nat)(hb:b<l.length)(hk:k<10):(fQ l)[9+10*b+k]? =([1,0]++aU l[b] 8)[k]? :=by
 have h9:(List.replicate 8 (0:Int)++ [1]).length=9:=rfl
 have hf:=Ky (w:=10) GT l
 unfold fQ
 rw[List.getElem?_append_left (by rw[List.length_append,h9,hf];omega),List.getElem?_append_right (by rw[h9];omega),h9,show 9+10*b+k-9=10*b+k from by omega]
 exact Kx (w:=10) GT l b k hb hk
theorem Td(l:List Int)(k:Nat):(fQ l)[9+10*l.length+k]? =([0,1]:List Int)[k]? :=by
 have h9:(List.replicate 8 (0:Int)++ [1]).length=9:=rfl
 have hf:=Ky (w:=10) GT l
 unfold fQ
 rw[List.getElem?_append_right (by rw[List.length_append,h9,hf];omega),List.length_append,h9,hf]
 congr 1
 omega
theorem rQ(l:List Int):Hl l.length (Ac l) (ji l) where
 pre:=fun j hj=>sW (by
  have h9:(List.replicate 8 (0:Int)++ [1]).length=9:=rfl
  unfold fQ
  rw[List.getElem?_append_left (by rw[List.length_append,h9];omega),List.getElem?_append_left (by rw[h9];omega),List.getElem?_append_left (by simpa using hj),List.getElem?_replicate,if_pos hj])
 gap:=sW (by
  have h9:(List.replicate 8 (0:Int)++ [1]).length=9:=rfl
  unfold fQ
  rw[List.getElem?_append_left (by rw[List.length_append,h9];omega),List.getElem?_append_left (by rw[h9];omega)]
  rfl)
 one:=fun b hb=>sW (by
  have:=CV l b 0 hb (by omega)
  rw[Nat.add_zero]at this
  rw[this]
  rfl)
 zero:=fun b hb=>sW (by
  have:=CV l b 1 hb (by omega)
  rw[show 9+10*b+1=10+10*b from by omega]at this
  rw[this]
  rfl)
 bit:=fun b k hb hk=>sW (by
  have:=CV l b (2+k) hb (by omega)
  rw[show 9+10*b+(2+k)=11+10*b+k from by omega]at this
  rw[this,List.getElem?_append_right (by simp),show 2+k-([1,0]:List Int).length=k from by simp,Vi l[b] 8 k hk]
  unfold Ac
  rw[List.getD_eq_getElem?_getD,List.getElem?_eq_getElem hb]
  rfl)
 low:=sW (by rw[show 9+10*l.length=9+10*l.length+0 from rfl,Td];rfl)
 high:=sW (by rw[show 10+10*l.length=9+10*l.length+1 from by omega,Td];rfl)
theorem Yy {v:Int}(h0:0≤v)(h1:v≤255):2*(2*(2*(2*(2*(2*(2*bt v 7+bt v 6)+bt v 5)+bt v 4)+bt v 3)+bt v 2)+bt v 1)+bt v 0=v:=by
 obtain⟨n,rfl⟩:∃n:Nat,v=n:=⟨v.toNat,by omega⟩
 have b:∀k,bt (n:Int) k=((n / 2^k % 2:Nat):Int):=fun k=>yd n k (by omega)
 simp only[b]
 simp only[Nat.reducePow]
 omega
theorem MW {l:List Int}(h:∀v ∈ l,0≤v∧v≤255):(List.range l.length).map (fun b=>2*(2*(2*(2*(2*(2*(2*Ac l b 0+Ac l b 1)+Ac l b 2)+Ac l b 3)+Ac l b 4)+Ac l b 5)+Ac l b 6)+Ac l b 7)=l:=by
 refine List.ext_getElem (by simp) fun i h1 h2=> ?_
 have hv:=h _ (List.getElem_mem h2)
 rw[List.getElem_map,List.getElem_range]
 have e:l.getD i 0=l[i]:=by rw[List.getD_eq_getElem?_getD,List.getElem?_eq_getElem h2];rfl
 show 2*(2*(2*(2*(2*(2*(2*bt (l.getD i 0) 7+bt (l.getD i 0) 6)+bt (l.getD i 0) 5)+bt (l.getD i 0) 4)+bt (l.getD i 0) 3)+bt (l.getD i 0) 2)+bt (l.getD i 0) 1)+bt (l.getD i 0) 0=l[i]
 rw[e]
 exact Yy hv.1 hv.2
theorem CW(c:List Int)(i:Nat)(h:i<8*c.length):(aZ c)[i]? =some (c[i / 8]'(by omega)):=by
 have hi:i / 8<c.length:=by omega
 have e:=Kx (w:=8) (g:=fun c:Int=>List.replicate 8 c) (fun b=>by simp) c (i / 8) (i % 8) hi (by omega)
 rw[show 8*(i / 8)+i % 8=i from by omega]at e
 unfold aZ
 rw[e,List.getElem?_replicate,if_pos (by omega)]
def eS(B A:Nat)(l:List Int):List Int:=(List.replicate B (1:Int)++fQ l)++List.replicate A 1
theorem rR(B A:Nat)(l:List Int):(eS B A l).length=B+(11+10*l.length)+A:=by
 unfold eS
 simp only[List.length_append,List.length_replicate,sR]
theorem CX(B A:Nat)(l:List Int)(i:Nat)(h:i<(eS B A l).length):(eS B A l)[i]=if i<B then 1 else ji l (i-B):=by
 have hl:=rR B A l
 have hll:=sR l
 have e:(eS B A l)[i]? =some (if i<B then 1 else ji l (i-B)):=by
  unfold eS
  by_cases h1:i<B
  ·rw[if_pos h1,List.getElem?_append_left (by simp;omega),List.getElem?_append_left (by simpa using h1),List.getElem?_replicate,if_pos h1]
  ·rw[if_neg h1]
   by_cases h2:i-B<(fQ l).length
   ·rw[List.getElem?_append_left (by simp;omega),List.getElem?_append_right (by simp;omega),List.length_replicate]
    unfold ji
    rw[List.getD_eq_getElem?_getD,List.getElem?_eq_getElem h2]
    rfl
   ·rw[List.getElem?_append_right (by simp;omega),List.getElem?_replicate,if_pos (by simp;omega)]
    unfold ji
    rw[List.getD_eq_getElem?_getD,List.getElem?_eq_none (by omega)]
    rfl
 rw[List.getElem?_eq_getElem h]at e
 exact Option.some.inj e
theorem Kz {l:List Int}(h:∀v ∈ l,0≤v∧v≤255)(j:Nat):ji l j=0∨ji l j=1:=by
 unfold ji
 rw[List.getD_eq_getElem?_getD]
 by_cases hj:j<(fQ l).length
 ·rw[List.getElem?_eq_getElem hj]
  exact U9 h _ (List.getElem_mem hj)
 ·rw[List.getElem?_eq_none (by omega)]
  exact .inr rfl
theorem wH(l:List Int)(j:Nat)(h:10+10*l.length≤j):ji l j=1:=by
 by_cases hj:j=10+10*l.length
 ·rw[hj]
  exact(rQ l).high
 ·unfold ji
  rw[List.getD_eq_getElem?_getD,List.getElem?_eq_none (by rw[sR];omega)]
  rfl
structure sX (B A:Nat) (l y:List Int) (fl:Int→Int):Prop where
 len:y.length=8*(B+(11+10*l.length)+A)
 f0:∀i,0≤fl i
 neg:∀i,i<0→fl i=0
 f6:∀i,fl i+fl (i+1)+fl (i+2)+fl (i+3)+fl (i+4)+fl (i+5)≤1
 at_:∀(i:Nat) (h:i<y.length),((aZ (eS B A l))[i]? =some 1∧y[i]=1-fl i)∨((aZ (eS B A l))[i]? =some 0∧y[i]=fl i)
theorem sX.cell {B A:Nat}{l y:List Int}{fl:Int→Int}(h:sX B A l y fl)(i:Nat)(hi:i<y.length):((if i / 8<B then 1 else ji l (i / 8-B))=1∧cR y (i:Int)=1-fl i)∨((if i / 8<B then 1 else ji l (i / 8-B))=0∧cR y (i:Int)=fl i):=by
 have hw:cR y (i:Int)=y[i]:=by
  unfold cR
  rw[if_neg (by omega),Int.toNat_natCast,List.getD_eq_getElem?_getD,List.getElem?_eq_getElem hi]
  rfl
 have hl:=h.len
 have hp:=rR B A l
 have hs:=CW (eS B A l) i (by omega)
 rw[CX]at hs
 have ha:=h.at_ i hi
 rw[hs]at ha
 rw[hw]
 rcases ha with⟨a,b⟩|⟨a,b⟩
 ·exact .inl ⟨Option.some.inj a,b⟩
 ·exact .inr ⟨Option.some.inj a,b⟩
theorem sX.signal {B A:Nat}{l y:List Int}{fl:Int→Int}(h:sX B A l y fl)(hb:∀v ∈ l,0≤v∧v≤255):gM y (10+10*l.length) (ji l) (fun j=>8*(B+j)) fl where
 c01:=Kz hb
 last:=(rQ l).high
 f0:=h.f0
 f6:=h.f6
 idle:=fun i hi=>by
  by_cases h0:i<0
  ·unfold cR
   rw[if_pos h0,h.neg i h0]
   rfl
  ·obtain⟨n,rfl⟩:∃n:Nat,i=n:=⟨i.toNat,by omega⟩
   have hl:=h.len
   have hi:(n:Int)<((8*(B+0):Nat):Int):=hi
   have hc:=h.cell n (by omega)
   rw[if_pos (by omega)]at hc
   rcases hc with⟨a,b⟩|⟨a,b⟩
   ·exact b
   ·exact absurd a (by decide)
 one:=fun j hj hc i h1 h2 h3=>by
  have h1:((8*(B+j):Nat):Int)≤i:=h1
  have h3:j<10+10*l.length→i<((8*(B+(j+1)):Nat):Int):=h3
  obtain⟨n,rfl⟩:∃n:Nat,i=n:=⟨i.toNat,by omega⟩
  have hq:=h.cell n (by omega)
  rw[if_neg (by omega)]at hq
  have e:ji l (n / 8-B)=1:=by
   rcases Nat.lt_or_ge j (10+10*l.length)with hjm|hjm
   ·have:=h3 hjm
    rw[show n / 8-B=j from by omega]
    exact hc
   ·exact wH l _ (by omega)
  rcases hq with⟨a,b⟩|⟨a,b⟩
  ·exact b
  ·rw[e]at a
   exact absurd a (by decide)
 zero:=fun j hj hc i h1 h2 h3=>by
  have h1:((8*(B+j):Nat):Int)≤i:=h1
  have h3:j<10+10*l.length→i<((8*(B+(j+1)):Nat):Int):=h3
  obtain⟨n,rfl⟩:∃n:Nat,i=n:=⟨i.toNat,by omega⟩
  have hq:=h.cell n (by omega)
  rw[if_neg (by omega)]at hq
  have hjm:j<10+10*l.length:=by
   rcases Nat.lt_or_ge j (10+10*l.length)with hjm|hjm
   ·exact hjm
   ·rw[wH l j hjm]at hc
    exact absurd hc (by decide)
  have:=h3 hjm
  rw[show n / 8-B=j from by omega,hc]at hq
  rcases hq with⟨a,b⟩|⟨a,b⟩
  ·exact absurd a (by decide)
  ·exact b
 wide:=fun j _=>by
  show 8*(B+j)+7≤8*(B+(j+1))
  omega
 long:=by
  have:=h.len
  show 8*(B+(10+10*l.length))+3≤y.length
  omega
 near:=fun j m _ _=>by
  show 8*(B+j)+8*m≤8*(B+(j+m))+1∧8*(B+(j+m))≤8*(B+j)+8*m+1
  omega
theorem sX.decoded {B A:Nat}{l y:List Int}{fl:Int→Int}(h:sX B A l y fl)(hb:∀v ∈ l,0≤v∧v≤255):cG y=(l,(0:Int),()):=by
 have:=(h.signal hb).decoded (rQ l)
 rw[MW hb]at this
 exact this
theorem MX(B A:Nat)(l:List Int)(hb:∀v ∈ l,0≤v∧v≤255):sX B A l (aZ (eS B A l)) (fun _=>0) where
 len:=by rw[kA,rR]
 f0:=fun _=>Int.le_refl 0
 neg:=fun _ _=>rfl
 f6:=fun _=>(show(0:Int)+0+0+0+0+0≤1 by decide)
 at_:=fun i hi=>by
  have hp:=rR B A l
  have hi2:i<8*(eS B A l).length:=by rw[kA]at hi;exact hi
  have hs:=CW (eS B A l) i hi2
  have hv:(aZ (eS B A l))[i]=(eS B A l)[i / 8]'(by omega):=by
   rw[List.getElem?_eq_getElem hi]at hs
   exact Option.some.inj hs
  have h01:(eS B A l)[i / 8]'(by omega)=0∨(eS B A l)[i / 8]'(by omega)=1:=by
   rw[CX]
   split
   ·exact .inr rfl
   ·exact Kz hb _
  rw[hs,hv]
  rcases h01 with e|e
  ·exact .inr ⟨by rw[e],by rw[e]⟩
  ·exact .inl ⟨by rw[e],by rw[e];rfl⟩
end Go.Proofs.YtkgcbbkodalfmaaGreatDoor
namespace Go.Proofs.YtkgcbbkodalfmaaGreatDoor
open Go.RowKit
set_option linter.unusedVariables false
set_option linter.unusedSimpArgs false
def wI(n b:Int):Int:=IntKind.i64.wrap (IntKind.i64.wrap (2*n)+b)
theorem Vj(l:List Int):fW l=l.foldl wI 0:=rfl
theorem Te {n b:Int}(h0:0≤n)(h1:n≤1000000000000)(hb:b=0∨b=1):wI n b=2*n+b:=by
 have w1:IntKind.i64.wrap (2*n)=2*n:=by rw[wrap_i64]<;>omega
 unfold wI
 rw[w1,wrap_i64]<;>omega
theorem PG(v:Nat)(hv:v<9223372036854775808):∀(w s:Nat),w≤32→(s+1)*2^w≤1000000000000→(aU (v:Int) w).foldl wI (s:Int)=((s*2^w+v % 2^w:Nat):Int)
 |0,s,_,_=>by
  simp only[aU,List.foldl_nil,Nat.pow_zero,Nat.mul_one,Nat.mod_one,Nat.add_zero]
 |w+1,s,hw,hs=>by
  have hp:1≤2^w:=Nat.one_le_two_pow
  have e2:(s+1)*2^(w+1)=(2*s+2)*2^w:=by rw[Nat.pow_succ,Nat.mul_comm (2^w) 2,←Nat.mul_assoc];congr 1;omega
  have hle:2*s+2≤(2*s+2)*2^w:=Nat.le_mul_of_pos_right _ (by omega)
  have hb:v / 2^w % 2<2:=Nat.mod_lt _ (by decide)
  have hsw:wI (s:Int) (bt (v:Int) w)=((2*s+v / 2^w % 2:Nat):Int):=by
   rw[yd v w hv,Te (by omega) (by omega) (by omega)]
   omega
  have hm:(2*s+v / 2^w % 2+1)*2^w≤(2*s+2)*2^w:=Nat.mul_le_mul_right _ (by omega)
  have ih:=PG v hv w (2*s+v / 2^w % 2) (by omega) (by omega)
  rw[aU,List.foldl_cons,hsw,ih]
  congr 1
  have e3:v % 2^(w+1)=v % 2^w+2^w*(v / 2^w % 2):=Nat.mod_pow_succ
  rw[e3,Nat.add_mul,Nat.pow_succ,Nat.mul_comm (2^w) (v / 2^w % 2),Nat.mul_comm (2^w) 2,←Nat.mul_assoc,Nat.mul_comm s 2]
  omega
theorem yo {v:Int}{w:Nat}(h0:0≤v)(hw:w≤32)(h1:v<2^w):fW (aU v w)=v:=by
 obtain⟨n,rfl⟩:∃n:Nat,v=n:=⟨v.toNat,by omega⟩
 have hn:n<2^w:=by
  have:((n:Nat):Int)<((2^w:Nat):Int):=by rw[Int.natCast_pow];exact h1
  omega
 have h32:2^w≤2^32:=Nat.pow_le_pow_right (by decide) hw
 have h33:(2:Nat)^32=4294967296:=by decide
 have:=PG n (by omega) w 0 hw (by omega)
 rw[Vj]
 have this:(aU (n:Int) w).foldl wI 0=_:=this
 rw[this,Nat.zero_mul,Nat.zero_add,Nat.mod_eq_of_lt hn]
def pL:List Int→Nat
 | []=>0
 |b::r=>b.toNat*2^r.length+pL r
theorem OT:∀ {l:List Int},(∀b ∈ l,b=0∨b=1)→pL l<2^l.length
 | [],_=>by simp[pL]
 |b::r,h=>by
  have:=OT (fun x hx=>h x (by simp[hx]):∀b ∈ r,b=0∨b=1)
  have hb:=h b (by simp)
  have e:2^(b::r).length=2^r.length+2^r.length:=by rw[List.length_cons,Nat.pow_succ];omega
  unfold pL
  rcases hb with rfl|rfl
  ·have:(0:Int).toNat=0:=rfl
   rw[this,Nat.zero_mul]
   omega
  ·have:(1:Int).toNat=1:=rfl
   rw[this,Nat.one_mul]
   omega
theorem PH:∀(l:List Int) (s:Nat),(∀b ∈ l,b=0∨b=1)→(s+1)*2^l.length≤1000000000000→l.foldl wI (s:Int)=((s*2^l.length+pL l:Nat):Int)
 | [],s,_,_=>by
   simp only[List.foldl_nil,List.length_nil,Nat.pow_zero,Nat.mul_one,pL,Nat.add_zero]
 |b::r,s,h,hs=>by
  have hb:=h b (by simp)
  have hp:1≤2^r.length:=Nat.one_le_two_pow
  rw[List.length_cons,Nat.pow_succ]at hs
  have e2:(s+1)*(2^r.length*2)=(2*s+2)*2^r.length:=by rw[Nat.mul_comm (2^r.length) 2,←Nat.mul_assoc];congr 1;omega
  rw[e2]at hs
  have hle:2*s+2≤(2*s+2)*2^r.length:=Nat.le_mul_of_pos_right _ (by omega)
  have hsw:wI (s:Int) b=((2*s+b.toNat:Nat):Int):=by
   rw[Te (by omega) (by omega) hb]
   omega
  have hm:(2*s+b.toNat+1)*2^r.length≤(2*s+2)*2^r.length:=Nat.mul_le_mul_right _ (by omega)
  have ih:=PH r (2*s+b.toNat) (fun x hx=>h x (by simp[hx])) (by omega)
  rw[List.foldl_cons,hsw,ih,pL,List.length_cons,Nat.pow_succ,Nat.add_mul,Nat.mul_comm (2^r.length) 2,←Nat.mul_assoc,Nat.mul_comm s 2,Nat.add_assoc]
theorem ZU {l:List Int}(h:∀b ∈ l,b=0∨b=1)(hl:l.length≤32):fW l=(pL l:Int):=by
 have h32:2^l.length≤2^32:=Nat.pow_le_pow_right (by decide) hl
 have h33:(2:Nat)^32=4294967296:=by decide
 have:=PH l 0 h (by omega)
 rw[Vj]
 have this:l.foldl wI 0=_:=this
 rw[this,Nat.zero_mul,Nat.zero_add]
theorem Vk(q x:Nat):∀(w W:Nat),w≤W→q*2^W+x<9223372036854775808→aU ((q*2^W+x:Nat):Int) w=aU ((x:Nat):Int) w
 |0,_,_,_=>rfl
 |w+1,W,hw,hq=>by
  obtain⟨k,hk⟩:∃k,W=(w+1)+k:=⟨W-(w+1),by omega⟩
  have hx:x<9223372036854775808:=by omega
  have e:(q*2^W+x) / 2^w % 2=x / 2^w % 2:=by
   have e1:q*2^W+x=x+2^w*(2*(q*2^k)):=by
    rw[hk,Nat.pow_add,Nat.pow_succ]
    have:q*(2^w*2*2^k)=2^w*(2*(q*2^k)):=by
     rw[Nat.mul_assoc (2^w) 2 (2^k),Nat.mul_left_comm q (2^w),Nat.mul_left_comm q 2]
    rw[this,Nat.add_comm]
   rw[e1,Nat.add_mul_div_left _ _ (Nat.two_pow_pos w)]
   omega
  rw[aU,aU,yd _ w hq,yd _ w hx,e,Vk q x w W (by omega) hq]
theorem Vl:∀ {l:List Int},(∀b ∈ l,b=0∨b=1)→l.length≤32→aU ((pL l:Nat):Int) l.length=l
 | [],_,_=>rfl
 |b::r,h,hl=>by
  have hr:∀b ∈ r,b=0∨b=1:=fun x hx=>h x (by simp[hx])
  have hlt:=OT hr
  have hlt2:=OT h
  have hlr:r.length≤31:=by simpa using hl
  have h32:2^(b::r).length≤2^32:=Nat.pow_le_pow_right (by decide) hl
  have h33:(2:Nat)^32=4294967296:=by decide
  have hb:=h b (by simp)
  have hB:b.toNat<2:=by omega
  have ih:=Vl hr (by omega)
  have hv:pL (b::r)<9223372036854775808:=by omega
  have e1:pL (b::r) / 2^r.length % 2=b.toNat:=by
   unfold pL
   rw[Nat.add_comm,Nat.mul_comm,Nat.add_mul_div_left _ _ (Nat.two_pow_pos _),Nat.div_eq_of_lt hlt,Nat.zero_add,Nat.mod_eq_of_lt hB]
  have e2:aU ((pL (b::r):Nat):Int) r.length=r:=by
   have:=Vk b.toNat (pL r) r.length r.length (Nat.le_refl _) hv
   unfold pL
   rw[this,ih]
  rw[List.length_cons,aU,yd _ _ hv,e1,e2]
  congr 1
  omega
theorem adw {l:List Int}{w:Nat}(h:∀b ∈ l,b=0∨b=1)(hw:w≤32)(hl:l.length=w):aU (fW l) w=l:=by
 subst hl
 rw[ZU h hw]
 exact Vl h hw
theorem ZV {l:List Int}(hl:l.length=64)(h:∀b ∈ l,b=0∨b=1):dv (vV l)=l:=by
 have hc:∀k,k<8→aU (fW (bU l k)) 8=bU l k:=fun k hk=>adw (fun b hb=>h b (List.mem_of_mem_drop (List.mem_of_mem_take hb))) (by decide) (by rw[oW];omega)
 have e:dv (vV l)=((List.range 8).map fun k=>bU l k).flatten:=by
  unfold dv vV
  rw[List.flatMap_map,←List.flatMap_def]
  simp only[List.flatMap_def]
  congr 1
  refine List.map_congr_left fun k hk=> ?_
  exact hc k (List.mem_range.1 hk)
 have e8:(List.range 8).map (fun k=>bU l k)= [bU l 0,bU l 1,bU l 2,bU l 3,bU l 4,bU l 5,bU l 6,bU l 7]:=rfl
 have q:∀n,l.drop (8*n)=(l.drop (8*n)).take 8++l.drop (8*(n+1)):=fun n=>by
  have:=(List.take_append_drop 8 (l.drop (8*n))).symm
  rw[List.drop_drop]at this
  rw[show 8*(n+1)=8*n+8 from by omega]
  exact this
 have q8:l.drop (8*8)= []:=List.drop_eq_nil_of_le (by omega)
 have all:l.drop (8*0)=bU l 0++(bU l 1++(bU l 2++(bU l 3++(bU l 4++(bU l 5++(bU l 6++(bU l 7++ []))))))):=by
  unfold bU
  rw[←q8,←q 7,←q 6,←q 5,←q 4,←q 3,←q 2,←q 1,←q 0]
 rw[e,e8]
 simp only[List.flatten_cons,List.flatten_nil]
 exact all.symm
theorem ZW {st:ai.T}(h:bA st=true):lU (kD st)=st:=by
 obtain⟨(a:Int),(b:Int),(c:Int),(d:Int),(e:Int),⟨⟩⟩:=st
 unfold bA at h
 simp only[Bool.and_eq_true,aY]at h
 obtain⟨⟨⟨⟨h1,h2⟩,h3⟩,h4⟩,h5⟩:=h
 have l1:=dA a 16
 have l2:=dA b 4
 have l3:=dA c 4
 have l4:=dA d 8
 have l5:=dA e 32
 have n1:=yo (v:=a) (w:=16) h1.1 (by decide) (by have:(2:Int)^16=65536:=by decide
                                                 omega)
 have n2:=yo (v:=b) (w:=4) h2.1 (by decide) (by have:(2:Int)^4=16:=by decide
                                                omega)
 have n3:=yo (v:=c) (w:=4) h3.1 (by decide) (by have:(2:Int)^4=16:=by decide
                                                omega)
 have n4:=yo (v:=d) (w:=8) h4.1 (by decide) (by have:(2:Int)^8=256:=by decide
                                                omega)
 have n5:=yo (v:=e) (w:=32) h5.1 (by decide) (by have:(2:Int)^32=4294967296:=by decide
                                                 omega)
 have hs:kD (a,b,c,d,e,())=(((aU a 16++aU b 4)++aU c 4)++aU d 8)++aU e 32:=rfl
 generalize aU a 16=A at *
 generalize aU b 4=B at *
 generalize aU c 4=C at *
 generalize aU d 8=D at *
 generalize aU e 32=E at *
 have t1:((A++B++C++D++E).drop 0).take 16=A:=by
  simp only[List.append_assoc,List.drop_zero]
  exact List.take_left' l1
 have t2:((A++B++C++D++E).drop 16).take 4=B:=by
  simp only[List.append_assoc]
  rw[List.drop_left' l1,List.take_left' l2]
 have t3:((A++B++C++D++E).drop 20).take 4=C:=by
  rw[show A++B++C++D++E=(A++B)++(C++(D++E)) from by simp only[List.append_assoc],List.drop_left' (by simp;omega),List.take_left' l3]
 have t4:((A++B++C++D++E).drop 24).take 8=D:=by
  rw[show A++B++C++D++E=(A++B++C)++(D++E) from by simp only[List.append_assoc],List.drop_left' (by simp;omega),List.take_left' l4]
 have t5:((A++B++C++D++E).drop 32).take 32=E:=by
  rw[List.drop_left' (by simp;omega),List.take_of_length_le (by omega)]
 unfold lU
 rw[hs,t1,t2,t3,t4,t5,n1,n2,n3,n4,n5]
theorem ZX {f:aB.T}(hf:bm f=true):cH (bd f)=(f,true):=by
 obtain⟨h1,h2,h3,h4,h5⟩:=z7 hf
 have k1:=aY.1 h1
 have k2:=aY.1 h2
 obtain⟨(k0:Int),(q0:Int),st,(d:List Int),⟨⟩⟩:=f
 simp only at h1 h2 h3 h4 h5 k1 k2
 obtain⟨k,rfl⟩:∃k:Nat,k0=k:=⟨k0.toNat,by omega⟩
 obtain⟨q,rfl⟩:∃q:Nat,q0=q:=⟨q0.toNat,by omega⟩
 have w1:IntKind.i64.wrap ((k:Int)*64)=(k:Int)*64:=by rw[wrap_i64]<;>omega
 have w2:IntKind.i64.wrap ((q:Int)*8)=(q:Int)*8:=by rw[wrap_i64]<;>omega
 have w3:IntKind.i64.wrap ((k:Int)*64+(q:Int)*8)=((k*64+q*8:Nat):Int):=by rw[wrap_i64]<;>omega
 have e:bd ((k:Int),(q:Int),st,d,())=([((k*64+q*8:Nat):Int)]++(if(k:Int) != (0:Int)then vV (kD st)else []))++(if dn (k:Int)then(d.length:Int)::d else []):=by
  unfold bd
  simp only[w1,w2,w3]
 have a1:Int.tdiv ((k*64+q*8:Nat):Int) 64=(((k*64+q*8) / 64:Nat):Int):=rfl
 have a2:Int.tdiv ((k*64+q*8:Nat):Int) 8=(((k*64+q*8) / 8:Nat):Int):=rfl
 have c1:bq ((k*64+q*8:Nat):Int)=(k:Int):=by
  unfold bq
  rw[a1,wrap_i64]<;>omega
 have w4:IntKind.i64.wrap (((k*64+q*8) / 8:Nat):Int)=(((k*64+q*8) / 8:Nat):Int):=by rw[wrap_i64]<;>omega
 have a3:Int.tmod (((k*64+q*8) / 8:Nat):Int) 8=(((k*64+q*8) / 8 % 8:Nat):Int):=rfl
 have c2:∀s v,bW ((k*64+q*8:Nat):Int) s v=((k:Int),(q:Int),s,v,()):=fun s v=>by
  have c3:Int.tmod (IntKind.i64.wrap (Int.tdiv ((k*64+q*8:Nat):Int) (8:Int))) (8:Int)=(q:Int):=by
   rw[a2,w4,a3]
   omega
  unfold bW
  rw[c1,c3]
 have hok:uk (bd ((k:Int),(q:Int),st,d,())) ((k:Int),(q:Int),st,d,())=true:=by
  unfold uk
  rw[hf]
  simp
 rw[e]at hok ⊢
 have fin:∀L,uk L ((k:Int),(q:Int),st,d,())=true→sL L ((k*64+q*8:Nat):Int) st (if dn (k:Int)then(d.length:Int)::d else [])=(((k:Int),(q:Int),st,d,()),true):=fun L hL=>by
  unfold sL
  rw[c1]
  cases hd:dn (k:Int)with
  |true=>
   simp only[if_true,c2,hL]
  |false=>
   have hd0:d= []:=by
    unfold dn at hd
    unfold gr at h3
    rw[Bool.or_eq_false_iff]at hd
    have x0:((k:Int)==0)=false:=hd.1
    have x2:((k:Int)==2)=false:=hd.2
    rw[x0,x2]at h3
    have:d.length=0:=by simpa using h3
    exact List.eq_nil_of_length_eq_zero this
   subst hd0
   simp only[c2,hL]
 rcases Bool.eq_false_or_eq_true ((k:Int) != (0:Int))with hk|hk
 ·have hst:=h5 hk
  rw[if_pos hk]at hok ⊢
  have hb8:=hZ (kD st)
  have hs:lU (dv (vV (kD st)))=st:=by rw[ZV (GO st) (QG st hst)];exact ZW hst
  generalize vV (kD st)=Y at *
  have e1:([((k*64+q*8:Nat):Int)]++Y)++(if dn (k:Int)then(d.length:Int)::d else [])=((k*64+q*8:Nat):Int)::(Y++(if dn (k:Int)then(d.length:Int)::d else [])):=by simp
  rw[e1]at hok ⊢
  generalize hR:(if dn (k:Int)then(d.length:Int)::d else [])=R at *
  have hlt:decide (((Y++R).length:Int)<(8:Int))=false:=by rw[List.length_append];exact decide_eq_false (by omega)
  unfold cH
  simp only[c1,hk,hlt]
  rw[List.take_left' hb8,List.drop_left' hb8,hs]
  exact fin _ hok
 ·have hk0:(k:Int)=0:=by simpa using hk
  have hst:st=iG:=by
   unfold bm at hf
   simp only[Bool.and_eq_true]at hf
   have hf5:=hf.2.2.2.2
   have hk2:((k:Int)==(0:Int))=true:=by rw[hk0];rfl
   rw[if_pos hk2]at hf5
   exact(z6 _ _).1 hf5
  have hnp:¬((k:Int) != (0:Int))=true:=by rw[hk];decide
  rw[if_neg hnp]at hok ⊢
  have e1:([((k*64+q*8:Nat):Int)]++ [])++(if dn (k:Int)then(d.length:Int)::d else [])=((k*64+q*8:Nat):Int)::(if dn (k:Int)then(d.length:Int)::d else []):=by simp
  rw[e1]at hok ⊢
  unfold cH
  simp only[c1,hk]
  rw[←hst]
  exact fin _ hok
theorem Yz {f:aB.T}(hf:bm f=true):∃b t,bd f=b::t∧bq b=f.1:=by
 obtain⟨h1,h2,h3,h4,h5⟩:=z7 hf
 have k1:=aY.1 h1
 have k2:=aY.1 h2
 obtain⟨(k0:Int),(q0:Int),st,(d:List Int),⟨⟩⟩:=f
 simp only at h1 h2 h3 h4 h5 k1 k2
 obtain⟨k,rfl⟩:∃k:Nat,k0=k:=⟨k0.toNat,by omega⟩
 obtain⟨q,rfl⟩:∃q:Nat,q0=q:=⟨q0.toNat,by omega⟩
 have w1:IntKind.i64.wrap ((k:Int)*64)=(k:Int)*64:=by rw[wrap_i64]<;>omega
 have w2:IntKind.i64.wrap ((q:Int)*8)=(q:Int)*8:=by rw[wrap_i64]<;>omega
 have w3:IntKind.i64.wrap ((k:Int)*64+(q:Int)*8)=((k*64+q*8:Nat):Int):=by rw[wrap_i64]<;>omega
 have a1:Int.tdiv ((k*64+q*8:Nat):Int) 64=(((k*64+q*8) / 64:Nat):Int):=rfl
 refine⟨((k*64+q*8:Nat):Int),(if(k:Int) != (0:Int)then vV (kD st)else [])++(if dn (k:Int)then(d.length:Int)::d else []), ?_, ?_⟩
 ·unfold bd
  simp only[w1,w2,w3,List.nil_append,List.cons_append]
 ·unfold bq
  rw[a1,wrap_i64]<;>omega
theorem MY {m:an.T}{st:ai.T}{f:aB.T}(h:cu m=true)(hs:ig m st f=true):rL m st (bJ f m.1.toNat st)=((3:Int),f,()):=by
 unfold ig at hs
 simp only[Bool.and_eq_true]at hs
 obtain⟨⟨hf,hfit⟩,heq⟩:=hs
 obtain⟨r,er,hr⟩:=sQ h
 have e:m.1.toNat=r:=by rw[er,Int.toNat_natCast]
 rw[e]
 obtain⟨b1,b2,b3⟩:=Hg hf
 have hfr:=ZX hf
 have hlen:(bJ f r st).length=(bd f).length+3:=by unfold bJ;simp
 have hbp:ap (bJ f r st)=bd f:=by
  unfold ap
  rw[hlen,Nat.add_sub_cancel]
  unfold bJ
  rw[List.take_left' rfl]
 have hdp:(bJ f r st).drop ((bJ f r st).length-3)= [((bl f.1 (bd f) r st / 65536:Nat):Int),((bl f.1 (bd f) r st / 256 % 256:Nat):Int),((bl f.1 (bd f) r st % 256:Nat):Int)]:=by
  rw[hlen,Nat.add_sub_cancel]
  unfold bJ
  rw[List.drop_left' rfl]
 obtain⟨b,t,hbt,hkb⟩:=Yz hf
 have hopen:gu (bJ f r st) r st=true:=by
  have hc:bJ f r st=b::(t++ [((bl f.1 (bd f) r st / 65536:Nat):Int),((bl f.1 (bd f) r st / 256 % 256:Nat):Int),((bl f.1 (bd f) r st % 256:Nat):Int)]):=by
   unfold bJ
   rw[hbt]
   rfl
  have h4:4≤(bJ f r st).length:=by rw[hlen,hbt,List.length_cons];omega
  generalize hL:bJ f r st=L at *
  subst hc
  unfold gu
  simp only[hkb,hbp,hdp,hfr,decide_eq_true h4,heq,decide_true,Bool.and_self]
 unfold rL
 rw[e,hopen,hbp,hfr,hfit]
 rfl
end Go.Proofs.YtkgcbbkodalfmaaGreatDoor
namespace Go.Proofs.YtkgcbbkodalfmaaGreatDoor
open Go.RowKit
set_option linter.unusedVariables false
set_option linter.unusedSimpArgs false
theorem Tf(P:Nat→Prop)[DecidablePred P]:∀n j,P (j+n)→∃g,j≤g∧g≤j+n∧P g∧∀i,j≤i→i<g→¬P i
 |0,j,h=>⟨j,Nat.le_refl _,Nat.le_refl _,h,fun i h1 h2=>by omega⟩
 |n+1,j,h=>by
  by_cases hj:P j
  ·exact⟨j,Nat.le_refl _,by omega,hj,fun i h1 h2=>by omega⟩
  ·obtain⟨g,h1,h2,h3,h4⟩:=Tf P n (j+1) (by rw[show j+1+n=j+(n+1) from by omega];exact h)
   refine⟨g,by omega,by omega,h3,fun i h5 h6=> ?_⟩
   by_cases hi:i=j
   ·rw[hi];exact hj
   ·exact h4 i (by omega) h6
theorem ii {l:List Int}(h01:∀i,bT l i=0∨bT l i=1)(j:Nat):(bh l 0 j=none∧∀i,j≤i→bT l i=1)∨∃g,bh l 0 j=some g∧j≤g∧bT l g=0∧∀i,j≤i→i<g→bT l i=1:=by
 by_cases h:∃n,bT l (j+n)=0
 ·obtain⟨n,hn⟩:=h
  obtain⟨g,h1,h2,h3,h4⟩:=Tf (fun i=>bT l i=0) n j hn
  have h5:∀i,j≤i→i<g→bT l i=1:=fun i a b=>by
   rcases h01 i with e|e
   ·exact absurd e (h4 i a b)
   ·exact e
  exact .inr ⟨g,yn h1 h3 h5,h1,h3,h5⟩
 ·have h1:∀i,j≤i→bT l i=1:=fun i a=>by
   rcases h01 i with e|e
   ·exact absurd ⟨i-j,by rw[show j+(i-j)=i from by omega];exact e⟩ h
   ·exact e
  exact .inl ⟨oT h1,h1⟩
theorem Tg {l:List Int}(h01:∀i,bT l i=0∨bT l i=1){a:Nat}(ha:a<l.length):∃h,eV l a=h∧a<h∧h≤l.length∧bT l h=1∧∀i,a<i→i<h→bT l i=0:=by
 have hl:bT l (a+1+(l.length-(a+1)))=1:=by
  rw[show a+1+(l.length-(a+1))=l.length from by omega]
  unfold bT
  rw[if_pos (Nat.le_refl _)]
 obtain⟨g,h1,h2,h3,h4⟩:=Tf (fun i=>bT l i=1) (l.length-(a+1)) (a+1) hl
 have h5:∀i,a<i→i<g→bT l i=0:=fun i p q=>by
  rcases h01 i with e|e
  ·exact e
  ·exact absurd e (h4 i (by omega) q)
 exact⟨g,WH (by omega) (by omega) h3 h5,by omega,by omega,h3,h5⟩
theorem abr {l:List Int}(h01:∀i,bT l i=0∨bT l i=1)(h:dV l=0)(hne:cO l≠ []):∃a0 h0 f e f',a0<l.length∧bT l a0=0∧(∀i,i<a0→bT l i=1)∧a0<h0∧h0≤l.length∧bT l h0=1∧(∀i,a0<i→i<h0→bT l i=0)∧
  aP (Int.tdiv ((h0:Int)-a0+4) 8) 3 15=true∧h0<f∧bT l f=0∧(∀i,h0<i→i<f→bT l i=1)∧lQ h0 f=false∧¬((f:Int)-h0<12)∧dJ l (l.length+1) f []=some (e,f')∧nB l f'=0∧cO l=e:=by
 have hE:cO l=(lA l).2.1:=rfl
 have hC:dV l=(lA l).2.2.1:=rfl
 rw[hC]at h
 rw[hE]at hne ⊢
 unfold lA at h hne ⊢
 rcases ii h01 0 with⟨e0,_⟩|⟨a0,e0,_,z0,b0⟩
 ·rw[e0]at h
  exact absurd h (show ¬(4:Int)=0 by decide)
 ·have ha:=kj e0
  obtain⟨h0,q0,q1,q2,q3,q4⟩:=Tg h01 ha
  rw[e0]at h hne ⊢
  simp only[q0]at h hne ⊢
  by_cases hp:aP (Int.tdiv ((h0:Int)-a0+4) 8) 3 15=true
  ·rw[if_pos hp]at h hne ⊢
   rcases ii h01 (h0+1)with⟨e1,_⟩|⟨f,e1,f1,z1,b1⟩
   ·rw[e1]at h
    exact absurd h (show ¬(6:Int)=0 by decide)
   ·rw[e1]at h hne ⊢
    simp only at h hne ⊢
    by_cases hw:lQ h0 f=true
    ·rw[if_pos hw]at h
     exact absurd h (by decide)
    ·rw[if_neg hw]at h hne ⊢
     by_cases h12:(f:Int)-h0<12
     ·rw[if_pos h12]at hne
      exact absurd rfl hne
     ·rw[if_neg h12]at h hne ⊢
      cases he:dJ l (l.length+1) f []with
      |none=>
       rw[he]at h
       exact absurd h (show ¬(6:Int)=0 by decide)
      |some r=>
       obtain⟨e,f'⟩:=r
       rw[he]at h
       exact⟨a0,h0,f,e,f',ha,z0,fun i hi=>b0 i (by omega) hi,q1,q2,q3,q4,hp,by omega,z1,fun i p q=>b1 i (by omega) q,by simpa using hw,h12,he,h,rfl⟩
  ·rw[if_neg hp]at h
   exact absurd h (by decide)
structure MZ (U D:List Int) (a:Nat):Prop where
 len:D.length=U.length
 u01:∀i,bT U i=0∨bT U i=1
 d01:∀i,bT D i=0∨bT D i=1
 lo:∀i,i<a→bT D i=bT U i
 hi:∀i,a+2≤i→bT D i=1
 up:∀i,bT U i=1→bT D i=1
section
variable {U D:List Int} {a:Nat}
theorem MZ.dead(c:MZ U D a)(f:Nat)(hf:a+1≤f):∀(fuel:Nat) (acc:List Int),dJ D fuel f acc=none
 |0,_=>rfl
 |n+1,acc=>by
  have h1:bT D (f+76)=1:=c.hi _ (by omega)
  have h2:¬bT D (f+76)=0:=by rw[h1];decide
  have h3:bh D 0 (f+77)=none:=oT fun i hi=>c.hi i (by omega)
  rw[dJ,if_neg h2,h3]
theorem MZ.raised(c:MZ U D a){i:Nat}(h0:bT U i=0)(h1:bT D i=1):a≤i:=by
 rcases Nat.lt_or_ge i a with h|h
 ·have:=c.lo i h
  rw[h0,h1]at this
  exact absurd this (by decide)
 ·exact h
theorem MZ.edges(c:MZ U D a){e:List Int}{f':Nat}:∀(fuel f:Nat) (acc:List Int),dJ U fuel f acc=some (e,f')→dJ D fuel f acc=none∨(dJ D fuel f acc=some (e,f')∧f'+4≤a+1∧f+72≤f'∧∀x ∈ e,x ∈ acc∨x.toNat+72≤f')
 |0,_,_,h=>by cases h
 |n+1,f,acc,h=>by
  rw[dJ]at h
  by_cases h0:bT U (f+76)=0
  ·rw[if_pos h0]at h
   cases h
   rcases c.d01 (f+76)with d0|d0
   ·refine .inr ⟨by rw[dJ,if_pos d0], ?_,Nat.le_refl _,fun x hx=> ?_⟩
    ·have:¬a+2≤f+76:=fun q=>by
      rw[c.hi _ q]at d0
      exact absurd d0 (by decide)
     omega
    ·rcases List.mem_append.1 hx with hx|hx
     ·exact .inl hx
     ·simp only[List.mem_singleton]at hx
      subst hx
      exact .inr (by rw[Int.toNat_natCast];exact Nat.le_refl _)
   ·left
    have hr:=c.raised h0 d0
    have h2:¬bT D (f+76)=0:=by rw[d0];decide
    rw[dJ,if_neg h2]
    rcases ii c.d01 (f+77)with⟨e1,_⟩|⟨g,e1,g1,z1,_⟩
    ·rw[e1]
    ·rw[e1]
     simp only
     split
     ·rfl
     ·exact c.dead g (by omega) n _
  ·rw[if_neg h0]at h
   have u1:bT U (f+76)=1:=by
    rcases c.u01 (f+76)with q|q
    ·exact absurd q h0
    ·exact q
   have d0:¬bT D (f+76)=0:=by rw[c.up _ u1];decide
   rcases ii c.u01 (f+77)with⟨e1,_⟩|⟨g,e1,g1,z1,b1⟩
   ·rw[e1]at h
    cases h
   ·rw[e1]at h
    simp only at h
    by_cases hg:f+84<g
    ·rw[if_pos hg]at h
     cases h
    ·rw[if_neg hg]at h
     rw[dJ,if_neg d0]
     have bD:∀i,f+77≤i→i<g→bT D i=1:=fun i p q=>c.up i (b1 i p q)
     rcases c.d01 g with dg|dg
     ·rw[yn g1 dg bD]
      simp only
      rw[if_neg hg]
      rcases c.edges n g (acc++ [(f:Int)]) h with q|⟨q1,q2,q3,q4⟩
      ·exact .inl q
      ·refine .inr ⟨q1,q2,by omega,fun x hx=> ?_⟩
       rcases q4 x hx with hx|hx
       ·rcases List.mem_append.1 hx with hx|hx
        ·exact .inl hx
        ·simp only[List.mem_singleton]at hx
         subst hx
         exact .inr (by rw[Int.toNat_natCast];omega)
       ·exact .inr hx
     ·left
      have hr:=c.raised z1 dg
      rcases ii c.d01 (f+77)with⟨e2,_⟩|⟨g',e2,g2,z2,_⟩
      ·rw[e2]
      ·rw[e2]
       simp only
       split
       ·rfl
       ·have hgg:g≤g':=by
         rcases Nat.lt_or_ge g' g with q|q
         ·rw[bD g' g2 q]at z2
          exact absurd z2 (by decide)
         ·exact q
        have hne:g'≠g:=fun q=>by
         rw[q,dg]at z2
         exact absurd z2 (by decide)
        exact c.dead g' (by omega) n _
theorem Vm(c:MZ U D a)(f:Nat)(hf:f+68<a):∀k,k≤8→iw D f k=iw U f k
 |0,_=>rfl
 |k+1,hk=>by
  rw[iw,iw,Vm c f hf k (by omega),c.lo (f+8*k+12) (by omega)]
theorem MZ.run(c:MZ U D a)(hU:dV U=0)(hne:cO U≠ []):dV D≠0∨(dV D=0∧lR D (cO D)=lR U (cO U)):=by
 obtain⟨a0,h0,f,e,f',p1,p2,p3,p4,p5,p6,p7,p8,p9,p10,p11,p12,p13,p14,p15,p16⟩:=abr c.u01 hU hne
 have six:¬(6:Int)=0:=by decide
 have hC:dV D=(lA D).2.2.1:=rfl
 have hE:cO D=(lA D).2.1:=rfl
 rw[hC,hE,p16]
 unfold lA
 rcases ii c.d01 0 with⟨e0,_⟩|⟨a1,e0,_,z0,b0⟩
 ·rw[e0]
  exact .inl (show ¬(4:Int)=0 by decide)
 ·rw[e0]
  simp only
  have ha1:=kj e0
  have hge:a0≤a1:=by
   rcases Nat.lt_or_ge a1 a0 with q|q
   ·rw[c.up a1 (p3 a1 q)]at z0
    exact absurd z0 (by decide)
   ·exact q
  rcases c.d01 a0 with d0|d0
  ·have ea:a1=a0:=by
    rcases Nat.lt_or_ge a0 a1 with q|q
    ·rw[b0 a0 (by omega) q]at d0
     exact absurd d0 (by decide)
    ·omega
   subst ea
   obtain⟨h1,q0,q1,q2,q3,q4⟩:=Tg c.d01 ha1
   rw[q0]
   have hle:h1≤h0:=by
    rcases Nat.lt_or_ge h0 h1 with q|q
    ·have:=c.up h0 p6
     rw[q4 h0 p4 q]at this
     exact absurd this (by decide)
    ·exact q
   rcases Nat.lt_or_ge h1 h0 with hlt|hge2
   ·have hr:=c.raised (p7 h1 q1 hlt) q3
    left
    split
    ·rcases ii c.d01 (h1+1)with⟨e2,_⟩|⟨f1,e2,g2,z2,_⟩
     ·rw[e2]
      exact six
     ·rw[e2]
      have hf1:f1=h1+1:=by
       rcases Nat.lt_or_ge (h1+1) f1 with q|q
       ·rw[c.hi f1 (by omega)]at z2
        exact absurd z2 (by decide)
       ·omega
      have hw:lQ h1 f1=true:=by
       unfold lQ
       rw[hf1]
       have:decide ((((h1+1:Nat):Int))-(h1:Int)<5)=true:=decide_eq_true (by omega)
       rw[this]
       simp
      simp only
      rw[if_pos hw]
      exact six
    ·exact six
   ·have eh:h1=h0:=by omega
    subst eh
    rw[if_pos p8]
    have bD:∀i,h1+1≤i→i<f→bT D i=1:=fun i p q=>c.up i (p11 i (by omega) q)
    rcases c.d01 f with df|df
    ·rw[yn (show h1+1≤f by omega) df bD]
     have hw:¬lQ h1 f=true:=by rw[p12];decide
     simp only
     rw[if_neg hw,if_neg p13,c.len]
     rcases c.edges _ f [] p14 with q|⟨r1,r2,r3,r4⟩
     ·rw[q]
      exact .inl six
     ·rw[r1]
      right
      have ht:nB D f'=0:=by
       unfold nB at p15 ⊢
       rcases ii c.u01 (f'+12)with⟨e3,b3⟩|⟨g,e3,_⟩
       ·rw[oT fun i hi=>c.up i (b3 i hi)]
        rfl
       ·rw[e3]at p15
        exact absurd p15 (show ¬(6:Int)=0 by decide)
      refine⟨ht, ?_⟩
      unfold lR
      refine List.map_congr_left fun x hx=> ?_
      rcases r4 x hx with q|q
      ·cases q
      ·exact Vm c _ (by omega) 8 (Nat.le_refl _)
    ·have hr:=c.raised p10 df
     left
     rcases ii c.d01 (h1+1)with⟨e2,_⟩|⟨f1,e2,g2,z2,_⟩
     ·rw[e2]
      exact six
     ·rw[e2]
      have hff:f≤f1:=by
       rcases Nat.lt_or_ge f1 f with q|q
       ·rw[bD f1 g2 q]at z2
        exact absurd z2 (by decide)
       ·exact q
      have hne2:f1≠f:=fun q=>by
       rw[q,df]at z2
       exact absurd z2 (by decide)
      simp only
      split
      ·exact six
      ·split
       ·rename_i hq
        omega
       ·rw[c.dead f1 (by omega)]
        exact six
  ·have hr:=c.raised p2 d0
   left
   have hne3:a1≠a0:=fun q=>by
    rw[q,d0]at z0
    exact absurd z0 (by decide)
   have h1:eV D a1=a1+1:=WH (by omega) (by omega) (c.hi _ (by omega)) (fun i p q=>by omega)
   rw[h1]
   have hp:¬aP (Int.tdiv (((a1+1:Nat):Int)-a1+4) 8) 3 15=true:=by
    rw[show((a1+1:Nat):Int)-a1+4=5 from by omega]
    decide
   rw[if_neg hp]
   exact six
end
theorem abt(l:List Int)(i:Nat):bT (ie l) i=if i<l.length then vb l i else 1:=by
 unfold bT
 rw[pE]
 by_cases h:i<l.length
 ·have:=wB (fun i (_:Int)=>vb l i) l 0 i h
  rw[Nat.zero_add]at this
  have e:(ie l)[i]? =some (vb l i):=this
  rw[if_neg (by omega),if_pos h,List.getD_eq_getElem?_getD,e]
  rfl
 ·rw[if_pos (by omega),if_neg h]
end Go.Proofs.YtkgcbbkodalfmaaGreatDoor
namespace Go.Proofs.YtkgcbbkodalfmaaGreatDoor
open Go.RowKit
set_option linter.unusedVariables false
set_option linter.unusedSimpArgs false
theorem yp(m:an.T)(st:ai.T)(f:aB.T):bV m st f=eS 8 ((dW m st).2.2.2.1.toNat-(19+10*(bJ f m.1.toNat st).length)) (bJ f m.1.toNat st):=rfl
theorem wJ {m:an.T}{st:ai.T}{f:aB.T}(hs:ig m st f=true):bm f=true:=by
 unfold ig at hs
 simp only[Bool.and_eq_true]at hs
 exact hs.1.1
theorem wK {m:an.T}{st:ai.T}{f:aB.T}(h:cu m=true)(hf:bm f=true):∀v ∈ bJ f m.1.toNat st,0≤v∧v≤255:=by
 obtain⟨r,er,hr⟩:=sQ h
 have e:m.1.toNat=r:=by rw[er,Int.toNat_natCast]
 rw[e]
 exact(BN hf hr).1
theorem PI {m:an.T}{st:ai.T}{f:aB.T}{B A:Nat}{y:List Int}{fl:Int→Int}(h:cu m=true)(hs:ig m st f=true)(hn:sX B A (bJ f m.1.toNat st) y fl):fP m st y=((3:Int),f,()):=by
 unfold fP
 rw[hn.decoded (wK h (wJ hs)),if_pos rfl]
 exact MY h hs
theorem WI {m:an.T}{st:ai.T}{f:aB.T}(h:cu m=true)(hs:ig m st f=true):fP m st (aZ (bV m st f))=((3:Int),f,()):=
 PI h hs (by rw[yp];exact MX _ _ _ (wK h (wJ hs)))
theorem YA {v:Int}(h:v=0∨v=1):iH v=1-v:=by
 unfold iH
 rw[wrap_i64]<;>omega
theorem yq(x:List Int)(n:Nat):(ja iH x n (n+1)).length=x.length:=by
 unfold ja
 rw[sU]
theorem ZY {x:List Int}(h01:∀(i:Nat) (hi:i<x.length),x[i]=0∨x[i]=1)(n:Nat):∀(i:Nat) (hi:i<(ja iH x n (n+1)).length),(ja iH x n (n+1))[i]=if i=n then 1-x[i]'(by rw[yq]at hi;exact hi)else x[i]'(by rw[yq]at hi;exact hi):=by
 intro i hi
 have hx:i<x.length:=by rw[yq]at hi;exact hi
 by_cases ha:n<x.length
 ·have e:ja iH x n (n+1)=x.set n (iH (x.getD n 0)):=by
   unfold ja
   rw[show min (n+1) x.length-min n x.length=1 from by omega,show min n x.length=n from by omega]
   rfl
  simp only[e,List.getElem_set]
  by_cases hq:n=i
  ·subst hq
   rw[if_pos rfl,if_pos rfl,List.getD_eq_getElem?_getD,List.getElem?_eq_getElem hx]
   exact YA (h01 n hx)
  ·rw[if_neg hq,if_neg (fun q=>hq q.symm)]
 ·have e:ja iH x n (n+1)=x:=by
   unfold ja
   rw[show min (n+1) x.length-min n x.length=0 from by omega]
   rfl
  simp only[e]
  rw[if_neg (by omega)]
theorem Vn:∀(k i:Nat) (l:List Int),i+k=l.length→(∀j,j<i→(chg (fun _=>1) k i l)[j]? =l[j]?)∧∀j,i≤j→j<l.length→(chg (fun _=>1) k i l)[j]? =some 1
 |0,i,l,h=>⟨fun j _=>rfl,fun j h1 h2=>by omega⟩
 |k+1,i,l,h=>by
  obtain⟨h1,h2⟩:=Vn k (i+1) (l.set i 1) (by rw[List.length_set];omega)
  refine⟨fun j hj=> ?_,fun j hj hl=> ?_⟩
  ·rw[chg,h1 j (by omega),List.getElem?_set,if_neg (by omega)]
  ·by_cases hq:j=i
   ·rw[chg,h1 j (by omega),hq,List.getElem?_set,if_pos rfl,if_pos (by omega)]
   ·rw[chg]
    exact h2 j (by omega) (by rw[List.length_set];exact hl)
theorem abu {a b:cA.T}(ha:a.1=(3:Int)):fI a b=a∨fI a b=cq 4:=by
 have e:(a.1==(3:Int))=true:=by rw[ha];rfl
 unfold fI
 rw[e]
 repeat' split
 all_goals first
  |exact .inl rfl
  |exact .inr rfl
  |simp_all
end Go.Proofs.YtkgcbbkodalfmaaGreatDoor
