import Derived.Test.YtnambbcafhnhpaaGreatDoorDelW
import Derived.Shelf.Spec.SlicesInsert
import Derived.Lib.AppendZerosOnto
import Derived.Lib.Overlaps
import Derived.Laws.Externs
namespace Go.Proofs.YtnambbcafhnhpaaGreatDoor
open Go.RowKit Go.Shelf Go.Lib
set_option linter.unusedVariables false
set_option linter.unusedSimpArgs false
def Vk(l:List Int)(i:Int)(v:List Int):Option (List Int):=if 0≤i∧i≤l.length∧0<v.length∧l.length+v.length≤1099511627776 then some (l.take i.toNat++v++l.drop i.toNat)else none
theorem ZS {c X V c1 c2:List Value}{n m i:Nat}(hX:c.take n=X)(hn:X.length=n)(hm:V.length=m)(hi:i≤n)(hl:n+m≤c.length)
  (h1:c1=c.take (i+m)++X.drop i++c.drop (i+m+(X.drop i).length)) (h2:c2=c1.take i++V++c1.drop (i+V.length)):c2.take (n+m)=X.take i++V++X.drop i:=by
 have e1:(c.take (i+m)).length=i+m:=by rw[List.length_take];omega
 have e2:c1.take i=X.take i:=by
  rw[h1,List.append_assoc,List.take_append_of_le_length (by omega),List.take_take,Nat.min_eq_left (by omega),←hX,List.take_take,Nat.min_eq_left hi]
 have e3:c1.drop (i+m)=X.drop i++c.drop (i+m+(X.drop i).length):=by
  rw[h1,List.append_assoc,List.drop_left' e1]
 have e4:(X.take i).length=i:=by rw[List.length_take];omega
 rw[h2,hm,e2,e3,List.take_append,List.take_of_length_le (by simp;omega)]
 have e5:n+m-(X.take i++V).length=(X.drop i).length:=by simp;omega
 rw[e5,List.take_left]
theorem abx {c X V c1 c2:List Value}{n m i:Nat}(hX:c.take i=X.take i)(hn:X.length=n)(hm:V.length=m)(hi:i≤n)(hl:n+m≤c.length)
  (h1:c1=c.take i++V++c.drop (i+V.length)) (h2:c2=c1.take (i+m)++X.drop i++c1.drop (i+m+(X.drop i).length)):c2.take (n+m)=X.take i++V++X.drop i:=by
 have e1:(c.take i++V).length=i+m:=by simp;omega
 have e2:c1.take (i+m)=X.take i++V:=by rw[h1,List.take_left' e1,hX]
 have e5:n+m=(X.take i++V++X.drop i).length:=by simp;omega
 rw[h2,e2,e5,List.take_left]
theorem Vl {w:World}{g:Nat}{e:TypeId}{cur:Array Value}(h:w.heap[g]? =some (.cells cur e (0,0))):w.shape? g=some (e,cur.size):=by unfold World.shape?;rw[h]
theorem sK {w:World}{g:Nat}{e:TypeId}{cur:Array Value}{n:Nat}{X:List Value}(h:w.heap[g]? =some (.cells cur e (0,0)))(hX:cur.toList.take n=X)(j:Nat)(u:Value)(hj:X[j]? =some u):w.cell? ⟨g,j,none⟩=some u:=by
 rw[cell_of_row w g _ cur e (0,0) h]
 rw[←hX,List.getElem?_take]at hj
 split at hj
 ·simpa using hj
 ·cases hj
set_option maxHeartbeats 4000000 in
set_option maxRecDepth 100000 in
theorem Vm(w:World)(g gv n c i m vc:Nat)(cur curv:Array Value)(X V:List Value)(hi:i<n)(hm:0<m)(hroom:n+m≤c)(hc63:c≤9223372036854775807)(hne:gv≠g)
  (hg:w.heap[g]? =some (.cells cur 2 (0,0))) (hs:cur.size=c) (hX:cur.toList.take n=X) (hXn:X.length=n) (hv:w.heap[gv]? =some (.cells curv 2 (0,0))) (hV:curv.toList.take m=V) (hVm:V.length=m)
  (h1X:∀v ∈ X,v.oneCell'=true) (h1V:∀v ∈ V,v.oneCell'=true):
  Calls Tryz.prog 156 #[.slice (some ⟨g,0,none⟩) n c,.int .i64 i,.slice (some ⟨gv,0,none⟩) m vc] w fun e w'=>∃cur':Array Value,
   e= .returned (.slice (some ⟨g,0,none⟩) (n+m) c)∧aG (fun k=>k=g) w w'∧w'.heap[g]? =some (.cells cur' 2 (0,0))∧cur'.size=c∧cur'.toList.take (n+m)=X.take i++V++X.drop i:=by
 obtain⟨i0,hi0,hz0,hz1,hz2⟩:=info_parts OC
 have mixed:Tryz.prog.follows .mixedOrders=true:=by kernel_rfl
 have hsz:(Tryz.prog.info? 2).map (·.size)=some 1:=by rw[hi0];simp[hz1]
 have hq1:¬((m:Int)=0):=by omega
 have hq2:¬((i:Int)=(n:Int)):=by omega
 have hov:∀lb cb,(callFunc 203 #[.slice (some ⟨gv,0,none⟩) m vc,.slice (some ⟨g,i+m,none⟩) lb cb]).run Tryz.prog w= .ok (.value (.bool false)) w:=fun lb cb=>by
  rw[run_callFunc_extern Tryz.func203 (by kernel_rfl) (by kernel_rfl) (by kernel_rfl) (e:=Extern.SlicesOverlaps.overlaps #[36,36] #[4]) (by kernel_rfl),
   Lib.run_overlaps_apart w 36 4 2 Tryz.underlying36 1 (fun w=>by kernel_rfl) ⟨gv,0,none⟩ ⟨g,i+m,none⟩ m vc lb cb hne _ _ _ _ (Vl hv) (Vl hg) (by omega) (frozen_of_row w gv _ curv _ hv) (frozen_of_row w gv _ curv _ hv)]
  rfl
 have hdl:(X.drop i).length=n-i:=by rw[List.length_drop,hXn]
 have hw1:IntKind.i64.wrap ((i:Int)+(m:Int))=(i:Int)+(m:Int):=by rw[IntKind.wrap_i64];omega
 have hb1:(0:Int)≤(i:Int)+(m:Int):=by omega
 have hin:i≤n:=by omega
 have htn:((i:Int)+(m:Int)).toNat=i+m:=by omega
 have hb2:¬(c=i+m):=by omega
 have hb3:(i:Int)≤(n:Int)+(m:Int):=by omega
 have hb4:¬(c=i):=by omega
 have hcp1:∀ty dc sc,(Builtin.copy_ #[36,36] ty #[.slice (some ⟨g,i+m,none⟩) (n+m-(i+m)) dc,.slice (some ⟨g,i,none⟩) (n+m-i) sc]).run Tryz.prog w.drew= .ok (goInt (X.drop i).length) (w.drew.setCells g (i+m) (X.drop i)):=fun ty dc sc=>
  uI w.drew _ _ ty _ Tryz.underlying36 hsz hg (i+m) (n+m-(i+m)) dc ⟨g,i,none⟩ (n+m-i) sc _ (by rw[hdl];simp only[Nat.min_def];split<;>omega) (by omega)
   (fun j u hj=>by rw[Addr.add_lit];exact sK (w:=w.drew) hg hX (i+j) u (by rwa [List.getElem?_drop]at hj)) (fun u hu=>h1X u (List.mem_of_mem_drop hu))
 obtain⟨cur1,hg1,hs1,hl1⟩:=mX (X.drop i) (i+m) w.drew cur hg (by omega)
 have hv1:(w.drew.setCells g (i+m) (X.drop i)).heap[gv]? =some (.cells curv 2 (0,0)):=(mY _ _ _ _ hne).trans hv
 obtain⟨W1,hW1⟩:∃W1,W1=w.drew.setCells g (i+m) (X.drop i):=⟨_,rfl⟩
 have hK1:aG (fun k=>k=g) w W1:=by rw[hW1];exact Dg (S:=fun k=>k=g) ((aG.refl _ w).drew) (.inl rfl) _ _
 rw[←hW1]at hcp1 hg1 hv1
 have hcp2:∀(W:World),W.heap=W1.heap→∀ty dc,(Builtin.copy_ #[36,36] ty #[.slice (some ⟨g,i,none⟩) (n+m-i) dc,.slice (some ⟨gv,0,none⟩) m vc]).run Tryz.prog W= .ok (goInt V.length) (W.setCells g i V):=fun W hW ty dc=>
  uI W _ _ ty _ Tryz.underlying36 hsz (by rw[hW];exact hg1) i (n+m-i) dc ⟨gv,0,none⟩ m vc V (by rw[hVm];simp only[Nat.min_def];split<;>omega) (by omega)
   (fun j u hj=>by rw[Addr.add_lit,Nat.zero_add];exact sK (w:=W) (by rw[hW];exact hv1) hV j u hj) h1V
 have fin:∀W,W.heap=W1.heap→aG (fun k=>k=g) w W→∃cur':Array Value,aG (fun k=>k=g) w (W.setCells g i V)∧(W.setCells g i V).heap[g]? =some (.cells cur' 2 (0,0))∧cur'.size=c∧cur'.toList.take (n+m)=X.take i++V++X.drop i:=fun W hW hK=>by
  obtain⟨cur2,hg2,hs2,hl2⟩:=mX V i W cur1 (by rw[hW];exact hg1) (by omega)
  refine⟨cur2,Dg hK (.inl rfl) _ _,hg2,by omega,ZS hX hXn hVm hin (by simp;omega) hl1 hl2⟩
 clear hl1
 go_enter Tryz.func156,Tryz.ntmps156
 go_wp2_with (simp only[hov])
 go_region_law_o (refine step_copy_runI rfl _ _ 36 36 rfl _ _ (by simp[Act.eval,Act.put]) (by simp[Act.eval,Act.put]) (hcp1 _ _ _) ?_)
 go_wp2_with (at_builtin;go_loud (refine wpList_copy_runI _ rfl _ _ 36 36 rfl _ _ rfl rfl (hcp2 _ rfl _ _) ?_))
 go_ret
 obtain⟨cur',k1,k2,k3,k4⟩:=fin _ rfl hK1
 rw[hW1]at k1 k2
 exact⟨cur',rfl,k1,k2,k3,k4⟩
set_option maxHeartbeats 4000000 in
set_option maxRecDepth 100000 in
theorem ZT(w:World)(u:Value)(gv n m vc:Nat)(curv:Array Value)(X V:List Value)(hm:0<m)(hbig:n+m≤1099511627776)
  (hown:w.ownsRow 0 2 1 u n X) (hv:w.heap[gv]? =some (.cells curv 2 (0,0))) (hV:curv.toList.take m=V) (hVm:V.length=m) (h1V:∀v ∈ V,v.oneCell'=true):
  Calls Tryz.prog 156 #[u,.int .i64 n,.slice (some ⟨gv,0,none⟩) m vc] w fun e w'=>∃u',
   e= .returned u'∧w'.ownsRow 0 2 1 u' (n+m) (X++V)∧w.grownBy w' u.ownBlock∧(u'.ownBlock=u.ownBlock∨u'.ownBlock=some w.heap.size):=by
 obtain⟨i0,hi,hz0,hz1,hz2⟩:=info_parts OC
 have mixed:Tryz.prog.follows .mixedOrders=true:=by kernel_rfl
 have hq1:¬((m:Int)=0):=by omega
 obtain⟨v',w',hrun,r1,r2,_,r3⟩:=run_append_own_at (P:=Tryz.prog) w 0 36 36 2 i0 (.int .i64 0) 1 8 Tryz.underlying36 hi hz0 hz1 hz2 rfl (by decide) u n X hown ⟨gv,0,none⟩ m vc V (by omega) (fun j u hj=>by rw[Addr.add_lit,Nat.zero_add];exact sK hv hV j u hj) h1V (by unfold maxLen;omega) (by omega) (Nat.zero_le _)
 obtain⟨hl,⟨rfl,rfl⟩|⟨g,c,cur,rfl,hge,hg,hcap,hmx,hcur,htake⟩⟩:=id hown
 ·go_enter Tryz.func156,Tryz.ntmps156
  go_wp2_with (at_builtin;refine Lib.wpList_append_run _ rfl _ _ _ _ rfl _ _ rfl rfl _ _ hrun ?_)
  go_ret
  exact⟨v',rfl,by simpa using r1,r2,r3⟩
 ·have hc63:c≤9223372036854775807:=by unfold maxLen at hmx;omega
  by_cases hcn:c=n
  ·subst hcn
   go_enter Tryz.func156,Tryz.ntmps156
   go_wp2_with (at_builtin;refine Lib.wpList_append_run _ rfl _ _ _ _ rfl _ _ rfl rfl _ _ hrun ?_)
   go_ret
   exact⟨v',rfl,r1,r2,r3⟩
  ·go_enter Tryz.func156,Tryz.ntmps156
   go_wp2_with (at_builtin;refine Lib.wpList_append_run _ rfl _ _ _ _ rfl _ _ rfl rfl _ _ hrun ?_)
   go_ret
   exact⟨v',rfl,r1,r2,r3⟩
set_option maxHeartbeats 4000000 in
set_option maxRecDepth 100000 in
theorem Xr(w:World)(g gv n c i m vc:Nat)(cur curv:Array Value)(X V:List Value)(hi:i<n)(hm:0<m)(hnc:n≤c)(hroom:c<n+m)(hbig:n+m≤1099511627776)
  (hg:w.heap[g]? =some (.cells cur 2 (0,0))) (hs:cur.size=c) (hX:cur.toList.take n=X) (hXn:X.length=n) (hv:w.heap[gv]? =some (.cells curv 2 (0,0))) (hV:curv.toList.take m=V) (hVm:V.length=m)
  (h1X:∀v ∈ X,v.oneCell'=true) (h1V:∀v ∈ V,v.oneCell'=true):
  Calls Tryz.prog 156 #[.slice (some ⟨g,0,none⟩) n c,.int .i64 i,.slice (some ⟨gv,0,none⟩) m vc] w fun e w'=>∃(cur':Array Value) (G:Nat),
   e= .returned (.slice (some ⟨w.heap.size,0,none⟩) (n+m) G)∧Below w.heap.size w w'∧w'.heap[w.heap.size]? =some (.cells cur' 2 (0,0))∧cur'.size=G∧n+m≤G∧G≤maxLen∧cur'.toList.take (n+m)=X.take i++V++X.drop i:=by
 obtain⟨i0,hi0,hz0,hz1,hz2⟩:=info_parts OC
 have mixed:Tryz.prog.follows .mixedOrders=true:=by kernel_rfl
 have hsz:(Tryz.prog.info? 2).map (·.size)=some 1:=by rw[hi0];simp[hz1]
 have hq1:¬((m:Int)=0):=by omega
 have hq2:¬((i:Int)=(n:Int)):=by omega
 have hq3:(c:Int)<(n:Int)+(m:Int):=by omega
 have hgl:g<w.heap.size:=(Array.getElem?_eq_some_iff.1 hg).1
 have hvl:gv<w.heap.size:=(Array.getElem?_eq_some_iff.1 hv).1
 have hold:(Builtin.firstCells i0.size i (.slice (some ⟨g,0,none⟩) i c)).run Tryz.prog w.drew= .ok (X.take i).toArray w.drew:=by
  rw[hz1]
  exact run_firstCells_some w.drew 1 i ⟨g,0,none⟩ i c (X.take i) (by rw[List.length_take];omega) (fun j u hj=>by
   rw[Addr.add_lit,Nat.zero_add]
   rw[List.getElem?_take]at hj
   split at hj
   ·exact sK (w:=w.drew) hg hX j u hj
   ·cases hj)
 obtain⟨G,hG⟩:∃G,G=grownCap w (n+m) c 2 :=⟨_,rfl⟩
 obtain⟨ROW,hROW⟩:∃ROW:Array Value,ROW=(X.take i).toArray++Builtin.zeroCells (Value.int .i64 0).cells (n+m-i)++Builtin.zeroCells (Value.int .i64 0).cells (G-(n+m)):=⟨_,rfl⟩
 have hGn:n+m≤G:=by rw[hG];exact grownCap_ge w _ _ _
 have hGm:G≤maxLen:=by rw[hG];exact grownCap_le_maxLen w (n+m) c _ (by unfold maxLen;omega)
 have hG63:G≤9223372036854775807:=by unfold maxLen at hGm;omega
 have hRs:ROW.size=G:=by
  rw[hROW]
  simp[Builtin.zeroCells,Value.cells]
  omega
 have hRt:ROW.toList.take i=X.take i:=by
  rw[hROW,Array.toList_append,Array.toList_append,List.append_assoc,List.take_left' (by simp;omega)]
 have hrz:∀ty,(Builtin.append_ #[36,3] ty #[.slice (some ⟨g,0,none⟩) i c,.int .i64 ((n:Int)+(m:Int)-(i:Int))]).run Tryz.prog w=
   .ok (.slice (some ⟨w.heap.size,0,none⟩) (n+m) G) (w.drew.alloc (.cells ROW 2)):=fun ty=>by
  have hik:i+(n+m-i)=n+m:=by omega
  have hkk:(n:Int)+(m:Int)-(i:Int)=((n+m-i:Nat):Int):=by omega
  have h:=Lib.run_append_grow_zeros w 36 3 ty 2 i0 _ .i64 .i64 Tryz.underlying36 Tryz.underlying3 hi0 hz0 (some ⟨g,0,none⟩) i c (X.take i) hold (n+m-i) (by omega) (by omega) (by omega) (by omega) (by rw[hz2];omega) (by rw[hz2,hik];exact growslice_fits hroom (by omega))
  rw[hik,←hG,←hROW]at h
  rw[hkk]
  exact h
 clear hold hROW hG
 obtain⟨W1,hW1⟩:∃W1,W1=w.drew.alloc (.cells ROW 2):=⟨_,rfl⟩
 have hB1:Below w.heap.size w W1:=by rw[hW1];exact(Below.refl _ w).drew.alloc (Nat.le_refl _) _
 have hr1:W1.heap[w.heap.size]? =some (.cells ROW 2 (0,0)):=by rw[hW1];exact World.alloc_heap_new w.drew _
 have hg1:W1.heap[g]? =some (.cells cur 2 (0,0)):=(hB1.block g hgl).trans hg
 have hv1:W1.heap[gv]? =some (.cells curv 2 (0,0)):=(hB1.block gv hvl).trans hv
 have hdl:(X.drop i).length=n-i:=by rw[List.length_drop,hXn]
 have hcpA:∀(W:World),W.heap=W1.heap→∀ty dc,(Builtin.copy_ #[36,36] ty #[.slice (some ⟨w.heap.size,i,none⟩) (n+m-i) dc,.slice (some ⟨gv,0,none⟩) m vc]).run Tryz.prog W= .ok (goInt V.length) (W.setCells w.heap.size i V):=fun W hW ty dc=>
  uI W _ _ ty _ Tryz.underlying36 hsz (by rw[hW];exact hr1) i (n+m-i) dc ⟨gv,0,none⟩ m vc V (by rw[hVm];simp only[Nat.min_def];split<;>omega) (by omega)
   (fun j u hj=>by rw[Addr.add_lit,Nat.zero_add];exact sK (w:=W) (by rw[hW];exact hv1) hV j u hj) h1V
 obtain⟨cur1,hr2,hs2,hl2⟩:=mX V i W1 ROW hr1 (by omega)
 have hg2:(W1.setCells w.heap.size i V).heap[g]? =some (.cells cur 2 (0,0)):=(mY _ _ _ _ (by omega)).trans hg1
 have hB2:Below w.heap.size w (W1.setCells w.heap.size i V):=mZ hB1 (Nat.le_refl _) _ _
 have hcpB:∀(W:World),W.heap=(W1.setCells w.heap.size i V).heap→∀ty dc sc,(Builtin.copy_ #[36,36] ty #[.slice (some ⟨w.heap.size,i+m,none⟩) (n+m-(i+m)) dc,.slice (some ⟨g,i,none⟩) (n-i) sc]).run Tryz.prog W= .ok (goInt (X.drop i).length) (W.setCells w.heap.size (i+m) (X.drop i)):=fun W hW ty dc sc=>
  uI W _ _ ty _ Tryz.underlying36 hsz (by rw[hW];exact hr2) (i+m) (n+m-(i+m)) dc ⟨g,i,none⟩ (n-i) sc _ (by rw[hdl];simp only[Nat.min_def];split<;>omega) (by omega)
   (fun j u hj=>by rw[Addr.add_lit];exact sK (w:=W) (by rw[hW];exact hg2) hX (i+j) u (by rwa [List.getElem?_drop]at hj)) (fun u hu=>h1X u (List.mem_of_mem_drop hu))
 have fin:∀W,W.heap=(W1.setCells w.heap.size i V).heap→Below w.heap.size w W→∃cur':Array Value,Below w.heap.size w (W.setCells w.heap.size (i+m) (X.drop i))∧(W.setCells w.heap.size (i+m) (X.drop i)).heap[w.heap.size]? =some (.cells cur' 2 (0,0))∧cur'.size=G∧cur'.toList.take (n+m)=X.take i++V++X.drop i:=fun W hW hB=>by
  obtain⟨cur2,hr3,hs3,hl3⟩:=mX (X.drop i) (i+m) W cur1 (by rw[hW];exact hr2) (by omega)
  exact⟨cur2,mZ hB (Nat.le_refl _) _ _,hr3,by omega,abx (c:=ROW.toList) hRt hXn hVm (by omega) (by simp;omega) hl2 hl3⟩
 have hGi:¬(G=i):=by omega
 have hGim:¬(G=i+m):=by omega
 have hci:¬(c=i):=by omega
 have hw1:IntKind.i64.wrap ((i:Int)+(m:Int))=(i:Int)+(m:Int):=by rw[IntKind.wrap_i64];omega
 have hb1:(0:Int)≤(i:Int)+(m:Int):=by omega
 have hin:i≤n:=by omega
 have htn:((i:Int)+(m:Int)).toNat=i+m:=by omega
 have hb3:(i:Int)≤(n:Int):=by omega
 have hb5:(i:Int)≤(n:Int)+(m:Int):=by omega
 rw[←hW1]at hrz
 clear hl2 hRt hRs
 subst hW1
 have hE:((w.alloc (.cells ROW 2)).drew).heap=(w.drew.alloc (.cells ROW 2)).heap:=rfl
 have hF:(((w.alloc (.cells ROW 2)).drew.setCells w.heap.size i V).drew).heap=((w.drew.alloc (.cells ROW 2)).setCells w.heap.size i V).heap:=rfl
 go_enter Tryz.func156,Tryz.ntmps156
 go_wp2_with (first
  |(at_builtin;refine Lib.wpList_append_run _ rfl _ _ _ _ rfl _ _ rfl rfl _ _ (hrz _) ?_)
  |(at_builtin;refine wpList_copy_runI _ rfl _ _ 36 36 rfl _ _ rfl rfl (hcpA _ hE _ _) ?_))
 go_region_law_o (refine step_copy_runI rfl _ _ 36 36 rfl (.slice (some ⟨w.heap.size,i+m,none⟩) (n+m-(i+m)) (G-(i+m))) (.slice (some ⟨g,i,none⟩) (n-i) (c-i)) (by simp[Act.eval,Act.put]) (by simp[Act.eval,Act.put]) (hcpB _ hF 3 (G-(i+m)) (c-i)) ?_)
 go_wp2
 go_ret
 obtain⟨cur',k1,k2,k3,k4⟩:=fin _ hF (mZ ((Below.refl _ w).alloc (Nat.le_refl _) _).drew (Nat.le_refl _) i V).drew
 exact⟨cur',G,rfl,k1,k2,k3,hGn,hGm,k4⟩
theorem aby {G:Gl}(he:jN Tryz.prog 156):
  FnOK G Tryz.prog 156 ⟨.pair (.own 2 (.int .i64)) (.pair (.int .i64) (.pair (.own 2 (.int .i64)) .unit)),.pair (.own 2 (.int .i64)) .unit,.unit,rfl,fun x=>ac (Vk x.1 x.2.1 x.2.2.1) fun s=>some (s,())⟩:=by
 refine FnOK.own_int_own (g:=Vk) he ?_
 intro w u xs i v vs y hI hrow hrow2 hne hy
 unfold Vk at hy
 split at hy
 ·rename_i hh
  obtain⟨h0,hin,hm,hl⟩:=hh
  obtain rfl:=Option.some.inj hy
  obtain⟨i,rfl⟩:=Int.eq_ofNat_of_zero_le h0
  have hin:i≤xs.length:=by omega
  simp only[Int.toNat_natCast]
  have h1X:∀z ∈ xs.map (fun n=>Value.int .i64 n),z.oneCell'=true:=fun z hz=>by
   obtain⟨n,_,rfl⟩:=List.mem_map.1 hz
   rfl
  have h1V:∀z ∈ vs.map (fun n=>Value.int .i64 n),z.oneCell'=true:=fun z hz=>by
   obtain⟨n,_,rfl⟩:=List.mem_map.1 hz
   rfl
  obtain⟨_,⟨_,hn⟩|⟨gv,vc,curv,rfl,_,hgv,_,_,_,hV⟩⟩:=hrow2
  ·omega
  ·rw[Nat.mul_one]at hV
   have hkeep:∀ {w':World} {row:Option Nat},w.grownBy w' row→(∀k,row=some k→ck u=some k)→aG (fun b=>ck u=some b∨ck (Value.slice (some ⟨gv,0,none⟩) vs.length vc)=some b) w w':=fun h hr=>aG.grown h fun k hk=>.inl (hr k hk)
   have hyl:(xs.take i++vs++xs.drop i).length=xs.length+vs.length:=by simp;omega
   have hmap:(xs.take i++vs++xs.drop i).map (fun n=>Value.int .i64 n)=(xs.map fun n=>Value.int .i64 n).take i++(vs.map fun n=>Value.int .i64 n)++(xs.map fun n=>Value.int .i64 n).drop i:=by simp
   by_cases hie:i=xs.length
   ·subst hie
    refine(ZT w u gv xs.length vs.length vc curv _ _ hm (by omega) hrow hgv hV (by simp) h1V).mono ?_
    rintro e w' ⟨u',rfl,r1,r2,r3⟩
    have hob:∀z:Value,z.ownBlock=ck z∨z.ownBlock=none:=fun z=>by
     cases z<;>try exact .inr rfl
     rename_i a _ _
     cases a
     ·exact .inr rfl
     ·exact .inl rfl
    refine⟨u',rfl,hkeep r2 fun k hk=> ?_, ?_,fun b hb=> ?_⟩
    ·rcases hob u with h|h
     ·rw[←h];exact hk
     ·rw[h]at hk;cases hk
    ·rw[hyl,hmap,List.take_of_length_le (by simp),List.drop_eq_nil_of_le (by simp),List.append_nil]
     exact r1
    ·rcases r1.2 with⟨rfl,_⟩|⟨g',c',cur',rfl,_,hg',_⟩
     ·cases hb
     ·have hb:g'=b:=by simpa [ck]using hb
      subst hb
      rcases r3 with h|h
      ·rcases hob u with h2|h2
       ·rw[h2]at h;exact .inl (.inl h.symm)
       ·rw[h2]at h;cases h
      ·exact .inr (by have:g'=w.heap.size:=by simpa [Value.ownBlock]using h
                      omega)
   ·have hi:i<xs.length:=by omega
    obtain⟨_,⟨rfl,hn⟩|⟨g,c,cur,rfl,_,hg,hcap,hmx,hcur,htake⟩⟩:=hrow
    ·omega
    ·rw[Nat.mul_one]at htake
     have hne':gv≠g:=by
      rintro rfl
      exact hne gv rfl rfl
     by_cases hroom:xs.length+vs.length≤c
     ·refine(Vm w g gv xs.length c i vs.length vc cur curv _ _ hi hm hroom (by unfold maxLen at hmx;omega) hne' hg (by omega) htake (by simp) hgv hV (by simp) h1X h1V).mono ?_
      rintro e w' ⟨cur',rfl,k1,k2,k3,k4⟩
      refine⟨_,rfl,k1.mono fun b _ hb=>.inl (by rw[hb];rfl), ?_,fun b hb=>.inl (.inl hb)⟩
      rw[hyl,hmap]
      exact yk (Nat.zero_le _) k2 hroom hmx k3 (by simp;omega) k4
     ·refine(Xr w g gv xs.length c i vs.length vc cur curv _ _ hi hm hcap (by omega) (by omega) hg (by omega) htake (by simp) hgv hV (by simp) h1X h1V).mono ?_
      rintro e w' ⟨cur',G',rfl,k1,k2,k3,k4,k5,k6⟩
      refine⟨_,rfl,(aG.ofBelow k1).mono fun _ _ h=>h.elim, ?_,fun b hb=>.inr (by have:w.heap.size=b:=by simpa [ck]using hb
                                                                                 omega)⟩
      rw[hyl,hmap]
      exact yk (Nat.zero_le _) k2 k4 k5 k3 (by simp;omega) k6
 ·cases hy
end Go.Proofs.YtnambbcafhnhpaaGreatDoor
