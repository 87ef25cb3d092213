import Derived.Test.YtnambbcafhnhpaaGreatDoorTcW
namespace Go.Proofs.YtnambbcafhnhpaaGreatDoor
open Go.RowKit Go.Shelf
set_option linter.unusedVariables false
set_option linter.unusedSimpArgs false
attribute [local go_sem] Oper.semAt_some
theorem ahg:(Tryz.prog.info? 2).map (fun i=>(i.zero,i.size,i.bytes))=some (some (.int .i64 0),1,8):=by kernel_rfl
theorem vw {F:Fence}{n:Nat}{P:Program}{w:World}{o:Oper}{a:Act}{Q:Exit→Act→World→Prop}{K:Act→World→Prop}{E:Prop}{ys:Nat→Option Bool}
  (hg:o.guard=none) (s x:Operand) (t:TypeId) (hop:o.op=Op.call {callee:=Callee.builtin Builtin.append,args:= #[s,x],argTypes:= #[t,t]})
  (base:Nat) (e:TypeId) (i:TypeInfo) (z:Value) (size bytes:Nat) (h1:P.underlying t=some (.slice e)) (h2:P.info? e=some i) (h3:i.zero=some z) (h4:i.size=size) (h5:i.bytes=bytes) (h6:z.cells.size=size) (h7:0<size)
  (v:Value) (k:Nat) (xs:List Value) (hs:a.eval s=v) (hown:w.ownsRow base e size v k xs) (ad:Addr) (m c:Nat) (news:List Value) (hx:a.eval x= .slice (some ad) m c) (hn:news.length=m*size)
  (hc:∀j u,news[j]? =some u→w.cell? (ad.add j)=some u) (h1c:∀u ∈ news,u.oneCell'=true) (b1:k+m≤maxLen) (b2:(k+m)*bytes≤140737488355328) (b3:base≤w.heap.size)
  (hK:∀v' w',w'.ownsRow base e size v' (k+m) (xs++news)→w.grownBy w' v.ownBlock→K (a.put o.dst v') w'):
  if Region.wanted o ys=true then Oper.wpIn F n P o a w K Q else E:=by
 have hw:Region.wanted o ys=true:=by simp[Region.wanted,hg]
 rw[if_pos hw]
 obtain⟨v',w',hrun,r1,r2,r3⟩:=run_append_own (P:=P) w base t o.type e i z size bytes h1 h2 h3 h4 h5 h6 h7 v k xs hown ad m c news hn hc h1c b1 b2 b3
 unfold Oper.wpIn
 refine⟨?_, ?_⟩
 ·simp[Oper.about,hop,resolve,Target.leads,Sem.run_pure]
 ·rw[Oper.semAt_plain F _ _ (by rw[hop];intro c hc';cases hc')]
  simp[execOp,hop,resolve,invoke,builtin,hs,hx,hrun,Result.andThen]
  exact hK _ _ r1 r2
theorem ZM {w W W1:World}{B:Nat}{t e:TypeId}{v:Value}{k:Nat}{xs:List Value}(hv:Boxed W B t v)(hrow:W.ownsRow w.heap.size e 1 v k xs)(hB:Below w.heap.size w W)(hb:Below W.drew.heap.size W.drew W1):
  Boxed W1 B t v∧W1.ownsRow w.heap.size e 1 v k xs∧Below w.heap.size w W1:=by
 have hk:∀k,k<W.heap.size→W1.heap[k]? =W.heap[k]? :=fun k hk=>hb.block k hk
 refine⟨(hk B hv.lt).trans hv,⟨hrow.1,hrow.2.imp id ?_⟩,hB.trans ((Below.refl _ W).drew.trans (hb.mono (show w.heap.size≤W.drew.heap.size from hB.size)))⟩
 rintro ⟨g,cap,cur,h1,h2,h3,h4⟩
 exact⟨g,cap,cur,h1,h2,(hk g (Array.getElem?_eq_some_iff.1 h3).1).trans h3,h4⟩
set_option maxRecDepth 100000 in
set_option maxHeartbeats 4000000 in
theorem Vh {G:Gl}{g:List Int×Unit→Option (Int×Unit)}(hn:FnOK G Tryz.prog 223 ⟨.pair (.list (.int .i64)) .unit,.pair (.int .i64) .unit,.unit,rfl,g⟩)
  (w:World) (ok:Nat→Prop) (l:List Int) (y:List Int) (hg:GW G ok w) (hy:me g l=some y) (b o cap:Nat) (hok:ok b) (hlt0:b<w.heap.size) (hcap:l.length≤cap)
  (hcells:∀i (h:i<l.length),∃us,MR w b (o+i*1) us∧us= [Value.int .i64 l[i]]):
  Calls Tryz.prog 185 #[.slice (some ⟨b,o,none⟩) l.length cap] w fun e w'=>∃u,e= .returned u∧aG vI w w'∧w'.ownsRow w.heap.size 2 1 u y.length (y.map fun n=>Value.int .i64 n):=by
 obtain⟨i0,hi,hz0,hz1,hz2⟩:=info_parts ahg
 have hl:l.length≤1099511627776:=by
  unfold me at hy
  split at hy
  ·assumption
  ·cases hy
 have hro:Fence.wide.round=none:=rfl
 refine(callsIn_wide (n:=3)).1 ?_
 refine callsIn_of_wp_marks Tryz.func185 rfl trivial ?_ hro
 simp only[Tryz.ntmps185,List.size_toArray,List.length_cons,List.length_nil,Nat.reduceAdd,Nat.reduceSub,Array.replicate_succ,Array.replicate_zero,List.push_toArray,List.append_toArray,List.nil_append,List.cons_append]
 gi_wp2_with (refine⟨trivial, ?_⟩;gi_at_call 222;refine(Vf Fence.wide 2 trivial rfl _ _ _ _).mono ?_;rintro e w' ⟨rfl,rfl⟩)
 obtain⟨hyl,hyv⟩:y.length=dQ l.length∧∀(k:Fin (dQ l.length)) (h:k.1<y.length),∃z,g (cA l k.1,())=some z∧z.1=y[k.1]:=by
  unfold me at hy
  rw[if_pos hl]at hy
  obtain⟨h1,h2⟩:=MI hy
  rw[List.length_finRange]at h1
  refine⟨h1,fun k h=> ?_⟩
  have h3:=h2 k.1 (by rw[List.length_finRange];exact k.2) h
  simp only[List.getElem_finRange]at h3
  have e:(⟨k.1,k.2⟩:Fin (dQ l.length))=k:=rfl
  revert h3
  cases hz:g (cA l k.1,())with
  |none=>intro h3;simp[hz]at h3
  |some z=>intro h3;simp[hz]at h3;exact⟨z,rfl,h3⟩
 have bO:Boxed (((w.alloc (Obj.cells #[] 2)).alloc (Obj.cells #[Value.slice (some {block:=w.heap.size,off:=0}) 0 0] 36))) (w.heap.size+1) 36 (.slice (some {block:=w.heap.size,off:=0}) 0 0):=by
  have:=Boxed.new (w.alloc (Obj.cells #[] 2)) 36 (Value.slice (some {block:=w.heap.size,off:=0}) 0 0)
  rwa [World.size_alloc]at this
 have bO2:=(bO.alloc (.cells #[.slice (some ⟨b,o,none⟩) l.length cap] 36)).alloc (.cells #[.int .i64 8] 3)
 have bS:=Boxed.new ((w.alloc (Obj.cells #[] 2)).alloc (Obj.cells #[Value.slice (some {block:=w.heap.size,off:=0}) 0 0] 36)) 36 (.slice (some ⟨b,o,none⟩) l.length cap)
 have bN:=Boxed.new (((w.alloc (Obj.cells #[] 2)).alloc (Obj.cells #[Value.slice (some {block:=w.heap.size,off:=0}) 0 0] 36)).alloc (.cells #[.slice (some ⟨b,o,none⟩) l.length cap] 36)) 3 (.int .i64 8)
 simp only[World.size_alloc]at bS bN
 have bS2:=bS.alloc (.cells #[.int .i64 8] 3)
 have hB0:Below w.heap.size w ((((w.alloc (Obj.cells #[] 2)).alloc (Obj.cells #[Value.slice (some {block:=w.heap.size,off:=0}) 0 0] 36)).alloc (.cells #[.slice (some ⟨b,o,none⟩) l.length cap] 36)).alloc (.cells #[.int .i64 8] 3)):=
  ((((Below.refl _ w).alloc (Nat.le_refl _) _).alloc (by simp) _).alloc (by simp;omega) _).alloc (by simp;omega) _
 have hown0:(w.alloc (Obj.cells #[] 2)).ownsRow w.heap.size 2 1 (.slice (some {block:=w.heap.size,off:=0}) 0 0) 0 []:=
  ⟨rfl,.inr ⟨w.heap.size,0, #[],rfl,Nat.le_refl _,World.alloc_heap_new w _,Nat.le_refl _,Nat.zero_le _,rfl,rfl⟩⟩
 have hown1:=((hown0.alloc (Obj.cells #[Value.slice (some {block:=w.heap.size,off:=0}) 0 0] 36)).alloc (.cells #[.slice (some ⟨b,o,none⟩) l.length cap] 36)).alloc (.cells #[.int .i64 8] 3)
 refine wpIn_rangeFunc_ownG hro (by omega) (gf:=248) (lb:= #[.pointer (some ⟨w.heap.size+2,0,none⟩),.pointer (some ⟨w.heap.size+3,0,none⟩)]) (by simp[Act.eval]) trivial (enters_of Tryz.func248 (by kernel_rfl) rfl)
  (Xo Fence.wide 2 trivial hro (by omega) (w.heap.size+2) (w.heap.size+3) w.heap.size b o l.length cap hl hcap _ (by simp) (by simp) bS2.cell bN.cell) (fun h k=>xr.trans h k) (xr.base (by simp;omega) (by simp) (by simp)) (Below.refl _ _) (fun _=>rfl)
  (fun pre W=>((∃v,Boxed W (w.heap.size+1) 36 v∧W.ownsRow w.heap.size 2 1 v pre.length (pre.map fun k=>Value.int .i64 (y.getD k.1 0))∧True)∧(Boxed W (w.heap.size+2) 36 (.slice (some ⟨b,o,none⟩) l.length cap)∧Boxed W (w.heap.size+3) 3 (.int .i64 8)))∧Below w.heap.size w W)
  (fun _ _ _=>False)
  (OwnFrom.and (OwnFrom.and (Own.from (holdsRow_own w.heap.size (w.heap.size+1) 36 2 1 (fun pre:List (Fin (dQ l.length))=>pre.length) (fun pre=>pre.map fun k=>Value.int .i64 (y.getD k.1 0)) (fun _ _=>True)) _) (OwnFrom.and (Own.from (boxed_own _ _ fun _=>_) _) (Own.from (boxed_own _ _ fun _=>_) _))) (ownFrom_below (Nat.le_refl _) (by simp;omega)))
  (fun _ _ _ _ _ hs _ _=>hs)
  ⟨⟨⟨_,bO2,hown1,trivial⟩,bS2,bN⟩,hB0⟩
  (fun x=>{tmps:= #[.slice (some ⟨b,o,none⟩) l.length cap,undef,.slice none 0 0,.pointer (some ⟨w.heap.size+1,0,none⟩),tu b o l.length x,.slice (some ⟨w.heap.size,0,none⟩) 0 0,.slice (some ⟨b,o,none⟩) l.length cap,.func (.func 248) #[] #[.pointer (some ⟨w.heap.size+2,0,none⟩),.pointer (some ⟨w.heap.size+3,0,none⟩)],tu b o l.length x,undef,undef,undef,undef,undef,undef],defers:=[]}) ?assign ?body ?done ?stop
 case assign=>
  intro l x W K hK
  gi_wp2
  exact hK
 case body=>
  rintro l' pre x W ⟨⟨⟨v,hv,hrow,-⟩,hS,hNb⟩,hB⟩ hlt
  have hlt':=hlt0
  have hc:=hv.cell
  have hf:=hv.frozen
  have hx:=ac1 x
  have hN:dQ l.length≤1099511627776:=by
   have key:∀m,m≤1099511627776→(m+7) / 8≤1099511627776:=fun m h=>by omega
   exact key _ hl
  have hxy:x.1<y.length:=by rw[hyl];exact x.2
  obtain⟨n1,hn1⟩:∃n1:Int,n1=y.getD x.1 0:=⟨_,rfl⟩
  have hnum:∀W',Below W.heap.size W W'→Calls Tryz.prog 223 #[tu b o l.length x] W' fun e W''=>e= .returned (.int .i64 n1)∧Below W'.heap.size W' W'':=by
   intro W' hW'
   obtain⟨z,hz1,hz2⟩:=hyv x hxy
   have hsz:=hB.size
   have hB':Below w.heap.size w W':=hB.trans (hW'.mono hB.size)
   have hv:y.getD x.1 0=z.1:=by rw[List.getD_eq_getElem?_getD,List.getElem?_eq_getElem hxy];exact hz2.symm
   rw[hn1,hv]
   refine FnOK.gives_int hn rfl (w:=W') (ok:=ok) (args:=[tu b o l.length x]) (x:=(cA l x.1,())) (hg.agree ⟨hB'.size,fun c _ hc=>hB'.block c hc⟩ fun _ _ h=>h) ?_ hz1
   refine⟨_,[],rfl, ?_,rfl⟩
   have hlc:=rG l x.1
   refine⟨_,rfl,.inr ⟨b,o+8*x.1,min 8 (l.length-8*x.1),by unfold tu;rw[hlc],hok,Nat.lt_of_lt_of_le hlt' hB'.size,by rw[hlc];exact Nat.le_refl _,fun i hi=> ?_⟩⟩
   have hi2:=hi
   rw[hlc]at hi2
   have hi':8*x.1+i<l.length:=by omega
   obtain⟨us,hm,rfl⟩:=hcells (8*x.1+i) hi'
   refine⟨[Value.int .i64 (cA l x.1)[i]], ?_,rfl⟩
   have e:(cA l x.1)[i]=l[8*x.1+i]:=by simp[cA]
   rw[e]
   intro j u hj
   have:=hm j u hj
   have e2:o+8*x.1+i*Ty.size (.int .i64)+j=o+(8*x.1+i)*1+j:=by simp[Ty.size];omega
   rw[e2]
   exact(hB'.cell (p:=⟨b,_,none⟩) hlt').trans this
  have fin:∀(BB:Nat) (W1:World) (v':Value) (W3:World),Below W.drew.heap.size W.drew W1→KeepsOthers W1 W3→Below w.heap.size W1 W3→Boxed W3 (w.heap.size+1) 36 v'→W3.ownsRow w.heap.size 2 1 v' (pre.length+1) ((pre.map fun k=>Value.int .i64 (y.getD k.1 0))++ [.int .i64 n1])→
    Boxed W3 (w.heap.size+2) 36 (.slice (some ⟨b,o,none⟩) l.length cap)→Boxed W3 (w.heap.size+3) 3 (.int .i64 8)→
    ownPostG BB (xr w.heap.size (w.heap.size+2) (w.heap.size+3)) (fun pre W=>((∃v,Boxed W (w.heap.size+1) 36 v∧W.ownsRow w.heap.size 2 1 v pre.length (pre.map fun k=>Value.int .i64 (y.getD k.1 0))∧True)∧(Boxed W (w.heap.size+2) 36 (.slice (some ⟨b,o,none⟩) l.length cap)∧Boxed W (w.heap.size+3) 3 (.int .i64 8)))∧Below w.heap.size w W) (fun _ _ _=>False) (pre++ [x]) W .normal {tmps:= #[],defers:=[]} W3:=by
   intro BB W1 v' W3 hb1 hk3 hb3 hv3 hr3 hS3 hN3
   have hWW1:Below w.heap.size W W1:=(Below.refl _ W).drew.trans (hb1.mono (show w.heap.size≤W.drew.heap.size from hB.size))
   refine⟨((show KeepsOthers W W1 from⟨hb1.size,fun k o hk _=>(hb1.block k (Array.getElem?_eq_some_iff.1 hk).1).trans hk⟩).trans hk3).from _,⟨hWW1.trans hb3,Eq.trans hS3 (Eq.symm hS),Eq.trans hN3 (Eq.symm hNb)⟩,⟨⟨v',hv3, ?_,trivial⟩,hS3,hN3⟩,hB.trans (hWW1.trans hb3)⟩
   rw[List.length_append,List.map_append]
   simp only[List.map_cons,List.map_nil,←hn1]
   exact hr3
  clear hn1
  unfold tu
  gi_wp2
  refine wpIn_region_any (by kernel_rfl) ?_
  change wpAnyIn _ _ _ _ _ _ _ _ _ (World.drew _)
  refine wpAnyIn_ready (rs:=[0,1]) (by kernel_rfl) (by simp) ?_
  refine AllReadyIn.cons rfl (fun K hK=> ?_) ?_
  ·go_simp
   refine hK _ _ ?_
   clear hK K
   refine wpAnyIn_ready (rs:=[1]) (by kernel_rfl) (by simp) ?_
   refine AllReadyIn.cons rfl (fun K hK=> ?_) ?_
   ·go_simp
    refine hK _ _ ?_
    clear hK K
    refine wpAnyIn_ready (rs:=[2]) (by kernel_rfl) (by simp) ?_
    refine AllReadyIn.cons rfl (fun K hK=> ?_) ?_
    ·go_simp
     refine⟨trivial,(CallsIn.inRound l' (callsIn_wide.2 (hnum _ (Below.refl _ W).drew))).mono ?_⟩
     rintro e W1 ⟨rfl,hb1⟩
     obtain⟨hv1,hrow1,hbW1⟩:=ZM hv hrow hB hb1
     have hS1:Boxed W1 _ _ _:=(hb1.block _ hS.lt).trans hS
     have hN1:Boxed W1 _ _ _:=(hb1.block _ hNb.lt).trans hNb
     have hc3:(W1.alloc (Obj.cells #[Value.int .i64 n1] 2)).cell? ⟨w.heap.size+1,0,none⟩=some v:=(hv1.alloc _).cell
     have hc1:=hv1.cell
     refine hK _ _ ?_
     clear hK K
     refine wpAnyIn_ready (rs:=[3]) (by kernel_rfl) (by simp) ?_
     refine AllReadyIn.cons rfl (fun K hK=> ?_) ?_
     ·go_simp
      refine hK _ _ ?_
      clear hK K
      refine wpAnyIn_ready (rs:=[4]) (by kernel_rfl) (by simp) ?_
      refine AllReadyIn.cons rfl (fun K hK=> ?_) ?_
      ·refine vw rfl _ _ 36 rfl w.heap.size 2 i0 (.int .i64 0) 1 8 Tryz.underlying36 hi hz0 hz1 hz2 rfl (by decide) _ _ _ rfl (hrow1.alloc _) ⟨W1.heap.size,0,none⟩ 1 1 [.int .i64 n1] rfl rfl (cell_one_new _ _ _) (by simp[Value.oneCell']) (by unfold maxLen;omega) (by omega) (by have:=hbW1.size;simp;omega) ?_
       intro v' w1 hown' hgrow
       obtain⟨g',cap',rfl⟩:=ownsRow_succ hown'
       obtain⟨hv2,hv3,hr3,hk3,hb3⟩:=hv1.appended (by decide) hrow1 hbW1.size (by omega) hown' hgrow
       have hc2:=hv2.cell
       have hf2:=hv2.frozen
       have hS2:=((hS1.alloc _).kept hgrow (hS1.not_row (by decide) hrow1)).other (show w.heap.size+2≠w.heap.size+1 by omega) (.slice (some ⟨g',0,none⟩) (pre.length+1) cap')
       have hN2:=((hN1.alloc _).kept hgrow (hN1.not_row (by decide) hrow1)).other (show w.heap.size+3≠w.heap.size+1 by omega) (.slice (some ⟨g',0,none⟩) (pre.length+1) cap')
       refine hK _ _ ?_
       clear hK K
       refine wpAnyIn_ready (rs:=[5]) (by kernel_rfl) (by simp) ?_
       refine AllReadyIn.cons rfl (fun K hK=> ?_) ?_
       ·go_simp
        refine hK _ _ ?_
        clear hK K
        refine wpAnyIn_done (by kernel_rfl) ?_ _
        exact fin _ W1 _ _ hb1 hk3 hb3 hv3 hr3 hS2 hN2
       exact AllReadyIn.nil
      exact AllReadyIn.nil
     exact AllReadyIn.nil
    exact AllReadyIn.nil
   exact AllReadyIn.nil
  refine AllReadyIn.cons rfl (fun K hK=> ?_) ?_
  ·go_simp
   refine hK _ _ ?_
   clear hK K
   refine wpAnyIn_ready (rs:=[0,2]) (by kernel_rfl) (by simp) ?_
   refine AllReadyIn.cons rfl (fun K hK=> ?_) ?_
   ·go_simp
    refine hK _ _ ?_
    clear hK K
    refine wpAnyIn_ready (rs:=[2]) (by kernel_rfl) (by simp) ?_
    refine AllReadyIn.cons rfl (fun K hK=> ?_) ?_
    ·go_simp
     refine⟨trivial,(CallsIn.inRound l' (callsIn_wide.2 (hnum _ (Below.refl _ W).drew))).mono ?_⟩
     rintro e W1 ⟨rfl,hb1⟩
     obtain⟨hv1,hrow1,hbW1⟩:=ZM hv hrow hB hb1
     have hS1:Boxed W1 _ _ _:=(hb1.block _ hS.lt).trans hS
     have hN1:Boxed W1 _ _ _:=(hb1.block _ hNb.lt).trans hNb
     have hc3:(W1.alloc (Obj.cells #[Value.int .i64 n1] 2)).cell? ⟨w.heap.size+1,0,none⟩=some v:=(hv1.alloc _).cell
     have hc1:=hv1.cell
     refine hK _ _ ?_
     clear hK K
     refine wpAnyIn_ready (rs:=[3]) (by kernel_rfl) (by simp) ?_
     refine AllReadyIn.cons rfl (fun K hK=> ?_) ?_
     ·go_simp
      refine hK _ _ ?_
      clear hK K
      refine wpAnyIn_ready (rs:=[4]) (by kernel_rfl) (by simp) ?_
      refine AllReadyIn.cons rfl (fun K hK=> ?_) ?_
      ·refine vw rfl _ _ 36 rfl w.heap.size 2 i0 (.int .i64 0) 1 8 Tryz.underlying36 hi hz0 hz1 hz2 rfl (by decide) _ _ _ rfl (hrow1.alloc _) ⟨W1.heap.size,0,none⟩ 1 1 [.int .i64 n1] rfl rfl (cell_one_new _ _ _) (by simp[Value.oneCell']) (by unfold maxLen;omega) (by omega) (by have:=hbW1.size;simp;omega) ?_
       intro v' w1 hown' hgrow
       obtain⟨g',cap',rfl⟩:=ownsRow_succ hown'
       obtain⟨hv2,hv3,hr3,hk3,hb3⟩:=hv1.appended (by decide) hrow1 hbW1.size (by omega) hown' hgrow
       have hc2:=hv2.cell
       have hf2:=hv2.frozen
       have hS2:=((hS1.alloc _).kept hgrow (hS1.not_row (by decide) hrow1)).other (show w.heap.size+2≠w.heap.size+1 by omega) (.slice (some ⟨g',0,none⟩) (pre.length+1) cap')
       have hN2:=((hN1.alloc _).kept hgrow (hN1.not_row (by decide) hrow1)).other (show w.heap.size+3≠w.heap.size+1 by omega) (.slice (some ⟨g',0,none⟩) (pre.length+1) cap')
       refine hK _ _ ?_
       clear hK K
       refine wpAnyIn_ready (rs:=[5]) (by kernel_rfl) (by simp) ?_
       refine AllReadyIn.cons rfl (fun K hK=> ?_) ?_
       ·go_simp
        refine hK _ _ ?_
        clear hK K
        refine wpAnyIn_done (by kernel_rfl) ?_ _
        exact fin _ W1 _ _ hb1 hk3 hb3 hv3 hr3 hS2 hN2
       exact AllReadyIn.nil
      exact AllReadyIn.nil
     exact AllReadyIn.nil
    exact AllReadyIn.nil
   refine AllReadyIn.cons rfl (fun K hK=> ?_) ?_
   ·go_simp
    refine⟨trivial,(CallsIn.inRound l' (callsIn_wide.2 (hnum _ (Below.refl _ W).drew))).mono ?_⟩
    rintro e W1 ⟨rfl,hb1⟩
    obtain⟨hv1,hrow1,hbW1⟩:=ZM hv hrow hB hb1
    have hS1:Boxed W1 _ _ _:=(hb1.block _ hS.lt).trans hS
    have hN1:Boxed W1 _ _ _:=(hb1.block _ hNb.lt).trans hNb
    have hc3:(W1.alloc (Obj.cells #[Value.int .i64 n1] 2)).cell? ⟨w.heap.size+1,0,none⟩=some v:=(hv1.alloc _).cell
    have hc1:=hv1.cell
    refine hK _ _ ?_
    clear hK K
    refine wpAnyIn_ready (rs:=[0,3]) (by kernel_rfl) (by simp) ?_
    refine AllReadyIn.cons rfl (fun K hK=> ?_) ?_
    ·go_simp
     refine hK _ _ ?_
     clear hK K
     refine wpAnyIn_ready (rs:=[3]) (by kernel_rfl) (by simp) ?_
     refine AllReadyIn.cons rfl (fun K hK=> ?_) ?_
     ·go_simp
      refine hK _ _ ?_
      clear hK K
      refine wpAnyIn_ready (rs:=[4]) (by kernel_rfl) (by simp) ?_
      refine AllReadyIn.cons rfl (fun K hK=> ?_) ?_
      ·refine vw rfl _ _ 36 rfl w.heap.size 2 i0 (.int .i64 0) 1 8 Tryz.underlying36 hi hz0 hz1 hz2 rfl (by decide) _ _ _ rfl (hrow1.alloc _) ⟨W1.heap.size,0,none⟩ 1 1 [.int .i64 n1] rfl rfl (cell_one_new _ _ _) (by simp[Value.oneCell']) (by unfold maxLen;omega) (by omega) (by have:=hbW1.size;simp;omega) ?_
       intro v' w1 hown' hgrow
       obtain⟨g',cap',rfl⟩:=ownsRow_succ hown'
       obtain⟨hv2,hv3,hr3,hk3,hb3⟩:=hv1.appended (by decide) hrow1 hbW1.size (by omega) hown' hgrow
       have hc2:=hv2.cell
       have hf2:=hv2.frozen
       have hS2:=((hS1.alloc _).kept hgrow (hS1.not_row (by decide) hrow1)).other (show w.heap.size+2≠w.heap.size+1 by omega) (.slice (some ⟨g',0,none⟩) (pre.length+1) cap')
       have hN2:=((hN1.alloc _).kept hgrow (hN1.not_row (by decide) hrow1)).other (show w.heap.size+3≠w.heap.size+1 by omega) (.slice (some ⟨g',0,none⟩) (pre.length+1) cap')
       refine hK _ _ ?_
       clear hK K
       refine wpAnyIn_ready (rs:=[5]) (by kernel_rfl) (by simp) ?_
       refine AllReadyIn.cons rfl (fun K hK=> ?_) ?_
       ·go_simp
        refine hK _ _ ?_
        clear hK K
        refine wpAnyIn_done (by kernel_rfl) ?_ _
        exact fin _ W1 _ _ hb1 hk3 hb3 hv3 hr3 hS2 hN2
       exact AllReadyIn.nil
      exact AllReadyIn.nil
     exact AllReadyIn.nil
    refine AllReadyIn.cons rfl (fun K hK=> ?_) ?_
    ·go_simp
     refine hK _ _ ?_
     clear hK K
     refine wpAnyIn_ready (rs:=[0]) (by kernel_rfl) (by simp) ?_
     refine AllReadyIn.cons rfl (fun K hK=> ?_) ?_
     ·go_simp
      refine hK _ _ ?_
      clear hK K
      refine wpAnyIn_ready (rs:=[4]) (by kernel_rfl) (by simp) ?_
      refine AllReadyIn.cons rfl (fun K hK=> ?_) ?_
      ·refine vw rfl _ _ 36 rfl w.heap.size 2 i0 (.int .i64 0) 1 8 Tryz.underlying36 hi hz0 hz1 hz2 rfl (by decide) _ _ _ rfl (hrow1.alloc _) ⟨W1.heap.size,0,none⟩ 1 1 [.int .i64 n1] rfl rfl (cell_one_new _ _ _) (by simp[Value.oneCell']) (by unfold maxLen;omega) (by omega) (by have:=hbW1.size;simp;omega) ?_
       intro v' w1 hown' hgrow
       obtain⟨g',cap',rfl⟩:=ownsRow_succ hown'
       obtain⟨hv2,hv3,hr3,hk3,hb3⟩:=hv1.appended (by decide) hrow1 hbW1.size (by omega) hown' hgrow
       have hc2:=hv2.cell
       have hf2:=hv2.frozen
       have hS2:=((hS1.alloc _).kept hgrow (hS1.not_row (by decide) hrow1)).other (show w.heap.size+2≠w.heap.size+1 by omega) (.slice (some ⟨g',0,none⟩) (pre.length+1) cap')
       have hN2:=((hN1.alloc _).kept hgrow (hN1.not_row (by decide) hrow1)).other (show w.heap.size+3≠w.heap.size+1 by omega) (.slice (some ⟨g',0,none⟩) (pre.length+1) cap')
       refine hK _ _ ?_
       clear hK K
       refine wpAnyIn_ready (rs:=[5]) (by kernel_rfl) (by simp) ?_
       refine AllReadyIn.cons rfl (fun K hK=> ?_) ?_
       ·go_simp
        refine hK _ _ ?_
        clear hK K
        refine wpAnyIn_done (by kernel_rfl) ?_ _
        exact fin _ W1 _ _ hb1 hk3 hb3 hv3 hr3 hS2 hN2
       exact AllReadyIn.nil
      exact AllReadyIn.nil
     exact AllReadyIn.nil
    exact AllReadyIn.nil
   exact AllReadyIn.nil
  exact AllReadyIn.nil
 case done=>
  rintro D ys W hD rfl ⟨⟨⟨v,hv,hrow,-⟩,-⟩,hB⟩ hK
  have hc:=hv.cell
  gi_wp2
  refine⟨by simp,.inl ⟨_,_,rfl,run_takeDeferred hK, ?_⟩⟩
  refine⟨_,results_tmp rfl _ _ _,v,rfl,aG.ofBelow (hB.trans (belowK_b (w:=w) (Nat.le_refl _) W D _ _ (by simp at hD;omega) hK rfl rfl)), ?_⟩
  have e1:(List.finRange (dQ l.length)).length=y.length:=by rw[List.length_finRange,hyl]
  have e2:(List.finRange (dQ l.length)).map (fun k=>Value.int .i64 (y.getD k.1 0))=y.map fun n=>Value.int .i64 n:=by
   apply List.ext_getElem
   ·simp[hyl]
   ·intro i h1 h2
    have hi2:i<y.length:=by simpa using h2
    simp[hi2]
  rw[←e1,←e2]
  exact ownsRow_putObj hrow _ hK rfl
 case stop=>
  rintro D c pre W _ _ h _
  exact h.elim
set_option maxRecDepth 100000 in
set_option maxHeartbeats 1000000 in
theorem ZN(F:Fence)(n:Nat)(h7:F.fn 248)(hro:F.round=none)(l Bs Bn:Nat)(a:Option Addr)(cap:Nat)(J:List (Fin 0)→World→Prop)(W:World)(hBs:W.cell? ⟨Bs,0,none⟩=some (.slice a 0 cap))(h0:J [] W):
  CallsIn F n Tryz.prog 248 #[.func (.yield l) #[] #[],.pointer (some ⟨Bs,0,none⟩),.pointer (some ⟨Bn,0,none⟩)] W fun e W'=>(∃v,e= .returned v)∧J [] W':=by
 refine callsIn_of_wp Tryz.func248 rfl h7 ?_ hro
 simp only[Tryz.ntmps248,List.size_toArray,List.length_cons,List.length_nil,Nat.reduceAdd,Nat.reduceSub,Array.replicate_succ,Array.replicate_zero,List.push_toArray,List.append_toArray,List.nil_append,List.cons_append]
 gi_wp2
 gi_loopw [4] (fun i wr=>i= .int .i64 0∧J [] wr∧wr.cell? ⟨Bs,0,none⟩=some (.slice a 0 cap)) (fun _ _=>0)
 case atStart=>exact⟨rfl,h0,hBs⟩
 case round=>
  obtain⟨rfl,hJs,hBs'⟩:=hrel
  gi_wp2
  go_end0
  exact⟨⟨_,rfl⟩,hJs⟩
set_option maxRecDepth 100000 in
set_option maxHeartbeats 4000000 in
theorem Xp(w:World)(a:Option Addr)(cap:Nat):
  Calls Tryz.prog 185 #[.slice a 0 cap] w fun e w'=>∃u,e= .returned u∧aG vI w w'∧w'.ownsRow w.heap.size 2 1 u 0 []:=by
 have hro:Fence.wide.round=none:=rfl
 refine(callsIn_wide (n:=3)).1 ?_
 refine callsIn_of_wp_marks Tryz.func185 rfl trivial ?_ hro
 simp only[Tryz.ntmps185,List.size_toArray,List.length_cons,List.length_nil,Nat.reduceAdd,Nat.reduceSub,Array.replicate_succ,Array.replicate_zero,List.push_toArray,List.append_toArray,List.nil_append,List.cons_append]
 gi_wp2_with (refine⟨trivial, ?_⟩;gi_at_call 222;refine(Vf Fence.wide 2 trivial rfl _ _ _ _).mono ?_;rintro e w' ⟨rfl,rfl⟩)
 have bO:Boxed (((w.alloc (Obj.cells #[] 2)).alloc (Obj.cells #[Value.slice (some {block:=w.heap.size,off:=0}) 0 0] 36))) (w.heap.size+1) 36 (.slice (some {block:=w.heap.size,off:=0}) 0 0):=by
  have:=Boxed.new (w.alloc (Obj.cells #[] 2)) 36 (Value.slice (some {block:=w.heap.size,off:=0}) 0 0)
  rwa [World.size_alloc]at this
 have bO2:=(bO.alloc (.cells #[.slice a 0 cap] 36)).alloc (.cells #[.int .i64 8] 3)
 have bS:=Boxed.new ((w.alloc (Obj.cells #[] 2)).alloc (Obj.cells #[Value.slice (some {block:=w.heap.size,off:=0}) 0 0] 36)) 36 (.slice a 0 cap)
 simp only[World.size_alloc]at bS
 have bS2:=bS.alloc (.cells #[.int .i64 8] 3)
 have hB0:Below w.heap.size w ((((w.alloc (Obj.cells #[] 2)).alloc (Obj.cells #[Value.slice (some {block:=w.heap.size,off:=0}) 0 0] 36)).alloc (.cells #[.slice a 0 cap] 36)).alloc (.cells #[.int .i64 8] 3)):=
  ((((Below.refl _ w).alloc (Nat.le_refl _) _).alloc (by simp) _).alloc (by simp;omega) _).alloc (by simp;omega) _
 have hown0:(w.alloc (Obj.cells #[] 2)).ownsRow w.heap.size 2 1 (.slice (some {block:=w.heap.size,off:=0}) 0 0) 0 []:=
  ⟨rfl,.inr ⟨w.heap.size,0, #[],rfl,Nat.le_refl _,World.alloc_heap_new w _,Nat.le_refl _,Nat.zero_le _,rfl,rfl⟩⟩
 have hown1:=((hown0.alloc (Obj.cells #[Value.slice (some {block:=w.heap.size,off:=0}) 0 0] 36)).alloc (.cells #[.slice a 0 cap] 36)).alloc (.cells #[.int .i64 8] 3)
 refine wpIn_rangeFunc_ownG hro (by omega) (gf:=248) (lb:= #[.pointer (some ⟨w.heap.size+2,0,none⟩),.pointer (some ⟨w.heap.size+3,0,none⟩)]) (by simp[Act.eval]) trivial (enters_of Tryz.func248 (by kernel_rfl) rfl)
  (encs:=fun k:Fin 0=> #[Value.int .i64 0]) (Kp:=Below w.heap.size) (S:=fun ys=>ys= []) (Sp:=fun _=>False) (N:=0) (w0:=((((w.alloc (Obj.cells #[] 2)).alloc (Obj.cells #[Value.slice (some {block:=w.heap.size,off:=0}) 0 0] 36)).alloc (.cells #[.slice a 0 cap] 36)).alloc (.cells #[.int .i64 8] 3)))
  (fun l J Jx W hW _ _ _ h0=>(ZN Fence.wide 2 trivial hro l (w.heap.size+2) (w.heap.size+3) a cap J W ((hW.cell (p:=⟨w.heap.size+2,0,none⟩) (by simp)).trans bS2.cell) h0).mono fun e W' ⟨he,hj⟩=>⟨he,.inl ⟨_,rfl,hj⟩⟩) belowK_t (belowK_b (by simp;omega)) (Below.refl _ _) (fun _=>rfl)
  (fun pre W=>(∃v,Boxed W (w.heap.size+1) 36 v∧W.ownsRow w.heap.size 2 1 v 0 []∧True)∧Below w.heap.size w W)
  (fun _ _ _=>False)
  (OwnFrom.and (Own.from (holdsRow_own w.heap.size (w.heap.size+1) 36 2 1 (fun pre:List (Fin 0)=>0) (fun pre=>[]) (fun _ _=>True)) _) (ownFrom_below (Nat.le_refl _) (by simp;omega)))
  (fun _ _ _ _ _ hs _ _=>hs)
  ⟨⟨_,bO2,hown1,trivial⟩,hB0⟩
  (fun x=>{tmps:= #[],defers:=[]}) ?assign ?body ?done ?stop
 case assign=>
  intro l x W K hK
  exact x.elim0
 case body=>
  rintro l' pre x W _ hlt
  exact x.elim0
 case done=>
  rintro D ys W hD rfl ⟨⟨v,hv,hrow,-⟩,hB⟩ hK
  have hc:=hv.cell
  gi_wp2
  refine⟨by simp,.inl ⟨_,_,rfl,run_takeDeferred hK, ?_⟩⟩
  exact⟨_,results_tmp rfl _ _ _,v,rfl,aG.ofBelow (hB.trans (belowK_b (w:=w) (Nat.le_refl _) W D _ _ (by simp at hD;omega) hK rfl rfl)),ownsRow_putObj hrow _ hK rfl⟩
 case stop=>
  rintro D c pre W _ h _ _
  exact h.elim
theorem ZO {G:Gl}{g:List Int×Unit→Option (Int×Unit)}(he:jN Tryz.prog 185)(hn:FnOK G Tryz.prog 223 ⟨.pair (.list (.int .i64)) .unit,.pair (.int .i64) .unit,.unit,rfl,g⟩):
  FnOK G Tryz.prog 185 ⟨.pair (.list (.int .i64)) .unit,.pair (.own 2 (.int .i64)) .unit,.unit,rfl,fun x=>ac (me g x.1) fun s=>some (s,())⟩:=by
 refine FnOK.own_ints he rfl ?_
 rintro w ok args ⟨l,u⟩ y hg ⟨v,vs,rfl,hv,hvs⟩ hy
 have hvs:vs= []:=hvs
 subst hvs
 have hv:CR Tryz.prog ok w (.list (.int .i64)) l [v]:=hv
 obtain⟨v',e,h⟩:=hv
 have e:v=v':=by simpa using e
 subst e
 rcases h with⟨hl,a,cap,rfl⟩|⟨b,o,cap,rfl,hok,hlt,hc,hi⟩
 ·have hl:l= []:=hl
  subst hl
  have hy':y= []:=by
   have hy:me g []=some y:=hy
   unfold me at hy
   rw[if_pos (by simp)]at hy
   have:=(MI hy).1
   exact List.length_eq_zero_iff.1 (by rw[this];rfl)
  subst hy'
  exact Xp w a cap
 ·exact Vh hn w ok l y hg hy b o cap hok hlt hc (fun i h=>by
   obtain⟨us,hm,hr⟩:=hi i h
   exact⟨us,hm,hr⟩)
end Go.Proofs.YtnambbcafhnhpaaGreatDoor
