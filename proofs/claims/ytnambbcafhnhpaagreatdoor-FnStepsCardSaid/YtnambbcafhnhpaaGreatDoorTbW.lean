import Derived.RangeFuncNested
import Derived.RangeFuncBound
import Derived.RangeFuncCalls
import Derived.RangeFuncLeaves
import Derived.RangeFuncBox
import Derived.Shelf.Abstract
import Derived.WalkKit
import Derived.OwnWalkIn
import Derived.TacticsInMore
import Derived.LoopNIn
import Derived.LoopIn
import Derived.Maps.AppendAt
import Derived.Test.YtnambbcafhnhpaaGreatDoorLibS
import Derived.Test.YtnambbcafhnhpaaGreatDoorProg
namespace Go.Proofs.YtnambbcafhnhpaaGreatDoor
open Go.RowKit Go.Shelf
set_option linter.unusedVariables false
set_option linter.unusedSimpArgs false
attribute [local go_sem] Oper.semAt_some
def dQ(len:Nat):Nat:=(len+7) / 8
theorem ac1 {len:Nat}(k:Fin (dQ len)):8*k.1<len:=by
 have:=k.2
 unfold dQ at this
 omega
set_option maxHeartbeats 1000000 in
theorem Vf(F:Fence)(n:Nat)(h5:F.fn 222)(hro:F.round=none)(a:Option Addr)(len cap:Nat)(w:World):
  CallsIn F n Tryz.prog 222 #[.slice a len cap,.int .i64 8] w fun e w'=>e= .returned (.func (.func 248) #[] #[.pointer (some ⟨w.heap.size,0,none⟩),.pointer (some ⟨w.heap.size+1,0,none⟩)])∧w'=(w.alloc (.cells #[.slice a len cap] 36)).alloc (.cells #[.int .i64 8] 3):=by
 refine callsIn_of_wp Tryz.func222 rfl h5 ?_ hro
 simp only[Tryz.ntmps222,List.size_toArray,List.length_cons,List.length_nil,Nat.reduceAdd,Nat.reduceSub,Array.replicate_succ,Array.replicate_zero,List.push_toArray,List.append_toArray,List.nil_append,List.cons_append]
 gi_wp2
 go_ret
 exact⟨rfl,rfl⟩
def xr(n₀ Bs Bn:Nat)(A B:World):Prop:=Below n₀ A B∧B.heap[Bs]? =A.heap[Bs]? ∧B.heap[Bn]? =A.heap[Bn]?
theorem xr.refl(n₀ Bs Bn:Nat)(A:World):xr n₀ Bs Bn A A:=⟨Below.refl _ _,rfl,rfl⟩
theorem xr.trans {n₀ Bs Bn:Nat}{A B C:World}(h:xr n₀ Bs Bn A B)(k:xr n₀ Bs Bn B C):xr n₀ Bs Bn A C:=⟨h.1.trans k.1,k.2.1.trans h.2.1,k.2.2.trans h.2.2⟩
def tu(b off len:Nat)(k:Fin (dQ len)):Value:=.slice (some ⟨b,off+8*k.1,none⟩) (min 8 (len-8*k.1)) (min 8 (len-8*k.1))
theorem ac2 {N:Nat}(pre:List (Fin N))(h:pre.length=N)(hp:∀j (hj:j<pre.length),(pre[j]).1=j):pre=List.finRange N:=by
 apply List.ext_getElem
 ·simp[h]
 ·intro i h1 h2
  apply Fin.ext
  rw[hp i h1]
  simp
theorem Vg {N:Nat}{pre:List (Fin N)}(hp:∀j (hj:j<pre.length),(pre[j]).1=j)(h:pre.length<N):∀j (hj:j<(pre++ [(⟨pre.length,h⟩:Fin N)]).length),((pre++ [(⟨pre.length,h⟩:Fin N)])[j]).1=j:=by
 intro j hj
 rcases Nat.lt_or_ge j pre.length with h1|h1
 ·rw[List.getElem_append_left h1];exact hp j h1
 ·have:j=pre.length:=by simp at hj;omega
  subst this
  simp
set_option maxRecDepth 100000 in
set_option maxHeartbeats 2000000 in
theorem abt(F:Fence)(n:Nat)(h7:F.fn 248)(hro:F.round=none)(hn:1≤n)(l Bs Bn n₀ b off len cap:Nat)(hreach:len≤1099511627776)(hcap:len≤cap)(J Jx:List (Fin (dQ len))→World→Prop)(hJ:∀s A B,J s A→A.grownBy B none→J s B)
  (hY:∀pre x W,J pre W→pre.length<dQ len→YieldAt F (n-1) Tryz.prog l #[tu b off len x] W fun e W'=>
    (e= .returned (.bool true)∧J (pre++ [x]) W'∧xr n₀ Bs Bn W W')∨(e= .returned (.bool false)∧Jx (pre++ [x]) W'))
  (W:World) (hBs:W.cell? ⟨Bs,0,none⟩=some (.slice (some ⟨b,off,none⟩) len cap)) (hBn:W.cell? ⟨Bn,0,none⟩=some (.int .i64 8)) (h0:J [] W):
  CallsIn F n Tryz.prog 248 #[.func (.yield l) #[] #[],.pointer (some ⟨Bs,0,none⟩),.pointer (some ⟨Bn,0,none⟩)] W fun e W'=>(∃v,e= .returned v)∧
   ((∃ys,ys=List.finRange (dQ len)∧J ys W')∨(∃pre,True∧Jx pre W')):=by
 refine callsIn_of_wp Tryz.func248 rfl h7 ?_ hro
 simp only[Tryz.ntmps248,List.size_toArray,List.length_cons,List.length_nil,Nat.reduceAdd,Nat.reduceSub,Array.replicate_succ,Array.replicate_zero,List.push_toArray,List.append_toArray,List.nil_append,List.cons_append]
 gi_wp2
 gi_loopw [4] (fun i wr=>∃(pre:List (Fin (dQ len))),pre.length≤dQ len∧(∀j (hj:j<pre.length),(pre[j]).1=j)∧i= .int .i64 (8*pre.length:Nat)∧J pre wr∧xr n₀ Bs Bn W wr)
  (fun i _=>len+8-(intOf i).toNat)
 case atStart=>exact⟨[],Nat.zero_le _,by simp,rfl,h0,xr.refl _ _ _ _⟩
 case round=>
  obtain⟨pre,hk,hp,rfl,hJs,hnx⟩:=hrel
  have hBs':wr.cell? ⟨Bs,0,none⟩=some (.slice (some ⟨b,off,none⟩) len cap):=(jj hnx.2.1).trans hBs
  have hBn':wr.cell? ⟨Bn,0,none⟩=some (.int .i64 8):=(jj hnx.2.2).trans hBn
  by_cases hlt:8*pre.length<len
  ·have hlt2:pre.length<dQ len:=by
    have key:∀m,8*m<len→m<(len+7) / 8:=fun m h=>by omega
    exact key _ hlt
   have hd:wr.grownBy wr.drew none:=⟨rfl,rfl,rfl,Nat.le_refl _,fun _ _ _=>rfl⟩
   have hJd:=hJ _ _ _ hJs hd
   have hkd:xr n₀ Bs Bn W wr.drew:=hnx.trans ⟨(Below.refl _ wr).drew,rfl,rfl⟩
   obtain⟨fn,tmps,assign,body,hy,hR⟩:=hY pre ⟨pre.length,hlt2⟩ wr.drew hJd hlt2
   dsimp only[tu]at hy
   rcases Nat.lt_or_ge (len-8*pre.length) 8 with hm|hm
   ·have hm1:((len-8*pre.length:Nat):Int)<8:=by omega
    have hm2:min 8 (len-8*pre.length)=len-8*pre.length:=by omega
    rw[hm2]at hy
    gi_wp2
    gi_region
    all_goals gi_wp2
    all_goals refine hR.mono ?_
    all_goals (rintro e W3 (⟨rfl,hJ3,hk3⟩|⟨rfl,hJx3⟩))
    all_goals first
     |(have hq3:W3.cell? ⟨Bn,0,none⟩=some (.int .i64 8):=(jj (hkd.trans hk3).2.2).trans hBn
       gi_wp2
       exact⟨⟨pre++ [(⟨pre.length,hlt2⟩:Fin (dQ len))],by rw[List.length_append];exact hlt2,Vg hp hlt2,by simp;omega,hJ3,hkd.trans hk3⟩,by simp[intOf];omega⟩)
     |(gi_wp2
       refine bodyPost_ret (results_none rfl _ _ _) rfl ?_
       exact⟨⟨_,rfl⟩,.inr ⟨_,trivial,hJx3⟩⟩)
   ·have hm1:¬((len-8*pre.length:Nat):Int)<8:=by omega
    have hm2:min 8 (len-8*pre.length)=8:=by omega
    rw[hm2]at hy
    gi_wp2
    gi_region
    all_goals gi_wp2
    all_goals refine hR.mono ?_
    all_goals (rintro e W3 (⟨rfl,hJ3,hk3⟩|⟨rfl,hJx3⟩))
    all_goals first
     |(have hq3:W3.cell? ⟨Bn,0,none⟩=some (.int .i64 8):=(jj (hkd.trans hk3).2.2).trans hBn
       gi_wp2
       exact⟨⟨pre++ [(⟨pre.length,hlt2⟩:Fin (dQ len))],by rw[List.length_append];exact hlt2,Vg hp hlt2,by simp;omega,hJ3,hkd.trans hk3⟩,by simp[intOf];omega⟩)
     |(gi_wp2
       refine bodyPost_ret (results_none rfl _ _ _) rfl ?_
       exact⟨⟨_,rfl⟩,.inr ⟨_,trivial,hJx3⟩⟩)
  ·gi_wp2
   go_end0
   have hp':pre.length=dQ len:=by
    have key:∀m,¬8*m<len→m≤(len+7) / 8→m=(len+7) / 8:=fun m h1 h2=>by omega
    exact key _ hlt hk
   exact⟨⟨_,rfl⟩,.inl ⟨_,ac2 pre hp' hp,hJs⟩⟩
end Go.Proofs.YtnambbcafhnhpaaGreatDoor
