import Derived.Test.YtnambbcafhnhpaaGreatDoorRow
import Derived.Test.YtnambbcafhnhpaaGreatDoorSh
import Derived.Shelf.Spec.SlicesInsert
import Derived.WalkKit
import Derived.Handy
namespace Go.Proofs.YtnambbcafhnhpaaGreatDoor
open Go.RowKit Go.Shelf Go.Lib
set_option linter.unusedVariables false
set_option linter.unusedSimpArgs false
def Q9(l:List Int)(n:Int):Option (List Int):=match l with
 | [v]=>if 0≤n∧n≤1099511627776 then some (List.replicate n.toNat v)else none
 |_=>none
theorem OC:(Tryz.prog.info? 2).map (fun i=>(i.zero,i.size,i.bytes))=some (some (.int .i64 0),1,8):=by kernel_rfl
theorem uI {P:Program}(W:World)(dT sT ty e:TypeId)(hu:P.underlying dT=some (.slice e))(hs:(P.info? e).map (·.size)=some 1){g:Nat}{cur:Array Value}(hg:W.heap[g]? =some (.cells cur e (0,0)))(k d dc:Nat)(a:Addr)(sl sc:Nat)(cs:List Value)
  (hn:cs.length=Nat.min sl d) (hk:k+d≤cur.size) (hsrc:∀j v,cs[j]? =some v→W.cell? (a.add j)=some v) (h1:∀v ∈ cs,v.oneCell'=true):
  (Builtin.copy_ #[dT,sT] ty #[.slice (some ⟨g,k,none⟩) d dc,.slice (some a) sl sc]).run P W= .ok (goInt cs.length) (W.setCells g k cs):=by
 have hd:cs.length≤d:=by rw[hn];exact Nat.min_le_right _ _
 refine run_copy_cells W dT sT ty e g k d dc a sl sc cs hu hs hn hsrc (fun j hj=> ?_) (fun j hj=>frozen_of_row W g _ cur e hg) h1
 rw[cell_of_row W g _ cur e (0,0) hg,Array.getElem?_eq_getElem (by omega)]
 rfl
theorem mZ {B:Nat}{w W:World}(h:Below B w W){g:Nat}(hg:B≤g)(o:Nat)(vs:List Value):Below B w (W.setCells g o vs):=by
 obtain⟨h1,h2,h3,h4⟩:=uH (g:=g) vs o W
 exact⟨h1.trans h.os,h2.trans h.tape,h3.trans h.output,by rw[h4];exact h.size,fun k hk=>(mY vs o W k (by omega)).trans (h.block k hk)⟩
theorem afO {w:World}{base g:Nat}{e:TypeId}{n c:Nat}{xs:List Value}(h:w.ownsRow base e 1 (.slice (some ⟨g,0,none⟩) n c) n xs):∃cur:Array Value,w.heap[g]? =some (.cells cur e (0,0))∧cur.size=c:=by
 rcases h.2 with⟨h1,_⟩|⟨g',cap,cur,h1,_,h3,_,_,h6,_⟩
 ·cases h1
 ·cases h1
  exact⟨cur,h3,by omega⟩
theorem OD {W:World}{g:Nat}{t:TypeId}{cur:Array Value}{v:Value}{n k:Nat}(hg:W.heap[g]? =some (.cells cur t (0,0)))(hs:cur.size=n)(hk:k≤n)(hv:cur.toList.take k=List.replicate k v)(m:Nat)(hm:k+m≤n):
  ∃cur':Array Value,(W.setCells g k (List.replicate m v)).heap[g]? =some (.cells cur' t (0,0))∧cur'.size=n∧cur'.toList.take (k+m)=List.replicate (k+m) v:=by
 obtain⟨cur',h1,h2,h3⟩:=mX (t:=t) (List.replicate m v) k W cur hg (by simp;omega)
 refine⟨cur',h1,h2.trans hs, ?_⟩
 rw[h3,hv,List.replicate_append_replicate,List.take_left' (by simp)]
set_option maxHeartbeats 4000000 in
set_option maxRecDepth 100000 in
theorem Vi(w:World)(b o cap:Nat)(v:Int)(n:Nat)(hn:n≤1099511627776)(hc:w.cell? ⟨b,o,none⟩=some (.int .i64 v)):
  Calls Tryz.prog 129 #[.slice (some ⟨b,o,none⟩) 1 cap,.int .i64 n] w fun e w'=>∃cur:Array Value,e= .returned (.slice (some ⟨w.heap.size,0,none⟩) n n)∧Below w.heap.size w w'∧w'.heap[w.heap.size]? =some (.cells cur 2 (0,0))∧cur.toList=List.replicate n (Value.int .i64 v):=by
 obtain⟨i0,hi,hz0,hz1,hz2⟩:=info_parts OC
 have hmul:∀w,Calls Tryz.prog 184 #[.int .u64 1,.int .u64 n] w fun e w'=>e= .returned (.tuple #[.int .u64 0,.int .u64 n])∧w'=w:=fun w=>by
  have h:=Any.bits_Mul Tryz.lay212 1 n (by decide) (by omega) w
  have e1:1*n / 18446744073709551616=0:=by omega
  have e2:1*n % 18446744073709551616=n:=by omega
  rw[e1,e2]at h
  exact h
 go_enter Tryz.func129,Tryz.ntmps129
 have mixed:Tryz.prog.follows .mixedOrders=true:=by kernel_rfl
 have hsz:(Tryz.prog.info? 2).map (·.size)=some 1:=by rw[hi];simp[hz1]
 have hbw:b<w.heap.size:=block_lt_of_cell hc
 have hcp:∀(W:World) (cur:Array Value),W.heap[w.heap.size]? =some (.cells cur 2 (0,0))→cur.size=n→W.cell? ⟨b,o,none⟩=some (.int .i64 v)→∀ty,
   (Builtin.copy_ #[36,36] ty #[.slice (some ⟨w.heap.size,0,none⟩) n n,.slice (some ⟨b,o,none⟩) 1 cap]).run Tryz.prog W= .ok (goInt (List.replicate (Nat.min 1 n) (Value.int .i64 v)).length) (W.setCells w.heap.size 0 (List.replicate (Nat.min 1 n) (Value.int .i64 v))):=fun W cur h1 h2 h3 ty=>
  uI W _ _ ty _ Tryz.underlying36 hsz h1 0 n n ⟨b,o,none⟩ 1 cap _ (by simp) (by omega) (fun j u hj=>by
   rw[List.getElem?_replicate]at hj
   split at hj
   ·rename_i hlt
    have h1n:Nat.min 1 n≤1:=Nat.min_le_left 1 n
    have:j=0:=by omega
    subst this
    cases hj
    exact h3
   ·cases hj) (fun u hu=>by rw[(List.mem_replicate.1 hu).2];rfl)
 go_wp2_with (first
  |(go_at_call 184;refine(hmul _).mono ?_;rintro e w' ⟨rfl,hw⟩;rw[hw];clear hw w')
  |(at_make;go_loud (refine wpList_make_full _ rfl _ _ 36 rfl w.heap.size 2 i0 (.int .i64 0) 1 Tryz.underlying36 hi hz0 hz1 .i64 .i64 _ _ n rfl rfl rfl rfl (by rw[hz2];omega) (by unfold maxLen;omega) (Nat.le_refl _) ?_;intro w0 hown0 hgrow0;obtain⟨cur0,hg0,hs0⟩:=afO hown0;have hB0:Below w.heap.size w w0:=(Below.refl _ w).grown hgrow0 (Nat.le_refl _) (by simp);have hc0:w0.cell? ⟨b,o,none⟩=some (.int .i64 v):=(hB0.cell (p:=⟨b,o,none⟩) hbw).trans hc))
  |(at_builtin;go_loud (refine wpList_copy_runI _ rfl _ _ 36 36 rfl _ _ rfl rfl (hcp _ cur0 hg0 hs0 hc0 _) ?_)))
 have hstart:=OD (k:=0) hg0 hs0 (Nat.zero_le _) (by simp) (v:=.int .i64 v) (Nat.min 1 n) (by have:Nat.min 1 n≤n:=Nat.min_le_right 1 n;omega)
 go_loopw [8] (fun i wr=>∃(k:Nat) (cur:Array Value),k≤n∧(0<n→0<k)∧i= .int .i64 k∧wr.heap[w.heap.size]? =some (.cells cur 2 (0,0))∧cur.size=n∧cur.toList.take k=List.replicate k (.int .i64 v)∧Below w.heap.size w wr) (fun i _=>n-(RowKit.intOf i).toNat)
 case atStart=>
  obtain⟨cur',h1,h2,h3⟩:=hstart
  refine⟨Nat.min 1 n,cur',Nat.min_le_right 1 n,fun h=> ?_, ?_,h1,h2,by simpa using h3,mZ hB0 (Nat.le_refl _) 0 _⟩
  ·show 0<min 1 n
   omega
  ·simp[goInt]
 case round=>
  obtain⟨k,cur,hk,hpos,rfl,hg,hs,hv,hB⟩:=hrel
  go_wp2
  ·have hlt:k<n:=by assumption
   have hne:¬n=k:=by omega
   have hkn:(k:Int)≤n:=by omega
   have h0k:0<k:=hpos (by omega)
   have hc2:∀ty dc sc,(Builtin.copy_ #[36,36] ty #[.slice (some ⟨w.heap.size,k,none⟩) (n-k) dc,.slice (some ⟨w.heap.size,0,none⟩) k sc]).run Tryz.prog wr.drew= .ok (goInt (List.replicate (Nat.min k (n-k)) (Value.int .i64 v)).length) (wr.drew.setCells w.heap.size k (List.replicate (Nat.min k (n-k)) (Value.int .i64 v))):=fun ty dc sc=>
    uI wr.drew _ _ ty _ Tryz.underlying36 hsz hg k (n-k) dc ⟨w.heap.size,0,none⟩ k sc _ (by simp) (by omega) (fun j u hj=>by
     rw[List.getElem?_replicate]at hj
     split at hj
     ·rename_i hj2
      cases hj
      have hm:Nat.min k (n-k)≤k:=Nat.min_le_left k _
      rw[Addr.add_lit,cell_of_row wr.drew _ _ cur _ (0,0) hg]
      have h2:(cur.toList.take k)[j]? =some (.int .i64 v):=by rw[hv,List.getElem?_replicate,if_pos (by omega)]
      rw[List.getElem?_take,if_pos (by omega)]at h2
      simpa using h2
     ·cases hj) (fun u hu=>by rw[(List.mem_replicate.1 hu).2];rfl)
   go_region_law_o (refine step_copy_runI rfl _ _ 36 36 rfl _ _ (by simp[Act.eval,Act.put]) (by simp[Act.eval,Act.put]) (hc2 _ _ _) ?_)
   ·have hw1:IntKind.i64.wrap ((k:Int)+(Nat.min k (n-k):Nat))=((k+Nat.min k (n-k):Nat):Int):=by
     have:Nat.min k (n-k)≤k:=Nat.min_le_left k _
     rw[IntKind.wrap_i64]
     omega
    obtain⟨cur',g1,g2,g3⟩:=OD (W:=wr.drew) hg hs hk hv (Nat.min k (n-k)) (by have:Nat.min k (n-k)≤n-k:=Nat.min_le_right k _;omega)
    have hmin:0<Nat.min k (n-k):=by show 0<min k (n-k);omega
    have hmle:Nat.min k (n-k)≤n-k:=Nat.min_le_right k _
    refine⟨⟨_,_,_,_,_,_,_,_,_,_,_,_,_,_,⟨k+Nat.min k (n-k),cur',by omega,fun _=>by omega,congrArg (Value.int .i64) hw1,g1,g2,g3,mZ hB.drew (Nat.le_refl _) k _⟩,rfl⟩, ?_⟩
    show n-(IntKind.i64.wrap ((k:Int)+(Nat.min k (n-k):Nat))).toNat<n-(k:Int).toNat
    rw[hw1]
    omega
  ·have hge:k=n:=by omega
   subst hge
   go_ret
   refine⟨cur,rfl,hB,hg, ?_⟩
   rw[←hv,List.take_of_length_le (by simp;omega)]
theorem yk {w:World}{base g:Nat}{e:TypeId}{n c:Nat}{cur:Array Value}{xs:List Value}(hb:base≤g)(hg:w.heap[g]? =some (.cells cur e (0,0)))(hnc:n≤c)(hc:c≤maxLen)(hs:cur.size=c)(hl:xs.length=n)(ht:cur.toList.take n=xs):
 w.ownsRow base e 1 (.slice (some ⟨g,0,none⟩) n c) n xs:=⟨by omega,.inr ⟨g,c,cur,rfl,hb,hg,hnc,hc,by omega,by rw[Nat.mul_one];exact ht⟩⟩
theorem abu {G:Gl}(he:jN Tryz.prog 129):
  FnOK G Tryz.prog 129 ⟨.pair (.list (.int .i64)) (.pair (.int .i64) .unit),.pair (.own 2 (.int .i64)) .unit,.unit,rfl,fun x=>ac (Q9 x.1 x.2.1) fun s=>some (s,())⟩:=by
 refine FnOK.own_ints (a:=.pair (.list (.int .i64)) (.pair (.int .i64) .unit)) (g:=fun x=>Q9 x.1 x.2.1) he rfl ?_
 rintro w ok args ⟨l,n,u⟩ y hg ⟨v,vs,rfl,hv,v2,vs2,rfl,hv2,hvs⟩ hy
 have hvs:vs2= []:=hvs
 subst hvs
 obtain rfl:=ac0 hv2
 have hy:Q9 l n=some y:=hy
 match l,hy with
 | [z],hy=>
   simp only[Q9]at hy
   split at hy
   ·rename_i hh
    obtain⟨h0,h1⟩:=hh
    obtain rfl:=Option.some.inj hy
    have hv:CR Tryz.prog ok w (.list (.int .i64)) [z] [v]:=hv
    obtain⟨v',e,h⟩:=hv
    have e:v=v':=by simpa using e
    subst e
    rcases h with⟨hl,_⟩|⟨b,o,cap,rfl,hok,hlt,hc,hi⟩
    ·cases hl
    ·obtain⟨us,hm,hr⟩:=hi 0 (by simp)
     have hr:us= [Value.int .i64 z]:=hr
     subst hr
     have hcell:w.cell? ⟨b,o,none⟩=some (.int .i64 z):=by simpa using hm 0 _ rfl
     obtain⟨m,rfl⟩:=Int.eq_ofNat_of_zero_le h0
     refine(Vi w b o cap z m (by omega) hcell).mono ?_
     rintro e1 w' ⟨cur,rfl,hB,hrow,hcur⟩
     refine⟨_,rfl,aG.ofBelow hB, ?_⟩
     have hsz:cur.size=m:=by rw[←Array.length_toList,hcur,List.length_replicate]
     simp only[Int.toNat_natCast,List.length_replicate,List.map_replicate]
     exact yk (Nat.le_refl _) hrow (Nat.le_refl _) (by unfold maxLen;omega) hsz (by simp) (by rw[hcur,List.take_of_length_le (by simp)])
   ·cases hy
 | [],hy=>cases hy
 |_::_::_,hy=>cases hy
end Go.Proofs.YtnambbcafhnhpaaGreatDoor
