import Derived.Test.YtnambbcafhnhpaaGreatDoorRepW
import Derived.Shelf.SlicesE.Delete
namespace Go.Proofs.YtnambbcafhnhpaaGreatDoor
open Go.RowKit Go.Shelf Go.Lib Go.Sort
set_option linter.unusedVariables false
set_option linter.unusedSimpArgs false
def Vj(l:List Int)(i j:Int):Option (List Int):=if 0≤i∧i≤j∧j≤l.length∧l.length≤1099511627776 then some (l.take i.toNat++l.drop j.toNat)else none
theorem Xq {α:Type}[Inhabited α](enc:α→Value)(w:World)(ck off:Nat)(d:Array α)(k:Nat)(h:k≠ck):(putRow enc w ck off d).heap[k]? =w.heap[k]? :=by
 simp only[putRow,mapBlock,Array.getElem?_modify]
 rw[if_neg (fun e=>h e.symm)]
theorem ZQ {α:Type}[Inhabited α](enc:α→Value)(w:World)(ck:Nat)(d:Array α){cur:Array Value}{e:TypeId}(h:w.heap[ck]? =some (.cells cur e (0,0)))(hd:d.size≤cur.size):
  ∃cur':Array Value,(putRow enc w ck 0 d).heap[ck]? =some (.cells cur' e (0,0))∧cur'.size=cur.size∧cur'.toList.take d.size=d.toList.map enc:=by
 refine⟨putCells enc 0 d cur, ?_,by simp[putCells], ?_⟩
 ·simp only[putRow,mapBlock,Array.getElem?_modify,if_pos,h,Option.map_some,onCells]
 ·apply List.ext_getElem?
  intro k
  rw[List.getElem?_take]
  by_cases hk:k<d.size
  ·rw[if_pos hk,Array.getElem?_toList]
   simp only[putCells,Array.getElem?_mapIdx]
   rw[Array.getElem?_eq_getElem (by omega:k<cur.size),Option.map_some,if_pos ⟨by omega,by omega⟩,Nat.sub_zero,List.getElem?_map,Array.getElem?_toList,Array.getElem?_eq_getElem hk,getElem!_pos d k hk]
   rfl
  ·rw[if_neg hk,List.getElem?_eq_none (by simp;omega)]
theorem abv {w:World}{g c n:Nat}{e:TypeId}{cur:Array Value}{xs:List Int}(hg:w.heap[g]? =some (.cells cur e (0,0)))(ht:cur.toList.take (xs.length*1)=xs.map fun n=>Value.int .i64 n):Holds (Value.int .i64) w g 0 xs.toArray:=by
 intro j hj
 have hj:j<xs.length:=by simpa using hj
 refine⟨?_,frozen_of_row w g _ cur e hg⟩
 rw[cell_of_row w g _ cur e (0,0) hg,Nat.zero_add]
 have h2:(cur.toList.take (xs.length*1))[j]? =some (.int .i64 xs[j]):=by rw[ht];simp[List.getElem?_eq_getElem hj]
 rw[List.getElem?_take,if_pos (by omega)]at h2
 rw[getElem!_pos xs.toArray j (by simpa using hj)]
 simpa using h2
set_option maxHeartbeats 1000000 in
theorem ZR(w:World):Calls Tryz.prog 155 #[.slice none 0 0,.int .i64 0,.int .i64 0] w fun e w'=>e= .returned (.slice none 0 0)∧w'=w:=by
 go_enter Tryz.func155,Tryz.ntmps155
 go_wp2
 go_ret
 exact⟨rfl,rfl⟩
theorem abw {G:Gl}(he:jN Tryz.prog 155):
  FnOK G Tryz.prog 155 ⟨.pair (.own 2 (.int .i64)) (.pair (.int .i64) (.pair (.int .i64) .unit)),.pair (.own 2 (.int .i64)) .unit,.unit,rfl,fun x=>ac (Vj x.1 x.2.1 x.2.2.1) fun s=>some (s,())⟩:=by
 refine FnOK.own_int2 (g:=Vj) he ?_
 intro w u xs i j y hI hrow hy
 unfold Vj at hy
 split at hy
 ·rename_i hh
  obtain⟨h0,hij,hj,hl⟩:=hh
  obtain rfl:=Option.some.inj hy
  obtain⟨i,rfl⟩:=Int.eq_ofNat_of_zero_le h0
  obtain⟨j,rfl⟩:=Int.eq_ofNat_of_zero_le (Int.le_trans h0 hij)
  have hij:i≤j:=by omega
  have hj:j≤xs.length:=by omega
  simp only[Int.toNat_natCast]
  obtain⟨_,⟨rfl,hn⟩|⟨g,cap,cur,rfl,_,hg,hcap,hmx,hcur,htake⟩⟩:=hrow
  ·obtain rfl:=List.length_eq_zero_iff.1 hn
   obtain rfl:j=0:=by simpa using hj
   obtain rfl:i=0:=by omega
   refine(ZR w).mono ?_
   rintro e w' ⟨rfl,rfl⟩
   exact⟨_,rfl,aG.refl _ _,⟨rfl,.inl ⟨rfl,rfl⟩⟩,fun b hb=>by cases hb⟩
  ·obtain⟨i0,hi,hz0,hz1,hz2⟩:=info_parts OC
   have hmx':cap≤9223372036854775807:=by unfold maxLen at hmx;omega
   have h:=AnyE.slices_Delete Tryz.laysDel (Value.int .i64) (fun _=>rfl) 0 (fun w=>by kernel_rfl) i0 hi hz1 g 0 cap i j xs.toArray w (abv (c:=cap) (n:=0) hg htake) (by simpa using hcap) hmx' hij (by simpa using hj)
   simp only[List.size_toArray]at h
   refine h.mono ?_
   rintro e w' ⟨rfl,q,rfl⟩
   have hdl:(xs.take i++xs.drop j++List.replicate (j-i) (0:Int)).toArray.size=xs.length:=by simp;omega
   obtain⟨cur',h1,h2,h3⟩:=ZQ (Value.int .i64) (Sort.ahead w q) g (xs.take i++xs.drop j++List.replicate (j-i) (0:Int)).toArray (cur:=cur) (e:=2) hg (by rw[hdl];omega)
   have hyl:(xs.take i++xs.drop j).length=xs.length-(j-i):=by simp;omega
   refine⟨_,rfl,⟨rfl,rfl,rfl, ?_,fun k hk hs=> ?_⟩, ?_,fun b hb=>.inl hb⟩
   ·rw[size_putRow]
    exact Nat.le_refl _
   ·exact Xq _ _ _ _ _ k (fun e=>hs (by rw[e];rfl))
   ·rw[←hyl]
    refine yk (Nat.zero_le _) h1 (by omega) hmx (by omega) (by simp) ?_
    rw[hdl]at h3
    have h4:=congrArg (List.take (xs.take i++xs.drop j).length) h3
    rw[List.take_take,Nat.min_eq_left (by omega)]at h4
    rw[h4]
    simp only[List.map_append,List.toList_toArray]
    rw[List.take_left' (by simp)]
 ·cases hy
end Go.Proofs.YtnambbcafhnhpaaGreatDoor
