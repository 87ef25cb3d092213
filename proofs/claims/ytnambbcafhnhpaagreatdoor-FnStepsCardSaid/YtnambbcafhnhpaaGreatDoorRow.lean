import Derived.Test.YtnambbcafhnhpaaGreatDoorTake
import Derived.Laws.IdiomCopy
import Derived.Laws.Rows
namespace Go.Proofs.YtnambbcafhnhpaaGreatDoor
open Go.RowKit
set_option linter.unusedVariables false
set_option linter.unusedSimpArgs false
theorem mX {g:Nat}{t:TypeId}:∀(vs:List Value) (o:Nat) (w:World) (cur:Array Value),w.heap[g]? =some (.cells cur t (0,0))→o+vs.length≤cur.size→
  ∃cur':Array Value,(w.setCells g o vs).heap[g]? =some (.cells cur' t (0,0))∧cur'.size=cur.size∧cur'.toList=cur.toList.take o++vs++cur.toList.drop (o+vs.length)
 | [],o,w,cur,h,hl=>⟨cur,h,rfl,by simp⟩
 |v::r,o,w,cur,h,hl=>by
  simp only[List.length_cons]at hl
  have h1:=heap_setCell_same w g o cur t v h
  obtain⟨cur',h2,h3,h4⟩:=mX r (o+1) (w.setCell ⟨g,o,none⟩ v) (cur.setIfInBounds o v) h1 (by simp;omega)
  refine⟨cur',h2,by rw[h3];simp, ?_⟩
  rw[h4]
  have hlt:o<cur.toList.length:=by simp only[Array.length_toList];omega
  have hto:(cur.toList.take o).length=o:=by rw[List.length_take];omega
  have e:(cur.setIfInBounds o v).toList=cur.toList.take o++v::cur.toList.drop (o+1):=by
   rw[Array.toList_setIfInBounds,List.set_eq_take_append_cons_drop,if_pos hlt]
  have e1:(cur.toList.take o++v::cur.toList.drop (o+1)).take (o+1)=cur.toList.take o++ [v]:=by
   rw[List.take_append,hto,List.take_of_length_le (by omega),Nat.add_sub_cancel_left];rfl
  have e2:(cur.toList.take o++v::cur.toList.drop (o+1)).drop (o+1+r.length)=cur.toList.drop (o+(r.length+1)):=by
   rw[List.drop_append,hto,List.drop_eq_nil_of_le (by omega),show o+1+r.length-o=r.length+1 by omega,List.drop_succ_cons,List.drop_drop,List.nil_append]
   congr 1
   omega
  rw[e,e1,e2]
  simp
theorem mY {g:Nat}:∀(vs:List Value) (o:Nat) (w:World) (k:Nat),k≠g→(w.setCells g o vs).heap[k]? =w.heap[k]?
 | [],_,_,_,_=>rfl
 |v::r,o,w,k,h=>(mY r (o+1) _ k h).trans (heap_setCell_other w ⟨g,o,none⟩ k v h)
theorem uH {g:Nat}:∀(vs:List Value) (o:Nat) (w:World),(w.setCells g o vs).os=w.os∧(w.setCells g o vs).tape=w.tape∧(w.setCells g o vs).output=w.output∧(w.setCells g o vs).heap.size=w.heap.size
 | [],_,_=>⟨rfl,rfl,rfl,rfl⟩
 |v::r,o,w=>by
  obtain⟨h1,h2,h3,h4⟩:=uH (g:=g) r (o+1) (w.setCell ⟨g,o,none⟩ v)
  exact⟨h1,h2,h3,h4.trans (World.size_setCell ..)⟩
theorem Dg {w w':World}{S:Nat→Prop}{g:Nat}(h:aG S w w')(hg:S g∨w.heap.size≤g)(o:Nat)(vs:List Value):aG S w (w'.setCells g o vs):=by
 obtain⟨h1,h2,h3,h4⟩:=uH (g:=g) vs o w'
 refine⟨h1.trans h.os,h2.trans h.tape,h3.trans h.output,by rw[h4];exact h.size,fun k hk hs=> ?_⟩
 rw[mY vs o w' k (by rintro rfl;rcases hg with hg|hg;exact hs hg;omega)]
 exact h.block k hk hs
end Go.Proofs.YtnambbcafhnhpaaGreatDoor
