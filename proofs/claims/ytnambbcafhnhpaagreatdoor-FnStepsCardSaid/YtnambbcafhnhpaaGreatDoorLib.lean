import Derived.Test.YtnambbcafhnhpaaGreatDoorLaw
import Derived.Below
import Derived.Deep.Draws
import Derived.Sort.Grow
import Derived.Lib.LaidTab
import Derived.Lib.ItoaNum
namespace Go.Proofs.YtnambbcafhnhpaaGreatDoor
open Go.RowKit
set_option linter.unusedVariables false
set_option linter.unusedSimpArgs false
section
variable {G:Gl} {P:Program} {f:FuncId}
theorem aG.noB_below {w w':World}(h:Below w.heap.size w w'):aG vI w w':=aG.ofBelow h
theorem aG.grow(S:Nat→Prop)(w:World)(k:Nat)(os:Array Obj):aG S w (Go.Sort.grow (w.drewN k) os):=by
 refine⟨rfl,rfl,rfl, ?_,fun b hb _=> ?_⟩
 ·show w.heap.size≤(w.heap++os).size
  simp
 ·show(w.heap++os)[b]? =w.heap[b]?
  rw[Array.getElem?_append_left hb]
theorem FnOK.plain {a r:Ty}{hr:r.row=true}{g:a.T→Option (r.app .unit).T}(he:jN P f)(ha:a.owned=false)(hro:r.owned=false)
  (h:∀(w:World) (ok:Nat→Prop) (args:List Value) (x:a.T) (y:(r.app .unit).T),GW G ok w→AR P ok w a x args→g x=some y→
    Calls P f args.toArray w fun e w'=>∃rs,e= .returned (if oW r then rs.headD undef else .tuple rs.toArray)∧aG vI w w'∧AR P ok w' r (BF r .unit y) rs):FnOK G P f ⟨a,r,.unit,hr,g⟩:=by
 refine⟨he,fun w ok args x y bs hg har hnd hbs hy=> ?_⟩
 obtain⟨har',rfl⟩:=Ir a ha har
 refine(h w ok args x y hg har' hy).mono ?_
 rintro e w' ⟨rs,rfl,hk,hr⟩
 refine⟨_,rs,[],[],rfl,hk.mono (fun _ _ h=>h.elim),rfl,by simp,fun b hb=>by simp at hb, ?_,fun h=>absurd rfl h⟩
 exact Iq r hro ((de.mono r _ (br.refl _ _) (fun b _ hb=>⟨.inl hb,by simp⟩)).2 _ hr)
theorem ac0 {ok:Nat→Prop}{w:World}{k:IntKind}{n:Int}{v:Value}(h:VR P ok w (.int k) n v):v= .int k n:=by
 have h: [v]= [Value.int k n]:=h
 simpa using h
theorem afN {ok:Nat→Prop}{w:World}{s:List UInt8}{v:Value}(h:VR P ok w .str s v):v= .string ⟨s.toArray⟩:=by
 have h: [v]= [Value.string ⟨s.toArray⟩]:=h
 simpa using h
end
end Go.Proofs.YtnambbcafhnhpaaGreatDoor
