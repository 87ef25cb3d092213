import Derived.Test.YtkgcbbkodalfmaaGreatDoorFn
namespace Go.Proofs.YtkgcbbkodalfmaaGreatDoor
open Go.RowKit
set_option linter.unusedVariables false
set_option linter.unusedSimpArgs false
def bC:List (FuncId×ae)→FuncId→Option ae
 | [],_=>none
 |(g,s)::r,f=>if f=g then some s else bC r f
def Z8(G:Gl)(P:Program):List (FuncId×ae)→Prop
 | []=>True
 |(g,s)::r=>FnOK G P g s∧Z8 G P r
theorem aD {G:Gl}{P:Program}:∀ {l:List (FuncId×ae)},Z8 G P l→∀f s,bC l f=some s→FnOK G P f s
 | [],_,f,s,h=>by simp[bC]at h
 |(g,t)::r,hl,f,s,h=>by
  simp only[bC]at h
  split at h
  ·rename_i e;subst e;simp at h;subst h;exact hl.1
  ·exact aD hl.2 f s h
theorem FnOK.says {G:Gl}{P:Program}{f:FuncId}{a:Ty}{g:a.T→Option (Ty.pair .bool .unit).T}(h:FnOK G P f ⟨a,.pair .bool .unit,.unit,rfl,g⟩)(ho:a.owned=false){w:World}{ok:Nat→Prop}{args:List Value}{x:a.T}(hg:GW G ok w)(ha:AR P ok w a x args)(hy:g x=some (true,())):
  Calls P f args.toArray w fun e w'=>e= .returned (.bool true)∧Below w.heap.size w w':=by
 refine(h.2 w ok args x (true,()) [] hg (EU a ho ha) List.nodup_nil (fun b hb=>by cases hb) hy).mono ?_
 rintro e w' ⟨v,rs,b1,b2,rfl,hk,rfl,_,_,hr,_⟩
 refine⟨?_,ar.below (hk.mono fun _ _ h=>by cases h)⟩
 obtain⟨v,vs,_,_,rfl,_,h1,h2⟩:=hr
 have h2:vs= []:=h2.1
 subst h2
 have h1:aR P _ w' .bool true [v] _:=h1
 have h3: [v]= [Value.bool true]:=h1.1
 simp at h3
 subst h3
 rfl
end Go.Proofs.YtkgcbbkodalfmaaGreatDoor
