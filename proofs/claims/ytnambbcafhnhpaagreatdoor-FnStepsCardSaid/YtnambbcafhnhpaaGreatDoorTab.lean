import Derived.Test.YtnambbcafhnhpaaGreatDoorFn
namespace Go.Proofs.YtnambbcafhnhpaaGreatDoor
open Go.RowKit
set_option linter.unusedVariables false
set_option linter.unusedSimpArgs false
def ca:List (FuncId×ai)→FuncId→Option ai
 | [],_=>none
 |(g,s)::r,f=>if f=g then some s else ca r f
def aeg(G:Gl)(P:Program):List (FuncId×ai)→Prop
 | []=>True
 |(g,s)::r=>FnOK G P g s∧aeg G P r
theorem aX {G:Gl}{P:Program}:∀ {l:List (FuncId×ai)},aeg G P l→∀f s,ca l f=some s→FnOK G P f s
 | [],_,f,s,h=>by simp[ca]at h
 |(g,t)::r,hl,f,s,h=>by
  simp only[ca]at h
  split at h
  ·rename_i e;subst e;simp at h;subst h;exact hl.1
  ·exact aX hl.2 f s h
theorem FnOK.says {G:Gl}{P:Program}{f:FuncId}{a:Ty}{g:a.T→Option (Ty.pair .bool .unit).T}(h:FnOK G P f ⟨a,.pair .bool .unit,.unit,rfl,g⟩)(ho:a.owned=false){w:World}{ok:Nat→Prop}{args:List Value}{x:a.T}(hg:GW G ok w)(ha:AR P ok w a x args)(hy:g x=some (true,())):
  Calls P f args.toArray w fun e w'=>e= .returned (.bool true)∧Below w.heap.size w w':=by
 refine(h.2 w ok args x (true,()) [] hg (Iq a ho ha) List.nodup_nil (fun b hb=>by cases hb) hy).mono ?_
 rintro e w' ⟨v,rs,b1,b2,rfl,hk,rfl,_,_,hr,_⟩
 refine⟨?_,aG.below (hk.mono fun _ _ h=>by cases h)⟩
 obtain⟨v,vs,_,_,rfl,_,h1,h2⟩:=hr
 have h2:vs= []:=h2.1
 subst h2
 have h1:bm P _ w' .bool true [v] _:=h1
 have h3: [v]= [Value.bool true]:=h1.1
 simp at h3
 subst h3
 rfl
end Go.Proofs.YtnambbcafhnhpaaGreatDoor
