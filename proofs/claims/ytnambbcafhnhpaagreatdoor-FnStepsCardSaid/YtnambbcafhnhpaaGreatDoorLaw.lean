import Derived.Test.YtnambbcafhnhpaaGreatDoorLift
import Derived.WalkKit
import Derived.ProofKit
namespace Go.Proofs.YtnambbcafhnhpaaGreatDoor
open Go.RowKit Go.ChangeShapes Go.WideShapes Go.ChangeAt
set_option linter.unusedVariables false
set_option linter.unusedSimpArgs false
section
variable {P:Program} {H:Type} {enc:TypeId×Value→H}
theorem Df {w:World}{base:Nat}{spare:Nat→Bool}{held:Bool}:∀ {ts:List TypeId} {vs:List Value} {ds:List (DataW H)} {p:List MemPlace},DataW.TrodAll enc P w base spare held ts vs ds p→ds.length=ts.length∧vs.length=ts.length
 | [],_,_,_,h=>by obtain⟨rfl,rfl,_⟩:=trodAll_nil h;exact⟨rfl,rfl⟩
 |t::ts,_,_,_,h=>by
  obtain⟨v,vs',d,ds',p,q,rfl,rfl,rfl,_,h2⟩:=trodAll_cons h
  have:=Df h2
  simp[this.1,this.2]
theorem abr {G:Gl}{f:FuncId}{fn:Func}{s:ChangeSpec}{a:Ty}{g:a.T→Option (Ty.pair .bool .unit).T}{t:TypeId}{n:Nat}{fresh handsOn:Bool}{W:World}(hgi:G.I W){base:Nat}{args:Array Value}{ds gs:List (DataW H)}{nD:List MemPlace}
  (hok:FnOK G P f ⟨a,.pair .bool .unit,.unit,rfl,g⟩) (hown:a.owned=false) (hg:∀x,Wf a x→g x=some (true,())) (hargs:eB P a fn.params.toList=true) (hlaid:laidOutB P=true) (hres:fn.resultTypes= #[t]) (hbool:P.underlying t=some .bool)
  (hvars:s.vars= []) (hn:fn.params.toList.length=n) (hspec:∀ds:List (DataW H),ds.length=n→s.fn H ds= {results:=[.lit (.bool true)],args:=ds})
  (hval:∀(j:Nat) t v,fn.params[j]? =some t→args[j]? =some v→Value.okWide P W .any base t v) (hW:DataW.Whole enc P fn.params.toList s.vars false W args.toList ds gs nD):
  Calls P f args W fun e W'=>∃v,e= .returned v∧s.post enc P fn false fresh handsOn false W args v W':=by
 have hlt:∀p ∈ nD,p.block<W.heap.size:=fun p hp=>hW.lt p hp
 have hW':=hW
 obtain⟨p,q,hA,hV,rfl,_,_⟩:=hW'
 rw[hvars]at hV
 have hgq:gs= []∧q= []:=trodVars_none hV
 obtain⟨rfl,rfl⟩:=hgq
 obtain⟨x,hx,wx⟩:=SS a (b0:=base) hargs hA (fun j t v ht hv=>hval j t v (by simpa using ht) (by simpa using hv))
 have hcall:=FnOK.says hok hown ⟨hgi,G.lt W hgi⟩ hx (hg x wx)
 have ea:args.toList.toArray=args:=by simp
 rw[ea]at hcall
 refine hcall.mono ?_
 rintro e W' ⟨rfl,hb⟩
 have hlen:=(Df hA).1
 have hfn:=hspec ds (by omega)
 have hfn':s.fn H (ds++ [])= {results:=[.lit (.bool true)],args:=ds}:=by rw[List.append_nil];exact hfn
 refine⟨_,rfl,ds,[],p++ [],[],p,[],hW, ?_, ?_, ?_,hb.frame _,fun h=>by cases h⟩
 ·rw[hfn',hres]
  exact trodAll_cons_mk (shut_bool hbool _) trodAll_mk0
 ·rw[hfn']
  exact ST hlaid hb a hargs hA (fun y hy=>hlt y (by simpa using hy))
 ·rw[hfn',hvars]
  rfl
end
end Go.Proofs.YtnambbcafhnhpaaGreatDoor
