import Derived.Test.YthfgmmmeplanbaaGreatDoorLoop
namespace Go.Proofs.YthfgmmmeplanbaaGreatDoor
open Go.RowKit
set_option linter.unusedVariables false
def bodyOf(f:Func):Code:=match f.body with|some c=>c|none=>.skip
def nthLoop(f:Func)(i:Nat):Code:=(loopList (bodyOf f)).getD i .skip
def nthCut(f:Func)(i:Nat):Code:=(cutList (bodyOf f)).getD i .skip
def lam(f:Func)(ls:List LSpec):Nat→Option LSpec:=lkp (loopList (bodyOf f)) ls
structure LRow where
 ss:List Nat
 t:Ty
 brk:Nat
 bs:List Nat
 bt:Ty
 rs:List Nat
 rt:Ty
noncomputable def LRow.spec(q:LRow)(B:q.t.T→Option (q.t.T ⊕ (q.bt.T ⊕ q.rt.T))):LSpec:=⟨q.ss,q.t,q.brk,q.bs,q.bt,q.rs,q.rt,loopL B⟩
def Lok(Γ:Tab)(E:Elems)(σ:FuncId→Option Spec)(Λ:Nat→Option LSpec)(f:Func)(i:Nat)(q:LRow)(B:q.t.T→Option (q.t.T ⊕ (q.bt.T ⊕ q.rt.T))):Prop:=
 ∀x,codeK Γ E σ Λ f.ntmps (nthLoop f i) (mkF f.ntmps q.ss q.t x) (readK σ f.ntmps q.ss q.t q.brk q.bs q.bt q.rs q.rt)=B x
theorem Lok.lok {Γ:Tab}{E:Elems}{σ:FuncId→Option Spec}{Λ:Nat→Option LSpec}{f:Func}{i:Nat}{q:LRow}{B:q.t.T→Option (q.t.T ⊕ (q.bt.T ⊕ q.rt.T))}(h:Lok Γ E σ Λ f i q B):LOK Γ E σ Λ f.ntmps (q.spec B) (nthLoop f i):=loop_LOK h
def okB(s:Spec)(f:Func):Bool:=(f.name != "runtime.NumGoroutine"&&f.body.isSome)&&((nodupB ((loopList (bodyOf f)).map codeKey)&&(loopList (bodyOf f)).all fun c=>decide (codeKey c<1000000))&&noDst (fixSlots s) (bodyOf f))
theorem fn_okS {P:Program}{Γ:Tab}{E:Elems}{σ:FuncId→Option Spec}{G:Gl}(hT:tabB P Γ E=true)(hσ:∀f s,σ f=some s→FnOK G P f s){f:FuncId}{fn:Func}{s:Spec}(hf:P.funcs[f]? =some fn)(ls:List LSpec)(hb:okB s fn=true)
 (hls:AllLOK Γ E σ (lam fn ls) fn.ntmps (loopList (bodyOf fn)) ls) (hex:∀x,execFn Γ E σ (lam fn ls) fn s x=s.fn x):FnOK G P f s:=by
 unfold okB at hb
 simp only[Bool.and_eq_true]at hb
 obtain⟨⟨h1,h2⟩,⟨h3,h4⟩,h5⟩:=hb
 have hbody:fn.body=some (bodyOf fn):=by
  unfold bodyOf
  cases h:fn.body with
  |none=>rw[h]at h2;cases h2
  |some c=>rfl
 exact fn_ok (Λ:=lam fn ls) hT hσ hf (by simpa using h1) hbody ls rfl (by rw[h3,h4];rfl) hls h5 fun x y h=>(hex x).trans h
end Go.Proofs.YthfgmmmeplanbaaGreatDoor
