import Derived.Test.YthfgmmmeplanbaaGreatDoorLoop
namespace Go.Proofs.YthfgmmmeplanbaaGreatDoor
open Go.RowKit
set_option linter.unusedVariables false
def eK(f:Func):Code:=match f.body with|some c=>c|none=>.skip
def JS(f:Func)(i:Nat):Code:=(bF (eK f)).getD i .skip
def A6(f:Func)(i:Nat):Code:=(ix (eK f)).getD i .skip
def aW(f:Func)(ls:List ar):Nat→Option ar:=yU (bF (eK f)) ls
structure aF where
 ss:List Nat
 t:Ty
 brk:Nat
 bs:List Nat
 bt:Ty
 rs:List Nat
 rt:Ty
noncomputable def aF.spec(q:aF)(B:q.t.T→Option (q.t.T ⊕ (q.bt.T ⊕ q.rt.T))):ar:=⟨q.ss,q.t,q.brk,q.bs,q.bt,q.rs,q.rt,ac B⟩
def aX(Γ:co)(E:bA)(σ:FuncId→Option Spec)(Λ:Nat→Option ar)(f:Func)(i:Nat)(q:aF)(B:q.t.T→Option (q.t.T ⊕ (q.bt.T ⊕ q.rt.T))):Prop:=
 ∀x,dl Γ E σ Λ f.ntmps (JS f i) (dA f.ntmps q.ss q.t x) (x8 σ f.ntmps q.ss q.t q.brk q.bs q.bt q.rs q.rt)=B x
theorem aX.lok {Γ:co}{E:bA}{σ:FuncId→Option Spec}{Λ:Nat→Option ar}{f:Func}{i:Nat}{q:aF}{B:q.t.T→Option (q.t.T ⊕ (q.bt.T ⊕ q.rt.T))}(h:aX Γ E σ Λ f i q B):NC Γ E σ Λ f.ntmps (q.spec B) (JS f i):=NG h
def W5(s:Spec)(f:Func):Bool:=(f.name != "runtime.NumGoroutine"&&f.body.isSome)&&((eI ((bF (eK f)).map cC)&&(bF (eK f)).all fun c=>decide (cC c<1000000))&&jF (iQ s) (eK f))
theorem ax {P:Program}{Γ:co}{E:bA}{σ:FuncId→Option Spec}{G:Gl}(hT:bZ P Γ E=true)(hσ:∀f s,σ f=some s→FnOK G P f s){f:FuncId}{fn:Func}{s:Spec}(hf:P.funcs[f]? =some fn)(ls:List ar)(hb:W5 s fn=true)
  (hls:A3 Γ E σ (aW fn ls) fn.ntmps (bF (eK fn)) ls) (hex:∀x,pF Γ E σ (aW fn ls) fn s x=s.fn x):FnOK G P f s:=by
 unfold W5 at hb
 simp only[Bool.and_eq_true]at hb
 obtain⟨⟨h1,h2⟩,⟨h3,h4⟩,h5⟩:=hb
 have hbody:fn.body=some (eK fn):=by
  unfold eK
  cases h:fn.body with
  |none=>rw[h]at h2;cases h2
  |some c=>rfl
 exact XU (Λ:=aW fn ls) hT hσ hf (by simpa using h1) hbody ls rfl (by rw[h3,h4];rfl) hls h5 fun x y h=>(hex x).trans h
theorem az {P:Program}{G:Gl}:∀f s,a8 [] f=some s→FnOK G P f s:=au (l:=[]) trivial
theorem sg {P:Program}{G:Gl}{g:FuncId}{t:Spec}{l:List (FuncId×Spec)}(h:FnOK G P g t)(hr:∀f s,a8 l f=some s→FnOK G P f s):∀f s,a8 ((g,t)::l) f=some s→FnOK G P f s:=by
 intro f s e
 simp only[a8]at e
 split at e
 ·rename_i q;subst q;simp at e;subst e;exact h
 ·exact hr f s e
theorem ai {P:Program}{Γ:co}{E:bA}{σ:FuncId→Option Spec}{G:Gl}(hT:bZ P Γ E=true)(hσ:∀f s,σ f=some s→FnOK G P f s){f:FuncId}{fn:Func}{s:Spec}(hf:P.funcs[f]? =some fn)
  (hb:(W5 s fn&&(bF (eK fn)).isEmpty)=true:=by kernel_rfl) (hex:∀x,pF Γ E σ (aW fn []) fn s x=s.fn x:=by intro x;kernel_rfl):FnOK G P f s:=by
 rw[Bool.and_eq_true]at hb
 refine ax hT hσ hf [] hb.1 ?_ hex
 have h:=hb.2
 cases e:bF (eK fn)with
 |nil=>exact trivial
 |cons a b=>rw[e]at h;cases h
end Go.Proofs.YthfgmmmeplanbaaGreatDoor
