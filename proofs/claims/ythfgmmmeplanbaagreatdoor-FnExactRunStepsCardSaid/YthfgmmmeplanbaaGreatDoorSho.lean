import Derived.Test.YthfgmmmeplanbaaGreatDoorLoop
namespace Go.Proofs.YthfgmmmeplanbaaGreatDoor
open Go.RowKit
set_option linter.unusedVariables false
def fS(f:Func):Code:=match f.body with|some c=>c|none=>.skip
def LN(f:Func)(i:Nat):Code:=(bM (fS f)).getD i .skip
def Wd(f:Func)(i:Nat):Code:=(iW (fS f)).getD i .skip
def aR(f:Func)(ls:List a9z):Nat→Option a9z:=Aq (bM (fS f)) ls
structure aG where
 ss:List Nat
 t:Ty
 brk:Nat
 bs:List Nat
 bt:Ty
 rs:List Nat
 rt:Ty
noncomputable def aG.spec(q:aG)(B:q.t.T→Option (q.t.T ⊕ (q.bt.T ⊕ q.rt.T))):a9z:=⟨q.ss,q.t,q.brk,q.bs,q.bt,q.rs,q.rt,ac B⟩
def aU(Γ:b7)(E:bq)(σ:FuncId→Option Spec)(Λ:Nat→Option a9z)(f:Func)(i:Nat)(q:aG)(B:q.t.T→Option (q.t.T ⊕ (q.bt.T ⊕ q.rt.T))):Prop:=
 ∀x,ew Γ E σ Λ f.ntmps (LN f i) (eu f.ntmps q.ss q.t x) (zy σ f.ntmps q.ss q.t q.brk q.bs q.bt q.rs q.rt)=B x
theorem aU.lok {Γ:b7}{E:bq}{σ:FuncId→Option Spec}{Λ:Nat→Option a9z}{f:Func}{i:Nat}{q:aG}{B:q.t.T→Option (q.t.T ⊕ (q.bt.T ⊕ q.rt.T))}(h:aU Γ E σ Λ f i q B):PR Γ E σ Λ f.ntmps (q.spec B) (LN f i):=PV h
def ZC(s:Spec)(f:Func):Bool:=(f.name != "runtime.NumGoroutine"&&f.body.isSome)&&((eD ((bM (fS f)).map cF)&&(bM (fS f)).all fun c=>decide (cF c<1000000))&&kf (jj s) (fS f))
theorem ax {P:Program}{Γ:b7}{E:bq}{σ:FuncId→Option Spec}{G:Gl}(hT:bT P Γ E=true)(hσ:∀f s,σ f=some s→FnOK G P f s){f:FuncId}{fn:Func}{s:Spec}(hf:P.funcs[f]? =some fn)(ls:List a9z)(hb:ZC s fn=true)
  (hls:CA Γ E σ (aR fn ls) fn.ntmps (bM (fS fn)) ls) (hex:∀x,tG Γ E σ (aR fn ls) fn s x=s.fn x):FnOK G P f s:=by
 unfold ZC at hb
 simp only[Bool.and_eq_true]at hb
 obtain⟨⟨h1,h2⟩,⟨h3,h4⟩,h5⟩:=hb
 have hbody:fn.body=some (fS fn):=by
  unfold fS
  cases h:fn.body with
  |none=>rw[h]at h2;cases h2
  |some c=>rfl
 exact aav (Λ:=aR fn ls) hT hσ hf (by simpa using h1) hbody ls rfl (by rw[h3,h4];rfl) hls h5 fun x y h=>(hex x).trans h
theorem aC {P:Program}{G:Gl}:∀f s,aX [] f=some s→FnOK G P f s:=aw (l:=[]) trivial
theorem sg {P:Program}{G:Gl}{g:FuncId}{t:Spec}{l:List (FuncId×Spec)}(h:FnOK G P g t)(hr:∀f s,aX l f=some s→FnOK G P f s):∀f s,aX ((g,t)::l) f=some s→FnOK G P f s:=by
 intro f s e
 simp only[aX]at e
 split at e
 ·rename_i q;subst q;simp at e;subst e;exact h
 ·exact hr f s e
theorem aj {P:Program}{Γ:b7}{E:bq}{σ:FuncId→Option Spec}{G:Gl}(hT:bT P Γ E=true)(hσ:∀f s,σ f=some s→FnOK G P f s){f:FuncId}{fn:Func}{s:Spec}(hf:P.funcs[f]? =some fn)
  (hb:(ZC s fn&&(bM (fS fn)).isEmpty)=true:=by kernel_rfl) (hex:∀x,tG Γ E σ (aR fn []) fn s x=s.fn x:=by intro x;kernel_rfl):FnOK G P f s:=by
 rw[Bool.and_eq_true]at hb
 refine ax hT hσ hf [] hb.1 ?_ hex
 have h:=hb.2
 cases e:bM (fS fn)with
 |nil=>exact trivial
 |cons a b=>rw[e]at h;cases h
end Go.Proofs.YthfgmmmeplanbaaGreatDoor
