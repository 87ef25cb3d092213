import Derived.Test.YtkgcbbkodalfmaaGreatDoorLoop
namespace Go.Proofs.YtkgcbbkodalfmaaGreatDoor
open Go.RowKit
set_option linter.unusedVariables false
def ff(f:Func):Code:=match f.body with|some c=>c|none=>.skip
def LF(f:Func)(i:Nat):Code:=(bZ (ff f)).getD i .skip
def VT(f:Func)(i:Nat):Code:=(jo (ff f)).getD i .skip
def ba(f:Func)(ls:List ay):Nat→Option ay:=ya (bZ (ff f)) ls
structure aO where
 ss:List Nat
 t:Ty
 brk:Nat
 bs:List Nat
 bt:Ty
 rs:List Nat
 rt:Ty
noncomputable def aO.spec(q:aO)(B:q.t.T→Option (q.t.T ⊕ (q.bt.T ⊕ q.rt.T))):ay:=⟨q.ss,q.t,q.brk,q.bs,q.bt,q.rs,q.rt,ag B⟩
def bc(Γ:cf)(E:bB)(σ:FuncId→Option Spec)(Λ:Nat→Option ay)(f:Func)(i:Nat)(q:aO)(B:q.t.T→Option (q.t.T ⊕ (q.bt.T ⊕ q.rt.T))):Prop:=
 ∀x,eY Γ E σ Λ f.ntmps (LF f i) (eX f.ntmps q.ss q.t x) (z6 σ f.ntmps q.ss q.t q.brk q.bs q.bt q.rs q.rt)=B x
theorem bc.lok {Γ:cf}{E:bB}{σ:FuncId→Option Spec}{Λ:Nat→Option ay}{f:Func}{i:Nat}{q:aO}{B:q.t.T→Option (q.t.T ⊕ (q.bt.T ⊕ q.rt.T))}(h:bc Γ E σ Λ f i q B):PN Γ E σ Λ f.ntmps (q.spec B) (LF f i):=PR h
def Zs(s:Spec)(f:Func):Bool:=(f.name != "runtime.NumGoroutine"&&f.body.isSome)&&((fe ((bZ (ff f)).map cV)&&(bZ (ff f)).all fun c=>decide (cV c<1000000))&&kG (jI s) (ff f))
theorem aH {P:Program}{Γ:cf}{E:bB}{σ:FuncId→Option Spec}{G:Gl}(hT:ca P Γ E=true)(hσ:∀f s,σ f=some s→FnOK G P f s){f:FuncId}{fn:Func}{s:Spec}(hf:P.funcs[f]? =some fn)(ls:List ay)(hb:Zs s fn=true)
  (hls:C4 Γ E σ (ba fn ls) fn.ntmps (bZ (ff fn)) ls) (hex:∀x,rn Γ E σ (ba fn ls) fn s x=s.fn x):FnOK G P f s:=by
 unfold Zs at hb
 simp only[Bool.and_eq_true]at hb
 obtain⟨⟨h1,h2⟩,⟨h3,h4⟩,h5⟩:=hb
 have hbody:fn.body=some (ff fn):=by
  unfold ff
  cases h:fn.body with
  |none=>rw[h]at h2;cases h2
  |some c=>rfl
 exact Yc (Λ:=ba fn ls) hT hσ hf (by simpa using h1) hbody ls rfl (by rw[h3,h4];rfl) hls h5 fun x y h=>(hex x).trans h
theorem aJ {P:Program}{G:Gl}:∀f s,bh [] f=some s→FnOK G P f s:=aF (l:=[]) trivial
theorem sg {P:Program}{G:Gl}{g:FuncId}{t:Spec}{l:List (FuncId×Spec)}(h:FnOK G P g t)(hr:∀f s,bh l f=some s→FnOK G P f s):∀f s,bh ((g,t)::l) f=some s→FnOK G P f s:=by
 intro f s e
 simp only[bh]at e
 split at e
 ·rename_i q;subst q;simp at e;subst e;exact h
 ·exact hr f s e
theorem ap {P:Program}{Γ:cf}{E:bB}{σ:FuncId→Option Spec}{G:Gl}(hT:ca P Γ E=true)(hσ:∀f s,σ f=some s→FnOK G P f s){f:FuncId}{fn:Func}{s:Spec}(hf:P.funcs[f]? =some fn)
  (hb:(Zs s fn&&(bZ (ff fn)).isEmpty)=true:=by kernel_rfl) (hex:∀x,rn Γ E σ (ba fn []) fn s x=s.fn x:=by intro x;kernel_rfl):FnOK G P f s:=by
 rw[Bool.and_eq_true]at hb
 refine aH hT hσ hf [] hb.1 ?_ hex
 have h:=hb.2
 cases e:bZ (ff fn)with
 |nil=>exact trivial
 |cons a b=>rw[e]at h;cases h
end Go.Proofs.YtkgcbbkodalfmaaGreatDoor
