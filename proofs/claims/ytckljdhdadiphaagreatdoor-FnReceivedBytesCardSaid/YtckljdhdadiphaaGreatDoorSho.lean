import Derived.Test.YtckljdhdadiphaaGreatDoorLoop
namespace Go.Proofs.YtckljdhdadiphaaGreatDoor
open Go.RowKit
set_option linter.unusedVariables false
def gQ(f:Func):Code:=match f.body with|some c=>c|none=>.skip
def Oz(f:Func)(i:Nat):Code:=(cz (gQ f)).getD i .skip
def bo(f:Func)(ls:List aJ):Nat→Option aJ:=A6 (cz (gQ f)) ls
structure aX where
 ss:List Nat
 t:Ty
 brk:Nat
 bs:List Nat
 bt:Ty
 rs:List Nat
 rt:Ty
noncomputable def aX.spec(q:aX)(B:q.t.T→Option (q.t.T ⊕ (q.bt.T ⊕ q.rt.T))):aJ:=⟨q.ss,q.t,q.brk,q.bs,q.bt,q.rs,q.rt,ac B⟩
def bq(Γ:b7)(E:bA)(σ:FuncId→Option ae)(Λ:Nat→Option aJ)(f:Func)(i:Nat)(q:aX)(B:q.t.T→Option (q.t.T ⊕ (q.bt.T ⊕ q.rt.T))):Prop:=
 ∀x,fJ Γ E σ Λ f.ntmps (Oz f i) (fe f.ntmps q.ss q.t x) (CS σ f.ntmps q.ss q.t q.brk q.bs q.bt q.rs q.rt)=B x
theorem bq.lok {Γ:b7}{E:bA}{σ:FuncId→Option ae}{Λ:Nat→Option aJ}{f:Func}{i:Nat}{q:aX}{B:q.t.T→Option (q.t.T ⊕ (q.bt.T ⊕ q.rt.T))}(h:bq Γ E σ Λ f i q B):LQ Γ E σ Λ f.ntmps (q.spec B) (Oz f i):=RZ h
def Uf(s:ae)(f:Func):Bool:=(f.name != "runtime.NumGoroutine"&&f.body.isSome)&&((eN ((cz (gQ f)).map dP)&&(cz (gQ f)).all fun c=>decide (dP c<1000000))&&kB (jR s) (gQ f))
theorem aP {P:Program}{Γ:b7}{E:bA}{σ:FuncId→Option ae}{G:Gl}(hT:bZ P Γ E=true)(hσ:∀f s,σ f=some s→FnOK G P f s){f:FuncId}{fn:Func}{s:ae}(hf:P.funcs[f]? =some fn)(ls:List aJ)(hb:Uf s fn=true)
  (hls:Ge Γ E σ (bo fn ls) fn.ntmps (cz (gQ fn)) ls) (hex:∀x,wu Γ E σ (bo fn ls) fn s x=s.fn x):FnOK G P f s:=by
 unfold Uf at hb
 simp only[Bool.and_eq_true]at hb
 obtain⟨⟨h1,h2⟩,⟨h3,h4⟩,h5⟩:=hb
 have hbody:fn.body=some (gQ fn):=by
  unfold gQ
  cases h:fn.body with
  |none=>rw[h]at h2;cases h2
  |some c=>rfl
 exact S3 (Λ:=bo fn ls) hT hσ hf (by simpa using h1) hbody ls rfl (by rw[h3,h4];rfl) hls h5 fun x y h=>(hex x).trans h
theorem aR {P:Program}{G:Gl}:∀f s,bU [] f=some s→FnOK G P f s:=aM (l:=[]) trivial
theorem sg {P:Program}{G:Gl}{g:FuncId}{t:ae}{l:List (FuncId×ae)}(h:FnOK G P g t)(hr:∀f s,bU l f=some s→FnOK G P f s):∀f s,bU ((g,t)::l) f=some s→FnOK G P f s:=by
 intro f s e
 simp only[bU]at e
 split at e
 ·rename_i q;subst q;simp at e;subst e;exact h
 ·exact hr f s e
theorem an {P:Program}{Γ:b7}{E:bA}{σ:FuncId→Option ae}{G:Gl}(hT:bZ P Γ E=true)(hσ:∀f s,σ f=some s→FnOK G P f s){f:FuncId}{fn:Func}{s:ae}(hf:P.funcs[f]? =some fn)
  (hb:(Uf s fn&&(cz (gQ fn)).isEmpty)=true:=by kernel_rfl) (hex:∀x,wu Γ E σ (bo fn []) fn s x=s.fn x:=by intro x;kernel_rfl):FnOK G P f s:=by
 rw[Bool.and_eq_true]at hb
 refine aP hT hσ hf [] hb.1 ?_ hex
 have h:=hb.2
 cases e:cz (gQ fn)with
 |nil=>exact trivial
 |cons a b=>rw[e]at h;cases h
end Go.Proofs.YtckljdhdadiphaaGreatDoor
