import Derived.Test.YtnambbcafhnhpaaGreatDoorLoop
namespace Go.Proofs.YtnambbcafhnhpaaGreatDoor
open Go.RowKit
set_option linter.unusedVariables false
def fe(f:Func):Code:=match f.body with|some c=>c|none=>.skip
def Q7(f:Func)(i:Nat):Code:=(cF (fe f)).getD i .skip
def vO(f:Func)(i:Nat):Code:=(lI (fe f)).getD i .skip
def bF(f:Func)(ls:List aM):Nat→Option aM:=De (cF (fe f)) ls
structure bg where
 ss:List Nat
 t:Ty
 brk:Nat
 bs:List Nat
 bt:Ty
 rs:List Nat
 rt:Ty
noncomputable def bg.spec(q:bg)(B:q.t.T→Option (q.t.T ⊕ (q.bt.T ⊕ q.rt.T))):aM:=⟨q.ss,q.t,q.brk,q.bs,q.bt,q.rs,q.rt,ak B⟩
def bJ(Γ:cD)(E:bR)(σ:FuncId→Option ai)(Λ:Nat→Option aM)(f:Func)(i:Nat)(q:bg)(B:q.t.T→Option (q.t.T ⊕ (q.bt.T ⊕ q.rt.T))):Prop:=
 ∀x,d6 Γ E σ Λ f.ntmps (Q7 f i) (eS f.ntmps q.ss q.t x) (Fw σ f.ntmps q.ss q.t q.brk q.bs q.bt q.rs q.rt)=B x
theorem bJ.lok {Γ:cD}{E:bR}{σ:FuncId→Option ai}{Λ:Nat→Option aM}{f:Func}{i:Nat}{q:bg}{B:q.t.T→Option (q.t.T ⊕ (q.bt.T ⊕ q.rt.T))}(h:bJ Γ E σ Λ f i q B):U9 Γ E σ Λ f.ntmps (q.spec B) (Q7 f i):=Vd h
def okB(s:ai)(f:Func):Bool:=(f.name != "runtime.NumGoroutine"&&f.body.isSome)&&((gd ((cF (fe f)).map dF)&&(cF (fe f)).all fun c=>decide (dF c<1000000))&&nL (mc s) (fe f))
theorem bb {P:Program}{Γ:cD}{E:bR}{σ:FuncId→Option ai}{G:Gl}(hT:cH P Γ E=true)(hσ:∀f s,σ f=some s→FnOK G P f s){f:FuncId}{fn:Func}{s:ai}(hf:P.funcs[f]? =some fn)(ls:List aM)(hb:okB s fn=true)
  (hls:IB Γ E σ (bF fn ls) fn.ntmps (cF (fe fn)) ls) (hex:∀x,th Γ E σ (bF fn ls) fn s x=s.fn x):FnOK G P f s:=by
 unfold okB at hb
 simp only[Bool.and_eq_true]at hb
 obtain⟨⟨h1,h2⟩,⟨h3,h4⟩,h5⟩:=hb
 have hbody:fn.body=some (fe fn):=by
  unfold fe
  cases h:fn.body with
  |none=>rw[h]at h2;cases h2
  |some c=>rfl
 exact aef (Λ:=bF fn ls) hT hσ hf (by simpa using h1) hbody ls rfl (by rw[h3,h4];rfl) hls h5 fun x y h=>(hex x).trans h
theorem ba {P:Program}{G:Gl}:∀f s,ca [] f=some s→FnOK G P f s:=aX (l:=[]) trivial
theorem sg {P:Program}{G:Gl}{g:FuncId}{t:ai}{l:List (FuncId×ai)}(h:FnOK G P g t)(hr:∀f s,ca l f=some s→FnOK G P f s):∀f s,ca ((g,t)::l) f=some s→FnOK G P f s:=by
 intro f s e
 simp only[ca]at e
 split at e
 ·rename_i q;subst q;simp at e;subst e;exact h
 ·exact hr f s e
theorem au {P:Program}{Γ:cD}{E:bR}{σ:FuncId→Option ai}{G:Gl}(hT:cH P Γ E=true)(hσ:∀f s,σ f=some s→FnOK G P f s){f:FuncId}{fn:Func}{s:ai}(hf:P.funcs[f]? =some fn)
  (hb:(okB s fn&&(cF (fe fn)).isEmpty)=true:=by kernel_rfl) (hex:∀x,th Γ E σ (bF fn []) fn s x=s.fn x:=by intro x;kernel_rfl):FnOK G P f s:=by
 rw[Bool.and_eq_true]at hb
 refine bb hT hσ hf [] hb.1 ?_ hex
 have h:=hb.2
 cases e:cF (fe fn)with
 |nil=>exact trivial
 |cons a b=>rw[e]at h;cases h
end Go.Proofs.YtnambbcafhnhpaaGreatDoor
