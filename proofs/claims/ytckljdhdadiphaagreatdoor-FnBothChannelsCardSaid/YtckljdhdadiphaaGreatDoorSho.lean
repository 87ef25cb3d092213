import Derived.Test.YtckljdhdadiphaaGreatDoorLoop
namespace Go.Proofs.YtckljdhdadiphaaGreatDoor
open Go.RowKit
set_option linter.unusedVariables false
def gA(f:Func):Code:=match f.body with|some c=>c|none=>.skip
def Mr(f:Func)(i:Nat):Code:=(b8 (gA f)).getD i .skip
def VQ(f:Func)(i:Nat):Code:=(jC (gA f)).getD i .skip
def be(f:Func)(ls:List aD):Nat→Option aD:=zr (b8 (gA f)) ls
structure aX where
 ss:List Nat
 t:Ty
 brk:Nat
 bs:List Nat
 bt:Ty
 rs:List Nat
 rt:Ty
noncomputable def aX.spec(q:aX)(B:q.t.T→Option (q.t.T ⊕ (q.bt.T ⊕ q.rt.T))):aD:=⟨q.ss,q.t,q.brk,q.bs,q.bt,q.rs,q.rt,ac B⟩
def bi(Γ:ce)(E:bP)(σ:FuncId→Option ae)(Λ:Nat→Option aD)(f:Func)(i:Nat)(q:aX)(B:q.t.T→Option (q.t.T ⊕ (q.bt.T ⊕ q.rt.T))):Prop:=
 ∀x,fi Γ E σ Λ f.ntmps (Mr f i) (fg f.ntmps q.ss q.t x) (Bp σ f.ntmps q.ss q.t q.brk q.bs q.bt q.rs q.rt)=B x
theorem bi.lok {Γ:ce}{E:bP}{σ:FuncId→Option ae}{Λ:Nat→Option aD}{f:Func}{i:Nat}{q:aX}{B:q.t.T→Option (q.t.T ⊕ (q.bt.T ⊕ q.rt.T))}(h:bi Γ E σ Λ f i q B):Qg Γ E σ Λ f.ntmps (q.spec B) (Mr f i):=Qk h
def ZI(s:ae)(f:Func):Bool:=(f.name != "runtime.NumGoroutine"&&f.body.isSome)&&((fm ((b8 (gA f)).map df)&&(b8 (gA f)).all fun c=>decide (df c<1000000))&&kQ (kd s) (gA f))
theorem aO {P:Program}{Γ:ce}{E:bP}{σ:FuncId→Option ae}{G:Gl}(hT:cd P Γ E=true)(hσ:∀f s,σ f=some s→FnOK G P f s){f:FuncId}{fn:Func}{s:ae}(hf:P.funcs[f]? =some fn)(ls:List aD)(hb:ZI s fn=true)
  (hls:Ep Γ E σ (be fn ls) fn.ntmps (b8 (gA fn)) ls) (hex:∀x,sn Γ E σ (be fn ls) fn s x=s.fn x):FnOK G P f s:=by
 unfold ZI at hb
 simp only[Bool.and_eq_true]at hb
 obtain⟨⟨h1,h2⟩,⟨h3,h4⟩,h5⟩:=hb
 have hbody:fn.body=some (gA fn):=by
  unfold gA
  cases h:fn.body with
  |none=>rw[h]at h2;cases h2
  |some c=>rfl
 exact Yf (Λ:=be fn ls) hT hσ hf (by simpa using h1) hbody ls rfl (by rw[h3,h4];rfl) hls h5 fun x y h=>(hex x).trans h
theorem aU {P:Program}{G:Gl}:∀f s,bH [] f=some s→FnOK G P f s:=aK (l:=[]) trivial
theorem sg {P:Program}{G:Gl}{g:FuncId}{t:ae}{l:List (FuncId×ae)}(h:FnOK G P g t)(hr:∀f s,bH l f=some s→FnOK G P f s):∀f s,bH ((g,t)::l) f=some s→FnOK G P f s:=by
 intro f s e
 simp only[bH]at e
 split at e
 ·rename_i q;subst q;simp at e;subst e;exact h
 ·exact hr f s e
theorem aq {P:Program}{Γ:ce}{E:bP}{σ:FuncId→Option ae}{G:Gl}(hT:cd P Γ E=true)(hσ:∀f s,σ f=some s→FnOK G P f s){f:FuncId}{fn:Func}{s:ae}(hf:P.funcs[f]? =some fn)
  (hb:(ZI s fn&&(b8 (gA fn)).isEmpty)=true:=by kernel_rfl) (hex:∀x,sn Γ E σ (be fn []) fn s x=s.fn x:=by intro x;kernel_rfl):FnOK G P f s:=by
 rw[Bool.and_eq_true]at hb
 refine aO hT hσ hf [] hb.1 ?_ hex
 have h:=hb.2
 cases e:b8 (gA fn)with
 |nil=>exact trivial
 |cons a b=>rw[e]at h;cases h
end Go.Proofs.YtckljdhdadiphaaGreatDoor
