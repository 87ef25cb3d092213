import Derived.Test.YtkgcbbkodalfmaaGreatDoorLoop
namespace Go.Proofs.YtkgcbbkodalfmaaGreatDoor
open Go.RowKit
set_option linter.unusedVariables false
def fE(f:Func):Code:=match f.body with|some c=>c|none=>.skip
def Nj(f:Func)(i:Nat):Code:=(ch (fE f)).getD i .skip
def Xt(f:Func)(i:Nat):Code:=(jU (fE f)).getD i .skip
def bc(f:Func)(ls:List aw):Nat→Option aw:=Ai (ch (fE f)) ls
structure aO where
 ss:List Nat
 t:Ty
 brk:Nat
 bs:List Nat
 bt:Ty
 rs:List Nat
 rt:Ty
noncomputable def aO.spec(q:aO)(B:q.t.T→Option (q.t.T ⊕ (q.bt.T ⊕ q.rt.T))):aw:=⟨q.ss,q.t,q.brk,q.bs,q.bt,q.rs,q.rt,ac B⟩
def bg(Γ:cp)(E:bG)(σ:FuncId→Option ae)(Λ:Nat→Option aw)(f:Func)(i:Nat)(q:aO)(B:q.t.T→Option (q.t.T ⊕ (q.bt.T ⊕ q.rt.T))):Prop:=
 ∀x,fA Γ E σ Λ f.ntmps (Nj f i) (fz f.ntmps q.ss q.t x) (Cd σ f.ntmps q.ss q.t q.brk q.bs q.bt q.rs q.rt)=B x
theorem bg.lok {Γ:cp}{E:bG}{σ:FuncId→Option ae}{Λ:Nat→Option aw}{f:Func}{i:Nat}{q:aO}{B:q.t.T→Option (q.t.T ⊕ (q.bt.T ⊕ q.rt.T))}(h:bg Γ E σ Λ f i q B):Rf Γ E σ Λ f.ntmps (q.spec B) (Nj f i):=Rj h
def okB(s:ae)(f:Func):Bool:=(f.name != "runtime.NumGoroutine"&&f.body.isSome)&&((fD ((ch (fE f)).map dk)&&(ch (fE f)).all fun c=>decide (dk c<1000000))&&ll (kp s) (fE f))
theorem aJ {P:Program}{Γ:cp}{E:bG}{σ:FuncId→Option ae}{G:Gl}(hT:ck P Γ E=true)(hσ:∀f s,σ f=some s→FnOK G P f s){f:FuncId}{fn:Func}{s:ae}(hf:P.funcs[f]? =some fn)(ls:List aw)(hb:okB s fn=true)
  (hls:E9 Γ E σ (bc fn ls) fn.ntmps (ch (fE fn)) ls) (hex:∀x,tv Γ E σ (bc fn ls) fn s x=s.fn x):FnOK G P f s:=by
 unfold okB at hb
 simp only[Bool.and_eq_true]at hb
 obtain⟨⟨h1,h2⟩,⟨h3,h4⟩,h5⟩:=hb
 have hbody:fn.body=some (fE fn):=by
  unfold fE
  cases h:fn.body with
  |none=>rw[h]at h2;cases h2
  |some c=>rfl
 exact Z7 (Λ:=bc fn ls) hT hσ hf (by simpa using h1) hbody ls rfl (by rw[h3,h4];rfl) hls h5 fun x y h=>(hex x).trans h
theorem aL {P:Program}{G:Gl}:∀f s,bC [] f=some s→FnOK G P f s:=aD (l:=[]) trivial
theorem sg {P:Program}{G:Gl}{g:FuncId}{t:ae}{l:List (FuncId×ae)}(h:FnOK G P g t)(hr:∀f s,bC l f=some s→FnOK G P f s):∀f s,bC ((g,t)::l) f=some s→FnOK G P f s:=by
 intro f s e
 simp only[bC]at e
 split at e
 ·rename_i q;subst q;simp at e;subst e;exact h
 ·exact hr f s e
theorem ak {P:Program}{Γ:cp}{E:bG}{σ:FuncId→Option ae}{G:Gl}(hT:ck P Γ E=true)(hσ:∀f s,σ f=some s→FnOK G P f s){f:FuncId}{fn:Func}{s:ae}(hf:P.funcs[f]? =some fn)
  (hb:(okB s fn&&(ch (fE fn)).isEmpty)=true:=by kernel_rfl) (hex:∀x,tv Γ E σ (bc fn []) fn s x=s.fn x:=by intro x;kernel_rfl):FnOK G P f s:=by
 rw[Bool.and_eq_true]at hb
 refine aJ hT hσ hf [] hb.1 ?_ hex
 have h:=hb.2
 cases e:ch (fE fn)with
 |nil=>exact trivial
 |cons a b=>rw[e]at h;cases h
end Go.Proofs.YtkgcbbkodalfmaaGreatDoor
