import Derived.Test.YtkgcbbkodalfmaaGreatDoorTab
namespace Go.Proofs.YtkgcbbkodalfmaaGreatDoor
open Go.RowKit
set_option linter.unusedVariables false
set_option linter.unusedSimpArgs false
section
variable {X O:Type}
def oo(B:X→Option (X ⊕ O)):Nat→X→Option O
 |0,_=>none
 |n+1,x=>match B x with
  |none=>none
  |some (.inl x')=>oo B n x'
  |some (.inr o)=>some o
theorem C5 {B:X→Option (X ⊕ O)}:∀ {n:Nat} {x:X} {o:O},oo B n x=some o→∀ {m:Nat},n≤m→oo B m x=some o
 |0,_,_,h,_,_=>by simp[oo]at h
 |n+1,x,o,h,m+1,hm=>by
  simp only[oo]at h ⊢
  cases hb:B x with
  |none=>rw[hb]at h;cases h
  |some st=>
   rw[hb]at h
   cases st with
   |inl x'=>exact C5 h (by omega)
   |inr o'=>exact h
 |n+1,_,_,_,0,hm=>by omega
theorem Ye {p:Nat→Prop}:∀ {n:Nat},p n→∃m,p m∧∀k,p k→m≤k:=by
 intro n
 induction n using Nat.strongRecOn with
 |ind n ih=>
  intro h
  by_cases hk:∃k,k<n∧p k
  ·obtain⟨k,hk,hp⟩:=hk;exact ih k hk hp
  ·exact⟨n,h,fun k hp=>Nat.le_of_not_lt fun hlt=>hk ⟨k,hlt,hp⟩⟩
def C6(B:X→Option (X ⊕ O))(x:X)(n:Nat):Prop:=∃o,oo B n x=some o
open Classical in
noncomputable def ag(B:X→Option (X ⊕ O))(x:X):Option O:=if h:∃n o,oo B n x=some o then some h.choose_spec.choose else none
open Classical in
noncomputable def cg(B:X→Option (X ⊕ O))(x:X):Nat:=if h:∃n,C6 B x n∧∀k,C6 B x k→n≤k then h.choose else 0
theorem tO {B:X→Option (X ⊕ O)}{x:X}{o:O}:ag B x=some o↔∃n,oo B n x=some o:=by
 unfold ag
 constructor
 ·intro h
  split at h
  ·rename_i hh
   exact⟨hh.choose,by rw[←Option.some.inj h];exact hh.choose_spec.choose_spec⟩
  ·cases h
 ·rintro ⟨n,hn⟩
  have hh:∃n o,oo B n x=some o:=⟨n,o,hn⟩
  rw[dif_pos hh]
  have h2:=hh.choose_spec.choose_spec
  have h3:=C5 h2 (Nat.le_max_left hh.choose n)
  have h4:=C5 hn (Nat.le_max_right hh.choose n)
  rw[←h3,h4]
theorem am(B:X→Option (X ⊕ O))(x:X):ag B x=match B x with
  |none=>none
  |some (.inl x')=>ag B x'
  |some (.inr o)=>some o:=by
 apply Option.ext
 intro o
 rw[tO]
 constructor
 ·rintro ⟨n,hn⟩
  cases n with
  |zero=>simp[oo]at hn
  |succ n=>
   simp only[oo]at hn
   split at hn
   ·cases hn
   ·exact tO.2 ⟨n,hn⟩
   ·exact hn
 ·intro h
  split at h
  ·cases h
  ·rename_i x' hb
   obtain⟨n,hn⟩:=tO.1 h
   exact⟨n+1,by simp only[oo,hb];exact hn⟩
  ·rename_i o' hb
   exact⟨1,by simp only[oo,hb];exact h⟩
theorem VS {B:X→Option (X ⊕ O)}{x x':X}{o:O}(h:ag B x=some o)(hb:B x=some (.inl x')):cg B x'<cg B x:=by
 obtain⟨n,hn⟩:=tO.1 h
 have h1:∃n,C6 B x n∧∀k,C6 B x k→n≤k:=Ye (p:=C6 B x) ⟨o,hn⟩
 have e1:cg B x=h1.choose:=by unfold cg;rw[dif_pos h1]
 obtain⟨h2,h3⟩:=h1.choose_spec
 rw[←e1]at h2 h3
 obtain⟨o2,h2⟩:=h2
 cases hr:cg B x with
 |zero=>rw[hr]at h2;simp[oo]at h2
 |succ k=>
  rw[hr]at h2
  simp only[oo,hb]at h2
  have h4:∃n,C6 B x' n∧∀k,C6 B x' k→n≤k:=Ye (p:=C6 B x') ⟨o2,h2⟩
  have e2:cg B x'=h4.choose:=by unfold cg;rw[dif_pos h4]
  have h5:=h4.choose_spec.2 k ⟨o2,h2⟩
  rw[←e2]at h5
  omega
end
theorem PR {Γ:cf}{E:bB}{σ:FuncId→Option Spec}{Λ:Nat→Option ay}{n:Nat}{c:Code}{ss:List Nat}{t:Ty}{brk:Nat}{bs:List Nat}{bt:Ty}{rs:List Nat}{rt:Ty}
  {B:t.T→Option (t.T ⊕ (bt.T ⊕ rt.T))} (hB:∀x,eY Γ E σ Λ n c (eX n ss t x) (z6 σ n ss t brk bs bt rs rt)=B x):
  PN Γ E σ Λ n ⟨ss,t,brk,bs,bt,rs,rt,ag B⟩ c:=by
 refine⟨cg B,fun x out hx=> ?_⟩
 have hx:ag B x=some out:=hx
 have hx0:=hx
 rw[am]at hx
 cases hb:B x with
 |none=>rw[hb]at hx;cases hx
 |some st=>
  refine⟨st,(hB x).trans hb, ?_⟩
  rw[hb]at hx
  cases st with
  |inl x'=>exact⟨hx,VS hx0 hb⟩
  |inr o=>exact Option.some.inj hx
end Go.Proofs.YtkgcbbkodalfmaaGreatDoor
