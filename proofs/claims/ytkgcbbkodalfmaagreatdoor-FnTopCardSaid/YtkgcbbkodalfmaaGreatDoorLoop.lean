import Derived.Test.YtkgcbbkodalfmaaGreatDoorTab
namespace Go.Proofs.YtkgcbbkodalfmaaGreatDoor
open Go.RowKit
set_option linter.unusedVariables false
set_option linter.unusedSimpArgs false
section
variable {X O:Type}
def pk(B:X→Option (X ⊕ O)):Nat→X→Option O
 |0,_=>none
 |n+1,x=>match B x with
  |none=>none
  |some (.inl x')=>pk B n x'
  |some (.inr o)=>some o
theorem Fa {B:X→Option (X ⊕ O)}:∀ {n:Nat} {x:X} {o:O},pk B n x=some o→∀ {m:Nat},n≤m→pk B m x=some o
 |0,_,_,h,_,_=>by simp[pk]at h
 |n+1,x,o,h,m+1,hm=>by
  simp only[pk]at h ⊢
  cases hb:B x with
  |none=>rw[hb]at h;cases h
  |some st=>
   rw[hb]at h
   cases st with
   |inl x'=>exact Fa h (by omega)
   |inr o'=>exact h
 |n+1,_,_,_,0,hm=>by omega
theorem Z9 {p:Nat→Prop}:∀ {n:Nat},p n→∃m,p m∧∀k,p k→m≤k:=by
 intro n
 induction n using Nat.strongRecOn with
 |ind n ih=>
  intro h
  by_cases hk:∃k,k<n∧p k
  ·obtain⟨k,hk,hp⟩:=hk;exact ih k hk hp
  ·exact⟨n,h,fun k hp=>Nat.le_of_not_lt fun hlt=>hk ⟨k,hlt,hp⟩⟩
def Fb(B:X→Option (X ⊕ O))(x:X)(n:Nat):Prop:=∃o,pk B n x=some o
open Classical in
noncomputable def ac(B:X→Option (X ⊕ O))(x:X):Option O:=if h:∃n o,pk B n x=some o then some h.choose_spec.choose else none
open Classical in
noncomputable def tC(B:X→Option (X ⊕ O))(x:X):Nat:=if h:∃n,Fb B x n∧∀k,Fb B x k→n≤k then h.choose else 0
theorem wd {B:X→Option (X ⊕ O)}{x:X}{o:O}:ac B x=some o↔∃n,pk B n x=some o:=by
 unfold ac
 constructor
 ·intro h
  split at h
  ·rename_i hh
   exact⟨hh.choose,by rw[←Option.some.inj h];exact hh.choose_spec.choose_spec⟩
  ·cases h
 ·rintro ⟨n,hn⟩
  have hh:∃n o,pk B n x=some o:=⟨n,o,hn⟩
  rw[dif_pos hh]
  have h2:=hh.choose_spec.choose_spec
  have h3:=Fa h2 (Nat.le_max_left hh.choose n)
  have h4:=Fa hn (Nat.le_max_right hh.choose n)
  rw[←h3,h4]
theorem ag(B:X→Option (X ⊕ O))(x:X):ac B x=match B x with
  |none=>none
  |some (.inl x')=>ac B x'
  |some (.inr o)=>some o:=by
 apply Option.ext
 intro o
 rw[wd]
 constructor
 ·rintro ⟨n,hn⟩
  cases n with
  |zero=>simp[pk]at hn
  |succ n=>
   simp only[pk]at hn
   split at hn
   ·cases hn
   ·exact wd.2 ⟨n,hn⟩
   ·exact hn
 ·intro h
  split at h
  ·cases h
  ·rename_i x' hb
   obtain⟨n,hn⟩:=wd.1 h
   exact⟨n+1,by simp only[pk,hb];exact hn⟩
  ·rename_i o' hb
   exact⟨1,by simp only[pk,hb];exact h⟩
theorem Xr {B:X→Option (X ⊕ O)}{x x':X}{o:O}(h:ac B x=some o)(hb:B x=some (.inl x')):tC B x'<tC B x:=by
 obtain⟨n,hn⟩:=wd.1 h
 have h1:∃n,Fb B x n∧∀k,Fb B x k→n≤k:=Z9 (p:=Fb B x) ⟨o,hn⟩
 have e1:tC B x=h1.choose:=by unfold tC;rw[dif_pos h1]
 obtain⟨h2,h3⟩:=h1.choose_spec
 rw[←e1]at h2 h3
 obtain⟨o2,h2⟩:=h2
 cases hr:tC B x with
 |zero=>rw[hr]at h2;simp[pk]at h2
 |succ k=>
  rw[hr]at h2
  simp only[pk,hb]at h2
  have h4:∃n,Fb B x' n∧∀k,Fb B x' k→n≤k:=Z9 (p:=Fb B x') ⟨o2,h2⟩
  have e2:tC B x'=h4.choose:=by unfold tC;rw[dif_pos h4]
  have h5:=h4.choose_spec.2 k ⟨o2,h2⟩
  rw[←e2]at h5
  omega
end
theorem Rj {Γ:cp}{E:bG}{σ:FuncId→Option ae}{Λ:Nat→Option aw}{n:Nat}{c:Code}{ss:List Nat}{t:Ty}{brk:Nat}{bs:List Nat}{bt:Ty}{rs:List Nat}{rt:Ty}
  {B:t.T→Option (t.T ⊕ (bt.T ⊕ rt.T))} (hB:∀x,fA Γ E σ Λ n c (fz n ss t x) (Cd σ n ss t brk bs bt rs rt)=B x):
  Rf Γ E σ Λ n ⟨ss,t,brk,bs,bt,rs,rt,ac B⟩ c:=by
 refine⟨tC B,fun x out hx=> ?_⟩
 have hx:ac B x=some out:=hx
 have hx0:=hx
 rw[ag]at hx
 cases hb:B x with
 |none=>rw[hb]at hx;cases hx
 |some st=>
  refine⟨st,(hB x).trans hb, ?_⟩
  rw[hb]at hx
  cases st with
  |inl x'=>exact⟨hx,Xr hx0 hb⟩
  |inr o=>exact Option.some.inj hx
end Go.Proofs.YtkgcbbkodalfmaaGreatDoor
