import Derived.Test.YtckljdhdadiphaaGreatDoorTab
namespace Go.Proofs.YtckljdhdadiphaaGreatDoor
open Go.RowKit
set_option linter.unusedVariables false
set_option linter.unusedSimpArgs false
section
variable {X O:Type}
def oK(B:X→Option (X ⊕ O)):Nat→X→Option O
 |0,_=>none
 |n+1,x=>match B x with
  |none=>none
  |some (.inl x')=>oK B n x'
  |some (.inr o)=>some o
theorem Er {B:X→Option (X ⊕ O)}:∀ {n:Nat} {x:X} {o:O},oK B n x=some o→∀ {m:Nat},n≤m→oK B m x=some o
 |0,_,_,h,_,_=>by simp[oK]at h
 |n+1,x,o,h,m+1,hm=>by
  simp only[oK]at h ⊢
  cases hb:B x with
  |none=>rw[hb]at h;cases h
  |some st=>
   rw[hb]at h
   cases st with
   |inl x'=>exact Er h (by omega)
   |inr o'=>exact h
 |n+1,_,_,_,0,hm=>by omega
theorem Yh {p:Nat→Prop}:∀ {n:Nat},p n→∃m,p m∧∀k,p k→m≤k:=by
 intro n
 induction n using Nat.strongRecOn with
 |ind n ih=>
  intro h
  by_cases hk:∃k,k<n∧p k
  ·obtain⟨k,hk,hp⟩:=hk;exact ih k hk hp
  ·exact⟨n,h,fun k hp=>Nat.le_of_not_lt fun hlt=>hk ⟨k,hlt,hp⟩⟩
def Es(B:X→Option (X ⊕ O))(x:X)(n:Nat):Prop:=∃o,oK B n x=some o
open Classical in
noncomputable def ac(B:X→Option (X ⊕ O))(x:X):Option O:=if h:∃n o,oK B n x=some o then some h.choose_spec.choose else none
open Classical in
noncomputable def sy(B:X→Option (X ⊕ O))(x:X):Nat:=if h:∃n,Es B x n∧∀k,Es B x k→n≤k then h.choose else 0
theorem vp {B:X→Option (X ⊕ O)}{x:X}{o:O}:ac B x=some o↔∃n,oK B n x=some o:=by
 unfold ac
 constructor
 ·intro h
  split at h
  ·rename_i hh
   exact⟨hh.choose,by rw[←Option.some.inj h];exact hh.choose_spec.choose_spec⟩
  ·cases h
 ·rintro ⟨n,hn⟩
  have hh:∃n o,oK B n x=some o:=⟨n,o,hn⟩
  rw[dif_pos hh]
  have h2:=hh.choose_spec.choose_spec
  have h3:=Er h2 (Nat.le_max_left hh.choose n)
  have h4:=Er hn (Nat.le_max_right hh.choose n)
  rw[←h3,h4]
theorem aj(B:X→Option (X ⊕ O))(x:X):ac B x=match B x with
  |none=>none
  |some (.inl x')=>ac B x'
  |some (.inr o)=>some o:=by
 apply Option.ext
 intro o
 rw[vp]
 constructor
 ·rintro ⟨n,hn⟩
  cases n with
  |zero=>simp[oK]at hn
  |succ n=>
   simp only[oK]at hn
   split at hn
   ·cases hn
   ·exact vp.2 ⟨n,hn⟩
   ·exact hn
 ·intro h
  split at h
  ·cases h
  ·rename_i x' hb
   obtain⟨n,hn⟩:=vp.1 h
   exact⟨n+1,by simp only[oK,hb];exact hn⟩
  ·rename_i o' hb
   exact⟨1,by simp only[oK,hb];exact h⟩
theorem VP {B:X→Option (X ⊕ O)}{x x':X}{o:O}(h:ac B x=some o)(hb:B x=some (.inl x')):sy B x'<sy B x:=by
 obtain⟨n,hn⟩:=vp.1 h
 have h1:∃n,Es B x n∧∀k,Es B x k→n≤k:=Yh (p:=Es B x) ⟨o,hn⟩
 have e1:sy B x=h1.choose:=by unfold sy;rw[dif_pos h1]
 obtain⟨h2,h3⟩:=h1.choose_spec
 rw[←e1]at h2 h3
 obtain⟨o2,h2⟩:=h2
 cases hr:sy B x with
 |zero=>rw[hr]at h2;simp[oK]at h2
 |succ k=>
  rw[hr]at h2
  simp only[oK,hb]at h2
  have h4:∃n,Es B x' n∧∀k,Es B x' k→n≤k:=Yh (p:=Es B x') ⟨o2,h2⟩
  have e2:sy B x'=h4.choose:=by unfold sy;rw[dif_pos h4]
  have h5:=h4.choose_spec.2 k ⟨o2,h2⟩
  rw[←e2]at h5
  omega
end
theorem Qk {Γ:ce}{E:bP}{σ:FuncId→Option ae}{Λ:Nat→Option aD}{n:Nat}{c:Code}{ss:List Nat}{t:Ty}{brk:Nat}{bs:List Nat}{bt:Ty}{rs:List Nat}{rt:Ty}
  {B:t.T→Option (t.T ⊕ (bt.T ⊕ rt.T))} (hB:∀x,fi Γ E σ Λ n c (fg n ss t x) (Bp σ n ss t brk bs bt rs rt)=B x):
  Qg Γ E σ Λ n ⟨ss,t,brk,bs,bt,rs,rt,ac B⟩ c:=by
 refine⟨sy B,fun x out hx=> ?_⟩
 have hx:ac B x=some out:=hx
 have hx0:=hx
 rw[aj]at hx
 cases hb:B x with
 |none=>rw[hb]at hx;cases hx
 |some st=>
  refine⟨st,(hB x).trans hb, ?_⟩
  rw[hb]at hx
  cases st with
  |inl x'=>exact⟨hx,VP hx0 hb⟩
  |inr o=>exact Option.some.inj hx
end Go.Proofs.YtckljdhdadiphaaGreatDoor
