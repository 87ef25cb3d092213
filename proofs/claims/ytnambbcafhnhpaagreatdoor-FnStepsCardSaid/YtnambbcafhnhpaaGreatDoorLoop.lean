import Derived.Test.YtnambbcafhnhpaaGreatDoorTab
namespace Go.Proofs.YtnambbcafhnhpaaGreatDoor
open Go.RowKit
set_option linter.unusedVariables false
set_option linter.unusedSimpArgs false
section
variable {X O:Type}
def rV(B:X→Option (X ⊕ O)):Nat→X→Option O
 |0,_=>none
 |n+1,x=>match B x with
  |none=>none
  |some (.inl x')=>rV B n x'
  |some (.inr o)=>some o
theorem IC {B:X→Option (X ⊕ O)}:∀ {n:Nat} {x:X} {o:O},rV B n x=some o→∀ {m:Nat},n≤m→rV B m x=some o
 |0,_,_,h,_,_=>by simp[rV]at h
 |n+1,x,o,h,m+1,hm=>by
  simp only[rV]at h ⊢
  cases hb:B x with
  |none=>rw[hb]at h;cases h
  |some st=>
   rw[hb]at h
   cases st with
   |inl x'=>exact IC h (by omega)
   |inr o'=>exact h
 |n+1,_,_,_,0,hm=>by omega
theorem aeh {p:Nat→Prop}:∀ {n:Nat},p n→∃m,p m∧∀k,p k→m≤k:=by
 intro n
 induction n using Nat.strongRecOn with
 |ind n ih=>
  intro h
  by_cases hk:∃k,k<n∧p k
  ·obtain⟨k,hk,hp⟩:=hk;exact ih k hk hp
  ·exact⟨n,h,fun k hp=>Nat.le_of_not_lt fun hlt=>hk ⟨k,hlt,hp⟩⟩
def IE(B:X→Option (X ⊕ O))(x:X)(n:Nat):Prop:=∃o,rV B n x=some o
open Classical in
noncomputable def ak(B:X→Option (X ⊕ O))(x:X):Option O:=if h:∃n o,rV B n x=some o then some h.choose_spec.choose else none
open Classical in
noncomputable def cJ(B:X→Option (X ⊕ O))(x:X):Nat:=if h:∃n,IE B x n∧∀k,IE B x k→n≤k then h.choose else 0
theorem yj {B:X→Option (X ⊕ O)}{x:X}{o:O}:ak B x=some o↔∃n,rV B n x=some o:=by
 unfold ak
 constructor
 ·intro h
  split at h
  ·rename_i hh
   exact⟨hh.choose,by rw[←Option.some.inj h];exact hh.choose_spec.choose_spec⟩
  ·cases h
 ·rintro ⟨n,hn⟩
  have hh:∃n o,rV B n x=some o:=⟨n,o,hn⟩
  rw[dif_pos hh]
  have h2:=hh.choose_spec.choose_spec
  have h3:=IC h2 (Nat.le_max_left hh.choose n)
  have h4:=IC hn (Nat.le_max_right hh.choose n)
  rw[←h3,h4]
theorem aw(B:X→Option (X ⊕ O))(x:X):ak B x=match B x with
  |none=>none
  |some (.inl x')=>ak B x'
  |some (.inr o)=>some o:=by
 apply Option.ext
 intro o
 rw[yj]
 constructor
 ·rintro ⟨n,hn⟩
  cases n with
  |zero=>simp[rV]at hn
  |succ n=>
   simp only[rV]at hn
   split at hn
   ·cases hn
   ·exact yj.2 ⟨n,hn⟩
   ·exact hn
 ·intro h
  split at h
  ·cases h
  ·rename_i x' hb
   obtain⟨n,hn⟩:=yj.1 h
   exact⟨n+1,by simp only[rV,hb];exact hn⟩
  ·rename_i o' hb
   exact⟨1,by simp only[rV,hb];exact h⟩
theorem abq {B:X→Option (X ⊕ O)}{x x':X}{o:O}(h:ak B x=some o)(hb:B x=some (.inl x')):cJ B x'<cJ B x:=by
 obtain⟨n,hn⟩:=yj.1 h
 have h1:∃n,IE B x n∧∀k,IE B x k→n≤k:=aeh (p:=IE B x) ⟨o,hn⟩
 have e1:cJ B x=h1.choose:=by unfold cJ;rw[dif_pos h1]
 obtain⟨h2,h3⟩:=h1.choose_spec
 rw[←e1]at h2 h3
 obtain⟨o2,h2⟩:=h2
 cases hr:cJ B x with
 |zero=>rw[hr]at h2;simp[rV]at h2
 |succ k=>
  rw[hr]at h2
  simp only[rV,hb]at h2
  have h4:∃n,IE B x' n∧∀k,IE B x' k→n≤k:=aeh (p:=IE B x') ⟨o2,h2⟩
  have e2:cJ B x'=h4.choose:=by unfold cJ;rw[dif_pos h4]
  have h5:=h4.choose_spec.2 k ⟨o2,h2⟩
  rw[←e2]at h5
  omega
end
theorem Vd {Γ:cD}{E:bR}{σ:FuncId→Option ai}{Λ:Nat→Option aM}{n:Nat}{c:Code}{ss:List Nat}{t:Ty}{brk:Nat}{bs:List Nat}{bt:Ty}{rs:List Nat}{rt:Ty}
  {B:t.T→Option (t.T ⊕ (bt.T ⊕ rt.T))} (hB:∀x,d6 Γ E σ Λ n c (eS n ss t x) (Fw σ n ss t brk bs bt rs rt)=B x):
  U9 Γ E σ Λ n ⟨ss,t,brk,bs,bt,rs,rt,ak B⟩ c:=by
 refine⟨cJ B,fun x out hx=> ?_⟩
 have hx:ak B x=some out:=hx
 have hx0:=hx
 rw[aw]at hx
 cases hb:B x with
 |none=>rw[hb]at hx;cases hx
 |some st=>
  refine⟨st,(hB x).trans hb, ?_⟩
  rw[hb]at hx
  cases st with
  |inl x'=>exact⟨hx,abq hx0 hb⟩
  |inr o=>exact Option.some.inj hx
end Go.Proofs.YtnambbcafhnhpaaGreatDoor
