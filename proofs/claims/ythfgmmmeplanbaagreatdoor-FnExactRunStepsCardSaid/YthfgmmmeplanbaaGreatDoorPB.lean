import Derived.Test.YthfgmmmeplanbaaGreatDoorList
import Derived.Test.YthfgmmmeplanbaaGreatDoorLift
namespace Go.Proofs.YthfgmmmeplanbaaGreatDoor
open Go.RowKit
set_option linter.unusedVariables false
set_option linter.unusedSimpArgs false
theorem av {i n:Nat}(h:i<n)(hn:n≤1099511627776):IntKind.i64.wrap ((i:Int)+1)=((i+1:Nat):Int):=by
 rw[wrap_i64]<;>omega
theorem aK {i n:Nat}(h:i<n):decide ((i:Int)<(n:Int))=true:=by
 simp;omega
theorem aJ(n:Nat):decide ((n:Int)<(n:Int))=false:=by simp
theorem fx {q:Int}(h0:0≤q)(h1:q≤4611686018427387904):IntKind.i64.wrap (q+1)=q+1:=by
 rw[wrap_i64]<;>omega
theorem Vb {α β γ:Type}(f:α→γ→α)(g:β→γ→β):∀(l:List γ) (a:α) (b:β),l.foldl (fun s v=>(f s.1 v,g s.2 v)) (a,b)=(l.foldl f a,l.foldl g b)
 | [],_,_=>rfl
 |v::r,a,b=>by simp only[List.foldl_cons];exact Vb f g r (f a v) (g b v)
theorem yX {α:Type}(q:α→Bool):∀l:List α,l.all q= !l.any (fun m=> !q m)
 | []=>rfl
 |v::r=>by simp[yX q r]
def bB {α:Type}(q:α→Bool):Nat→List α→Option Nat
 |_,[]=>none
 |i,v::r=>if q v then some i else bB q (i+1) r
theorem gm {α:Type}(q:α→Bool):∀(i:Nat) (l:List α),(bB q i l).isSome=l.any q
 |_,[]=>rfl
 |i,v::r=>by
  unfold bB
  cases h:q v with
  |true=>simp[h]
  |false=>simp[h,gm q (i+1) r]
theorem NJ {α:Type}(q:α→Bool):∀(i j:Nat) (l:List α),bB q i l=some j→i≤j
 |_,_,[],h=>by cases h
 |i,j,v::r,h=>by
  unfold bB at h
  split at h
  ·cases h;omega
  ·have:=NJ q (i+1) j r h;omega
theorem tf {S O α:Type}{f:Nat→α→S→Option (S ⊕ O)}{fin:S→O}{q:α→Bool}{o:Nat→O}(h:∀i v s,f i v s=if q v then some (.inr (o i))else some (.inl s)):∀(i:Nat) (l:List α) (s:S),oJ f fin i l s=some (match bB q i l with|none=>fin s|some j=>o j)
 |_,[],_=>rfl
 |i,v::r,s=>by
  unfold oJ
  rw[h]
  cases hp:q v with
  |true=>simp[bB,hp]
  |false=>
   simp only[Bool.false_eq_true,if_false]
   rw[tf h (i+1) r s]
   simp[bB,hp]
section
variable {T O O':Type}
theorem gY {X:Type}{B:X→Option (X ⊕ O)}(l:List T)(e:Nat→X)(p:T→Bool)(fin o:O)(hend:B (e l.length)=some (.inr fin))
  (hstep:∀i (h:i<l.length),B (e i)=if p l[i]then some (.inl (e (i+1)))else some (.inr o)):ac B (e 0)=some (if l.all p then fin else o):=by
 have h:=n7 (B:=B) l (fun(_:Unit) i=>e i) (fun _ v s=>if p v then some (.inl s)else some (.inr o)) (fun _=>fin) (fun _=>hend) (fun s i h=>by
  rw[hstep i h];cases p l[i]<;>simp) l.length 0 () (by omega)
 rw[h,List.drop_zero,PW (p:=p) (fun _ _ _=>rfl)]
theorem lY {X:Type}{B:X→Option (X ⊕ O)}(l:List T)(e:Nat→X)(q:T→Bool)(fin:O)(o:Nat→O)(hend:B (e l.length)=some (.inr fin))
  (hstep:∀i (h:i<l.length),B (e i)=if q l[i]then some (.inr (o i))else some (.inl (e (i+1)))):ac B (e 0)=some (match bB q 0 l with|none=>fin|some j=>o j):=by
 have h:=n7 (B:=B) l (fun(_:Unit) i=>e i) (fun i v s=>if q v then some (.inr (o i))else some (.inl s)) (fun _=>fin) (fun _=>hend) (fun s i h=>by
  rw[hstep i h];cases q l[i]<;>simp) l.length 0 () (by omega)
 rw[h,List.drop_zero,tf (q:=q) (o:=o) (fun _ _ _=>rfl)]
theorem YA {S X:Type}{B:X→Option (X ⊕ O)}(l:List T)(e:S→Nat→X)(g:S→T→S)(fin:S→O)(hend:∀s,B (e s l.length)=some (.inr (fin s)))
  (hstep:∀s i (h:i<l.length),B (e s i)=some (.inl (e (g s l[i]) (i+1)))) (s:S):ac B (e s 0)=some (fin (l.foldl g s)):=by
 have h:=n7 (B:=B) l e (fun _ v s=>some (.inl (g s v))) fin hend (fun s i h=>by rw[hstep s i h]) l.length 0 s (by omega)
 rw[h,List.drop_zero,Jd (g:=g) (fun _ _ _=>rfl)]
theorem YB {B:List T×List T×Int×Unit→Option ((List T×List T×Int×Unit) ⊕ ((List T×Unit) ⊕ O))}{z:T}(l:List T)(hend:∀s,B (l,s,(l.length:Int),())=some (.inr (.inl (s,()))))
  (hstep:∀(s:List T) i (h:i<l.length) (h':i<s.length),B (l,s,(i:Int),())=some (.inl (l,s.set i l[i],((i+1:Nat):Int),()))):ac B (l,List.replicate l.length z,(0:Int),())=some (.inl (l,())):=by
 have key:∀(r done rest:List T),done++r=l→rest.length=r.length→ac B (l,done++rest,(done.length:Int),())=some (.inl (l,())):=by
  intro r
  induction r with
  |nil=>
   intro done rest h1 h2
   have:rest= []:=List.length_eq_zero_iff.1 h2
   subst this
   rw[List.append_nil]at h1 ⊢
   subst h1
   rw[an,hend]
  |cons v r ih=>
   intro done rest h1 h2
   cases rest with
   |nil=>simp at h2
   |cons x rest=>
    have hi:done.length<l.length:=by rw[←h1];simp
    have hv:l[done.length]=v:=by simp[←h1]
    rw[an,hstep _ _ hi (by simp)]
    simp only
    have e1:(done++x::rest).set done.length l[done.length]=(done++ [v])++rest:=by rw[hv];simp
    rw[e1]
    have:=ih (done++ [v]) rest (by simpa using h1) (by simpa using h2)
    simpa using this
 have:=key l [] (List.replicate l.length z) rfl (by simp)
 simpa using this
theorem Et {g:List T×Unit→Option (List T×Unit)}{B:List T×List T×Int×Unit→Option ((List T×List T×Int×Unit) ⊕ ((List T×Unit) ⊕ O))}{z:T}
  (hg:∀l,g (l,())=if 0≤(l.length:Int)∧(l.length:Int)≤(l.length:Int)then aM (l.length:Int).toNat (match ac B (l,List.replicate (l.length:Int).toNat z,(0:Int),())with|none=>none|some (.inl v)=>some (v.1,())|some (.inr _)=>none)else none)
  (l:List T) (hl:l.length≤1099511627776)
  (hend:∀s,B (l,s,(l.length:Int),())=some (.inr (.inl (s,()))))
  (hstep:∀(s:List T) i (h:i<l.length) (h':i<s.length),B (l,s,(i:Int),())=some (.inl (l,s.set i l[i],((i+1:Nat):Int),()))):g (l,())=some (l,()):=by
 rw[hg,if_pos (by omega),Int.toNat_natCast,YB l hend hstep]
 unfold aM
 rw[if_pos hl]
theorem yY {g:List T×List T×Unit→Option (Bool×Unit)}{B:List T×List T×Int×Unit→Option ((List T×List T×Int×Unit) ⊕ (Unit ⊕ (Bool×Unit)))}
  (hg:∀l,g (l,l,())=match((l.length:Int) != (l.length:Int))with
    |true=>some (false,())
    |false=>match ac B (l,l,(0:Int),())with
     |none=>none
     |some (.inl _)=>some (true,())
     |some (.inr v)=>some (v.1,()))
  (l:List T) (hend:B (l,l,(l.length:Int),())=some (.inr (.inl ())))
  (hstep:∀i (h:i<l.length),B (l,l,(i:Int),())=some (.inl (l,l,((i+1:Nat):Int),()))):g (l,l,())=some (true,()):=by
 have e:=gY (B:=B) l (fun i=>(l,l,(i:Int),())) (fun _=>true) (.inl ()) (.inl ()) hend (fun i h=>by rw[hstep i h];simp)
 have e':ac B (l,l,(0:Int),())=some (.inl ()):=by
  have:=e
  simp at this
  exact this
 rw[hg,e']
 simp
theorem Vc {g:List T×Int×Unit→Option (Int×Unit)}(hg:∀l n,g (l,n,())=match(decide ((IntKind.i64.wrap (n-(l.length:Int)))<(0:Int)))with
   |true=>some ((-1:Int),())
   |false=>some ((IntKind.i64.wrap (n-(l.length:Int))),())) (l:List T) (n:Int) (h0:0≤n) (h1:n≤1048576) (h:l.length≤maxLen):
  g (l,n,())=some ((if n-(l.length:Int)<0 then(-1:Int)else n-(l.length:Int)),()):=by
 have h':l.length≤9223372036854775807:=h
 have hw:IntKind.i64.wrap (n-(l.length:Int))=n-l.length:=by rw[wrap_i64]<;>omega
 rw[hg,hw]
 by_cases hc:n-(l.length:Int)<0<;>simp[hc]
def cg(f:T→Int→T×Int):List T→Int→List T×Int
 | [],q=>([],q)
 |v::r,q=>((f v q).1::(cg f r (f v q).2).1,(cg f r (f v q).2).2)
theorem lZ(f:T→Int→T×Int):∀(l:List T) (q:Int),(cg f l q).1.length=l.length
 | [],_=>rfl
 |v::r,q=>by simp[cg,lZ f r]
theorem tg {f:T→Int→T×Int}{k:Nat}(hk:k≤64)(h:∀v q,0≤q→q≤2305843009213693952→(f v q).2=q+k):∀(l:List T) (q:Int),0≤q→q+(l.length:Int)*k≤2305843009213693952→(cg f l q).2=q+(l.length:Int)*k
 | [],q,_,_=>by simp[cg]
 |v::r,q,h0,h1=>by
  have hr:((v::r).length:Int)*k=(r.length:Int)*k+k:=by simp[Int.add_mul]
  have hp:(0:Int)≤(r.length:Int)*k:=Int.mul_nonneg (by omega) (by omega)
  rw[hr]at h1 ⊢
  simp only[cg]
  rw[h v q h0 (by omega),tg hk h r (q+k) (by omega) (by omega)]
  omega
theorem MP {f:T→Int→T×Int}{g:List T×Int×Unit→Option (Int×List T×Unit)}{B:List T×Int×Int×Unit→Option ((List T×Int×Int×Unit) ⊕ ((List T×Int×Unit) ⊕ O))}
  (hg:∀l q,g (l,q,())=match ac B (l,q,(0:Int),())with
    |none=>none
    |some (.inl v)=>some (v.2.1,v.1,())
    |some (.inr _)=>none)
  (l:List T) (q:Int) (hend:∀(s:List T) q,s.length=l.length→B (s,q,(l.length:Int),())=some (.inr (.inl (s,q,()))))
  (hstep:∀(s:List T) q i (h:i<l.length) (h':i<s.length),s.length=l.length→s[i]=l[i]→B (s,q,(i:Int),())=some (.inl (s.set i (f l[i] q).1,(f l[i] q).2,((i+1:Nat):Int),()))):
  g (l,q,())=some ((cg f l q).2,(cg f l q).1,()):=by
 have key:∀(r done done':List T) q,done++r=l→done'.length=done.length→ac B (done'++r,q,(done.length:Int),())=some (.inl (done'++(cg f r q).1,(cg f r q).2,())):=by
  intro r
  induction r with
  |nil=>
   intro done done' q h1 h2
   rw[List.append_nil]at h1
   subst h1
   have:=hend (done'++ []) q (by simpa using h2)
   rw[an,this]
   rfl
  |cons v r ih=>
   intro done done' q h1 h2
   have hi:done.length<l.length:=by rw[←h1];simp
   have hv:l[done.length]=v:=by simp[←h1]
   rw[an,hstep (done'++v::r) q done.length hi (by simp;omega) (by rw[←h1];simp[h2]) (by rw[hv];simp[←h2])]
   simp only
   have e1:(done'++v::r).set done.length (f l[done.length] q).1=(done'++ [(f v q).1])++r:=by rw[hv,←h2];simp
   rw[e1,hv]
   have:=ih (done++ [v]) (done'++ [(f v q).1]) (f v q).2 (by simpa using h1) (by simpa using h2)
   simp only[cg]
   simpa using this
 have:=key l [] [] q rfl rfl
 rw[hg]
 simp at this
 rw[this]
theorem YC {f:T→Int→T×Int}{g:List T×Int×Unit→Option (Int×Unit)}{B:List T×Int×Int×Unit→Option ((List T×Int×Int×Unit) ⊕ ((Int×Unit) ⊕ (Int×Unit)))}
  (hg:∀l q,g (l,q,())=match ac B (l,q,(0:Int),())with
    |none=>none
    |some (.inl v)=>some (v.1,())
    |some (.inr v)=>some (v.1,()))
  (l m:List T) (q:Int) (hm:m=(cg f l q).1) (hend:∀q,B (m,q,(m.length:Int),())=some (.inr (.inl (q,()))))
  (hstep:∀q v i (h:i<m.length),m[i]=(f v q).1→v ∈ l→B (m,q,(i:Int),())=some (.inl (m,(f v q).2,((i+1:Nat):Int),()))):
  g (m,q,())=some ((cg f l q).2,()):=by
 have key:∀(r:List T) (done':List T) q,(∀v ∈ r,v ∈ l)→done'++(cg f r q).1=m→ac B (m,q,(done'.length:Int),())=some (.inl ((cg f r q).2,())):=by
  intro r
  induction r with
  |nil=>
   intro done' q h1 h2
   simp only[cg,List.append_nil]at h2
   subst h2
   rw[an,hend]
   rfl
  |cons v r ih=>
   intro done' q h1 h2
   simp only[cg]at h2
   have hi:done'.length<m.length:=by rw[←h2];simp
   rw[an,hstep q v done'.length hi (by simp[←h2]) (h1 v (by simp))]
   simp only
   have:=ih (done'++ [(f v q).1]) (f v q).2 (fun u hu=>h1 u (by simp[hu])) (by simpa using h2)
   simp only[cg]
   simpa using this
 have:=key l [] q (fun v h=>h) (by simpa using hm.symm)
 rw[hg]
 simp at this
 rw[this]
end
theorem jf(a:Int):(a != a)=false:=by simp
theorem Vd(a:Bool):(a != a)=false:=by simp
end Go.Proofs.YthfgmmmeplanbaaGreatDoor
