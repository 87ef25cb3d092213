import Derived.Test.YtnambbcafhnhpaaGreatDoorList
import Derived.Test.YtnambbcafhnhpaaGreatDoorLift
namespace Go.Proofs.YtnambbcafhnhpaaGreatDoor
open Go.RowKit
set_option linter.unusedVariables false
set_option linter.unusedSimpArgs false
theorem a7 {i n:Nat}(h:i<n)(hn:n≤1099511627776):IntKind.i64.wrap ((i:Int)+1)=((i+1:Nat):Int):=by
 rw[wrap_i64]<;>omega
theorem bH {i n:Nat}(h:i<n):decide ((i:Int)<(n:Int))=true:=by
 simp;omega
theorem bQ(n:Nat):decide ((n:Int)<(n:Int))=false:=by simp
theorem EY {α:Type}(q:α→Bool):∀l:List α,l.all q= !l.any (fun m=> !q m)
 | []=>rfl
 |v::r=>by simp[EY q r]
def cn {α:Type}(q:α→Bool):Nat→List α→Option Nat
 |_,[]=>none
 |i,v::r=>if q v then some i else cn q (i+1) r
theorem kE {α:Type}(q:α→Bool):∀(i:Nat) (l:List α),(cn q i l).isSome=l.any q
 |_,[]=>rfl
 |i,v::r=>by
  unfold cn
  cases h:q v with
  |true=>simp[h]
  |false=>simp[h,kE q (i+1) r]
theorem S7 {α:Type}(q:α→Bool):∀(i j:Nat) (l:List α),cn q i l=some j→i≤j
 |_,_,[],h=>by cases h
 |i,j,v::r,h=>by
  unfold cn at h
  split at h
  ·cases h;omega
  ·have:=S7 q (i+1) j r h;omega
theorem yB {S O α:Type}{f:Nat→α→S→Option (S ⊕ O)}{fin:S→O}{q:α→Bool}{o:Nat→O}(h:∀i v s,f i v s=if q v then some (.inr (o i))else some (.inl s)):∀(i:Nat) (l:List α) (s:S),Fx f fin i l s=some (match cn q i l with|none=>fin s|some j=>o j)
 |_,[],_=>rfl
 |i,v::r,s=>by
  unfold Fx
  rw[h]
  cases hp:q v with
  |true=>simp[cn,hp]
  |false=>
   simp only[Bool.false_eq_true,if_false]
   rw[yB h (i+1) r s]
   simp[cn,hp]
section
variable {T O O':Type}
theorem l6 {X:Type}{B:X→Option (X ⊕ O)}(l:List T)(e:Nat→X)(p:T→Bool)(fin o:O)(hend:B (e l.length)=some (.inr fin))
  (hstep:∀i (h:i<l.length),B (e i)=if p l[i]then some (.inl (e (i+1)))else some (.inr o)):ak B (e 0)=some (if l.all p then fin else o):=by
 have h:=sJ (B:=B) l (fun(_:Unit) i=>e i) (fun _ v s=>if p v then some (.inl s)else some (.inr o)) (fun _=>fin) (fun _=>hend) (fun s i h=>by
  rw[hstep i h];cases p l[i]<;>simp) l.length 0 () (by omega)
 rw[h,List.drop_zero,Ve (p:=p) (fun _ _ _=>rfl)]
theorem sq {X:Type}{B:X→Option (X ⊕ O)}(l:List T)(e:Nat→X)(q:T→Bool)(fin:O)(o:Nat→O)(hend:B (e l.length)=some (.inr fin))
  (hstep:∀i (h:i<l.length),B (e i)=if q l[i]then some (.inr (o i))else some (.inl (e (i+1)))):ak B (e 0)=some (match cn q 0 l with|none=>fin|some j=>o j):=by
 have h:=sJ (B:=B) l (fun(_:Unit) i=>e i) (fun i v s=>if q v then some (.inr (o i))else some (.inl s)) (fun _=>fin) (fun _=>hend) (fun s i h=>by
  rw[hstep i h];cases q l[i]<;>simp) l.length 0 () (by omega)
 rw[h,List.drop_zero,yB (q:=q) (o:=o) (fun _ _ _=>rfl)]
theorem YN {S X:Type}{B:X→Option (X ⊕ O)}(l:List T)(e:S→Nat→X)(g:S→T→S)(fin:S→O)(hend:∀s,B (e s l.length)=some (.inr (fin s)))
  (hstep:∀s i (h:i<l.length),B (e s i)=some (.inl (e (g s l[i]) (i+1)))) (s:S):ak B (e s 0)=some (fin (l.foldl g s)):=by
 have h:=sJ (B:=B) l e (fun _ v s=>some (.inl (g s v))) fin hend (fun s i h=>by rw[hstep s i h]) l.length 0 s (by omega)
 rw[h,List.drop_zero,Oy (g:=g) (fun _ _ _=>rfl)]
end
theorem qs(a:Int):(a != a)=false:=by simp
theorem Qi(a:Bool):(a != a)=false:=by simp
end Go.Proofs.YtnambbcafhnhpaaGreatDoor
