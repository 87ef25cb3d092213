import Derived.Test.YtckljdhdadiphaaGreatDoorList
import Derived.Test.YtckljdhdadiphaaGreatDoorLift
namespace Go.Proofs.YtckljdhdadiphaaGreatDoor
open Go.RowKit
set_option linter.unusedVariables false
set_option linter.unusedSimpArgs false
theorem aL {i n:Nat}(h:i<n)(hn:n≤1099511627776):IntKind.i64.wrap ((i:Int)+1)=((i+1:Nat):Int):=by
 rw[ai]<;>omega
theorem bj {i n:Nat}(h:i<n):decide ((i:Int)<(n:Int))=true:=by
 simp;omega
theorem bu(n:Nat):decide ((n:Int)<(n:Int))=false:=by simp
theorem GB {α:Type}(q:α→Bool):∀l:List α,l.all q= !l.any (fun m=> !q m)
 | []=>rfl
 |v::r=>by simp[GB q r]
def cj {α:Type}(q:α→Bool):Nat→List α→Option Nat
 |_,[]=>none
 |i,v::r=>if q v then some i else cj q (i+1) r
theorem lf {α:Type}(q:α→Bool):∀(i:Nat) (l:List α),(cj q i l).isSome=l.any q
 |_,[]=>rfl
 |i,v::r=>by
  unfold cj
  cases h:q v with
  |true=>simp[h]
  |false=>simp[h,lf q (i+1) r]
theorem Ot {α:Type}(q:α→Bool):∀(i j:Nat) (l:List α),cj q i l=some j→i≤j
 |_,_,[],h=>by cases h
 |i,j,v::r,h=>by
  unfold cj at h
  split at h
  ·cases h;omega
  ·have:=Ot q (i+1) j r h;omega
theorem vB {S O α:Type}{f:Nat→α→S→Option (S ⊕ O)}{fin:S→O}{q:α→Bool}{o:Nat→O}(h:∀i v s,f i v s=if q v then some (.inr (o i))else some (.inl s)):∀(i:Nat) (l:List α) (s:S),Bq f fin i l s=some (match cj q i l with|none=>fin s|some j=>o j)
 |_,[],_=>rfl
 |i,v::r,s=>by
  unfold Bq
  rw[h]
  cases hp:q v with
  |true=>simp[cj,hp]
  |false=>
   simp only[Bool.false_eq_true,if_false]
   rw[vB h (i+1) r s]
   simp[cj,hp]
section
variable {T O O':Type}
theorem ju {X:Type}{B:X→Option (X ⊕ O)}(l:List T)(e:Nat→X)(p:T→Bool)(fin o:O)(hend:B (e l.length)=some (.inr fin))
  (hstep:∀i (h:i<l.length),B (e i)=if p l[i]then some (.inl (e (i+1)))else some (.inr o)):ac B (e 0)=some (if l.all p then fin else o):=by
 have h:=pn (B:=B) l (fun(_:Unit) i=>e i) (fun _ v s=>if p v then some (.inl s)else some (.inr o)) (fun _=>fin) (fun _=>hend) (fun s i h=>by
  rw[hstep i h];cases p l[i]<;>simp) l.length 0 () (by omega)
 rw[h,List.drop_zero,Ql (p:=p) (fun _ _ _=>rfl)]
theorem xt {X:Type}{B:X→Option (X ⊕ O)}(l:List T)(e:Nat→X)(q:T→Bool)(fin:O)(o:Nat→O)(hend:B (e l.length)=some (.inr fin))
  (hstep:∀i (h:i<l.length),B (e i)=if q l[i]then some (.inr (o i))else some (.inl (e (i+1)))):ac B (e 0)=some (match cj q 0 l with|none=>fin|some j=>o j):=by
 have h:=pn (B:=B) l (fun(_:Unit) i=>e i) (fun i v s=>if q v then some (.inr (o i))else some (.inl s)) (fun _=>fin) (fun _=>hend) (fun s i h=>by
  rw[hstep i h];cases q l[i]<;>simp) l.length 0 () (by omega)
 rw[h,List.drop_zero,vB (q:=q) (o:=o) (fun _ _ _=>rfl)]
theorem YJ {S X:Type}{B:X→Option (X ⊕ O)}(l:List T)(e:S→Nat→X)(g:S→T→S)(fin:S→O)(hend:∀s,B (e s l.length)=some (.inr (fin s)))
  (hstep:∀s i (h:i<l.length),B (e s i)=some (.inl (e (g s l[i]) (i+1)))) (s:S):ac B (e s 0)=some (fin (l.foldl g s)):=by
 have h:=pn (B:=B) l e (fun _ v s=>some (.inl (g s v))) fin hend (fun s i h=>by rw[hstep s i h]) l.length 0 s (by omega)
 rw[h,List.drop_zero,Kh (g:=g) (fun _ _ _=>rfl)]
end
theorem gW(a:Int):(a != a)=false:=by simp
end Go.Proofs.YtckljdhdadiphaaGreatDoor
