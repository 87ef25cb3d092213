import Derived.Test.YtkgcbbkodalfmaaGreatDoorList
import Derived.Test.YtkgcbbkodalfmaaGreatDoorLift
namespace Go.Proofs.YtkgcbbkodalfmaaGreatDoor
open Go.RowKit
set_option linter.unusedVariables false
set_option linter.unusedSimpArgs false
theorem aG {i n:Nat}(h:i<n)(hn:n≤1099511627776):IntKind.i64.wrap ((i:Int)+1)=((i+1:Nat):Int):=by
 rw[wrap_i64]<;>omega
theorem a7 {i n:Nat}(h:i<n):decide ((i:Int)<(n:Int))=true:=by
 simp;omega
theorem be(n:Nat):decide ((n:Int)<(n:Int))=false:=by simp
theorem zj {α:Type}(q:α→Bool):∀l:List α,l.all q= !l.any (fun m=> !q m)
 | []=>rfl
 |v::r=>by simp[zj q r]
def bv {α:Type}(q:α→Bool):Nat→List α→Option Nat
 |_,[]=>none
 |i,v::r=>if q v then some i else bv q (i+1) r
theorem fm {α:Type}(q:α→Bool):∀(i:Nat) (l:List α),(bv q i l).isSome=l.any q
 |_,[]=>rfl
 |i,v::r=>by
  unfold bv
  cases h:q v with
  |true=>simp[h]
  |false=>simp[h,fm q (i+1) r]
theorem NC {α:Type}(q:α→Bool):∀(i j:Nat) (l:List α),bv q i l=some j→i≤j
 |_,_,[],h=>by cases h
 |i,j,v::r,h=>by
  unfold bv at h
  split at h
  ·cases h;omega
  ·have:=NC q (i+1) j r h;omega
theorem ua {S O α:Type}{f:Nat→α→S→Option (S ⊕ O)}{fin:S→O}{q:α→Bool}{o:Nat→O}(h:∀i v s,f i v s=if q v then some (.inr (o i))else some (.inl s)):∀(i:Nat) (l:List α) (s:S),z7 f fin i l s=some (match bv q i l with|none=>fin s|some j=>o j)
 |_,[],_=>rfl
 |i,v::r,s=>by
  unfold z7
  rw[h]
  cases hp:q v with
  |true=>simp[bv,hp]
  |false=>
   simp only[Bool.false_eq_true,if_false]
   rw[ua h (i+1) r s]
   simp[bv,hp]
section
variable {T O O':Type}
theorem i8 {X:Type}{B:X→Option (X ⊕ O)}(l:List T)(e:Nat→X)(p:T→Bool)(fin o:O)(hend:B (e l.length)=some (.inr fin))
  (hstep:∀i (h:i<l.length),B (e i)=if p l[i]then some (.inl (e (i+1)))else some (.inr o)):ag B (e 0)=some (if l.all p then fin else o):=by
 have h:=oS (B:=B) l (fun(_:Unit) i=>e i) (fun _ v s=>if p v then some (.inl s)else some (.inr o)) (fun _=>fin) (fun _=>hend) (fun s i h=>by
  rw[hstep i h];cases p l[i]<;>simp) l.length 0 () (by omega)
 rw[h,List.drop_zero,PS (p:=p) (fun _ _ _=>rfl)]
theorem kR {X:Type}{B:X→Option (X ⊕ O)}(l:List T)(e:Nat→X)(q:T→Bool)(fin:O)(o:Nat→O)(hend:B (e l.length)=some (.inr fin))
  (hstep:∀i (h:i<l.length),B (e i)=if q l[i]then some (.inr (o i))else some (.inl (e (i+1)))):ag B (e 0)=some (match bv q 0 l with|none=>fin|some j=>o j):=by
 have h:=oS (B:=B) l (fun(_:Unit) i=>e i) (fun i v s=>if q v then some (.inr (o i))else some (.inl s)) (fun _=>fin) (fun _=>hend) (fun s i h=>by
  rw[hstep i h];cases q l[i]<;>simp) l.length 0 () (by omega)
 rw[h,List.drop_zero,ua (q:=q) (o:=o) (fun _ _ _=>rfl)]
theorem Yv {S X:Type}{B:X→Option (X ⊕ O)}(l:List T)(e:S→Nat→X)(g:S→T→S)(fin:S→O)(hend:∀s,B (e s l.length)=some (.inr (fin s)))
  (hstep:∀s i (h:i<l.length),B (e s i)=some (.inl (e (g s l[i]) (i+1)))) (s:S):ag B (e s 0)=some (fin (l.foldl g s)):=by
 have h:=oS (B:=B) l e (fun _ v s=>some (.inl (g s v))) fin hend (fun s i h=>by rw[hstep s i h]) l.length 0 s (by omega)
 rw[h,List.drop_zero,Jh (g:=g) (fun _ _ _=>rfl)]
end
theorem m4(a:Int):(a != a)=false:=by simp
end Go.Proofs.YtkgcbbkodalfmaaGreatDoor
