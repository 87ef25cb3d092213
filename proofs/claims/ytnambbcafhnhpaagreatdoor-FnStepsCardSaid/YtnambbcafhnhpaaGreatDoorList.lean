import Derived.Test.YtnambbcafhnhpaaGreatDoorLoop
namespace Go.Proofs.YtnambbcafhnhpaaGreatDoor
open Go.RowKit
set_option linter.unusedVariables false
set_option linter.unusedSimpArgs false
theorem wrap_i64 {n:Int}(h0: -9223372036854775808≤n)(h1:n≤9223372036854775807):IntKind.i64.wrap n=n:=by
 simp[IntKind.wrap,IntKind.signed,IntKind.bits]
 omega
theorem aJ {α:Type}{l:List α}{i:Nat}(h:i<l.length):aI l (i:Int)=some l[i]:=by
 unfold aI
 rw[if_pos (by omega)]
 simp[h]
section
variable {X O S α:Type}
def Fx(f:Nat→α→S→Option (S ⊕ O))(fin:S→O):Nat→List α→S→Option O
 |_,[],s=>some (fin s)
 |i,v::r,s=>match f i v s with
  |none=>none
  |some (.inl s')=>Fx f fin (i+1) r s'
  |some (.inr o)=>some o
theorem sJ {B:X→Option (X ⊕ O)}(l:List α)(e:S→Nat→X)(f:Nat→α→S→Option (S ⊕ O))(fin:S→O)(hend:∀s,B (e s l.length)=some (.inr (fin s)))
  (hstep:∀s i (h:i<l.length),B (e s i)=match f i l[i] s with
    |none=>none
    |some (.inl s')=>some (.inl (e s' (i+1)))
    |some (.inr o)=>some (.inr o)):∀(n i:Nat) (s:S),i+n=l.length→ak B (e s i)=Fx f fin i (l.drop i) s
 |0,i,s,h=>by
  have:i=l.length:=by omega
  subst this
  rw[aw,hend,List.drop_length];rfl
 |n+1,i,s,h=>by
  have hi:i<l.length:=by omega
  rw[aw,hstep s i hi,List.drop_eq_getElem_cons hi]
  unfold Fx
  split
  ·rename_i h2
   split at h2<;>simp_all
  ·rename_i x' h2
   split at h2<;>simp_all
   rename_i s' hs
   subst h2
   rw[sJ l e f fin hend hstep n (i+1) s' (by omega)]
  ·rename_i o h2
   split at h2<;>simp_all
theorem Oy {f:Nat→α→S→Option (S ⊕ O)}{fin:S→O}{g:S→α→S}(h:∀i v s,f i v s=some (.inl (g s v))):∀(i:Nat) (l:List α) (s:S),Fx f fin i l s=some (fin (l.foldl g s))
 |_,[],_=>rfl
 |i,v::r,s=>by
  unfold Fx
  rw[h]
  exact Oy h (i+1) r (g s v)
theorem Ve {f:Nat→α→S→Option (S ⊕ O)}{fin:S→O}{p:α→Bool}{o:O}(h:∀i v s,f i v s=if p v then some (.inl s)else some (.inr o)):∀(i:Nat) (l:List α) (s:S),Fx f fin i l s=some (if l.all p then fin s else o)
 |_,[],_=>rfl
 |i,v::r,s=>by
  unfold Fx
  rw[h]
  cases hp:p v with
  |true=>
   simp only[if_true]
   rw[Ve h (i+1) r s]
   simp[hp]
  |false=>simp[hp]
end
end Go.Proofs.YtnambbcafhnhpaaGreatDoor
