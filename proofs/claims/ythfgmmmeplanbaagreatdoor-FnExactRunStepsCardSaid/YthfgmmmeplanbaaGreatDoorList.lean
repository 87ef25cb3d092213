import Derived.Test.YthfgmmmeplanbaaGreatDoorLoop
namespace Go.Proofs.YthfgmmmeplanbaaGreatDoor
open Go.RowKit
set_option linter.unusedVariables false
set_option linter.unusedSimpArgs false
theorem wrap_i64 {n:Int}(h0: -9223372036854775808≤n)(h1:n≤9223372036854775807):IntKind.i64.wrap n=n:=by
 simp[IntKind.wrap,IntKind.signed,IntKind.bits]
 omega
theorem am {α:Type}{l:List α}{i:Nat}(h:i<l.length):au l (i:Int)=some l[i]:=by
 unfold au
 rw[if_pos (by omega)]
 simp[h]
theorem aaW {α:Type}{l:List α}{i:Nat}(h:l.length≤i):au l (i:Int)=none:=by
 unfold au
 rw[if_pos (by omega)]
 simp[h]
section
variable {X O S α:Type}
def oJ(f:Nat→α→S→Option (S ⊕ O))(fin:S→O):Nat→List α→S→Option O
 |_,[],s=>some (fin s)
 |i,v::r,s=>match f i v s with
  |none=>none
  |some (.inl s')=>oJ f fin (i+1) r s'
  |some (.inr o)=>some o
theorem n7 {B:X→Option (X ⊕ O)}(l:List α)(e:S→Nat→X)(f:Nat→α→S→Option (S ⊕ O))(fin:S→O)(hend:∀s,B (e s l.length)=some (.inr (fin s)))
  (hstep:∀s i (h:i<l.length),B (e s i)=match f i l[i] s with
    |none=>none
    |some (.inl s')=>some (.inl (e s' (i+1)))
    |some (.inr o)=>some (.inr o)):∀(n i:Nat) (s:S),i+n=l.length→ac B (e s i)=oJ f fin i (l.drop i) s
 |0,i,s,h=>by
  have:i=l.length:=by omega
  subst this
  rw[an,hend,List.drop_length];rfl
 |n+1,i,s,h=>by
  have hi:i<l.length:=by omega
  rw[an,hstep s i hi,List.drop_eq_getElem_cons hi]
  unfold oJ
  split
  ·rename_i h2
   split at h2<;>simp_all
  ·rename_i x' h2
   split at h2<;>simp_all
   rename_i s' hs
   subst h2
   rw[n7 l e f fin hend hstep n (i+1) s' (by omega)]
  ·rename_i o h2
   split at h2<;>simp_all
theorem Jd {f:Nat→α→S→Option (S ⊕ O)}{fin:S→O}{g:S→α→S}(h:∀i v s,f i v s=some (.inl (g s v))):∀(i:Nat) (l:List α) (s:S),oJ f fin i l s=some (fin (l.foldl g s))
 |_,[],_=>rfl
 |i,v::r,s=>by
  unfold oJ
  rw[h]
  exact Jd h (i+1) r (g s v)
theorem PW {f:Nat→α→S→Option (S ⊕ O)}{fin:S→O}{p:α→Bool}{o:O}(h:∀i v s,f i v s=if p v then some (.inl s)else some (.inr o)):∀(i:Nat) (l:List α) (s:S),oJ f fin i l s=some (if l.all p then fin s else o)
 |_,[],_=>rfl
 |i,v::r,s=>by
  unfold oJ
  rw[h]
  cases hp:p v with
  |true=>
   simp only[if_true]
   rw[PW h (i+1) r s]
   simp[hp]
  |false=>simp[hp]
theorem UJ {f f':Nat→α→S→Option (S ⊕ O)}{fin:S→O}:∀(i:Nat) (l:List α) (s:S),(∀j v s,v ∈ l→f j v s=f' j v s)→oJ f fin i l s=oJ f' fin i l s
 |_,[],_,_=>rfl
 |i,v::r,s,h=>by
  unfold oJ
  rw[h i v s (by simp)]
  split
  ·rfl
  ·exact UJ (i+1) r _ (fun j v s hv=>h j v s (by simp[hv]))
  ·rfl
end
theorem Wc {α O:Type}{f:Nat→α→List α→Option (List α ⊕ O)}{fin:List α→O}(h:∀i v s,i<s.length→f i v s=some (.inl (s.set i v))):∀(l done rest:List α),rest.length=l.length→oJ f fin done.length l (done++rest)=some (fin (done++l))
 | [],done,rest,hl=>by
   have:rest= []:=List.length_eq_zero_iff.1 hl
   subst this;rfl
 |v::r,done,[],hl=>by simp at hl
 |v::r,done,x::rest,hl=>by
  unfold oJ
  rw[h _ _ _ (by simp)]
  simp only
  have e1:(done++x::rest).set done.length v=(done++ [v])++rest:=by simp
  rw[e1]
  have:=Wc (fin:=fin) h r (done++ [v]) rest (by simpa using hl)
  simpa using this
end Go.Proofs.YthfgmmmeplanbaaGreatDoor
