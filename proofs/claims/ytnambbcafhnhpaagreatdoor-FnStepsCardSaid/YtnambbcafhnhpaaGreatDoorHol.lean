import Derived.Test.YtnambbcafhnhpaaGreatDoorSim
namespace Go.Proofs.YtnambbcafhnhpaaGreatDoor
open Go.RowKit
set_option linter.unusedVariables false
set_option linter.unusedSimpArgs false
section
variable {P:Program} {ok ok':Nat→Prop} {w w':World}
theorem yf(t:Ty)(x:t.T):fZ t t x=some x:=by unfold fZ;simp
theorem AH {a b c d:List Nat}:((a++b)++(c++d)).Perm ((a++c)++(b++d)):=by
 rw[List.append_assoc,List.append_assoc]
 refine List.Perm.append_left a ?_
 rw[←List.append_assoc,←List.append_assoc]
 exact List.Perm.append_right d List.perm_append_comm
theorem Io:∀(t:Ty) {x:t.T} {us:List Value} {bs:List Nat} {off:Nat} {e':TypeId} {t':Ty},bm P ok w t x us bs→t.ownAt off=some (e',t')→
  ∃v ys b1 b2,Mv t x off t'=some ys∧jB P ok w v t off x us b2∧bm P ok w (.own e' t') ys [v] b1∧bs.Perm (b1++b2)
 | .own e t,x,us,bs,off,e',t',h,hat=>by
   cases off with
   |succ n=>simp[Ty.ownAt]at hat
   |zero=>
    simp[Ty.ownAt]at hat
    obtain⟨rfl,rfl⟩:=hat
    obtain⟨v,cells,bs',rfl,h1,h2,rfl⟩:=h
    exact⟨v,x,_,[],yf _ _,⟨rfl,rfl⟩,⟨v,cells,bs',rfl,h1,h2,rfl⟩,by simp⟩
 | .pair a b,x,us,bs,off,e',t',h,hat=>by
   obtain⟨u1,u2,b1,b2,rfl,rfl,h1,h2⟩:=h
   simp only[Ty.ownAt]at hat
   by_cases hlt:off<a.size
   ·rw[if_pos hlt]at hat
    obtain⟨v,ys,c1,c2,g1,g2,g3,g4⟩:=Io a h1 hat
    refine⟨v,ys,c1,c2++b2,by simp only[Mv,if_pos hlt];exact g1, ?_,g3, ?_⟩
    ·simp only[jB,if_pos hlt]
     exact⟨u1,u2,c2,b2,rfl,rfl,g2,h2⟩
    ·rw[←List.append_assoc]
     exact List.Perm.append_right b2 g4
   ·rw[if_neg hlt]at hat
    obtain⟨v,ys,c1,c2,g1,g2,g3,g4⟩:=Io b h2 hat
    refine⟨v,ys,c1,b1++c2,by simp only[Mv,if_neg hlt];exact g1, ?_,g3, ?_⟩
    ·simp only[jB,if_neg hlt]
     exact⟨u1,u2,b1,c2,rfl,rfl,h1,g2⟩
    ·refine(List.Perm.append_left b1 g4).trans ?_
     have:=AH (a:=[]) (b:=b1) (c:=c1) (d:=c2)
     simpa using this
 | .int _,_,_,_,_,_,_,_,hat=>by simp[Ty.ownAt]at hat
 | .bool,_,_,_,_,_,_,_,hat=>by simp[Ty.ownAt]at hat
 | .str,_,_,_,_,_,_,_,hat=>by simp[Ty.ownAt]at hat
 | .unit,_,_,_,_,_,_,_,hat=>by simp[Ty.ownAt]at hat
 | .list _,_,_,_,_,_,_,_,hat=>by simp[Ty.ownAt]at hat
 | .ptr _,_,_,_,_,_,_,_,hat=>by simp[Ty.ownAt]at hat
 | .fn _ _,_,_,_,_,_,_,_,hat=>by simp[Ty.ownAt]at hat
 | .box _,_,_,_,_,_,_,_,hat=>by simp[Ty.ownAt]at hat
 | .nptr _,_,_,_,_,_,_,_,hat=>by simp[Ty.ownAt]at hat
 | .nil,_,_,_,_,_,_,_,hat=>by simp[Ty.ownAt]at hat
theorem MB:∀(t:Ty) {x:t.T} {us:List Value} {b1 b2:List Nat} {off:Nat} {e':TypeId} {t':Ty} {v:Value} {ys:List t'.T},jB P ok w v t off x us b2→t.ownAt off=some (e',t')→bm P ok w (.own e' t') ys [v] b1→
  ∃x' bs,Mw t x off t' ys=some x'∧bm P ok w t x' us bs∧bs.Perm (b1++b2)
 | .own e t,x,us,b1,b2,off,e',t',v,ys,h,hat,ho=>by
   cases off with
   |succ n=>simp[Ty.ownAt]at hat
   |zero=>
    simp[Ty.ownAt]at hat
    obtain⟨rfl,rfl⟩:=hat
    obtain⟨rfl,rfl⟩:=h
    exact⟨ys,b1,yf _ _,ho,by simp⟩
 | .pair a b,x,us,b1,b2,off,e',t',v,ys,h,hat,ho=>by
   simp only[Ty.ownAt]at hat
   simp only[jB]at h
   by_cases hlt:off<a.size
   ·rw[if_pos hlt]at hat h
    obtain⟨u1,u2,c1,c2,rfl,rfl,h1,h2⟩:=h
    obtain⟨x',bs,g1,g2,g3⟩:=MB a h1 hat ho
    refine⟨(x',x.2),bs++c2,by simp only[Mw,if_pos hlt,g1],⟨u1,u2,bs,c2,rfl,rfl,g2,h2⟩, ?_⟩
    rw[←List.append_assoc]
    exact List.Perm.append_right c2 g3
   ·rw[if_neg hlt]at hat h
    obtain⟨u1,u2,c1,c2,rfl,rfl,h1,h2⟩:=h
    obtain⟨x',bs,g1,g2,g3⟩:=MB b h2 hat ho
    refine⟨(x.1,x'),c1++bs,by simp only[Mw,if_neg hlt,g1],⟨u1,u2,c1,bs,rfl,rfl,h1,g2⟩, ?_⟩
    refine(List.Perm.append_left c1 g3).trans ?_
    have:=AH (a:=[]) (b:=c1) (c:=b1) (d:=c2)
    simpa using this
 | .int _,_,_,_,_,_,_,_,_,_,_,hat,_=>by simp[Ty.ownAt]at hat
 | .bool,_,_,_,_,_,_,_,_,_,_,hat,_=>by simp[Ty.ownAt]at hat
 | .str,_,_,_,_,_,_,_,_,_,_,hat,_=>by simp[Ty.ownAt]at hat
 | .unit,_,_,_,_,_,_,_,_,_,_,hat,_=>by simp[Ty.ownAt]at hat
 | .list _,_,_,_,_,_,_,_,_,_,_,hat,_=>by simp[Ty.ownAt]at hat
 | .ptr _,_,_,_,_,_,_,_,_,_,_,hat,_=>by simp[Ty.ownAt]at hat
 | .fn _ _,_,_,_,_,_,_,_,_,_,_,hat,_=>by simp[Ty.ownAt]at hat
 | .box _,_,_,_,_,_,_,_,_,_,_,hat,_=>by simp[Ty.ownAt]at hat
 | .nptr _,_,_,_,_,_,_,_,_,_,_,hat,_=>by simp[Ty.ownAt]at hat
 | .nil,_,_,_,_,_,_,_,_,_,_,hat,_=>by simp[Ty.ownAt]at hat
theorem jB.mono {v:Value}:∀(t:Ty) {x:t.T} {us:List Value} {bs:List Nat} {off:Nat},jB P ok w v t off x us bs→br ok w w'→(∀b,b<w.heap.size→ok b→ok' b)→(∀b ∈ bs,w'.heap[b]? =w.heap[b]?)→jB P ok' w' v t off x us bs
 | .own e t,x,us,bs,off,h,ha,hk,hb=>by
   cases off with
   |zero=>exact h
   |succ n=>exact h
 | .pair a b,x,us,bs,off,h,ha,hk,hb=>by
   simp only[jB]at h ⊢
   split
   ·rename_i hlt
    rw[if_pos hlt]at h
    obtain⟨u1,u2,c1,c2,rfl,rfl,h1,h2⟩:=h
    exact⟨u1,u2,c1,c2,rfl,rfl,jB.mono a h1 ha hk fun b h=>hb b (by simp[h]),bm.mono b h2 ha hk fun b h=>hb b (by simp[h])⟩
   ·rename_i hlt
    rw[if_neg hlt]at h
    obtain⟨u1,u2,c1,c2,rfl,rfl,h1,h2⟩:=h
    exact⟨u1,u2,c1,c2,rfl,rfl,bm.mono a h1 ha hk fun b h=>hb b (by simp[h]),jB.mono b h2 ha hk fun b h=>hb b (by simp[h])⟩
 | .int _,_,_,_,_,h,_,_,_=>(h:False).elim
 | .bool,_,_,_,_,h,_,_,_=>(h:False).elim
 | .str,_,_,_,_,h,_,_,_=>(h:False).elim
 | .unit,_,_,_,_,h,_,_,_=>(h:False).elim
 | .list _,_,_,_,_,h,_,_,_=>(h:False).elim
 | .ptr _,_,_,_,_,h,_,_,_=>(h:False).elim
 | .fn _ _,_,_,_,_,h,_,_,_=>(h:False).elim
 | .box _,_,_,_,_,h,_,_,_=>(h:False).elim
 | .nptr _,_,_,_,_,h,_,_,_=>(h:False).elim
 | .nil,_,_,_,_,h,_,_,_=>(h:False).elim
theorem Gm {t:Ty}{off:Nat}{e':TypeId}{t':Ty}(hat:t.ownAt off=some (e',t')):∀ {xs:List t.T} {i:Nat} {x:t.T} {cs:List Value} {bs:List Nat},dV (bm P ok w t) xs cs bs→xs[i]? =some x→
  ∃v ys b1 b2,Mv t x off t'=some ys∧jO P ok w v t off xs i cs b2∧bm P ok w (.own e' t') ys [v] b1∧bs.Perm (b1++b2)
 | [],i,_,_,_,_,h=>by simp at h
 |y::xs,0,x,cs,bs,h,hx=>by
  obtain⟨u1,u2,b1,b2,rfl,rfl,h1,h2⟩:=h
  simp at hx
  subst hx
  obtain⟨v,ys,c1,c2,g1,g2,g3,g4⟩:=Io t h1 hat
  refine⟨v,ys,c1,c2++b2,g1,⟨u1,u2,c2,b2,rfl,rfl,g2,h2⟩,g3, ?_⟩
  rw[←List.append_assoc]
  exact List.Perm.append_right b2 g4
 |y::xs,i+1,x,cs,bs,h,hx=>by
  obtain⟨u1,u2,b1,b2,rfl,rfl,h1,h2⟩:=h
  obtain⟨v,ys,c1,c2,g1,g2,g3,g4⟩:=Gm hat h2 (by simpa using hx)
  refine⟨v,ys,c1,b1++c2,g1,⟨u1,u2,b1,c2,rfl,rfl,h1,g2⟩,g3, ?_⟩
  refine(List.Perm.append_left b1 g4).trans ?_
  have:=AH (a:=[]) (b:=b1) (c:=c1) (d:=c2)
  simpa using this
theorem Ip {t:Ty}{off:Nat}{e':TypeId}{t':Ty}(hat:t.ownAt off=some (e',t')){v:Value}{ys:List t'.T}{b1:List Nat}(ho:bm P ok w (.own e' t') ys [v] b1):∀ {xs:List t.T} {i:Nat} {x:t.T} {cs:List Value} {b2:List Nat},jO P ok w v t off xs i cs b2→xs[i]? =some x→
  ∃x' bs,Mw t x off t' ys=some x'∧dV (bm P ok w t) (xs.set i x') cs bs∧bs.Perm (b1++b2)
 | [],i,_,_,_,_,h=>by simp at h
 |y::xs,0,x,cs,b2,h,hx=>by
  obtain⟨u1,u2,c1,c2,rfl,rfl,h1,h2⟩:=h
  simp at hx
  subst hx
  obtain⟨x',bs,g1,g2,g3⟩:=MB t h1 hat ho
  refine⟨x',bs++c2,g1,⟨u1,u2,bs,c2,rfl,rfl,g2,h2⟩, ?_⟩
  rw[←List.append_assoc]
  exact List.Perm.append_right c2 g3
 |y::xs,i+1,x,cs,b2,h,hx=>by
  obtain⟨u1,u2,c1,c2,rfl,rfl,h1,h2⟩:=h
  obtain⟨x',bs,g1,g2,g3⟩:=Ip hat ho h2 (by simpa using hx)
  refine⟨x',c1++bs,g1,⟨u1,u2,c1,bs,rfl,rfl,h1,g2⟩, ?_⟩
  refine(List.Perm.append_left c1 g3).trans ?_
  have:=AH (a:=[]) (b:=c1) (c:=b1) (d:=c2)
  simpa using this
theorem jO.mono {v:Value}{t:Ty}{off:Nat}:∀ {xs:List t.T} {i:Nat} {cs:List Value} {bs:List Nat},jO P ok w v t off xs i cs bs→br ok w w'→(∀b,b<w.heap.size→ok b→ok' b)→(∀b ∈ bs,w'.heap[b]? =w.heap[b]?)→jO P ok' w' v t off xs i cs bs
 | [],_,_,_,h,_,_,_=>h
 |x::xs,0,cs,bs,h,ha,hk,hb=>by
  obtain⟨u1,u2,c1,c2,rfl,rfl,h1,h2⟩:=h
  exact⟨u1,u2,c1,c2,rfl,rfl,jB.mono t h1 ha hk fun b h=>hb b (by simp[h]),h2.mono fun x us b1 hb1 h=>bm.mono t h ha hk fun b h=>hb b (by simp[hb1 b h])⟩
 |x::xs,i+1,cs,bs,h,ha,hk,hb=>by
  obtain⟨u1,u2,c1,c2,rfl,rfl,h1,h2⟩:=h
  exact⟨u1,u2,c1,c2,rfl,rfl,bm.mono t h1 ha hk fun b h=>hb b (by simp[h]),jO.mono h2 ha hk fun b h=>hb b (by simp[h])⟩
end
section
variable {P:Program} {ok:Nat→Prop} {w:World}
theorem BI {t:Ty}(ht:t.owned=false):∀ {xs:List t.T} {cs:List Value} {bs:List Nat},dV (bm P ok w t) xs cs bs→cC P ok w t xs cs∧bs= []
 | [],_,_,h=>h
 |x::xs,_,_,h=>by
  obtain⟨u1,u2,b1,b2,rfl,rfl,h1,h2⟩:=h
  obtain⟨c1,rfl⟩:=bm.pure t ht h1
  obtain⟨c2,rfl⟩:=BI ht h2
  exact⟨⟨u1,u2,rfl,c1,c2⟩,rfl⟩
theorem vu {t:Ty}(ht:t.owned=false):∀ {xs:List t.T} {cs:List Value},cC P ok w t xs cs→dV (bm P ok w t) xs cs []
 | [],_,h=>⟨h,rfl⟩
 |x::xs,_,h=>by
  obtain⟨u1,u2,rfl,h1,h2⟩:=h
  exact⟨u1,u2,[],[],rfl,rfl,bm.of t ht h1,vu ht h2⟩
theorem yN {μ:Nm}{l:Nat}{e:TypeId}{t:Ty}{xs:List t.T}{cells:List Value}{bs:List Nat}(hown:w.ownsRow 0 e t.size (μ l) xs.length cells)(hr:dV (bm P ok w t) xs cells bs)(hnd:bs.Nodup)(hx:∀b ∈ bs,ck (μ l)≠some b∧μ.x l b):OA P μ ok w l (.arr e t xs):=by
 refine⟨cells,hown, ?_⟩
 split
 ·exact⟨bs,hr,hnd,hx⟩
 ·rename_i ht
  exact(BI (by simpa using ht) hr).1
end
end Go.Proofs.YtnambbcafhnhpaaGreatDoor
