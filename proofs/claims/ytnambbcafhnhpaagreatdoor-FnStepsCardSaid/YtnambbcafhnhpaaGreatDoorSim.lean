import Derived.Test.YtnambbcafhnhpaaGreatDoorAv
namespace Go.Proofs.YtnambbcafhnhpaaGreatDoor
open Go.RowKit
set_option linter.unusedVariables false
set_option linter.unusedSimpArgs false
structure Nm where
 v:Nat→Value
 x:Nat→Nat→Prop
instance:CoeFun Nm fun _=>Nat→Value:=⟨Nm.v⟩
def Nm.has(μ:Nm)(l b:Nat):Prop:=ck (μ.v l)=some b∨μ.x l b
structure Cx where
 A:Nat→Prop
 Wr:Nat→Prop
 Ch:Nat→Prop
 V:Nat→Option Value
section
variable (P:Program) (μ:Nm) (ok:Nat→Prop) (w:World)
mutual
def VA:AV→Value→Prop
 | .junk,_=>True
 | .nils,v=>v= .slice none 0 0
 | .nilp,v=>v= .pointer none
 | .dat t x,v=>VR P ok w t x v
 | .agg cs,v=>∃us,v= .agg us.toArray∧bE cs us∧∀u ∈ us,u.oneCell'=true
 | .tup vs,v=>∃us,v= .tuple us.toArray∧bE vs us
 | .bptr l off,v=>∃b,μ l= .pointer (some ⟨b,0,none⟩)∧v= .pointer (some ⟨b,off,none⟩)
 | .own l,v=>v=μ l
 | .eptr l i k off,v=>∃b n c,μ l= .slice (some ⟨b,0,none⟩) n c∧v= .pointer (some ⟨b,i*k+off,none⟩)
 | .rptr t x off,v=>∃b o us,v= .pointer (some ⟨b,o+off,none⟩)∧ok b∧b<w.heap.size∧MR w b o us∧CR P ok w t x us
 | .clo f caps,v=>∃us,v= .func (.func f) #[] us.toArray∧bE caps us
def bE:List AV→List Value→Prop
 | [],us=>us= []
 |c::cs,us=>∃u us',us=u::us'∧VA c u∧bE cs us'
end
def OA(l:Nat):AO→Prop
 | .box cs=>∃b us E,μ l= .pointer (some ⟨b,0,none⟩)∧w.heap[b]? =some (.cells us.toArray E (0,0))∧bE P μ ok w cs us∧∀u ∈ us,u.oneCell'=true
 | .arr e t xs=>∃cells,w.ownsRow 0 e t.size (μ l) xs.length cells∧
    (if t.owned then ∃bs,dV (bm P ok w t) xs cells bs∧bs.Nodup∧(∀b ∈ bs,ck (μ l)≠some b∧μ.x l b)else cC P ok w t xs cells)
 | .hol e t xs i x off d=>∃cells bs,w.ownsRow 0 e t.size (μ l) xs.length cells∧xs[i]? =some x∧jO P ok w (μ d) t off xs i cells bs∧bs.Nodup∧∀b ∈ bs,ck (μ l)≠some b∧μ.x l b
end
mutual
def jD(l:Nat):AV→Prop
 | .own m=>m=l
 | .bptr m _=>m=l
 | .eptr m _ _ _=>m=l
 | .clo _ cs=>eX l cs
 | .agg cs=>eX l cs
 | .tup cs=>eX l cs
 |_=>False
def eX(l:Nat):List AV→Prop
 | []=>False
 |c::cs=>jD l c∨eX l cs
end
theorem jD.of0 {l:Nat}{v:AV}(h:v.ref0 l=false):¬jD l v:=by
 cases v<;>simp_all [AV.ref0,jD]
theorem eX.ofAny {l:Nat}:∀ {cs:List AV},cs.any (AV.ref0 l)=false→¬eX l cs
 | [],_=>by simp[eX]
 |c::cs,h=>by
  simp only[List.any_cons,Bool.or_eq_false_iff]at h
  simp only[eX,not_or]
  exact⟨jD.of0 h.1,eX.ofAny h.2⟩
theorem jD.of1 {l:Nat}{v:AV}(h:v.ref1 l=false):¬jD l v:=by
 cases v<;>first|exact eX.ofAny h|exact jD.of0 h
theorem eX.ofAny1 {l:Nat}:∀ {cs:List AV},cs.any (AV.ref1 l)=false→¬eX l cs
 | [],_=>by simp[eX]
 |c::cs,h=>by
  simp only[List.any_cons,Bool.or_eq_false_iff]at h
  simp only[eX,not_or]
  exact⟨jD.of1 h.1,eX.ofAny1 h.2⟩
theorem jD.of {l:Nat}{v:AV}(h:v.refs l=false):¬jD l v:=by
 cases v<;>first|exact eX.ofAny h|exact eX.ofAny1 h|exact jD.of0 h
theorem eX.of {l:Nat}:∀ {cs:List AV},cs.any (AV.refs l)=false→¬eX l cs
 | [],_=>by simp[eX]
 |c::cs,h=>by
  simp only[List.any_cons,Bool.or_eq_false_iff]at h
  simp only[eX,not_or]
  exact⟨jD.of h.1,eX.of h.2⟩
section
variable {P:Program} {μ μ':Nm} {ok ok':Nat→Prop} {w w':World}
mutual
theorem VA.trans:∀ {v:AV} {u:Value},VA P μ ok w v u→(∀l,jD l v→μ' l=μ l)→br ok w w'→(∀b,b<w.heap.size→ok b→ok' b)→VA P μ' ok' w' v u
 | .junk,_,_,_,_,_=>trivial
 | .nils,_,h,_,_,_=>h
 | .nilp,_,h,_,_,_=>h
 | .dat t x,_,h,_,ha,hk=>VR.mono h ha hk
 | .agg cs,_,h,hm,ha,hk=>by
   obtain⟨us,e,h,h1⟩:=h
   exact⟨us,e,bE.trans h (fun l hl=>hm l (by simpa [jD]using hl)) ha hk,h1⟩
 | .tup cs,_,h,hm,ha,hk=>by
   obtain⟨us,e,h⟩:=h
   exact⟨us,e,bE.trans h (fun l hl=>hm l (by simpa [jD]using hl)) ha hk⟩
 | .bptr l off,_,h,hm,_,_=>by
   obtain⟨b,e,h⟩:=h
   exact⟨b,(hm l (by simp[jD])).trans e,h⟩
 | .own l,u,h,hm,_,_=>by
   show u=μ' l
   rw[hm l (by simp[jD])];exact h
 | .eptr l i k off,_,h,hm,_,_=>by
   obtain⟨b,n,c,e,h⟩:=h
   exact⟨b,n,c,(hm l (by simp[jD])).trans e,h⟩
 | .rptr t x off,_,h,_,ha,hk=>by
   obtain⟨b,o,us,e,ho,hl,hmr,hc⟩:=h
   exact⟨b,o,us,e,hk b hl ho,Nat.lt_of_lt_of_le hl ha.1,hmr.agree ho hl ha,(de.mono t x ha hk).1 _ hc⟩
 | .clo f cs,_,h,hm,ha,hk=>by
   obtain⟨us,e,h⟩:=h
   exact⟨us,e,bE.trans h (fun l hl=>hm l (by simpa [jD]using hl)) ha hk⟩
theorem bE.trans:∀ {vs:List AV} {us:List Value},bE P μ ok w vs us→(∀l,eX l vs→μ' l=μ l)→br ok w w'→(∀b,b<w.heap.size→ok b→ok' b)→bE P μ' ok' w' vs us
 | [],_,h,_,_,_=>h
 |c::cs,_,h,hm,ha,hk=>by
  obtain⟨u,us',e,h1,h2⟩:=h
  exact⟨u,us',e,VA.trans h1 (fun l hl=>hm l (by simp[eX,hl])) ha hk,bE.trans h2 (fun l hl=>hm l (by simp[eX,hl])) ha hk⟩
end
theorem cC.mono {t:Ty}:∀ {xs:List t.T} {cs:List Value},cC P ok w t xs cs→br ok w w'→(∀b,b<w.heap.size→ok b→ok' b)→cC P ok' w' t xs cs
 | [],_,h,_,_=>h
 |_::_,_,h,ha,hk=>by
  obtain⟨u1,u2,e,h1,h2⟩:=h
  exact⟨u1,u2,e,(de.mono t _ ha hk).1 _ h1,cC.mono h2 ha hk⟩
theorem bE.length:∀ {vs:List AV} {us:List Value},bE P μ ok w vs us→us.length=vs.length
 | [],_,h=>by have h:_=_:=h;subst h;rfl
 |c::cs,_,h=>by
  obtain⟨u,us',rfl,_,h2⟩:=h
  simp[bE.length h2]
theorem bE.get:∀ {vs:List AV} {us:List Value} {i:Nat} {v:AV},bE P μ ok w vs us→vs[i]? =some v→∃u,us[i]? =some u∧VA P μ ok w v u
 | [],_,_,_,_,hi=>by simp at hi
 |c::cs,_,0,_,h,hi=>by
  obtain⟨u,us',rfl,h1,_⟩:=h
  simp at hi;subst hi;exact⟨u,rfl,h1⟩
 |c::cs,_,i+1,_,h,hi=>by
  obtain⟨u,us',rfl,_,h2⟩:=h
  simpa using bE.get h2 (by simpa using hi)
theorem bE.app:∀ {vs vs':List AV} {us us':List Value},bE P μ ok w vs us→bE P μ ok w vs' us'→bE P μ ok w (vs++vs') (us++us')
 | [],_,_,_,h,h'=>by have h:_=_:=h;subst h;exact h'
 |c::cs,_,_,_,h,h'=>by
  obtain⟨u,us',rfl,h1,h2⟩:=h
  exact⟨u,_,rfl,h1,bE.app h2 h'⟩
theorem bE.take:∀ {vs:List AV} {us:List Value} (n:Nat),bE P μ ok w vs us→bE P μ ok w (vs.take n) (us.take n)
 |_,_,0,_=>by simp[bE]
 | [],_,n+1,h=>by have h:_=_:=h;subst h;simp[bE]
 |c::cs,_,n+1,h=>by
  obtain⟨u,us',rfl,h1,h2⟩:=h
  exact⟨u,_,rfl,h1,bE.take n h2⟩
theorem bE.drop:∀ {vs:List AV} {us:List Value} (n:Nat),bE P μ ok w vs us→bE P μ ok w (vs.drop n) (us.drop n)
 |_,_,0,h=>by simpa using h
 | [],_,n+1,h=>by have h:_=_:=h;subst h;simp[bE]
 |c::cs,_,n+1,h=>by
  obtain⟨u,us',rfl,h1,h2⟩:=h
  simpa using bE.drop n h2
theorem pe:∀(t:Ty) (x:t.T) (us:List Value),CR P ok w t x us→bE P μ ok w (ie t x) us
 | .unit,_,us,h=>h
 | .pair a b,x,us,h=>by
   obtain⟨u1,u2,rfl,h1,h2⟩:=h
   exact bE.app (pe a x.1 u1 h1) (pe b x.2 u2 h2)
 | .int k,x,us,h=>by have h':_=_:=h;subst h';exact⟨_,_,rfl,by simpa [VA,aY,Ty.isAgg]using h,rfl⟩
 | .bool,x,us,h=>by have h':_=_:=h;subst h';exact⟨_,_,rfl,by simpa [VA,aY,Ty.isAgg]using h,rfl⟩
 | .nil,x,us,h=>by have h':_=_:=h;subst h';exact⟨_,_,rfl,by simpa [VA,aY,Ty.isAgg]using h,rfl⟩
 | .str,x,us,h=>by have h':_=_:=h;subst h';exact⟨_,_,rfl,by simpa [VA,aY,Ty.isAgg]using h,rfl⟩
 | .list t,x,us,h=>by
   have h':=h
   obtain⟨v,rfl,_⟩:=h
   exact⟨v,[],rfl,by simpa [VA,aY,Ty.isAgg]using h',rfl⟩
 | .ptr t,x,us,h=>by
   have h':=h
   obtain⟨b,o,us,rfl,_⟩:=h
   exact⟨_,[],rfl,by simpa [VA,aY,Ty.isAgg]using h',rfl⟩
 | .fn a r,x,us,h=>by
   have h':=h
   obtain⟨f,caps,rfl,_⟩:=h
   exact⟨_,[],rfl,by simpa [VA,aY,Ty.isAgg]using h',rfl⟩
 | .own e t,x,us,h=>by
   have h':=h
   obtain⟨v,rfl,_⟩:=h
   exact⟨v,[],rfl,by simpa [VA,aY,Ty.isAgg]using h',rfl⟩
 | .box t,x,us,h=>by
   have h':=h
   obtain⟨b,o,us,rfl,_⟩:=h
   exact⟨_,[],rfl,by simpa [VA,aY,Ty.isAgg]using h',rfl⟩
 | .nptr t,x,us,h=>by
   have h':=h
   have:∃v,us= [v]:=by obtain⟨_,rfl⟩|⟨_,_,_,_,_,rfl,_⟩:=h<;>exact⟨_,rfl⟩
   obtain⟨v,rfl⟩:=this
   exact⟨_,[],rfl,by simpa [VA,aY,Ty.isAgg]using h',rfl⟩
theorem LD:∀(t:Ty) (x:t.T),(ie t x).length=t.size
 | .unit,_=>rfl
 | .pair a b,x=>by simp[ie,Ty.size,LD a,LD b]
 | .int k,_=>rfl
 | .bool,_=>rfl
 | .str,_=>rfl
 | .list t,_=>rfl
 | .ptr t,_=>rfl
 | .fn a r,_=>rfl
 | .own _ _,_=>rfl
 | .box _,_=>rfl
 | .nptr _,_=>rfl
 | .nil,_=>rfl
theorem rg {ok:Nat→Prop}{w:World}{l:Nat}{e:TypeId}{t:Ty}{xs:List t.T}(ht:t.owned=false):OA P μ ok w l (.arr e t xs)↔∃cells,w.ownsRow 0 e t.size (μ l) xs.length cells∧cC P ok w t xs cells:=by
 simp[OA,ht]
theorem yZ {base:Nat}{e:TypeId}{size n:Nat}{v:Value}{xs:List Value}(h:w.ownsRow base e size v n xs)(hb:∀b,ck v=some b→w'.heap[b]? =w.heap[b]?):w'.ownsRow base e size v n xs:=by
 obtain⟨h1,hn|⟨g,cap,cur,rfl,h2,hg,h3⟩⟩:=h
 ·exact⟨h1,.inl hn⟩
 ·exact⟨h1,.inr ⟨g,cap,cur,rfl,h2,by rw[hb g rfl];exact hg,h3⟩⟩
theorem dV.mono {α:Type}{R R':α→List Value→List Nat→Prop}:∀ {xs:List α} {cs:List Value} {bs:List Nat},dV R xs cs bs→(∀x us b1,(∀b ∈ b1,b ∈ bs)→R x us b1→R' x us b1)→dV R' xs cs bs
 | [],_,_,h,_=>h
 |x::xs,_,_,h,hr=>by
  obtain⟨u1,u2,b1,b2,e1,e2,h1,h2⟩:=h
  subst e2
  exact⟨u1,u2,b1,b2,e1,rfl,hr _ _ _ (fun b hb=>by simp[hb]) h1,dV.mono h2 fun x us b3 hb=>hr x us b3 fun b h=>by simp[hb b h]⟩
theorem bm.mono:∀(t:Ty) {x:t.T} {us:List Value} {bs:List Nat},bm P ok w t x us bs→br ok w w'→(∀b,b<w.heap.size→ok b→ok' b)→(∀b ∈ bs,w'.heap[b]? =w.heap[b]?)→bm P ok' w' t x us bs
 | .own e t,x,us,bs,h,ha,hk,hb=>by
   obtain⟨v,cells,bs',rfl,h1,h2,rfl⟩:=h
   refine⟨v,cells,bs',rfl,yZ h1 (fun b h=>hb b (by simp[h])),h2.mono fun x us b1 hb1 h=>bm.mono t h ha hk fun b h=>hb b (by simp[hb1 b h]),rfl⟩
 | .box t,x,us,bs,h,ha,hk,hb=>by
   obtain⟨b,us,E,bs',rfl,h1,h2,h3,rfl⟩:=h
   exact⟨b,us,E,bs',rfl,by rw[hb b (by simp)];exact h1,h2,bm.mono t h3 ha hk fun b h=>hb b (by simp[h]),rfl⟩
 | .pair a b,x,us,bs,h,ha,hk,hb=>by
   obtain⟨u1,u2,b1,b2,rfl,rfl,h1,h2⟩:=h
   exact⟨u1,u2,b1,b2,rfl,rfl,bm.mono a h1 ha hk fun b h=>hb b (by simp[h]),bm.mono b h2 ha hk fun b h=>hb b (by simp[h])⟩
 | .int k,x,us,bs,h,ha,hk,hb=>⟨(de.mono _ x ha hk).1 _ h.1,h.2⟩
 | .bool,x,us,bs,h,ha,hk,hb=>⟨(de.mono _ x ha hk).1 _ h.1,h.2⟩
 | .str,x,us,bs,h,ha,hk,hb=>⟨(de.mono _ x ha hk).1 _ h.1,h.2⟩
 | .unit,x,us,bs,h,ha,hk,hb=>⟨(de.mono _ x ha hk).1 _ h.1,h.2⟩
 | .list t,x,us,bs,h,ha,hk,hb=>⟨(de.mono _ x ha hk).1 _ h.1,h.2⟩
 | .ptr t,x,us,bs,h,ha,hk,hb=>⟨(de.mono _ x ha hk).1 _ h.1,h.2⟩
 | .nptr t,x,us,bs,h,ha,hk,hb=>⟨(de.mono _ x ha hk).1 _ h.1,h.2⟩
 | .nil,x,us,bs,h,ha,hk,hb=>⟨(de.mono _ x ha hk).1 _ h.1,h.2⟩
 | .fn a r,x,us,bs,h,ha,hk,hb=>⟨(de.mono _ x ha hk).1 _ h.1,h.2⟩
theorem bm.pure:∀(t:Ty) {x:t.T} {us:List Value} {bs:List Nat},t.owned=false→bm P ok w t x us bs→CR P ok w t x us∧bs= []
 | .own _ _,_,_,_,h,_=>by simp[Ty.owned]at h
 | .box _,_,_,_,h,_=>by simp[Ty.owned]at h
 | .pair a b,x,us,bs,ho,h=>by
   simp only[Ty.owned,Bool.or_eq_false_iff]at ho
   obtain⟨u1,u2,b1,b2,rfl,rfl,h1,h2⟩:=h
   obtain⟨c1,rfl⟩:=bm.pure a ho.1 h1
   obtain⟨c2,rfl⟩:=bm.pure b ho.2 h2
   exact⟨⟨u1,u2,rfl,c1,c2⟩,rfl⟩
 | .int k,x,us,bs,_,h=>h
 | .bool,x,us,bs,_,h=>h
 | .str,x,us,bs,_,h=>h
 | .unit,x,us,bs,_,h=>h
 | .list t,x,us,bs,_,h=>h
 | .ptr t,x,us,bs,_,h=>h
 | .nptr t,x,us,bs,_,h=>h
 | .nil,x,us,bs,_,h=>h
 | .fn a r,x,us,bs,_,h=>h
theorem bm.of:∀(t:Ty) {x:t.T} {us:List Value},t.owned=false→CR P ok w t x us→bm P ok w t x us []
 | .own _ _,_,_,h,_=>by simp[Ty.owned]at h
 | .box _,_,_,h,_=>by simp[Ty.owned]at h
 | .pair a b,x,us,ho,h=>by
   simp only[Ty.owned,Bool.or_eq_false_iff]at ho
   obtain⟨u1,u2,rfl,h1,h2⟩:=h
   exact⟨u1,u2,[],[],rfl,rfl,bm.of a ho.1 h1,bm.of b ho.2 h2⟩
 | .int k,x,us,_,h=>⟨h,rfl⟩
 | .bool,x,us,_,h=>⟨h,rfl⟩
 | .str,x,us,_,h=>⟨h,rfl⟩
 | .unit,x,us,_,h=>⟨h,rfl⟩
 | .list t,x,us,_,h=>⟨h,rfl⟩
 | .ptr t,x,us,_,h=>⟨h,rfl⟩
 | .nptr t,x,us,_,h=>⟨h,rfl⟩
 | .nil,x,us,_,h=>⟨h,rfl⟩
 | .fn a r,x,us,_,h=>⟨h,rfl⟩
end
def aO(A:Nat→Prop)(μ:Nm)(af:AF)(b:Nat):Prop:=A b∧∀l o,af.obj l=some o→¬μ.has l b
structure a8 (P:Program) (C:Cx) (μ:Nm) (af:AF) (a:Act) (w:World):Prop where
 defers:a.defers= []
 tl:a.tmps.size=af.tmps.length
 tmps:∀t x,af.tmps[t]? =some x→VA P μ (aO C.A μ af) w x (a.tmps.getD t undef)
 objs:∀l o,af.obj l=some o→OA P μ (aO C.A μ af) w l o
 wr:∀l o b,af.obj l=some o→μ.has l b→C.Wr b∧C.A b∧b<w.heap.size
 inj:∀l l' o o' b,af.obj l=some o→af.obj l'=some o'→μ.has l b→μ.has l' b→l=l'
 fr:∀b,w.heap.size≤b→C.A b∧C.Wr b
 chg:af.lock=true∨∀b,C.Wr b→C.Ch b
 frc:∀b,w.heap.size≤b→C.Ch b
 fix:∀s v,C.V s=some v→a.tmps.getD s undef=v
def St(P:Program)(C:Cx)(w0:World)(af:AF)(a:Act)(w:World):Prop:=aG C.Ch w0 w∧∃μ,a8 P C μ af a w
end Go.Proofs.YtnambbcafhnhpaaGreatDoor
