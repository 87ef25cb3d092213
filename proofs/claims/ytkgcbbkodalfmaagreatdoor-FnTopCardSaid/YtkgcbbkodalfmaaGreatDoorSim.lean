import Derived.Test.YtkgcbbkodalfmaaGreatDoorAv
namespace Go.Proofs.YtkgcbbkodalfmaaGreatDoor
open Go.RowKit
set_option linter.unusedVariables false
set_option linter.unusedSimpArgs false
structure Nm where
 v:Nat→Value
 x:Nat→Nat→Prop
instance:CoeFun Nm fun _=>Nat→Value:=⟨Nm.v⟩
def Nm.has(μ:Nm)(l b:Nat):Prop:=bH (μ.v l)=some b∨μ.x l b
structure Cx where
 A:Nat→Prop
 Wr:Nat→Prop
 Ch:Nat→Prop
 V:Nat→Option Value
section
variable (P:Program) (μ:Nm) (ok:Nat→Prop) (w:World)
mutual
def VA:AV→Value→Prop
 | .junk,_=>True
 | .nils,v=>v= .slice none 0 0
 | .nilp,v=>v= .pointer none
 | .dat t x,v=>VR P ok w t x v
 | .agg cs,v=>∃us,v= .agg us.toArray∧be cs us∧∀u ∈ us,u.oneCell'=true
 | .tup vs,v=>∃us,v= .tuple us.toArray∧be vs us
 | .bptr l off,v=>∃b,μ l= .pointer (some ⟨b,0,none⟩)∧v= .pointer (some ⟨b,off,none⟩)
 | .own l,v=>v=μ l
 | .eptr l i k off,v=>∃b n c,μ l= .slice (some ⟨b,0,none⟩) n c∧v= .pointer (some ⟨b,i*k+off,none⟩)
 | .rptr t x off,v=>∃b o us,v= .pointer (some ⟨b,o+off,none⟩)∧ok b∧b<w.heap.size∧MR w b o us∧CR P ok w t x us
 | .clo f caps,v=>∃us,v= .func (.func f) #[] us.toArray∧be caps us
def be:List AV→List Value→Prop
 | [],us=>us= []
 |c::cs,us=>∃u us',us=u::us'∧VA c u∧be cs us'
end
def OA(l:Nat):AO→Prop
 | .box cs=>∃b us E,μ l= .pointer (some ⟨b,0,none⟩)∧w.heap[b]? =some (.cells us.toArray E (0,0))∧be P μ ok w cs us∧∀u ∈ us,u.oneCell'=true
 | .arr e t xs=>∃cells,w.ownsRow 0 e t.size (μ l) xs.length cells∧
    (if t.owned then ∃bs,dD (aR P ok w t) xs cells bs∧bs.Nodup∧(∀b ∈ bs,bH (μ l)≠some b∧μ.x l b)else bX P ok w t xs cells)
 | .hol e t xs i x off d=>∃cells bs,w.ownsRow 0 e t.size (μ l) xs.length cells∧xs[i]? =some x∧iA P ok w (μ d) t off xs i cells bs∧bs.Nodup∧∀b ∈ bs,bH (μ l)≠some b∧μ.x l b
end
mutual
def il(l:Nat):AV→Prop
 | .own m=>m=l
 | .bptr m _=>m=l
 | .eptr m _ _ _=>m=l
 | .clo _ cs=>ez l cs
 | .agg cs=>ez l cs
 | .tup cs=>ez l cs
 |_=>False
def ez(l:Nat):List AV→Prop
 | []=>False
 |c::cs=>il l c∨ez l cs
end
theorem il.of0 {l:Nat}{v:AV}(h:v.ref0 l=false):¬il l v:=by
 cases v<;>simp_all [AV.ref0,il]
theorem ez.ofAny {l:Nat}:∀ {cs:List AV},cs.any (AV.ref0 l)=false→¬ez l cs
 | [],_=>by simp[ez]
 |c::cs,h=>by
  simp only[List.any_cons,Bool.or_eq_false_iff]at h
  simp only[ez,not_or]
  exact⟨il.of0 h.1,ez.ofAny h.2⟩
theorem il.of1 {l:Nat}{v:AV}(h:v.ref1 l=false):¬il l v:=by
 cases v<;>first|exact ez.ofAny h|exact il.of0 h
theorem ez.ofAny1 {l:Nat}:∀ {cs:List AV},cs.any (AV.ref1 l)=false→¬ez l cs
 | [],_=>by simp[ez]
 |c::cs,h=>by
  simp only[List.any_cons,Bool.or_eq_false_iff]at h
  simp only[ez,not_or]
  exact⟨il.of1 h.1,ez.ofAny1 h.2⟩
theorem il.of {l:Nat}{v:AV}(h:v.refs l=false):¬il l v:=by
 cases v<;>first|exact ez.ofAny h|exact ez.ofAny1 h|exact il.of0 h
theorem ez.of {l:Nat}:∀ {cs:List AV},cs.any (AV.refs l)=false→¬ez l cs
 | [],_=>by simp[ez]
 |c::cs,h=>by
  simp only[List.any_cons,Bool.or_eq_false_iff]at h
  simp only[ez,not_or]
  exact⟨il.of h.1,ez.of h.2⟩
section
variable {P:Program} {μ μ':Nm} {ok ok':Nat→Prop} {w w':World}
mutual
theorem VA.trans:∀ {v:AV} {u:Value},VA P μ ok w v u→(∀l,il l v→μ' l=μ l)→aV ok w w'→(∀b,b<w.heap.size→ok b→ok' b)→VA P μ' ok' w' v u
 | .junk,_,_,_,_,_=>trivial
 | .nils,_,h,_,_,_=>h
 | .nilp,_,h,_,_,_=>h
 | .dat t x,_,h,_,ha,hk=>VR.mono h ha hk
 | .agg cs,_,h,hm,ha,hk=>by
   obtain⟨us,e,h,h1⟩:=h
   exact⟨us,e,be.trans h (fun l hl=>hm l (by simpa [il]using hl)) ha hk,h1⟩
 | .tup cs,_,h,hm,ha,hk=>by
   obtain⟨us,e,h⟩:=h
   exact⟨us,e,be.trans h (fun l hl=>hm l (by simpa [il]using hl)) ha hk⟩
 | .bptr l off,_,h,hm,_,_=>by
   obtain⟨b,e,h⟩:=h
   exact⟨b,(hm l (by simp[il])).trans e,h⟩
 | .own l,u,h,hm,_,_=>by
   show u=μ' l
   rw[hm l (by simp[il])];exact h
 | .eptr l i k off,_,h,hm,_,_=>by
   obtain⟨b,n,c,e,h⟩:=h
   exact⟨b,n,c,(hm l (by simp[il])).trans e,h⟩
 | .rptr t x off,_,h,_,ha,hk=>by
   obtain⟨b,o,us,e,ho,hl,hmr,hc⟩:=h
   exact⟨b,o,us,e,hk b hl ho,Nat.lt_of_lt_of_le hl ha.1,hmr.agree ho hl ha,(cL.mono t x ha hk).1 _ hc⟩
 | .clo f cs,_,h,hm,ha,hk=>by
   obtain⟨us,e,h⟩:=h
   exact⟨us,e,be.trans h (fun l hl=>hm l (by simpa [il]using hl)) ha hk⟩
theorem be.trans:∀ {vs:List AV} {us:List Value},be P μ ok w vs us→(∀l,ez l vs→μ' l=μ l)→aV ok w w'→(∀b,b<w.heap.size→ok b→ok' b)→be P μ' ok' w' vs us
 | [],_,h,_,_,_=>h
 |c::cs,_,h,hm,ha,hk=>by
  obtain⟨u,us',e,h1,h2⟩:=h
  exact⟨u,us',e,VA.trans h1 (fun l hl=>hm l (by simp[ez,hl])) ha hk,be.trans h2 (fun l hl=>hm l (by simp[ez,hl])) ha hk⟩
end
theorem bX.mono {t:Ty}:∀ {xs:List t.T} {cs:List Value},bX P ok w t xs cs→aV ok w w'→(∀b,b<w.heap.size→ok b→ok' b)→bX P ok' w' t xs cs
 | [],_,h,_,_=>h
 |_::_,_,h,ha,hk=>by
  obtain⟨u1,u2,e,h1,h2⟩:=h
  exact⟨u1,u2,e,(cL.mono t _ ha hk).1 _ h1,bX.mono h2 ha hk⟩
theorem be.length:∀ {vs:List AV} {us:List Value},be P μ ok w vs us→us.length=vs.length
 | [],_,h=>by have h:_=_:=h;subst h;rfl
 |c::cs,_,h=>by
  obtain⟨u,us',rfl,_,h2⟩:=h
  simp[be.length h2]
theorem be.get:∀ {vs:List AV} {us:List Value} {i:Nat} {v:AV},be P μ ok w vs us→vs[i]? =some v→∃u,us[i]? =some u∧VA P μ ok w v u
 | [],_,_,_,_,hi=>by simp at hi
 |c::cs,_,0,_,h,hi=>by
  obtain⟨u,us',rfl,h1,_⟩:=h
  simp at hi;subst hi;exact⟨u,rfl,h1⟩
 |c::cs,_,i+1,_,h,hi=>by
  obtain⟨u,us',rfl,_,h2⟩:=h
  simpa using be.get h2 (by simpa using hi)
theorem be.app:∀ {vs vs':List AV} {us us':List Value},be P μ ok w vs us→be P μ ok w vs' us'→be P μ ok w (vs++vs') (us++us')
 | [],_,_,_,h,h'=>by have h:_=_:=h;subst h;exact h'
 |c::cs,_,_,_,h,h'=>by
  obtain⟨u,us',rfl,h1,h2⟩:=h
  exact⟨u,_,rfl,h1,be.app h2 h'⟩
theorem be.take:∀ {vs:List AV} {us:List Value} (n:Nat),be P μ ok w vs us→be P μ ok w (vs.take n) (us.take n)
 |_,_,0,_=>by simp[be]
 | [],_,n+1,h=>by have h:_=_:=h;subst h;simp[be]
 |c::cs,_,n+1,h=>by
  obtain⟨u,us',rfl,h1,h2⟩:=h
  exact⟨u,_,rfl,h1,be.take n h2⟩
theorem be.drop:∀ {vs:List AV} {us:List Value} (n:Nat),be P μ ok w vs us→be P μ ok w (vs.drop n) (us.drop n)
 |_,_,0,h=>by simpa using h
 | [],_,n+1,h=>by have h:_=_:=h;subst h;simp[be]
 |c::cs,_,n+1,h=>by
  obtain⟨u,us',rfl,h1,h2⟩:=h
  simpa using be.drop n h2
theorem ml:∀(t:Ty) (x:t.T) (us:List Value),CR P ok w t x us→be P μ ok w (gh t x) us
 | .unit,_,us,h=>h
 | .pair a b,x,us,h=>by
   obtain⟨u1,u2,rfl,h1,h2⟩:=h
   exact be.app (ml a x.1 u1 h1) (ml b x.2 u2 h2)
 | .int k,x,us,h=>by have h':_=_:=h;subst h';exact⟨_,_,rfl,by simpa [VA,aK,Ty.isAgg]using h,rfl⟩
 | .bool,x,us,h=>by have h':_=_:=h;subst h';exact⟨_,_,rfl,by simpa [VA,aK,Ty.isAgg]using h,rfl⟩
 | .nil,x,us,h=>by have h':_=_:=h;subst h';exact⟨_,_,rfl,by simpa [VA,aK,Ty.isAgg]using h,rfl⟩
 | .str,x,us,h=>by have h':_=_:=h;subst h';exact⟨_,_,rfl,by simpa [VA,aK,Ty.isAgg]using h,rfl⟩
 | .list t,x,us,h=>by
   have h':=h
   obtain⟨v,rfl,_⟩:=h
   exact⟨v,[],rfl,by simpa [VA,aK,Ty.isAgg]using h',rfl⟩
 | .ptr t,x,us,h=>by
   have h':=h
   obtain⟨b,o,us,rfl,_⟩:=h
   exact⟨_,[],rfl,by simpa [VA,aK,Ty.isAgg]using h',rfl⟩
 | .fn a r,x,us,h=>by
   have h':=h
   obtain⟨f,caps,rfl,_⟩:=h
   exact⟨_,[],rfl,by simpa [VA,aK,Ty.isAgg]using h',rfl⟩
 | .own e t,x,us,h=>by
   have h':=h
   obtain⟨v,rfl,_⟩:=h
   exact⟨v,[],rfl,by simpa [VA,aK,Ty.isAgg]using h',rfl⟩
 | .box t,x,us,h=>by
   have h':=h
   obtain⟨b,o,us,rfl,_⟩:=h
   exact⟨_,[],rfl,by simpa [VA,aK,Ty.isAgg]using h',rfl⟩
 | .nptr t,x,us,h=>by
   have h':=h
   have:∃v,us= [v]:=by obtain⟨_,rfl⟩|⟨_,_,_,_,_,rfl,_⟩:=h<;>exact⟨_,rfl⟩
   obtain⟨v,rfl⟩:=this
   exact⟨_,[],rfl,by simpa [VA,aK,Ty.isAgg]using h',rfl⟩
theorem H1:∀(t:Ty) (x:t.T),(gh t x).length=t.size
 | .unit,_=>rfl
 | .pair a b,x=>by simp[gh,Ty.size,H1 a,H1 b]
 | .int k,_=>rfl
 | .bool,_=>rfl
 | .str,_=>rfl
 | .list t,_=>rfl
 | .ptr t,_=>rfl
 | .fn a r,_=>rfl
 | .own _ _,_=>rfl
 | .box _,_=>rfl
 | .nptr _,_=>rfl
 | .nil,_=>rfl
theorem ov {ok:Nat→Prop}{w:World}{l:Nat}{e:TypeId}{t:Ty}{xs:List t.T}(ht:t.owned=false):OA P μ ok w l (.arr e t xs)↔∃cells,w.ownsRow 0 e t.size (μ l) xs.length cells∧bX P ok w t xs cells:=by
 simp[OA,ht]
theorem wX {base:Nat}{e:TypeId}{size n:Nat}{v:Value}{xs:List Value}(h:w.ownsRow base e size v n xs)(hb:∀b,bH v=some b→w'.heap[b]? =w.heap[b]?):w'.ownsRow base e size v n xs:=by
 obtain⟨h1,hn|⟨g,cap,cur,rfl,h2,hg,h3⟩⟩:=h
 ·exact⟨h1,.inl hn⟩
 ·exact⟨h1,.inr ⟨g,cap,cur,rfl,h2,by rw[hb g rfl];exact hg,h3⟩⟩
theorem dD.mono {α:Type}{R R':α→List Value→List Nat→Prop}:∀ {xs:List α} {cs:List Value} {bs:List Nat},dD R xs cs bs→(∀x us b1,(∀b ∈ b1,b ∈ bs)→R x us b1→R' x us b1)→dD R' xs cs bs
 | [],_,_,h,_=>h
 |x::xs,_,_,h,hr=>by
  obtain⟨u1,u2,b1,b2,e1,e2,h1,h2⟩:=h
  subst e2
  exact⟨u1,u2,b1,b2,e1,rfl,hr _ _ _ (fun b hb=>by simp[hb]) h1,dD.mono h2 fun x us b3 hb=>hr x us b3 fun b h=>by simp[hb b h]⟩
theorem aR.mono:∀(t:Ty) {x:t.T} {us:List Value} {bs:List Nat},aR P ok w t x us bs→aV ok w w'→(∀b,b<w.heap.size→ok b→ok' b)→(∀b ∈ bs,w'.heap[b]? =w.heap[b]?)→aR P ok' w' t x us bs
 | .own e t,x,us,bs,h,ha,hk,hb=>by
   obtain⟨v,cells,bs',rfl,h1,h2,rfl⟩:=h
   refine⟨v,cells,bs',rfl,wX h1 (fun b h=>hb b (by simp[h])),h2.mono fun x us b1 hb1 h=>aR.mono t h ha hk fun b h=>hb b (by simp[hb1 b h]),rfl⟩
 | .box t,x,us,bs,h,ha,hk,hb=>by
   obtain⟨b,us,E,bs',rfl,h1,h2,h3,rfl⟩:=h
   exact⟨b,us,E,bs',rfl,by rw[hb b (by simp)];exact h1,h2,aR.mono t h3 ha hk fun b h=>hb b (by simp[h]),rfl⟩
 | .pair a b,x,us,bs,h,ha,hk,hb=>by
   obtain⟨u1,u2,b1,b2,rfl,rfl,h1,h2⟩:=h
   exact⟨u1,u2,b1,b2,rfl,rfl,aR.mono a h1 ha hk fun b h=>hb b (by simp[h]),aR.mono b h2 ha hk fun b h=>hb b (by simp[h])⟩
 | .int k,x,us,bs,h,ha,hk,hb=>⟨(cL.mono _ x ha hk).1 _ h.1,h.2⟩
 | .bool,x,us,bs,h,ha,hk,hb=>⟨(cL.mono _ x ha hk).1 _ h.1,h.2⟩
 | .str,x,us,bs,h,ha,hk,hb=>⟨(cL.mono _ x ha hk).1 _ h.1,h.2⟩
 | .unit,x,us,bs,h,ha,hk,hb=>⟨(cL.mono _ x ha hk).1 _ h.1,h.2⟩
 | .list t,x,us,bs,h,ha,hk,hb=>⟨(cL.mono _ x ha hk).1 _ h.1,h.2⟩
 | .ptr t,x,us,bs,h,ha,hk,hb=>⟨(cL.mono _ x ha hk).1 _ h.1,h.2⟩
 | .nptr t,x,us,bs,h,ha,hk,hb=>⟨(cL.mono _ x ha hk).1 _ h.1,h.2⟩
 | .nil,x,us,bs,h,ha,hk,hb=>⟨(cL.mono _ x ha hk).1 _ h.1,h.2⟩
 | .fn a r,x,us,bs,h,ha,hk,hb=>⟨(cL.mono _ x ha hk).1 _ h.1,h.2⟩
theorem aR.pure:∀(t:Ty) {x:t.T} {us:List Value} {bs:List Nat},t.owned=false→aR P ok w t x us bs→CR P ok w t x us∧bs= []
 | .own _ _,_,_,_,h,_=>by simp[Ty.owned]at h
 | .box _,_,_,_,h,_=>by simp[Ty.owned]at h
 | .pair a b,x,us,bs,ho,h=>by
   simp only[Ty.owned,Bool.or_eq_false_iff]at ho
   obtain⟨u1,u2,b1,b2,rfl,rfl,h1,h2⟩:=h
   obtain⟨c1,rfl⟩:=aR.pure a ho.1 h1
   obtain⟨c2,rfl⟩:=aR.pure b ho.2 h2
   exact⟨⟨u1,u2,rfl,c1,c2⟩,rfl⟩
 | .int k,x,us,bs,_,h=>h
 | .bool,x,us,bs,_,h=>h
 | .str,x,us,bs,_,h=>h
 | .unit,x,us,bs,_,h=>h
 | .list t,x,us,bs,_,h=>h
 | .ptr t,x,us,bs,_,h=>h
 | .nptr t,x,us,bs,_,h=>h
 | .nil,x,us,bs,_,h=>h
 | .fn a r,x,us,bs,_,h=>h
theorem aR.of:∀(t:Ty) {x:t.T} {us:List Value},t.owned=false→CR P ok w t x us→aR P ok w t x us []
 | .own _ _,_,_,h,_=>by simp[Ty.owned]at h
 | .box _,_,_,h,_=>by simp[Ty.owned]at h
 | .pair a b,x,us,ho,h=>by
   simp only[Ty.owned,Bool.or_eq_false_iff]at ho
   obtain⟨u1,u2,rfl,h1,h2⟩:=h
   exact⟨u1,u2,[],[],rfl,rfl,aR.of a ho.1 h1,aR.of b ho.2 h2⟩
 | .int k,x,us,_,h=>⟨h,rfl⟩
 | .bool,x,us,_,h=>⟨h,rfl⟩
 | .str,x,us,_,h=>⟨h,rfl⟩
 | .unit,x,us,_,h=>⟨h,rfl⟩
 | .list t,x,us,_,h=>⟨h,rfl⟩
 | .ptr t,x,us,_,h=>⟨h,rfl⟩
 | .nptr t,x,us,_,h=>⟨h,rfl⟩
 | .nil,x,us,_,h=>⟨h,rfl⟩
 | .fn a r,x,us,_,h=>⟨h,rfl⟩
end
def ax(A:Nat→Prop)(μ:Nm)(af:AF)(b:Nat):Prop:=A b∧∀l o,af.obj l=some o→¬μ.has l b
structure aM (P:Program) (C:Cx) (μ:Nm) (af:AF) (a:Act) (w:World):Prop where
 defers:a.defers= []
 tl:a.tmps.size=af.tmps.length
 tmps:∀t x,af.tmps[t]? =some x→VA P μ (ax C.A μ af) w x (a.tmps.getD t undef)
 objs:∀l o,af.obj l=some o→OA P μ (ax C.A μ af) w l o
 wr:∀l o b,af.obj l=some o→μ.has l b→C.Wr b∧C.A b∧b<w.heap.size
 inj:∀l l' o o' b,af.obj l=some o→af.obj l'=some o'→μ.has l b→μ.has l' b→l=l'
 fr:∀b,w.heap.size≤b→C.A b∧C.Wr b
 chg:af.lock=true∨∀b,C.Wr b→C.Ch b
 frc:∀b,w.heap.size≤b→C.Ch b
 fix:∀s v,C.V s=some v→a.tmps.getD s undef=v
def St(P:Program)(C:Cx)(w0:World)(af:AF)(a:Act)(w:World):Prop:=ar C.Ch w0 w∧∃μ,aM P C μ af a w
end Go.Proofs.YtkgcbbkodalfmaaGreatDoor
