import Derived.Test.YtnambbcafhnhpaaGreatDoorPure
import Derived.Test.YtnambbcafhnhpaaGreatDoorHol
namespace Go.Proofs.YtnambbcafhnhpaaGreatDoor
open Go.RowKit
set_option linter.unusedVariables false
set_option linter.unusedSimpArgs false
section
variable {P:Program} {C:Cx} {μ:Nm} {af:AF} {a:Act} {w w':World}
theorem dY(hS:a8 P C μ af a w){l:Nat}{o:AO}{b:Nat}(ho:af.obj l=some o)(hb:μ.has l b):b<w.heap.size:=(hS.wr l o b ho hb).2.2
def acU(m:Nat):AO→Prop
 | .box cs=>eX m cs
 | .arr _ _ _=>False
 | .hol _ _ _ _ _ _ d=>d=m
theorem OA.trans {μ':Nm}{ok ok':Nat→Prop}{l:Nat}{o:AO}(h:OA P μ ok w l o)(hl:μ'.v l=μ.v l)(hx:μ'.x l=μ.x l)(hm:∀m,acU m o→μ'.v m=μ.v m)
  (ha:br ok w w') (hk:∀b,b<w.heap.size→ok b→ok' b) (hb:∀b,μ.has l b→w'.heap[b]? =w.heap[b]?):OA P μ' ok' w' l o:=by
 cases o with
 |box cs=>
  obtain⟨b,us,E,e,hg,hv,h1⟩:=h
  exact⟨b,us,E,hl.trans e,by rw[hb b (.inl (by rw[e];rfl))];exact hg,bE.trans hv (fun m hr=>hm m hr) ha hk,h1⟩
 |arr e t xs=>
  obtain⟨cells,h1,h2⟩:=h
  refine⟨cells,by rw[hl];exact yZ h1 (fun b h=>hb b (.inl h)), ?_⟩
  split
  ·rename_i ht
   rw[if_pos ht]at h2
   obtain⟨bs,h3,h4,h5⟩:=h2
   exact⟨bs,h3.mono fun x us b1 hb1 h=>bm.mono t h ha hk fun b hbm=>hb b (.inr (h5 b (hb1 b hbm)).2),h4,fun b hbm=>by rw[hl,hx];exact h5 b hbm⟩
  ·rename_i ht
   rw[if_neg ht]at h2
   exact h2.mono ha hk
 |hol e t xs i x off d=>
  obtain⟨cells,bs,h1,h2,h3,h4,h5⟩:=h
  refine⟨cells,bs,by rw[hl];exact yZ h1 (fun b h=>hb b (.inl h)),h2, ?_,h4,fun b hbm=>by rw[hl,hx];exact h5 b hbm⟩
  rw[hm d rfl]
  exact h3.mono ha hk fun b hbm=>hb b (.inr (h5 b hbm).2)
theorem a8.grow(hS:a8 P C μ af a w)(hk:aG vI w w'):a8 P C μ af a w':=by
 have ha:br (aO C.A μ af) w w':=hk.agree fun _ _ _ h=>h
 refine⟨hS.defers,hS.tl,fun t x hx=>(hS.tmps t x hx).trans (fun _ _=>rfl) ha (fun _ _ h=>h),
  fun l o ho=>(hS.objs l o ho).trans rfl rfl (fun _ _=>rfl) ha (fun _ _ h=>h) (fun b hb=>hk.block b (dY hS ho hb) id),
  fun l o b ho hb=> ?_,hS.inj,fun b hb=>hS.fr b (Nat.le_trans hk.size hb),hS.chg,fun b hb=>hS.frc b (Nat.le_trans hk.size hb),hS.fix⟩
 obtain⟨h1,h2,h3⟩:=hS.wr l o b ho hb
 exact⟨h1,h2,Nat.lt_of_lt_of_le h3 hk.size⟩
structure eu (af1 af:AF):Prop where
 lk:af1.lock=af.lock
 len:af1.tmps.length=af.tmps.length
 tmps:∀(t:Nat) x,af1.tmps[t]? =some x→x=AV.junk∨af.tmps[t]? =some x
 box:∀l cs,af1.obj l=some (.box cs)→∃cs',af.obj l=some (.box cs')∧cs.length=cs'.length∧∀(i:Nat) c,cs[i]? =some c→c=AV.junk∨cs'[i]? =some c
 arr:∀l e t xs,af1.obj l=some (.arr e t xs)→af.obj l=some (.arr e t xs)
 hol:∀l e t xs i x off d,af1.obj l=some (.hol e t xs i x off d)→af.obj l=some (.hol e t xs i x off d)
theorem eu.refl(af:AF):eu af af:=⟨rfl,rfl,fun _ _ h=>.inr h,fun _ cs h=>⟨cs,h,rfl,fun _ _ h=>.inr h⟩,fun _ _ _ _ h=>h,fun _ _ _ _ _ _ _ _ h=>h⟩
theorem eu.obj {af1 af:AF}(h:eu af1 af){l:Nat}{o:AO}(ho:af1.obj l=some o):∃o',af.obj l=some o':=by
 cases o with
 |box cs=>obtain⟨cs',h1,_⟩:=h.box l cs ho;exact⟨_,h1⟩
 |arr e t xs=>exact⟨_,h.arr l e t xs ho⟩
 |hol e t xs i x off d=>exact⟨_,h.hol l e t xs i x off d ho⟩
theorem y3(l:Nat)(v:AV):v.scrub l=AV.junk∨v.scrub l=v:=by
 unfold AV.scrub;split
 ·exact .inl rfl
 ·exact .inr rfl
theorem vK:∀(os:List (Nat×AO)) (l m:Nat),lk (Ik os l) m=if m=l then none else lk os m
 | [],l,m=>by simp[Ik,lk]
 |(k,o)::r,l,m=>by
  simp only[Ik,lk]
  by_cases h:k=l
  ·subst h
   rw[if_pos rfl,vK r k m]
   by_cases h2:m=k
   ·simp[h2]
   ·have h3:¬k=m:=fun e=>h2 e.symm
    simp[h2,h3]
  ·rw[if_neg h]
   simp only[lk,vK r l m]
   by_cases h2:k=m
   ·subst h2;simp[h]
   ·simp[h2]
theorem KF(f:AO→AO):∀(os:List (Nat×AO)) (m:Nat),lk (QO f os) m=(lk os m).map f
 | [],m=>rfl
 |(k,o)::r,m=>by
  simp only[QO,lk]
  split
  ·rfl
  ·exact KF f r m
theorem aa9:∀(os os':List (Nat×AO)) (m:Nat),lk (os++os') m=match lk os m with|some o=>some o|none=>lk os' m
 | [],_,_=>rfl
 |(k,o)::r,os',m=>by
  simp only[List.cons_append,lk]
  split
  ·rfl
  ·exact aa9 r os' m
theorem Da:∀ {os:List (Nat×AO)} {l:Nat} {o:AO},lk os l=some o→(l,o) ∈ os
 |(k,o')::r,l,o,h=>by
  simp only[lk]at h
  split at h
  ·rename_i e;subst e;cases h;exact List.mem_cons_self
  ·exact List.mem_cons_of_mem _ (Da h)
theorem kX(af:AF)(l m:Nat):(af.drop l).obj m=if m=l then none else(af.obj m).map (AO.scrub l):=by
 unfold AF.drop AF.obj
 simp only[KF,vK]
 split<;>rfl
theorem eu.drop(af:AF)(l:Nat):eu (af.drop l) af:=by
 refine⟨rfl,by simp[AF.drop],fun t x hx=> ?_,fun m cs hm=> ?_,fun m e t xs hm=> ?_,fun m e t xs i x off d hm=> ?_⟩
 ·simp only[AF.drop,List.getElem?_map,Option.map_eq_some_iff]at hx
  obtain⟨y,hy,rfl⟩:=hx
  rcases y3 l y with h|h
  ·exact .inl h
  ·exact .inr (by rw[h];exact hy)
 ·rw[kX]at hm
  split at hm
  ·cases hm
  ·simp only[Option.map_eq_some_iff]at hm
   obtain⟨o,ho,e⟩:=hm
   cases o with
   |arr _ _ _=>simp[AO.scrub]at e
   |hol _ _ _ _ _ _ _=>simp[AO.scrub]at e
   |box cs'=>
    simp[AO.scrub]at e;subst e
    refine⟨cs',ho,by simp,fun i c hc=> ?_⟩
    simp only[List.getElem?_map,Option.map_eq_some_iff]at hc
    obtain⟨y,hy,rfl⟩:=hc
    rcases y3 l y with h|h
    ·exact .inl h
    ·exact .inr (by rw[h];exact hy)
 ·rw[kX]at hm
  split at hm
  ·cases hm
  ·simp only[Option.map_eq_some_iff]at hm
   obtain⟨o,ho,e'⟩:=hm
   cases o with
   |box cs'=>simp[AO.scrub]at e'
   |arr e2 t2 xs2=>simp only[AO.scrub]at e';rw[ho,e']
   |hol _ _ _ _ _ _ _=>simp[AO.scrub]at e'
 ·rw[kX]at hm
  split at hm
  ·cases hm
  ·simp only[Option.map_eq_some_iff]at hm
   obtain⟨o,ho,e'⟩:=hm
   cases o with
   |box cs'=>simp[AO.scrub]at e'
   |arr _ _ _=>simp[AO.scrub]at e'
   |hol _ _ _ _ _ _ _=>simp only[AO.scrub]at e';rw[ho,e']
theorem Yx {ok:Nat→Prop}:∀ {cs cs':List AV} {us:List Value},bE P μ ok w cs' us→cs.length=cs'.length→(∀(i:Nat) c,cs[i]? =some c→c=AV.junk∨cs'[i]? =some c)→bE P μ ok w cs us
 | [],[],_,h,_,_=>h
 |c::cs,c'::cs',_,h,hl,hc=>by
  obtain⟨u,us',rfl,h1,h2⟩:=h
  refine⟨u,us',rfl, ?_,Yx h2 (by simpa using hl) fun i x hx=>by simpa using hc (i+1) x (by simpa using hx)⟩
  rcases hc 0 c rfl with rfl|h
  ·trivial
  ·simp at h;subst h;exact h1
 | [],_::_,_,_,hl,_=>by simp at hl
 |_::_,[],_,_,hl,_=>by simp at hl
theorem AN {d:Nat}(h:af.noref d=true){t:Nat}{x:AV}(hx:af.tmps[t]? =some x):¬jD d x:=by
 simp only[AF.noref,Bool.and_eq_true,List.all_eq_true]at h
 have:=h.1 x (List.mem_of_getElem? hx)
 exact jD.of (by simpa using this)
theorem aba {d:Nat}(h:af.noref d=true){l:Nat}{cs:List AV}(hx:af.obj l=some (.box cs)):¬eX d cs:=by
 simp only[AF.noref,Bool.and_eq_true,List.all_eq_true]at h
 have:=h.2 _ (Da hx)
 exact eX.of (by simpa [AO.refs]using this)
theorem nN(d:Nat)(o:Option AO)(l:Nat):(af.putObj d o).obj l=if l=d then o else af.obj l:=by
 unfold AF.putObj AF.obj
 cases o with
 |none=>simp only[vK]
 |some o=>
  simp only[lk,vK]
  by_cases h:d=l
  ·subst h;simp
  ·have h':¬l=d:=fun e=>h e.symm
   simp[h,h']
def QW:AO→AO→Prop
 | .box cs,o0=>∃cs',o0= .box cs'∧cs.length=cs'.length∧∀(i:Nat) c,cs[i]? =some c→c=AV.junk∨cs'[i]? =some c
 | .arr e t xs,o0=>o0= .arr e t xs
 | .hol e t xs i x off d,o0=>o0= .hol e t xs i x off d
theorem QW.refl:∀o:AO,QW o o
 | .box cs=>⟨cs,rfl,rfl,fun _ _ h=>.inr h⟩
 | .arr _ _ _=>rfl
 | .hol _ _ _ _ _ _ _=>rfl
theorem eu.objO {af1 af:AF}(h:eu af1 af){l:Nat}{o:AO}(ho:af1.obj l=some o):∃o0,af.obj l=some o0∧QW o o0:=by
 cases o with
 |box cs=>obtain⟨cs',h1,h2⟩:=h.box l cs ho;exact⟨_,h1,cs',rfl,h2⟩
 |arr e t xs=>exact⟨_,h.arr l e t xs ho,rfl⟩
 |hol e t xs i x off d=>exact⟨_,h.hol l e t xs i x off d ho,rfl⟩
theorem OA.sub {ok:Nat→Prop}{l:Nat}{o o0:AO}(h:OA P μ ok w l o0)(hs:QW o o0):OA P μ ok w l o:=by
 cases o with
 |box cs=>
  obtain⟨cs',rfl,h2,h3⟩:=hs
  obtain⟨b,us,E,e,hg,hv,h4⟩:=h
  exact⟨b,us,E,e,hg,Yx hv h2 h3,h4⟩
 |arr e t xs=>
  have hs:o0= .arr e t xs:=hs
  rw[←hs];exact h
 |hol e t xs i x off d=>
  have hs:o0= .hol e t xs i x off d:=hs
  rw[←hs];exact h
theorem yg {d:Nat}(h:af.noref d=true){l:Nat}{o:AO}(hx:af.obj l=some o):¬acU d o:=by
 cases o with
 |box cs=>exact aba h hx
 |arr _ _ _=>exact id
 |hol e t xs i x off d'=>
  simp only[AF.noref,Bool.and_eq_true,List.all_eq_true]at h
  have:=h.2 _ (Da hx)
  simp[AO.refs]at this
  exact fun e=>this e
theorem a8.renew(hS:a8 P C μ af a w){af':AF}{μ':Nm}{N:Nat→Prop}{d:Option Tmp}{u:Value}(hlen:af'.tmps.length=af.tmps.length)(hlk:af'.lock=af.lock)(hd:∀d',d=some d'→C.V d'=none)
  (hz:w.heap.size≤w'.heap.size) (ha:br (aO C.A μ af) w w')
  (hm:∀l b,N l→af'.obj l≠none→μ'.has l b→b<w'.heap.size∧(w.heap.size≤b∨∃l' o',af.obj l'=some o'∧(∀o,af'.obj l'=some o→N l')∧μ.has l' b))
  (hinj:∀l l' b,N l→N l'→af'.obj l≠none→af'.obj l'≠none→μ'.has l b→μ'.has l' b→l=l')
  (hold:∀l o,af'.obj l=some o→¬N l→μ'.v l=μ.v l∧μ'.x l=μ.x l∧(∀b,μ.has l b→w'.heap[b]? =w.heap[b]?)∧(∃o0,af.obj l=some o0∧QW o o0)∧∀m,acU m o→μ'.v m=μ.v m)
  (hnew:(∀b,b<w.heap.size→aO C.A μ af b→aO C.A μ' af' b)→(∀b,w.heap.size≤b→(∀l,N l→af'.obj l≠none→¬μ'.has l b)→aO C.A μ' af' b)→∀l o,af'.obj l=some o→N l→OA P μ' (aO C.A μ' af') w' l o)
  (htmps:(∀b,b<w.heap.size→aO C.A μ af b→aO C.A μ' af' b)→(∀b,w.heap.size≤b→(∀l,N l→af'.obj l≠none→¬μ'.has l b)→aO C.A μ' af' b)→
    ∀(t:Nat) x,af'.tmps[t]? =some x→x= .junk∨(d=some t∧VA P μ' (aO C.A μ' af') w' x u)∨(d≠some t∧af.tmps[t]? =some x∧∀l,jD l x→μ'.v l=μ.v l)):
  a8 P C μ' af' (a.put d u) w':=by
 have hok:∀b,b<w.heap.size→aO C.A μ af b→aO C.A μ' af' b:=by
  intro b hb ⟨h1,h2⟩
  refine⟨h1,fun l o ho hh=> ?_⟩
  by_cases hN:N l
  ·rcases(hm l b hN (by rw[ho];simp) hh).2 with h|⟨l',o',h3,_,h4⟩
   ·omega
   ·exact h2 l' o' h3 h4
  ·obtain⟨e1,e2,_,⟨o0,h3,_⟩,_⟩:=hold l o ho hN
   refine h2 l o0 h3 ?_
   unfold Nm.has at hh ⊢
   rw[e1,e2]at hh;exact hh
 have hok2:∀b,w.heap.size≤b→(∀l,N l→af'.obj l≠none→¬μ'.has l b)→aO C.A μ' af' b:=by
  intro b hb hn
  refine⟨(hS.fr b hb).1,fun l o ho hh=> ?_⟩
  by_cases hN:N l
  ·exact hn l hN (by rw[ho];simp) hh
  ·obtain⟨e1,e2,_,⟨o0,h3,_⟩,_⟩:=hold l o ho hN
   have:μ.has l b:=by unfold Nm.has at hh ⊢;rw[e1,e2]at hh;exact hh
   have:=dY hS h3 this
   omega
 have hsame:∀l o,af'.obj l=some o→¬N l→∀b,μ'.has l b↔μ.has l b:=by
  intro l o ho hN b
  obtain⟨e1,e2,_⟩:=hold l o ho hN
  unfold Nm.has;rw[e1,e2]
 refine⟨by cases d<;>exact hS.defers, ?_, ?_, ?_, ?_, ?_,fun b hb=>hS.fr b (Nat.le_trans hz hb),by rw[hlk];exact hS.chg,fun b hb=>hS.frc b (Nat.le_trans hz hb),Yv hd u hS.fix⟩
 ·rw[hlen,←hS.tl];cases d<;>simp[Act.put]
 ·intro t x hx
  rcases htmps hok hok2 t x hx with rfl|⟨rfl,h⟩|⟨hne,h,hr⟩
  ·trivial
  ·have hlt:=(List.getElem?_eq_some_iff.1 hx).1
   have:t<a.tmps.size:=by rw[hS.tl,←hlen];exact hlt
   simpa [Act.put,this]using h
  ·have e:(a.put d u).tmps.getD t undef=a.tmps.getD t undef:=by
    cases d with
    |none=>rfl
    |some d=>
     have hdt:d≠t:=fun e=>hne (by rw[e])
     simp[Act.put,Array.getElem?_setIfInBounds_ne hdt]
   rw[e]
   exact(hS.tmps t x h).trans hr ha hok
 ·intro l o ho
  by_cases hN:N l
  ·exact hnew hok hok2 l o ho hN
  ·obtain⟨e1,e2,hb,⟨o0,h3,hs⟩,hr⟩:=hold l o ho hN
   exact OA.trans (OA.sub (hS.objs l o0 h3) hs) e1 e2 (fun m h=>hr m h) ha hok hb
 ·intro l o b ho hb
  by_cases hN:N l
  ·obtain⟨h1,h2⟩:=hm l b hN (by rw[ho];simp) hb
   rcases h2 with h|⟨l',o',h3,_,h4⟩
   ·exact⟨(hS.fr b h).2,(hS.fr b h).1,h1⟩
   ·obtain⟨h5,h6,_⟩:=hS.wr l' o' b h3 h4
    exact⟨h5,h6,h1⟩
  ·obtain⟨_,_,_,⟨o0,h3,_⟩,_⟩:=hold l o ho hN
   obtain⟨h1,h2,h4⟩:=hS.wr l o0 b h3 ((hsame l o ho hN b).1 hb)
   exact⟨h1,h2,Nat.lt_of_lt_of_le h4 hz⟩
 ·intro l l' o o' b ho ho' hb hb'
  have key:∀l l' o o',af'.obj l=some o→af'.obj l'=some o'→N l→¬N l'→μ'.has l b→μ'.has l' b→l=l':=by
   intro l l' o o' ho ho' hN hN' hb hb'
   obtain⟨_,_,_,⟨o0,h3,_⟩,_⟩:=hold l' o' ho' hN'
   have hb2:=(hsame l' o' ho' hN' b).1 hb'
   rcases(hm l b hN (by rw[ho];simp) hb).2 with h|⟨l2,o2,h4,h5,h6⟩
   ·have:=dY hS h3 hb2;omega
   ·have:=hS.inj l' l2 o0 o2 b h3 h4 hb2 h6
    subst this
    exact absurd (h5 o' ho') hN'
  by_cases hN:N l
  ·by_cases hN':N l'
   ·exact hinj l l' b hN hN' (by rw[ho];simp) (by rw[ho'];simp) hb hb'
   ·exact key l l' o o' ho ho' hN hN' hb hb'
  ·by_cases hN':N l'
   ·exact(key l' l o' o ho' ho hN' hN hb' hb).symm
   ·obtain⟨_,_,_,⟨o0,h3,_⟩,_⟩:=hold l o ho hN
    obtain⟨_,_,_,⟨o1,h4,_⟩,_⟩:=hold l' o' ho' hN'
    exact hS.inj l l' o0 o1 b h3 h4 ((hsame l o ho hN b).1 hb) ((hsame l' o' ho' hN' b).1 hb')
def tm(μ:Nm)(d:Nat)(m:Value):Nm:=⟨fun l=>if l=d then m else μ l,fun l b=>if l=d then False else μ.x l b⟩
theorem Yy(μ:Nm)(d:Nat)(m:Value)(b:Nat):(tm μ d m).has d b↔ck m=some b:=by simp[tm,Nm.has]
theorem a8.next(hS:a8 P C μ af a w){af1:AF}(hsub:eu af1 af){d:Nat}(hV:C.V d=none)(hnone:af1.obj d=none)(hnr:af1.noref d=true){o:AO}{m:Value}{v:AV}{u:Value}
  (hz:w.heap.size≤w'.heap.size) (ha:br (aO C.A μ af) w w') (hkept:∀l o b,af1.obj l=some o→μ.has l b→w'.heap[b]? =w.heap[b]?)
  (hm:∀b,ck m=some b→b<w'.heap.size∧(w.heap.size≤b∨∃l o,af.obj l=some o∧af1.obj l=none∧μ.has l b))
  (hnew:∀ok',(∀b,b<w.heap.size→aO C.A μ af b→ok' b)→(∀b,w.heap.size≤b→ck m≠some b→ok' b)→OA P (tm μ d m) ok' w' d o) (hval:∀ok',(∀b,b<w.heap.size→aO C.A μ af b→ok' b)→(∀b,w.heap.size≤b→ck m≠some b→ok' b)→VA P (tm μ d m) ok' w' v u):
  a8 P C (tm μ d m) ((af1.putObj d (some o)).put (some d) v) (a.put (some d) u) w':=by
 have hob:∀l,((af1.putObj d (some o)).put (some d) v).obj l=if l=d then some o else af1.obj l:=fun l=>by rw[KD,nN]
 have hmu:∀l,l≠d→(tm μ d m).v l=μ.v l:=fun l h=>if_neg h
 have hmx:∀l,l≠d→(tm μ d m).x l=μ.x l:=fun l h=>by funext b;exact if_neg h
 have fresh:∀ {Q:Nat→Prop},(∀b,w.heap.size≤b→(∀l,l=d→((af1.putObj d (some o)).put (some d) v).obj l≠none→¬(tm μ d m).has l b)→Q b)→∀b,w.heap.size≤b→ck m≠some b→Q b:=by
  intro Q h b hb hne
  refine h b hb fun l hl _ hh=> ?_
  subst hl
  exact hne ((Yy μ l m b).1 hh)
 refine hS.renew (N:=fun l=>l=d) (d:=some d) (u:=u) ?_ hsub.lk (fun d' e=>by cases e;exact hV) hz ha ?_ ?_ ?_ ?_ ?_
 ·have:((af1.putObj d (some o)).put (some d) v).tmps.length=af1.tmps.length:=by simp[AF.put,AF.putObj]
  rw[this];exact hsub.len
 ·rintro l b rfl _ hb
  obtain⟨h1,h2⟩:=hm b ((Yy μ l m b).1 hb)
  refine⟨h1,h2.imp id ?_⟩
  rintro ⟨l',o',h3,h4,h5⟩
  refine⟨l',o',h3,fun o2 h6=> ?_,h5⟩
  rw[hob]at h6
  by_cases e:l'=l
  ·exact e
  ·rw[if_neg e,h4]at h6;cases h6
 ·rintro l l' b rfl rfl _ _ _ _;rfl
 ·intro l o' ho hl
  rw[hob,if_neg hl]at ho
  exact⟨hmu l hl,hmx l hl,fun b hb=>hkept l o' b ho hb,hsub.objO ho,fun k hr=>hmu k fun e=>yg hnr ho (e▸hr)⟩
 ·rintro h1 h2 l o' ho rfl
  rw[hob,if_pos rfl]at ho
  cases ho
  exact hnew _ h1 (fresh h2)
 ·intro h1 h2 t x hx
  simp only[AF.put,AF.putObj]at hx
  by_cases hdt:d=t
  ·subst hdt
   have hlt:d<af1.tmps.length:=by have:=(List.getElem?_eq_some_iff.1 hx).1;simpa using this
   rw[List.getElem?_set_self hlt]at hx
   simp at hx;subst hx
   exact .inr (.inl ⟨rfl,hval _ h1 (fresh h2)⟩)
  ·rw[List.getElem?_set_ne hdt]at hx
   rcases hsub.tmps t x hx with rfl|h
   ·exact .inl rfl
   ·exact .inr (.inr ⟨fun e=>hdt (by cases e;rfl),h,fun l hl=>hmu l fun e=>AN hnr hx (e▸hl)⟩)
theorem a8.stored(hS:a8 P C μ af a w){l:Nat}{o o':AO}{b:Nat}(ho:af.obj l=some o)(hb:ck (μ l)=some b)(hz:w'.heap.size=w.heap.size)(hother:∀k,k≠b→w'.heap[k]? =w.heap[k]?)
  (hnew:br (aO C.A μ af) w w'→OA P μ (aO C.A μ af) w' l o'):a8 P C μ (af.putObj l (some o')) a w':=by
 have ha:br (aO C.A μ af) w w':=⟨by omega,fun k hk _=>hother k fun e=>by subst e;exact hk.2 l o ho (.inl hb)⟩
 have hob:∀m,(af.putObj l (some o')).obj m=if m=l then some o' else af.obj m:=fun m=>nN l _ m
 have hlive:∀m o1,(af.putObj l (some o')).obj m=some o1→∃o2,af.obj m=some o2:=by
  intro m o1 h
  rw[hob]at h
  split at h
  ·rename_i e;subst e;exact⟨o,ho⟩
  ·exact⟨o1,h⟩
 have hok:aO C.A μ (af.putObj l (some o'))=aO C.A μ af:=by
  funext k
  apply propext
  constructor
  ·rintro ⟨h1,h2⟩
   refine⟨h1,fun m o1 hm=> ?_⟩
   by_cases e:m=l
   ·exact h2 m o' (by rw[hob,if_pos e])
   ·exact h2 m o1 (by rw[hob,if_neg e];exact hm)
  ·rintro ⟨h1,h2⟩
   refine⟨h1,fun m o1 hm=> ?_⟩
   obtain⟨o2,h⟩:=hlive m o1 hm
   exact h2 m o2 h
 refine⟨hS.defers,hS.tl, ?_, ?_, ?_, ?_,fun k hk=>hS.fr k (by omega),hS.chg,fun k hk=>hS.frc k (by omega),hS.fix⟩
 ·intro t x hx
  rw[hok]
  exact(hS.tmps t x hx).trans (fun _ _=>rfl) ha (fun _ _ h=>h)
 ·intro m o1 hm
  rw[hok]
  rw[hob]at hm
  split at hm
  ·rename_i e;subst e
   simp at hm;subst hm
   exact hnew ha
  ·rename_i e
   exact(hS.objs m o1 hm).trans rfl rfl (fun _ _=>rfl) ha (fun _ _ h=>h) (fun k hk=>hother k fun e'=>e (hS.inj m l o1 o k hm ho hk (.inl (e'▸hb))))
 ·intro m o1 k hm hk
  obtain⟨o2,h⟩:=hlive m o1 hm
  obtain⟨h1,h2,h3⟩:=hS.wr m o2 k h hk
  exact⟨h1,h2,by omega⟩
 ·intro m m' o1 o2 k h1 h2 hk hk'
  obtain⟨o3,h3⟩:=hlive m o1 h1
  obtain⟨o4,h4⟩:=hlive m' o2 h2
  exact hS.inj m m' o3 o4 k h3 h4 hk hk'
theorem ZC(af:AF)(l m:Nat)(d:AV):(af.freeze l d).obj m=if m=l then none else(af.obj m).map (AO.frz l d):=by
 unfold AF.freeze AF.obj
 simp only[KF,vK]
 split<;>rfl
theorem aeE {ok ok':Nat→Prop}{l:Nat}{d x:AV}{u:Value}(h:VA P μ ok w x u)(hk:∀b,b<w.heap.size→ok b→ok' b)(hd:VA P μ ok' w d (μ l)):VA P μ ok' w (AV.frz0 l d x) u:=by
 have gen:VA P μ ok' w (x.scrub l) u:=by
  rcases y3 l x with e|e
  ·rw[e];trivial
  ·rw[e];exact h.trans (fun _ _=>rfl) (br.refl _ _) hk
 cases x with
 |own m=>
  simp only[AV.frz0]
  split
  ·rename_i e;subst e
   have h:u=μ m:=h
   rw[h];exact hd
  ·exact h
 |_=>exact gen
theorem UU {ok ok':Nat→Prop}{l:Nat}{d:AV}(hk:∀b,b<w.heap.size→ok b→ok' b)(hd:VA P μ ok' w d (μ l)):∀ {cs:List AV} {us:List Value},bE P μ ok w cs us→bE P μ ok' w (cs.map (AV.frz0 l d)) us
 | [],_,h=>h
 |c::cs,_,h=>by
  obtain⟨u,us',rfl,h1,h2⟩:=h
  exact⟨u,us',rfl,aeE h1 hk hd,UU hk hd h2⟩
theorem abb {ok ok':Nat→Prop}{l:Nat}{d x:AV}{u:Value}(h:VA P μ ok w x u)(hk:∀b,b<w.heap.size→ok b→ok' b)(hd:VA P μ ok' w d (μ l)):VA P μ ok' w (AV.frz l d x) u:=by
 have gen:VA P μ ok' w (x.scrub l) u:=by
  rcases y3 l x with e|e
  ·rw[e];trivial
  ·rw[e];exact h.trans (fun _ _=>rfl) (br.refl _ _) hk
 cases x with
 |own m=>
  simp only[AV.frz]
  split
  ·rename_i e;subst e
   have h:u=μ m:=h
   rw[h];exact hd
  ·exact h
 |agg cs=>
  obtain⟨us,e,hv,h1⟩:=h
  exact⟨us,e,UU hk hd hv,h1⟩
 |_=>exact gen
theorem Yz {ok ok':Nat→Prop}{l:Nat}{d:AV}(hk:∀b,b<w.heap.size→ok b→ok' b)(hd:VA P μ ok' w d (μ l)):∀ {cs:List AV} {us:List Value},bE P μ ok w cs us→bE P μ ok' w (cs.map (AV.frz l d)) us
 | [],_,h=>h
 |c::cs,_,h=>by
  obtain⟨u,us',rfl,h1,h2⟩:=h
  exact⟨u,us',rfl,abb h1 hk hd,Yz hk hd h2⟩
theorem a8.freeze(hS:a8 P C μ af a w){l:Nat}{e:TypeId}{t:Ty}{xs:List t.T}(ho:af.obj l=some (.arr e t xs))(hnt:t.owned=false):
  a8 P C μ (af.freeze l (.dat (.list t) xs)) a w∧VA P μ (aO C.A μ (af.freeze l (.dat (.list t) xs))) w (.dat (.list t) xs) (μ l):=by
 have hob:=ZC af l
 have hlive:∀m o1,(af.freeze l (.dat (.list t) xs)).obj m=some o1→m≠l∧∃o2,af.obj m=some o2∧o1=o2.frz l (.dat (.list t) xs):=by
  intro m o1 h
  rw[hob]at h
  split at h
  ·cases h
  ·rename_i hne
   simp only[Option.map_eq_some_iff]at h
   obtain⟨o2,h2,e⟩:=h
   exact⟨hne,o2,h2,e.symm⟩
 have hk:∀b,b<w.heap.size→aO C.A μ af b→aO C.A μ (af.freeze l (.dat (.list t) xs)) b:=by
  rintro b _ ⟨h1,h2⟩
  refine⟨h1,fun m o1 hm=> ?_⟩
  obtain⟨_,o2,h,_⟩:=hlive m o1 hm
  exact h2 m o2 h
 have hd:VA P μ (aO C.A μ (af.freeze l (.dat (.list t) xs))) w (.dat (.list t) xs) (μ l):=by
  obtain⟨cells,h1,h2⟩:=(rg hnt).1 (hS.objs l _ ho)
  show aY _ _ _
  simp only[aY,Ty.isAgg]
  refine Zx h1 h2 hk fun b hb=> ?_
  refine⟨(hS.wr l _ b ho (.inl hb)).2.1,fun m o1 hm hbm=> ?_⟩
  obtain⟨hne,o2,h,_⟩:=hlive m o1 hm
  exact hne (hS.inj m l o2 _ b h ho hbm (.inl hb))
 refine⟨⟨hS.defers,by simp[AF.freeze,hS.tl], ?_, ?_, ?_, ?_,hS.fr,hS.chg,hS.frc,hS.fix⟩,hd⟩
 ·intro t' x hx
  simp only[AF.freeze,List.getElem?_map,Option.map_eq_some_iff]at hx
  obtain⟨y,hy,rfl⟩:=hx
  exact abb (hS.tmps t' y hy) hk hd
 ·intro m o1 hm
  obtain⟨_,o2,h,rfl⟩:=hlive m o1 hm
  have:=hS.objs m o2 h
  cases o2 with
  |arr _ _ _=>exact this.trans rfl rfl (fun _ _=>rfl) (br.refl _ _) hk (fun _ _=>rfl)
  |hol _ _ _ _ _ _ _=>exact this.trans rfl rfl (fun _ _=>rfl) (br.refl _ _) hk (fun _ _=>rfl)
  |box cs=>
   obtain⟨b,us,E,e,hg,hv,h1⟩:=this
   exact⟨b,us,E,e,hg,Yz hk hd hv,h1⟩
 ·intro m o1 b hm hb
  obtain⟨_,o2,h,_⟩:=hlive m o1 hm
  exact hS.wr m o2 b h hb
 ·intro m m' o1 o2 b h1 h2 hb hb'
  obtain⟨_,o3,h3,_⟩:=hlive m o1 h1
  obtain⟨_,o4,h4,_⟩:=hlive m' o2 h2
  exact hS.inj m m' o3 o4 b h3 h4 hb hb'
theorem a8.frzL(hS:a8 P C μ af a w)(l:Nat):a8 P C μ (af.frzL l) a w:=by
 unfold AF.frzL
 split
 ·rename_i e t xs ho
  split
  ·exact hS
  ·rename_i hn;exact(hS.freeze ho (by simpa using hn)).1
 ·exact hS
theorem a8.frzC:∀(cs:List AV) {af:AF},a8 P C μ af a w→a8 P C μ (af.frzC cs) a w
 | [],_,hS=>hS
 |c::r,af,hS=>by
  cases c with
  |own l=>exact a8.frzC r (hS.frzL l)
  |_=>exact a8.frzC r hS
theorem a8.frzV(hS:a8 P C μ af a w)(v:AV):a8 P C μ (af.frzV v) a w:=by
 cases v with
 |own l=>exact hS.frzL l
 |agg cs=>exact hS.frzC cs
 |_=>exact hS
theorem a8.frzRow:∀(t:Ty) (vs:List AV) {af:AF},a8 P C μ af a w→a8 P C μ (af.frzRow t vs) a w
 | .pair t r,v::vs,af,hS=>by
   unfold AF.frzRow
   refine a8.frzRow r vs ?_
   split
   ·exact hS
   ·exact hS.frzV v
 | .pair _ _,[],_,hS=>hS
 | .unit,_,_,hS=>hS
 | .int _,_,_,hS=>hS
 | .bool,_,_,hS=>hS
 | .str,_,_,hS=>hS
 | .list _,_,_,hS=>hS
 | .ptr _,_,_,hS=>hS
 | .fn _ _,_,_,hS=>hS
 | .own _ _,_,_,hS=>hS
 | .box _,_,_,hS=>hS
 | .nptr _,_,_,hS=>hS
 | .nil,_,_,hS=>hS
theorem a8.frzOps:∀(xs:List Operand) {af:AF},a8 P C μ af a w→a8 P C μ (af.frzOps xs) a w
 | [],_,hS=>hS
 |x::r,_,hS=>a8.frzOps r (hS.frzV _)
end
end Go.Proofs.YtnambbcafhnhpaaGreatDoor
