import Derived.Test.YtnambbcafhnhpaaGreatDoorDraw
import Derived.Deep.LoopGhost
namespace Go.Proofs.YtnambbcafhnhpaaGreatDoor
open Go.RowKit
set_option linter.unusedVariables false
set_option linter.unusedSimpArgs false
section
variable {P:Program} {C:Cx} {μ:Nm} {af:AF} {a:Act} {w w0:World} {Γ:cD} {E:bR} {R:Type} {σ:FuncId→Option ai} {Λ:Nat→Option aM} {n:Nat}
theorem a8.know(hS:a8 P C μ af a w){d:Nat}{t:Bool}(h:af.get d= .dat .bool t):a8 P C μ (af.know d t) a w:=by
 refine⟨hS.defers,by simp[AF.know,AF.put,hS.tl], ?_,hS.objs,hS.wr,hS.inj,hS.fr,hS.chg,hS.frc,hS.fix⟩
 intro s x hx
 show VA P μ (aO C.A μ af) w x _
 simp only[AF.know,AF.put]at hx
 by_cases hd:d=s
 ·subst hd
  have hlt:d<af.tmps.length:=by have:=(List.getElem?_eq_some_iff.1 hx).1;simpa using this
  rw[List.getElem?_set_self hlt]at hx
  simp at hx;subst hx
  have:=vJ hS d
  rwa [h]at this
 ·rw[List.getElem?_set_ne hd]at hx
  exact hS.tmps s x hx
theorem St.know(hst:St P C w0 af a w){d:Nat}{t:Bool}(h:af.get d= .dat .bool t):St P C w0 (af.know d t) a w:=
 let⟨hK,μ,hS⟩:=hst;⟨hK,μ,hS.know h⟩
theorem St.bool(hst:St P C w0 af a w){d:Nat}{t:Bool}(h:af.get d= .dat .bool t):a.tmps.getD d undef= .bool t:=by
 obtain⟨_,μ,hS⟩:=hst
 have:=vJ hS d
 rw[h,fC]at this
 exact this
theorem Ow {all:Array Oper}{j d:Nat}{t:Bool}(hj:(all[j]?).bind (·.dst)=some d)(h:a.tmps.getD d undef= .bool t):yielded all a.tmps j=some t:=by
 have:a.tmps[d]? =some (.bool t):=by
  cases hh:a.tmps[d]? with
  |none=>
   have:a.tmps.getD d undef=undef:=by simp[hh]
   rw[this]at h;simp[undef]at h
  |some u=>have:a.tmps.getD d undef=u:=by simp[hh]
           rw[this]at h;rw[h]
 simp[yielded,hj,this]
theorem Iz {all:Array Oper}{j d:Nat}(hj:(all[j]?).bind (·.dst)=some d)(h:a.tmps.getD d undef=undef):yielded all a.tmps j=none:=by
 unfold yielded
 rw[hj]
 simp only[Option.bind_some]
 cases hh:a.tmps[d]? with
 |none=>rfl
 |some u=>
  have:a.tmps.getD d undef=u:=by simp[hh]
  rw[this]at h;rw[h];rfl
theorem St.undef'(hst:St P C w0 af a w){d:Nat}(h:af.get d= .tup []):a.tmps.getD d undef=undef:=by
 obtain⟨_,μ,hS⟩:=hst
 have:=vJ hS d
 rw[h]at this
 obtain⟨us,e,hv⟩:=this
 have hv:us= []:=hv
 subst hv
 exact e
theorem St.undef(hst:St P C w0 af a w)(d:Option Tmp)(hV:∀d',d=some d'→C.V d'=none):St P C w0 (af.put d (.tup [])) (a.put d Go.undef) w:=by
 obtain⟨hK,μ,hS⟩:=hst
 exact St.put hK hS d hV ⟨[],rfl,rfl⟩
theorem Q4 {G:Gl}(hT:cH P Γ E=true)(hσ:kW G P C w0 σ){all:Array Oper}{K:AF→Option R}{r:R}{Q:Exit→Act→World→Prop}(hQ:∀a w,PK P C w0 K r a w→Q .normal a w):
  ∀(rest:List Oper) (_:∀o ∈ rest,∀d,o.dst=some d→C.V d=none) {af:AF} {a:Act} {w:World},St P C w0 af a w→yY Γ E σ all rest af K=some r→wpList P all Q rest a w
 | [],_,_,_,_,hst,h=>wpList_nil (hQ _ _ ⟨_,h,hst⟩)
 |o::rest,hV,af,a,w,hst,h=>by
  refine wpList_step fun N hN=> ?_
  have run:∀ {af':AF},St P C w0 af' a w→kV Γ E σ o af' (fun af'=>yY Γ E σ all rest af' K)=some r→o.wp P a w N Q:=fun hst' h'=>
   Dc hT hσ hst' (hV o (by simp)) h' fun a' w' ⟨af2,h2,hst2⟩=>hN _ _ (Q4 hT hσ hQ rest (fun o ho=>hV o (by simp[ho])) hst2 h2)
  have skip:∀ {af':AF},St P C w0 af' a w→yY Γ E σ all rest (af'.put o.dst (.tup [])) K=some r→N (a.put o.dst Go.undef) w:=fun hst' h'=>
   hN _ _ (Q4 hT hσ hQ rest (fun o ho=>hV o (by simp[ho])) (hst'.undef o.dst (hV o (by simp))) h')
  unfold yY at h
  split at h
  ·rename_i hg
   rw[if_pos (by simp[Region.wanted,hg])]
   exact run hst h
  ·rename_i j want hg
   split at h
   ·cases h
   ·rename_i d hd
    split at h
    ·rename_i ht
     have hy:=Iz hd (hst.undef' ht)
     have hw:Region.wanted o (yielded all a.tmps)=false:=by simp[Region.wanted,hg,hy]
     rw[hw,if_neg (by decide)]
     exact skip hst h
    ·rename_i t ht
     have hy:=Ow hd (hst.bool ht)
     have hw:Region.wanted o (yielded all a.tmps)=(some t==some want):=by simp[Region.wanted,hg,hy]
     rw[hw]
     split at h
     ·cases want with
      |true=>rw[if_pos (by decide)];rw[if_pos rfl]at h;exact run (hst.know ht) h
      |false=>rw[if_neg (by decide)];rw[if_neg (by decide)]at h;exact skip (hst.know ht) h
     ·cases want with
      |true=>rw[if_neg (by decide)];rw[if_pos rfl]at h;exact skip (hst.know ht) h
      |false=>rw[if_pos (by decide)];rw[if_neg (by decide)]at h;exact run (hst.know ht) h
    ·cases h
theorem kA {all:Array Oper}{o:Oper}{K:AF→Option R}{r:R}(hst:St P C w0 af a w)(h:uE Γ E σ all o af K=some r):
  (Region.wanted o (yielded all a.tmps)=true∧∃af',St P C w0 af' a w∧(af'=af∨∃d t,af.get d= .dat .bool t∧af'=af.know d t)∧kV Γ E σ o af' K=some r)∨
  (Region.wanted o (yielded all a.tmps)=false∧∃af',St P C w0 af' a w∧(af'=af∨∃d t,af.get d= .dat .bool t∧af'=af.know d t)∧K (af'.put o.dst (.tup []))=some r):=by
 unfold uE at h
 split at h
 ·rename_i hg
  exact .inl ⟨by simp[Region.wanted,hg],af,hst,.inl rfl,h⟩
 ·rename_i j want hg
  split at h
  ·cases h
  ·rename_i d hd
   split at h
   ·rename_i ht
    have hy:=Iz hd (hst.undef' ht)
    exact .inr ⟨by simp[Region.wanted,hg,hy],af,hst,.inl rfl,h⟩
   ·rename_i t ht
    have hy:=Ow hd (hst.bool ht)
    have hw:Region.wanted o (yielded all a.tmps)=(some t==some want):=by simp[Region.wanted,hg,hy]
    split at h
    ·cases want with
     |true=>rw[if_pos rfl]at h;exact .inl ⟨by rw[hw];rfl,_,hst.know ht,.inr ⟨d,_,ht,rfl⟩,h⟩
     |false=>rw[if_neg (by decide)]at h;exact .inr ⟨by rw[hw];rfl,_,hst.know ht,.inr ⟨d,_,ht,rfl⟩,h⟩
    ·cases want with
     |true=>rw[if_pos rfl]at h;exact .inr ⟨by rw[hw];rfl,_,hst.know ht,.inr ⟨d,_,ht,rfl⟩,h⟩
     |false=>rw[if_neg (by decide)]at h;exact .inl ⟨by rw[hw];rfl,_,hst.know ht,.inr ⟨d,_,ht,rfl⟩,h⟩
   ·cases h
theorem vv {d:Nat}{t lk fresh:Bool}{o:Oper}(hd:af.get d= .dat .bool t)(h:eW lk af fresh o=true):eW lk (af.know d t) fresh o=true:=by
 have hev:∀s,(af.know d t).get s=af.get s:=by
  intro s
  by_cases hds:d=s
  ·subst hds
   rw[hd]
   unfold AF.know AF.put AF.get
   simp only[List.getD,List.getElem?_set,if_true]
   unfold AF.get at hd
   split
   ·rfl
   ·rename_i hn
    simp only[List.getD,List.getElem?_eq_none (Nat.not_lt.1 hn)]at hd
    cases hd
  ·unfold AF.know AF.put AF.get
   simp only[List.getD,List.getElem?_set]
   rw[if_neg hds]
 obtain⟨dst,op,ty,pos,after,guard⟩:=o
 cases op with
 |load id p=>
  have:(af.know d t).ev p=af.ev p:=by
   cases p with
   |tmp s=>exact hev s
   |_=>rfl
  simp only[eW]at h ⊢
  rw[this];exact h
 |slice id x lo hi mx=>
  have:(af.know d t).ev x=af.ev x:=by
   cases x with
   |tmp s=>exact hev s
   |_=>rfl
  simp only[eW]at h ⊢
  rw[this];exact h
 |indexAddr id x i=>
  have:(af.know d t).ev x=af.ev x:=by
   cases x with
   |tmp s=>exact hev s
   |_=>rfl
  simp only[eW]at h ⊢
  rw[this];exact h
 |convert s0 t0 x=>
  have:(af.know d t).ev x=af.ev x:=by
   cases x with
   |tmp s=>exact hev s
   |_=>rfl
  simp only[eW]at h ⊢
  rw[this];exact h
 |_=>first|rfl|exact h
theorem tq {f:Nat→Option R}{r:R}:∀ {l:List Nat},Fc l f=some r→∀j ∈ l,f j=some r
 | [],h,j,hj=>by cases hj
 | [i],h,j,hj=>by
   obtain rfl:j=i:=by simpa using hj
   exact h
 |i::k::l,h,j,hj=>by
  obtain⟨h1,h2⟩:=SE h
  rcases List.mem_cons.1 hj with rfl|hj
  ·exact h1
  ·exact tq h2 j hj
theorem y5 {G:Gl}(hT:cH P Γ E=true)(hσ:kW G P C w0 σ){all:Array Oper}(hsel:Region.noSelect all=true)(hV:∀o ∈ all,∀d,o.dst=some d→C.V d=none){K:AF→Option R}{r:R}{Q:Exit→Act→World→Prop}(hQ:∀a w,PK P C w0 K r a w→Q .normal a w)
  (hp:∀c a w,¬Q (.panic c) a w):∀(fuel:Nat) (fresh:Bool) (listed:Array Bool) {af:AF} {a:Act} {w:World} {μ:Nm},aG C.Ch w0 w→a8 P C μ af a w→(fresh=true→w=w0∧∀b,aO C.A μ af b→b<w0.heap.size→¬C.Ch b)→
    qb Γ E σ all fuel fresh listed af K=some r→wpAnyH P .any all Q (aG C.Ch w0) fuel listed a w
 |0,fresh,listed,af,a,w,μ,hK,hS,hf,h=>by
  unfold qb at h
  split at h
  ·rename_i hr;exact⟨hr,hQ _ _ ⟨af,h,hK,μ,hS⟩⟩
  ·cases h
 |fuel+1,fresh,listed,af,a,w,μ,hK,hS,hf,h=>by
  unfold qb at h
  split at h
  ·rename_i hr;exact wpAnyH_done hr (hQ _ _ ⟨af,h,hK,μ,hS⟩) _
  ·rename_i i rs hr
   split at h
   ·rename_i j hj
    have hmem:j ∈ Region.ready .any all listed:=by rw[hr];exact List.mem_of_find?_eq_some hj
    have hpj:=List.find?_some hj
    simp only[Bool.and_eq_true]at hpj
    obtain⟨hst,hfree⟩:=hpj
    split at h
    ·rename_i o ho
     have hst:eW false af fresh o=true:=by simpa [jP,ho]using hst
     have hc:(Region.ready .any all listed).contains j=true:=by simpa using hmem
     rcases kA ⟨hK,μ,hS⟩ h with⟨hw,af',_,ha,h⟩|⟨hw,af',_,ha,h⟩
     ·have hS':a8 P C μ af' a w:=by
       rcases ha with rfl|⟨d,t,hd,rfl⟩
       ·exact hS
       ·exact hS.know hd
      have hst':eW false af' fresh o=true:=by
       rcases ha with rfl|⟨d,t,hd,rfl⟩
       ·exact hst
       ·exact vv hd hst
      have hok:aO C.A μ af'=aO C.A μ af:=by
       rcases ha with rfl|⟨d,t,hd,rfl⟩<;>rfl
      obtain⟨v,u,hrun,hv,hk⟩:=y4 hT hS' (S:=aG C.Ch w0) (lk:=false) (fresh:=fresh) (fun h=>by cases h) (fun hfr w' hw' b hb hlt=>by
       obtain⟨rfl,hnw⟩:=hf hfr
       exact hw'.block b hlt (hnw b (hok▸hb) hlt)) hst' h
      exact wpAnyH_take ho hsel hfree hc (fun c a w h=>absurd h (hp c _ w)) (.inl ⟨hw,hrun⟩) hK
       (y5 hT hσ hsel hV hQ hp fuel fresh _ hK (hS'.put o.dst (hV o (Array.mem_of_getElem? ho)) hv) (fun hfr=>⟨(hf hfr).1,fun b hb=>(hf hfr).2 b (by rw[KC,hok]at hb;exact hb)⟩) hk)
     ·have hS':a8 P C μ af' a w:=by
       rcases ha with rfl|⟨d,t,hd,rfl⟩
       ·exact hS
       ·exact hS.know hd
      have hok:aO C.A μ af'=aO C.A μ af:=by
       rcases ha with rfl|⟨d,t,hd,rfl⟩<;>rfl
      exact wpAnyH_take ho hsel hfree hc (fun c a w h=>absurd h (hp c _ w)) (.inr ⟨hw,rfl⟩) hK
       (y5 hT hσ hsel hV hQ hp fuel fresh _ hK (hS'.put o.dst (hV o (Array.mem_of_getElem? ho)) (v:=.tup []) ⟨[],rfl,rfl⟩) (fun hfr=>⟨(hf hfr).1,fun b hb=>(hf hfr).2 b (by rw[KC,hok]at hb;exact hb)⟩) h)
    ·cases h
   ·refine wpAnyH_all hr (by simp) fun j hj=> ?_
    ·have h:=tq h j hj
     split at h
     ·rename_i o ho
      have go:∀ {af':AF} {a':Act} {w':World},qb Γ E σ all fuel false (listed.setIfInBounds j true) af' K=some r→St P C w0 af' a' w'→aG C.Ch w0 w'∧wpAnyH P .any all Q (aG C.Ch w0) fuel (listed.setIfInBounds j true) a' w':=
       fun h ⟨hK',μ',hS'⟩=>⟨hK',y5 hT hσ hsel hV hQ hp fuel false _ hK' hS' (fun h=>by cases h) h⟩
      unfold wpOp
      simp only[ho]
      rcases kA ⟨hK,μ,hS⟩ h with⟨hw,af',hst,_,h⟩|⟨hw,af',hst,_,h⟩
      ·rw[if_pos hw]
       exact .inl (Dc hT hσ hst (hV o (Array.mem_of_getElem? ho)) h fun a' w' ⟨af2,h2,hst2⟩=>go h2 hst2)
      ·rw[hw,if_neg (by decide)]
       exact go h (hst.undef o.dst (hV o (Array.mem_of_getElem? ho)))
     ·cases h
theorem YI(l:Nat)(o:AO)(m:Nat):∀xs:List (Nat×AO),lk (UL l o xs) m=if l=m then some o else lk xs m
 | []=>rfl
 |(k,p)::r=>by
  unfold UL
  split
  ·rfl
  ·rename_i h
   have hlt:k<l:=by
    have:¬l≤k:=fun hle=>by rw[Nat.ble_eq_true_of_le hle]at h;cases h
    omega
   unfold lk
   rw[YI l o m r]
   split
   ·rename_i e
    rw[if_neg (by omega)]
   ·split<;>rfl
theorem U4(m:Nat):∀xs:List (Nat×AO),lk (Ur xs) m=lk xs m
 | []=>rfl
 |(l,o)::r=>by
  show lk (UL l o (Ur r)) m=_
  rw[YI,U4 m r]
  rfl
theorem y6(af:AF)(l:Nat):af.sort.obj l=af.obj l:=U4 l af.objs
theorem Ft(A:Nat→Prop)(μ:Nm)(af:AF):aO A μ af.sort=aO A μ af:=by
 funext b
 unfold aO
 simp only[y6]
theorem a8.sort {μ:Nm}(hS:a8 P C μ af a w):a8 P C μ af.sort a w:=by
 refine⟨hS.defers,hS.tl,fun t x hx=> ?_,fun l o ho=> ?_,fun l o b ho hb=>hS.wr l o b (by rwa [y6]at ho) hb,fun l l' o o' b h1 h2 hb hb'=>hS.inj l l' o o' b (by rwa [y6]at h1) (by rwa [y6]at h2) hb hb',hS.fr,hS.chg,hS.frc,hS.fix⟩
 ·rw[Ft];exact hS.tmps t x hx
 ·rw[Ft];exact hS.objs l o (by rwa [y6]at ho)
theorem Fu {G:Gl}(hT:cH P Γ E=true)(hσ:kW G P C w0 σ){all:Array Oper}(hsel:Region.noSelect all=true)(hV:∀o ∈ all,∀d,o.dst=some d→C.V d=none){K:AF→Option R}{r:R}{Q:Exit→Act→World→Prop}(hQ:∀a w,PK P C w0 K r a w→Q .normal a w)
  (hp:∀c a w,¬Q (.panic c) a w):∀(fuel:Nat) (fresh:Bool) (listed:Array Bool) {af:AF} {a:Act} {w:World} {μ:Nm},aG C.Ch w0 w→a8 P C μ af a w→(fresh=true→w=w0∧∀b,aO C.A μ af b→b<w0.heap.size→¬C.Ch b)→
    nK Γ E σ all fuel fresh listed af K=some r→wpAnyH P .any all Q (aG C.Ch w0) fuel listed a w
 |0,fresh,listed,af,a,w,μ,hK,hS,hf,h=>by
  unfold nK at h
  split at h
  ·rename_i hr;exact⟨hr,hQ _ _ ⟨af,h,hK,μ,hS⟩⟩
  ·cases h
 |fuel+1,fresh,listed,af,a,w,μ,hK,hS,hf,h=>by
  unfold nK Us at h
  split at h
  ·rename_i hr;exact wpAnyH_done hr (hQ _ _ ⟨af,h,hK,μ,hS⟩) _
  ·rename_i i rs hr
   split at h
   ·rename_i j hj
    have hmem:j ∈ Region.ready .any all listed:=by rw[hr];exact List.mem_of_find?_eq_some hj
    have hpj:=List.find?_some hj
    simp only[Bool.and_eq_true]at hpj
    obtain⟨hst,hfree⟩:=hpj
    split at h
    ·rename_i o ho
     have hst:eW false af fresh o=true:=by simpa [jP,ho]using hst
     have hc:(Region.ready .any all listed).contains j=true:=by simpa using hmem
     rcases kA ⟨hK,μ,hS⟩ h with⟨hw,af',_,ha,h⟩|⟨hw,af',_,ha,h⟩
     ·have hS':a8 P C μ af' a w:=by
       rcases ha with rfl|⟨d,t,hd,rfl⟩
       ·exact hS
       ·exact hS.know hd
      have hst':eW false af' fresh o=true:=by
       rcases ha with rfl|⟨d,t,hd,rfl⟩
       ·exact hst
       ·exact vv hd hst
      have hok:aO C.A μ af'=aO C.A μ af:=by
       rcases ha with rfl|⟨d,t,hd,rfl⟩<;>rfl
      obtain⟨v,u,hrun,hv,hk⟩:=y4 hT hS' (S:=aG C.Ch w0) (lk:=false) (fresh:=fresh) (fun h=>by cases h) (fun hfr w' hw' b hb hlt=>by
       obtain⟨rfl,hnw⟩:=hf hfr
       exact hw'.block b hlt (hnw b (hok▸hb) hlt)) hst' h
      exact wpAnyH_take ho hsel hfree hc (fun c a w h=>absurd h (hp c _ w)) (.inl ⟨hw,hrun⟩) hK
       (Fu hT hσ hsel hV hQ hp fuel fresh _ hK (hS'.put o.dst (hV o (Array.mem_of_getElem? ho)) hv).sort (fun hfr=>⟨(hf hfr).1,fun b hb=>(hf hfr).2 b (by rw[Ft,KC,hok]at hb;exact hb)⟩) hk)
     ·have hS':a8 P C μ af' a w:=by
       rcases ha with rfl|⟨d,t,hd,rfl⟩
       ·exact hS
       ·exact hS.know hd
      have hok:aO C.A μ af'=aO C.A μ af:=by
       rcases ha with rfl|⟨d,t,hd,rfl⟩<;>rfl
      exact wpAnyH_take ho hsel hfree hc (fun c a w h=>absurd h (hp c _ w)) (.inr ⟨hw,rfl⟩) hK
       (Fu hT hσ hsel hV hQ hp fuel fresh _ hK (hS'.put o.dst (hV o (Array.mem_of_getElem? ho)) (v:=.tup []) ⟨[],rfl,rfl⟩).sort (fun hfr=>⟨(hf hfr).1,fun b hb=>(hf hfr).2 b (by rw[Ft,KC,hok]at hb;exact hb)⟩) h)
    ·cases h
   ·refine wpAnyH_all hr (by simp) fun j hj=> ?_
    ·have h:=tq h j hj
     split at h
     ·rename_i o ho
      have go:∀ {af':AF} {a':Act} {w':World},nK Γ E σ all fuel false (listed.setIfInBounds j true) af'.sort K=some r→St P C w0 af' a' w'→aG C.Ch w0 w'∧wpAnyH P .any all Q (aG C.Ch w0) fuel (listed.setIfInBounds j true) a' w':=
       fun h ⟨hK',μ',hS'⟩=>⟨hK',Fu hT hσ hsel hV hQ hp fuel false _ hK' hS'.sort (fun h=>by cases h) h⟩
      unfold wpOp
      simp only[ho]
      rcases kA ⟨hK,μ,hS⟩ h with⟨hw,af',hst,_,h⟩|⟨hw,af',hst,_,h⟩
      ·rw[if_pos hw]
       exact .inl (Dc hT hσ hst (hV o (Array.mem_of_getElem? ho)) h fun a' w' ⟨af2,h2,hst2⟩=>go h2 hst2)
      ·rw[hw,if_neg (by decide)]
       exact go h (hst.undef o.dst (hV o (Array.mem_of_getElem? ho)))
     ·cases h
theorem a8.locked {μ:Nm}(hS:a8 P C μ af a w)(b:Bool)(h:b=true∨∀b,C.Wr b→C.Ch b):a8 P C μ {af with lock:=b} a w:=
 ⟨hS.defers,hS.tl,hS.tmps,hS.objs,hS.wr,hS.inj,hS.fr,h,hS.frc,hS.fix⟩
theorem U5 {md:Region.Mode}{all:Array Oper}{Q:Exit→Act→World→Prop}{S S':World→Prop}(hs:∀w,S' w→S w):∀(fuel:Nat) (listed:Array Bool) {a:Act} {w:World},wpAnyH P md all Q S' fuel listed a w→wpAnyH P md all Q S fuel listed a w
 |0,_,_,_,h=>h
 |fuel+1,_,_,_,h=>⟨h.1,fun i hi=>wpOp_mono (fun a' w' h'=>⟨hs _ h'.1,U5 hs fuel _ h'.2⟩) (h.2 i hi)⟩
def LK(P:Program)(C:Cx)(K:AF→Option R)(r:R)(w0:World)(a:Act)(w:World):Prop:=
 ∃af,K af=some r∧aG (fun b=>w0.heap.size≤b) w0 w∧∃μ,a8 P ⟨C.A,C.Wr,fun b=>w.heap.size≤b,C.V⟩ μ {af with lock:=true} a w
theorem a8.upto {μ:Nm}{Ch:Nat→Prop}(hS:a8 P ⟨C.A,C.Wr,Ch,C.V⟩ μ af a w):a8 P ⟨C.A,C.Wr,fun b=>w.heap.size≤b,C.V⟩ μ {af with lock:=true} a w:=
 ⟨hS.defers,hS.tl,hS.tmps,hS.objs,hS.wr,hS.inj,hS.fr,.inl rfl,fun _ h=>h,hS.fix⟩
theorem kW.here {G:Gl}(h:kW G P C w0 σ)(hi:G.I w):kW G P ⟨C.A,C.Wr,fun b=>w.heap.size≤b,C.V⟩ w σ:=
 ⟨hi,fun b hb=>⟨(h.b b hb).1,(h.b b hb).2.1,fun hh=>absurd (G.lt w hi b hb) (Nat.not_lt.2 hh)⟩,h.ok⟩
theorem Fv {G:Gl}(hT:cH P Γ E=true)(hσ:kW G P C w0 σ){all:Array Oper}(hsel:Region.noSelect all=true)(hV:∀o ∈ all,∀d,o.dst=some d→C.V d=none){K:AF→Option R}{r:R}{Q:Exit→Act→World→Prop}
  (hp:∀c a w,¬Q (.panic c) a w):∀(fuel:Nat) (listed:Array Bool) {af:AF} {a:Act} {w:World} {μ:Nm},G.I w→a8 P ⟨C.A,C.Wr,fun b=>w.heap.size≤b,C.V⟩ μ af a w→
    (∀a' w',LK P C K r w a' w'→Q .normal a' w')→AE Γ E σ all fuel listed af K=some r→wpAnyH P .any all Q (aG (fun b=>w.heap.size≤b) w) fuel listed a w
 |0,listed,af,a,w,μ,hi,hS,hQ,h=>by
  unfold AE at h
  split at h
  ·rename_i hr;exact⟨hr,hQ _ _ ⟨af,h,aG.refl _ _,μ,hS.upto⟩⟩
  ·cases h
 |fuel+1,listed,af,a,w,μ,hi,hS,hQ,h=>by
  unfold AE at h
  split at h
  ·rename_i hr;exact wpAnyH_done hr (hQ _ _ ⟨af,h,aG.refl _ _,μ,hS.upto⟩) _
  ·rename_i i rs hr
   split at h
   ·rename_i j hj
    have hmem:j ∈ Region.ready .any all listed:=by rw[hr];exact List.mem_of_find?_eq_some hj
    have hpj:=List.find?_some hj
    simp only[Bool.and_eq_true]at hpj
    obtain⟨hst,hfree⟩:=hpj
    split at h
    ·rename_i o ho
     have hst:eW true af true o=true:=by simpa [jP,ho]using hst
     have hc:(Region.ready .any all listed).contains j=true:=by simpa using hmem
     have hVo:=hV o (Array.mem_of_getElem? ho)
     rcases kA ⟨aG.refl _ _,μ,hS⟩ h with⟨hw,af',_,ha,h⟩|⟨hw,af',_,ha,h⟩
     ·have hS':a8 P ⟨C.A,C.Wr,fun b=>w.heap.size≤b,C.V⟩ μ af' a w:=by
       rcases ha with rfl|⟨d,t,hd,rfl⟩
       ·exact hS
       ·exact hS.know hd
      have hst':eW true af' true o=true:=by
       rcases ha with rfl|⟨d,t,hd,rfl⟩
       ·exact hst
       ·exact vv hd hst
      obtain⟨v,u,hrun,hv,hk⟩:=y4 hT hS' (S:=aG (fun b=>w.heap.size≤b) w) (lk:=true) (fresh:=true) (fun _ _ w' hw' b hlt=>hw'.block b hlt (Nat.not_le.2 hlt)) (fun _ w' hw' b _ hlt=>hw'.block b hlt (Nat.not_le.2 hlt)) hst' h
      exact wpAnyH_take ho hsel hfree hc (fun c a w h=>absurd h (hp c _ w)) (.inl ⟨hw,hrun⟩) (aG.refl _ _)
       (Fv hT hσ hsel hV hp fuel _ hi (hS'.put o.dst hVo hv).upto hQ hk)
     ·have hS':a8 P ⟨C.A,C.Wr,fun b=>w.heap.size≤b,C.V⟩ μ af' a w:=by
       rcases ha with rfl|⟨d,t,hd,rfl⟩
       ·exact hS
       ·exact hS.know hd
      exact wpAnyH_take ho hsel hfree hc (fun c a w h=>absurd h (hp c _ w)) (.inr ⟨hw,rfl⟩) (aG.refl _ _)
       (Fv hT hσ hsel hV hp fuel _ hi (hS'.put o.dst hVo (v:=.tup []) ⟨[],rfl,rfl⟩).upto hQ h)
    ·cases h
   ·refine wpAnyH_all hr (by simp) fun j hj=> ?_
    ·have h:=tq h j hj
     split at h
     ·rename_i o ho
      have hVo:=hV o (Array.mem_of_getElem? ho)
      have go:∀ {af':AF} {a':Act} {w':World},AE Γ E σ all fuel (listed.setIfInBounds j true) {af' with lock:=true} K=some r→St P ⟨C.A,C.Wr,fun b=>w.heap.size≤b,C.V⟩ w af' a' w'→
        aG (fun b=>w.heap.size≤b) w w'∧wpAnyH P .any all Q (aG (fun b=>w.heap.size≤b) w) fuel (listed.setIfInBounds j true) a' w':=by
       intro af' a' w' h ⟨hK',μ',hS'⟩
       have hsz:=hK'.size
       have tr:∀ {x:World},aG (fun b=>w'.heap.size≤b) w' x→aG (fun b=>w.heap.size≤b) w x:=fun hx=>hK'.trans (hx.mono fun b _ hb=>Nat.le_trans hsz hb)
       refine⟨hK',U5 (fun x hx=>tr hx) fuel _ (Fv hT hσ hsel hV hp fuel _ (G.stay w w' hi hK'.size fun b hb=>hK'.block b (G.lt w hi b hb) (Nat.not_le.2 (G.lt w hi b hb))) hS'.upto (fun a2 w2 ⟨af2,h2,hk2,hs2⟩=>hQ a2 w2 ⟨af2,h2,tr hk2,hs2⟩) h)⟩
      unfold wpOp
      simp only[ho]
      rcases kA ⟨aG.refl _ _,μ,hS⟩ h with⟨hw,af',hst,_,h⟩|⟨hw,af',hst,_,h⟩
      ·rw[if_pos hw]
       exact .inl (Dc hT (hσ.here hi) hst hVo h fun a' w' ⟨af2,h2,hst2⟩=>go h2 hst2)
      ·rw[hw,if_neg (by decide)]
       exact go h (hst.undef o.dst hVo)
     ·cases h
theorem Xk {G:Gl}(hT:cH P Γ E=true)(hσ:kW G P C w0 σ){id:Nat}{all:Array Oper}(hsel:Region.noSelect all=true)(hV:∀o ∈ all,∀d,o.dst=some d→C.V d=none){K:AF→Option R}{r:R}{Q:Exit→Act→World→Prop}{μ:Nm}
  (hQ:∀a w,(∃af',K af'=some r∧aG C.Ch w0 w∧∃μ',a8 P C μ' {af' with lock:=true} a w)→Q .normal a w)
  (hp:∀c a w,¬Q (.panic c) a w) (hK:aG C.Ch w0 w) (hS:a8 P C μ af a w) (h:AE Γ E σ all all.size (Array.replicate all.size false) {af with lock:=true} K=some r):(Code.region id all true).wp P Q a w:=by
 refine wp_region_held (S:=aG (fun b=>w.heap.size≤b) {w with drawn:=w.drawn+1}) (AL hT) ?_
 have hS1:a8 P ⟨C.A,C.Wr,fun b=>w.heap.size≤b,C.V⟩ μ {af with lock:=true} a {w with drawn:=w.drawn+1}:=by
  have hag:br (aO C.A μ af) w {w with drawn:=w.drawn+1}:=⟨Nat.le_refl _,fun _ _ _=>rfl⟩
  refine⟨hS.defers,hS.tl,fun t x hx=>(hS.tmps t x hx).trans (fun _ _=>rfl) hag (fun _ _ h=>h),fun l o ho=> ?_,hS.wr,hS.inj,hS.fr,.inl rfl,fun b hb=>hb,hS.fix⟩
  exact(hS.objs l o ho).trans rfl rfl (fun _ _=>rfl) hag (fun _ _ h=>h) (fun _ _=>rfl)
 refine Fv (C:=C) (w:={w with drawn:=w.drawn+1}) hT hσ hsel hV hp _ _ (G.stay w _ (hσ.gw hK hS).1 (Nat.le_refl _) (fun _ _=>rfl)) hS1 (fun a' w' ⟨af',h',hK',μ',hS'⟩=>hQ a' w' ?_) h
 exact⟨af',h',(hK.drew).trans (hK'.mono fun k _ hk=>hS.frc k hk),μ',hS'.defers,hS'.tl,hS'.tmps,hS'.objs,hS'.wr,hS'.inj,hS'.fr,.inl rfl,fun b hb=>hS.frc b (Nat.le_trans hK'.size hb),hS'.fix⟩
def ol(P:Program)(all:Array Oper)(Q:Exit→Act→World→Prop)(S0 S1:World→Prop)(late:Nat→Bool):Nat→Array Bool→Act→World→Prop
 |0,listed,a,w=>Region.ready .any all listed= []∧Q .normal a w
 |fuel+1,listed,a,w=>(Region.ready .any all listed= []→Q .normal a w)∧∀i ∈ Region.ready .any all listed,wpOp P all Q i (fun a' w'=>
   (late i=true→S0 w'∧wpAnyH P .any all Q S0 fuel (listed.setIfInBounds i true) a' w')∧(late i=false→S1 w'∧ol P all Q S0 S1 late fuel (listed.setIfInBounds i true) a' w')) a w
section
variable {all:Array Oper} {Q:Exit→Act→World→Prop} {S0 S1 S2:World→Prop} {late:Nat→Bool}
theorem LJ(hs:∀w,S1 w→S0 w):∀(fuel:Nat) (listed:Array Bool) {a:Act} {w:World},ol P all Q S0 S1 late fuel listed a w→wpAnyH P .any all Q S0 fuel listed a w
 |0,_,_,_,h=>h
 |fuel+1,_,_,_,h=>⟨h.1,fun i hi=>wpOp_mono (fun a' w' h'=>by
   cases hl:late i with
   |true=>exact h'.1 hl
   |false=>exact⟨hs _ (h'.2 hl).1,LJ hs fuel _ (h'.2 hl).2⟩) (h.2 i hi)⟩
theorem U6(hs:∀w,S2 w→S1 w):∀(fuel:Nat) (listed:Array Bool) {a:Act} {w:World},ol P all Q S0 S2 late fuel listed a w→ol P all Q S0 S1 late fuel listed a w
 |0,_,_,_,h=>h
 |fuel+1,_,_,_,h=>⟨h.1,fun i hi=>wpOp_mono (fun a' w' h'=>⟨h'.1,fun hl=>⟨hs _ (h'.2 hl).1,U6 hs fuel _ (h'.2 hl).2⟩⟩) (h.2 i hi)⟩
theorem Xl {listed:Array Bool}{a:Act}{w:World}(hr:Region.ready .any all listed= [])(h:Q .normal a w):∀fuel,ol P all Q S0 S1 late fuel listed a w
 |0=>⟨hr,h⟩
 |_+1=>⟨fun _=>h,by rw[hr];simp⟩
theorem SP {listed:Array Bool}{k i n:Nat}(hi:listed.getD i true=false)(h:tg all listed n k i=true):k ∉ Region.ready .any all listed:=by
 intro hk
 cases n with
 |zero=>cases h
 |succ n=>
  obtain⟨_,o,ho,hall⟩:=mem_ready.1 hk
  simp only[tg,ho]at h
  rw[Array.any_eq_true']at h
  obtain⟨e,he,h⟩:=h
  simp only[Bool.and_eq_true,Bool.or_eq_true,beq_iff_eq,Bool.not_eq_true']at h
  have h1:=hall e he h.1
  have key:∀x,listed.getD x true=false→listed.getD x false=true→False:=fun x a b=>by
   rcases Nat.lt_or_ge x listed.size with h'|h'
   ·simp[h']at a b;rw[a]at b;cases b
   ·simp[Array.getElem?_eq_none h']at b
  rcases h.2 with h2|h2
  ·rw[h2]at h1;exact key i hi h1
  ·exact key _ h2.1 h1
theorem U7 {listed:Array Bool}{i j:Nat}(hi:listed.getD i true=false)(hj:j ∈ Region.ready .any all listed)(hji:j≠i):∀ {n k:Nat},tg all listed n k i=true→tg all (listed.setIfInBounds j true) n k i=true
 |0,_,h=>by cases h
 |n+1,k,h=>by
  simp only[tg]at h ⊢
  split at h
  ·cases h
  ·rw[Array.any_eq_true']at h ⊢
   obtain⟨e,he,h⟩:=h
   refine⟨e,he, ?_⟩
   simp only[Bool.and_eq_true,Bool.or_eq_true,beq_iff_eq,Bool.not_eq_true']at h ⊢
   refine⟨h.1,h.2.imp id fun h2=> ?_⟩
   have hne:j≠e.on:=fun hq=>SP hi h2.2 (hq▸hj)
   exact⟨by rw[getD_set_ne true hne];exact h2.1,U7 hi hj hji h2.2⟩
theorem Ox {i:Nat}{oi:Oper}{v:Value}(hi:all[i]? =some oi)(hsel:∀(j:Nat) (o:Oper) cs b,all[j]? =some o→o.op≠ .select cs b)(hQ:∀c a w,Q (.panic c) (a.put oi.dst v) w→Q (.panic c) a w)(hl:late i=false):
  ∀(fuel:Nat) (listed:Array Bool) (a:Act) (w:World),(∀j oj,all[j]? =some oj→j≠i→listed.getD j true=false→(∀e ∈ oj.after,Region.binds .any e=true→e.on≠i)→oi.apart all oj=true)→
   i ∈ Region.ready .any all listed→YieldsIf P all (fun _=>True) oi v a→S1 w→ol P all Q S0 S1 late fuel (listed.setIfInBounds i true) (a.put oi.dst v) w→ol P all Q S0 S1 late (fuel+1) listed a w:=by
 intro fuel
 induction fuel with
 |zero=>
  intro listed a w _ hr hy hS H
  refine⟨fun h=>(by rw[h]at hr;cases hr),fun j hj=> ?_⟩
  by_cases hji:j=i
  ·subst hji;exact hy.wpOp hi trivial ⟨fun h=>(by rw[hl]at h;cases h),fun _=>⟨hS,H⟩⟩
  ·have:=ready_mono hj hji
   rw[H.1]at this
   cases this
 |succ fuel ih=>
  intro listed a w hfree hr hy hS H
  refine⟨fun h=>(by rw[h]at hr;cases hr),fun j hj=> ?_⟩
  by_cases hji:j=i
  ·subst hji;exact hy.wpOp hi trivial ⟨fun h=>(by rw[hl]at h;cases h),fun _=>⟨hS,H⟩⟩
  ·have h1:=H.2 j (ready_mono hj hji)
   obtain⟨hjun,oj,hoj,hall⟩:=mem_ready.1 hj
   have hnot:∀e ∈ oj.after,Region.binds .any e=true→e.on≠i:=fun e he hb heq=>by
    have h1:=hall e he hb
    have h0:=(mem_ready.1 hr).1
    rw[heq]at h1
    rcases Nat.lt_or_ge i listed.size with h'|h'
    ·simp[h']at h0 h1;rw[h0]at h1;cases h1
    ·simp[Array.getElem?_eq_none h']at h1
   have h2:=wpOp_putIf hoj (hfree j oj hoj hji hjun hnot) (fun cs b=>hsel i oi cs b hi) (fun cs b=>hsel j oj cs b hoj) hQ hy h1
   have hfree':∀k ok,all[k]? =some ok→k≠i→(listed.setIfInBounds j true).getD k true=false→
     (∀e ∈ ok.after,Region.binds .any e=true→e.on≠i)→oi.apart all ok=true:=fun k ok hk hki hun hno=>by
    refine hfree k ok hk hki ?_ hno
    by_cases hjk:j=k
    ·subst hjk;exact hjun
    ·rw[getD_set_ne true hjk]at hun;exact hun
   refine wpOp_mono (fun a' w' h3=>⟨fun hq=> ?_,fun hq=> ?_⟩) h2
   ·obtain⟨h4,h5⟩:=h3.2.1 hq
    rw[Array.setIfInBounds_comm _ _ (Ne.symm hji)]at h5
    exact⟨h4,wpAnyH_first hi hsel hQ fuel _ a' w' hfree' (ready_mono hr (Ne.symm hji)) (h3.1.imp (fun⟨p,q⟩=>⟨p,fun w _=>q w trivial⟩) id) h4 h5⟩
   ·obtain⟨h4,h5⟩:=h3.2.2 hq
    rw[Array.setIfInBounds_comm _ _ (Ne.symm hji)]at h5
    exact⟨h4,ih (listed.setIfInBounds j true) a' w' hfree' (ready_mono hr (Ne.symm hji)) h3.1 h4 h5⟩
theorem Xm {i n:Nat}{oi:Oper}{v:Value}(hi:all[i]? =some oi)(hsel:∀(j:Nat) (o:Oper) cs b,all[j]? =some o→o.op≠ .select cs b)(hQ:∀c a w,Q (.panic c) (a.put oi.dst v) w→Q (.panic c) a w)(hl:late i=false):
  ∀(fuel:Nat) (listed:Array Bool) (a:Act) (w:World),(∀j oj,all[j]? =some oj→j≠i→listed.getD j true=false→(∀e ∈ oj.after,Region.binds .any e=true→e.on≠i)→oi.apart all oj=true)→
   (∀k,listed.getD k true=false→k≠i→late k=true→tg all listed n k i=true)→
   i ∈ Region.ready .any all listed→YieldsIf P all S1 oi v a→S1 w→ol P all Q S0 S1 late fuel (listed.setIfInBounds i true) (a.put oi.dst v) w→ol P all Q S0 S1 late (fuel+1) listed a w:=by
 intro fuel
 induction fuel with
 |zero=>
  intro listed a w _ _ hr hy hS H
  refine⟨fun h=>(by rw[h]at hr;cases hr),fun j hj=> ?_⟩
  by_cases hji:j=i
  ·subst hji;exact hy.wpOp hi hS ⟨fun h=>(by rw[hl]at h;cases h),fun _=>⟨hS,H⟩⟩
  ·have:=ready_mono hj hji
   rw[H.1]at this
   cases this
 |succ fuel ih=>
  intro listed a w hfree hwait hr hy hS H
  refine⟨fun h=>(by rw[h]at hr;cases hr),fun j hj=> ?_⟩
  by_cases hji:j=i
  ·subst hji;exact hy.wpOp hi hS ⟨fun h=>(by rw[hl]at h;cases h),fun _=>⟨hS,H⟩⟩
  ·have h1:=H.2 j (ready_mono hj hji)
   obtain⟨hjun,oj,hoj,hall⟩:=mem_ready.1 hj
   have hiun:=(mem_ready.1 hr).1
   have hlj:late j=false:=by
    cases hq:late j with
    |false=>rfl
    |true=>exact absurd hj (SP hiun (hwait j hjun hji hq))
   have hnot:∀e ∈ oj.after,Region.binds .any e=true→e.on≠i:=fun e he hb heq=>by
    have h1:=hall e he hb
    have h0:=(mem_ready.1 hr).1
    rw[heq]at h1
    rcases Nat.lt_or_ge i listed.size with h'|h'
    ·simp[h']at h0 h1;rw[h0]at h1;cases h1
    ·simp[Array.getElem?_eq_none h']at h1
   have h2:=wpOp_putIf hoj (hfree j oj hoj hji hjun hnot) (fun cs b=>hsel i oi cs b hi) (fun cs b=>hsel j oj cs b hoj) hQ hy h1
   have hun':∀k,(listed.setIfInBounds j true).getD k true=false→listed.getD k true=false:=fun k hun=>by
    by_cases hjk:j=k
    ·subst hjk;exact hjun
    ·rw[getD_set_ne true hjk]at hun;exact hun
   have hfree':∀k ok,all[k]? =some ok→k≠i→(listed.setIfInBounds j true).getD k true=false→
    (∀e ∈ ok.after,Region.binds .any e=true→e.on≠i)→oi.apart all ok=true:=fun k ok hk hki hun hno=>hfree k ok hk hki (hun' k hun) hno
   refine wpOp_mono (fun a' w' h3=>⟨fun hq=>(by rw[hlj]at hq;cases hq),fun hq=> ?_⟩) h2
   obtain⟨h4,h5⟩:=h3.2.2 hq
   rw[Array.setIfInBounds_comm _ _ (Ne.symm hji)]at h5
   exact⟨h4,ih (listed.setIfInBounds j true) a' w' hfree' (fun k hk hki hlk=>U7 hiun hj hji (hwait k (hun' k hk) hki hlk)) (ready_mono hr (Ne.symm hji)) h3.1 h4 h5⟩
end
theorem acW {G:Gl}(hT:cH P Γ E=true)(hσ:kW G P C w0 σ){all:Array Oper}(hsel:Region.noSelect all=true)(hV:∀o ∈ all,∀d,o.dst=some d→C.V d=none)(hWC:∀b,C.Wr b→C.Ch b){K:AF→Option R}{r:R}{Q:Exit→Act→World→Prop}(hQ:∀a w,PK P C w0 K r a w→Q .normal a w)
  (hp:∀c a w,¬Q (.panic c) a w):∀(fuel:Nat) (listed:Array Bool) {af:AF} {a:Act} {w:World} {μ:Nm},aG C.Ch w0 w→(∀b,w.heap.size≤b→C.Ch b)→a8 P ⟨C.A,C.Wr,fun b=>w.heap.size≤b,C.V⟩ μ af a w→
    AG Γ E σ all fuel listed af K=some r→ol P all Q (aG C.Ch w0) (aG (fun b=>w.heap.size≤b) w) (oh σ all) fuel listed a w:=by
 have back:∀ {af:AF} {a:Act} {w:World} {μ:Nm},(∀b,w.heap.size≤b→C.Ch b)→a8 P ⟨C.A,C.Wr,fun b=>w.heap.size≤b,C.V⟩ μ af a w→a8 P C μ {af with lock:=false} a w:=fun hfr hS=>⟨hS.defers,hS.tl,hS.tmps,hS.objs,hS.wr,hS.inj,hS.fr,.inr hWC,hfr,hS.fix⟩
 intro fuel
 induction fuel with
 |zero=>
  intro listed af a w μ hK hfr hS h
  unfold AG at h
  split at h
  ·rename_i hr;exact⟨hr,hQ _ _ ⟨_,h,hK,μ,back hfr hS⟩⟩
  ·cases h
 |succ fuel ih=>
  intro listed af a w μ hK hfr hS h
  have hi:G.I w:=(hσ.gw hK (back hfr hS)).1
  unfold AG at h
  split at h
  ·rename_i hr;exact Xl hr (hQ _ _ ⟨_,h,hK,μ,back hfr hS⟩) _
  ·rename_i i rs hr
   split at h
   ·rename_i j hj
    have hmem:j ∈ Region.ready .any all listed:=by rw[hr];exact List.mem_of_find?_eq_some hj
    have hpj:=List.find?_some hj
    simp only[Bool.and_eq_true,Bool.or_eq_true,Bool.not_eq_true']at hpj
    obtain⟨⟨hlj,hfree⟩,hst⟩:=hpj
    split at h
    ·rename_i o ho
     have hVo:=hV o (Array.mem_of_getElem? ho)
     have know:∀ {af':AF},(af'=af∨∃d t,af.get d= .dat .bool t∧af'=af.know d t)→a8 P ⟨C.A,C.Wr,fun b=>w.heap.size≤b,C.V⟩ μ af' a w∧∀lk fr,eW lk af fr o=true→eW lk af' fr o=true:=by
      rintro af' (rfl|⟨d,t,hd,rfl⟩)
      ·exact⟨hS,fun _ _ h=>h⟩
      ·exact⟨hS.know hd,fun _ _ h=>vv hd h⟩
     have pan:∀v c a w,Q (.panic c) (a.put o.dst v) w→Q (.panic c) a w:=fun v c a w h=>absurd h (hp c _ w)
     rcases kA ⟨aG.refl _ _,μ,hS⟩ h with⟨hw,af',_,ha,h⟩|⟨hw,af',_,ha,h⟩
     ·obtain⟨hS',hst'⟩:=know ha
      rcases hst with hst|⟨hst,haw⟩
      ·have hst:eW false af false o=true:=by simpa [jP,ho]using hst
       obtain⟨v,u,hrun,hv,hk⟩:=y4 hT hS' (S:=fun _=>True) (lk:=false) (fresh:=false) (fun h=>by cases h) (fun h=>by cases h) (hst' _ _ hst) h
       exact Ox ho (Region.noSelect_spec hsel) (pan u) hlj fuel listed a w (Region.free_spec ho hfree) hmem (.inl ⟨hw,hrun⟩) (aG.refl _ _) (ih _ hK hfr (hS'.put o.dst hVo hv).upto hk)
      ·have hst:eW true af true o=true:=by simpa [jP,ho]using hst
       obtain⟨v,u,hrun,hv,hk⟩:=y4 hT hS' (S:=aG (fun b=>w.heap.size≤b) w) (lk:=true) (fresh:=true) (fun _ _ w' hw' b hlt=>hw'.block b hlt (Nat.not_le.2 hlt)) (fun _ w' hw' b _ hlt=>hw'.block b hlt (Nat.not_le.2 hlt)) (hst' _ _ hst) h
       have hwt:∀k,listed.getD k true=false→k≠j→oh σ all k=true→tg all listed 8 k j=true:=by
        intro k h1 h2 h3
        unfold Yr at haw
        rw[List.all_eq_true]at haw
        have hk:k<all.size:=by
         unfold oh at h3
         split at h3
         ·rename_i ok;exact(Array.getElem?_eq_some_iff.1 ok).1
         ·cases h3
        have:=haw k (List.mem_range.2 hk)
        simpa [h1,h2,h3]using this
       exact Xm ho (Region.noSelect_spec hsel) (pan u) hlj fuel listed a w (Region.free_spec ho hfree) hwt hmem (.inl ⟨hw,hrun⟩) (aG.refl _ _) (ih _ hK hfr (hS'.put o.dst hVo hv).upto hk)
     ·obtain⟨hS',_⟩:=know ha
      exact Ox ho (Region.noSelect_spec hsel) (pan _) hlj fuel listed a w (Region.free_spec ho hfree) hmem (.inr ⟨hw,rfl⟩) (aG.refl _ _) (ih _ hK hfr (hS'.put o.dst hVo (v:=.tup []) ⟨[],rfl,rfl⟩).upto h)
    ·cases h
   ·refine⟨fun h0=>(by rw[hr]at h0;cases h0),fun j hj=> ?_⟩
    rw[hr]at hj
    have h:=tq h j hj
    split at h
    ·rename_i o ho
     have hVo:=hV o (Array.mem_of_getElem? ho)
     split at h
     ·rename_i hlj
      have go:∀ {af':AF} {a':Act} {w':World},AG Γ E σ all fuel (listed.setIfInBounds j true) {af' with lock:=true} K=some r→St P ⟨C.A,C.Wr,fun b=>w.heap.size≤b,C.V⟩ w af' a' w'→
        (oh σ all j=true→aG C.Ch w0 w'∧wpAnyH P .any all Q (aG C.Ch w0) fuel (listed.setIfInBounds j true) a' w')∧(oh σ all j=false→aG (fun b=>w.heap.size≤b) w w'∧ol P all Q (aG C.Ch w0) (aG (fun b=>w.heap.size≤b) w) (oh σ all) fuel (listed.setIfInBounds j true) a' w'):=by
       intro af' a' w' h ⟨hK',μ',hS'⟩
       have hsz:=hK'.size
       have tr:∀ {x:World},aG (fun b=>w'.heap.size≤b) w' x→aG (fun b=>w.heap.size≤b) w x:=fun hx=>hK'.trans (hx.mono fun b _ hb=>Nat.le_trans hsz hb)
       exact⟨fun hq=>(by rw[hlj]at hq;cases hq),fun _=>⟨hK',U6 (fun x hx=>tr hx) fuel _ (ih _ (hK.trans (hK'.mono fun b _ hb=>hfr b hb)) (fun b hb=>hfr b (Nat.le_trans hsz hb)) hS'.upto h)⟩⟩
      unfold wpOp
      simp only[ho]
      rcases kA ⟨aG.refl _ _,μ,hS⟩ h with⟨hw,af',hst,_,h⟩|⟨hw,af',hst,_,h⟩
      ·rw[if_pos hw]
       exact .inl (Dc hT (hσ.here hi) hst hVo h fun a' w' ⟨af2,h2,hst2⟩=>go h2 hst2)
      ·rw[hw,if_neg (by decide)]
       exact go h (hst.undef o.dst hVo)
     ·rename_i hlj
      have go:∀ {af':AF} {a':Act} {w':World},qb Γ E σ all fuel false (listed.setIfInBounds j true) af' K=some r→St P C w0 af' a' w'→
        (oh σ all j=true→aG C.Ch w0 w'∧wpAnyH P .any all Q (aG C.Ch w0) fuel (listed.setIfInBounds j true) a' w')∧(oh σ all j=false→aG (fun b=>w.heap.size≤b) w w'∧ol P all Q (aG C.Ch w0) (aG (fun b=>w.heap.size≤b) w) (oh σ all) fuel (listed.setIfInBounds j true) a' w'):=
       fun h ⟨hK',μ',hS'⟩=>⟨fun _=>⟨hK',y5 hT hσ hsel hV hQ hp fuel false _ hK' hS' (fun h=>by cases h) h⟩,fun hq=>(by rw[hlj]at hq;cases hq)⟩
      unfold wpOp
      simp only[ho]
      rcases kA ⟨hK,μ,back hfr hS⟩ h with⟨hw,af',hst,_,h⟩|⟨hw,af',hst,_,h⟩
      ·rw[if_pos hw]
       exact .inl (Dc hT hσ hst hVo h fun a' w' ⟨af2,h2,hst2⟩=>go h2 hst2)
      ·rw[hw,if_neg (by decide)]
       exact go h (hst.undef o.dst hVo)
    ·cases h
theorem acX {G:Gl}(hT:cH P Γ E=true)(hσ:kW G P C w0 σ){id:Nat}{all:Array Oper}(hsel:Region.noSelect all=true)(hV:∀o ∈ all,∀d,o.dst=some d→C.V d=none){K:AF→Option R}{r:R}{Q:Exit→Act→World→Prop}(hQ:∀a w,PK P C w0 K r a w→Q .normal a w)
  (hp:∀c a w,¬Q (.panic c) a w) (hst:St P C w0 af a w) (hlock0:af.lock=false) (h:AG Γ E σ all all.size (Array.replicate all.size false) {af with lock:=true} K=some r):(Code.region id all true).wp P Q a w:=by
 obtain⟨hK,μ,hS⟩:=hst
 have hch:=hS.chg.resolve_left (by simp[hlock0])
 have hag:br (aO C.A μ af) w {w with drawn:=w.drawn+1}:=⟨Nat.le_refl _,fun _ _ _=>rfl⟩
 have hS1:a8 P ⟨C.A,C.Wr,fun b=>w.heap.size≤b,C.V⟩ μ {af with lock:=true} a {w with drawn:=w.drawn+1}:=by
  refine⟨hS.defers,hS.tl,fun t x hx=>(hS.tmps t x hx).trans (fun _ _=>rfl) hag (fun _ _ h=>h),fun l o ho=> ?_,hS.wr,hS.inj,hS.fr,.inl rfl,fun b hb=>hb,hS.fix⟩
  exact(hS.objs l o ho).trans rfl rfl (fun _ _=>rfl) hag (fun _ _ h=>h) (fun _ _=>rfl)
 have hK1:aG C.Ch w0 {w with drawn:=w.drawn+1}:=hK.drew
 refine wp_region_held (S:=aG C.Ch w0) (AL hT) ?_
 exact LJ (fun w' hw'=>hK1.trans (hw'.mono fun b _ hb=>hS.frc b hb)) _ _ (acW hT hσ hsel hV hch hQ hp _ _ hK1 (fun b hb=>hS.frc b hb) hS1 h)
theorem acY {G:Gl}(hT:cH P Γ E=true)(hσ:kW G P C w0 σ){id:Nat}{all:Array Oper}(hsel:Region.noSelect all=true)(hV:∀o ∈ all,∀d,o.dst=some d→C.V d=none){K:AF→Option R}{r:R}{Q:Exit→Act→World→Prop}(hQ:∀a w,PK P C w0 K r a w→Q .normal a w)
  (hp:∀c a w,¬Q (.panic c) a w) (hst:St P C w0 af a w) (hlock0:af.lock=false) (h:qb Γ E σ all all.size true (Array.replicate all.size false) (iC all.toList all.toList af) K=some r):(Code.region id all true).wp P Q a w:=by
 obtain⟨hK,μ,hS⟩:=hst
 have hch:=hS.chg.resolve_left (by simp[hlock0])
 have hS:=hS.freezeFor all.toList all.toList
 generalize iC all.toList all.toList af=af1 at hS h
 refine wp_region_held (S:=aG (fun b=>(∃l o,af1.obj l=some o∧μ.has l b)∨w.heap.size≤b) {w with drawn:=w.drawn+1}) (AL hT) ?_
 have hS1:a8 P ⟨C.A,fun b=>(∃l o,af1.obj l=some o∧μ.has l b)∨w.heap.size≤b,fun b=>(∃l o,af1.obj l=some o∧μ.has l b)∨w.heap.size≤b,C.V⟩ μ af1 a {w with drawn:=w.drawn+1}:=by
  have hag:br (aO C.A μ af1) w {w with drawn:=w.drawn+1}:=⟨Nat.le_refl _,fun _ _ _=>rfl⟩
  refine⟨hS.defers,hS.tl,fun t x hx=>(hS.tmps t x hx).trans (fun _ _=>rfl) hag (fun _ _ h=>h),fun l o ho=> ?_,fun l o b ho hb=>⟨.inl ⟨l,o,ho,hb⟩,(hS.wr l o b ho hb).2⟩,hS.inj,fun b hb=>⟨(hS.fr b hb).1,.inr hb⟩,.inr fun _ h=>h,fun b hb=>.inr hb,hS.fix⟩
  exact(hS.objs l o ho).trans rfl rfl (fun _ _=>rfl) hag (fun _ _ h=>h) (fun _ _=>rfl)
 have hwr:∀b,(∃l o,af1.obj l=some o∧μ.has l b)∨w.heap.size≤b→C.Wr b:=by
  rintro b (⟨l,o,ho,hb⟩|hb)
  ·exact(hS.wr l o b ho hb).1
  ·exact(hS.fr b hb).2
 have hgw:=hσ.gw hK hS
 have hsg:kW G P ⟨C.A,fun b=>(∃l o,af1.obj l=some o∧μ.has l b)∨w.heap.size≤b,fun b=>(∃l o,af1.obj l=some o∧μ.has l b)∨w.heap.size≤b,C.V⟩ {w with drawn:=w.drawn+1} σ:=
  ⟨G.stay w _ hgw.1 (Nat.le_refl _) (fun _ _=>rfl),fun b hb=>⟨(hσ.b b hb).1,fun h=>(hσ.b b hb).2.1 (hwr b h),fun h=>(hσ.b b hb).2.1 (hwr b h)⟩,hσ.ok⟩
 refine y5 (C:=⟨C.A,fun b=>(∃l o,af1.obj l=some o∧μ.has l b)∨w.heap.size≤b,fun b=>(∃l o,af1.obj l=some o∧μ.has l b)∨w.heap.size≤b,C.V⟩) hT hsg hsel hV (fun a' w' hpk=>hQ a' w' ?_) hp _ _ _ (aG.refl _ _) hS1 (fun _=>⟨rfl,fun b hb hlt hw=> ?_⟩) h
 ·obtain⟨af',h',hK',μ',hS'⟩:=hpk
  have hsz:=hK'.size
  refine⟨af',h',(hK.drew).trans (hK'.mono fun k _ hk=>hch k (hwr k hk)),μ',hS'.defers,hS'.tl,hS'.tmps,hS'.objs,fun l o b ho hb=> ?_,hS'.inj,fun b hb=>⟨(hS'.fr b hb).1,hwr b (hS'.fr b hb).2⟩,.inr hch,fun b hb=>hch b (hwr b (hS'.frc b hb)),hS'.fix⟩
  exact⟨hwr b (hS'.wr l o b ho hb).1,(hS'.wr l o b ho hb).2⟩
 ·rcases hw with⟨l,o,ho,hbl⟩|hw
  ·exact hb.2 l o ho hbl
  ·exact absurd hw (Nat.not_le.2 hlt)
theorem acZ {G:Gl}(hT:cH P Γ E=true)(hσ:kW G P C w0 σ){id:Nat}{all:Array Oper}(hsel:Region.noSelect all=true)(hV:∀o ∈ all,∀d,o.dst=some d→C.V d=none){K:AF→Option R}{r:R}{Q:Exit→Act→World→Prop}(hQ:∀a w,PK P C w0 K r a w→Q .normal a w)
  (hp:∀c a w,¬Q (.panic c) a w) (hst:St P C w0 af a w) (hlock0:af.lock=false) (h:nK Γ E σ all all.size true (Array.replicate all.size false) (iC all.toList all.toList af) K=some r):(Code.region id all true).wp P Q a w:=by
 obtain⟨hK,μ,hS⟩:=hst
 have hch:=hS.chg.resolve_left (by simp[hlock0])
 have hS:=hS.freezeFor all.toList all.toList
 generalize iC all.toList all.toList af=af1 at hS h
 refine wp_region_held (S:=aG (fun b=>(∃l o,af1.obj l=some o∧μ.has l b)∨w.heap.size≤b) {w with drawn:=w.drawn+1}) (AL hT) ?_
 have hS1:a8 P ⟨C.A,fun b=>(∃l o,af1.obj l=some o∧μ.has l b)∨w.heap.size≤b,fun b=>(∃l o,af1.obj l=some o∧μ.has l b)∨w.heap.size≤b,C.V⟩ μ af1 a {w with drawn:=w.drawn+1}:=by
  have hag:br (aO C.A μ af1) w {w with drawn:=w.drawn+1}:=⟨Nat.le_refl _,fun _ _ _=>rfl⟩
  refine⟨hS.defers,hS.tl,fun t x hx=>(hS.tmps t x hx).trans (fun _ _=>rfl) hag (fun _ _ h=>h),fun l o ho=> ?_,fun l o b ho hb=>⟨.inl ⟨l,o,ho,hb⟩,(hS.wr l o b ho hb).2⟩,hS.inj,fun b hb=>⟨(hS.fr b hb).1,.inr hb⟩,.inr fun _ h=>h,fun b hb=>.inr hb,hS.fix⟩
  exact(hS.objs l o ho).trans rfl rfl (fun _ _=>rfl) hag (fun _ _ h=>h) (fun _ _=>rfl)
 have hwr:∀b,(∃l o,af1.obj l=some o∧μ.has l b)∨w.heap.size≤b→C.Wr b:=by
  rintro b (⟨l,o,ho,hb⟩|hb)
  ·exact(hS.wr l o b ho hb).1
  ·exact(hS.fr b hb).2
 have hgw:=hσ.gw hK hS
 have hsg:kW G P ⟨C.A,fun b=>(∃l o,af1.obj l=some o∧μ.has l b)∨w.heap.size≤b,fun b=>(∃l o,af1.obj l=some o∧μ.has l b)∨w.heap.size≤b,C.V⟩ {w with drawn:=w.drawn+1} σ:=
  ⟨G.stay w _ hgw.1 (Nat.le_refl _) (fun _ _=>rfl),fun b hb=>⟨(hσ.b b hb).1,fun h=>(hσ.b b hb).2.1 (hwr b h),fun h=>(hσ.b b hb).2.1 (hwr b h)⟩,hσ.ok⟩
 refine Fu (C:=⟨C.A,fun b=>(∃l o,af1.obj l=some o∧μ.has l b)∨w.heap.size≤b,fun b=>(∃l o,af1.obj l=some o∧μ.has l b)∨w.heap.size≤b,C.V⟩) hT hsg hsel hV (fun a' w' hpk=>hQ a' w' ?_) hp _ _ _ (aG.refl _ _) hS1 (fun _=>⟨rfl,fun b hb hlt hw=> ?_⟩) h
 ·obtain⟨af',h',hK',μ',hS'⟩:=hpk
  have hsz:=hK'.size
  refine⟨af',h',(hK.drew).trans (hK'.mono fun k _ hk=>hch k (hwr k hk)),μ',hS'.defers,hS'.tl,hS'.tmps,hS'.objs,fun l o b ho hb=> ?_,hS'.inj,fun b hb=>⟨(hS'.fr b hb).1,hwr b (hS'.fr b hb).2⟩,.inr hch,fun b hb=>hch b (hwr b (hS'.frc b hb)),hS'.fix⟩
  exact⟨hwr b (hS'.wr l o b ho hb).1,(hS'.wr l o b ho hb).2⟩
 ·rcases hw with⟨l,o,ho,hbl⟩|hw
  ·exact hb.2 l o ho hbl
  ·exact absurd hw (Nat.not_le.2 hlt)
theorem St.read {G:Gl}(hst:St P C w0 af a w)(hσ:kW G P C w0 σ){ss:List Nat}{t:Ty}{x:t.T}(h:Gk σ n af ss t=some x):St P C w0 (eS n ss t x) a w:=
 let⟨hK,_,hS⟩:=hst
 let⟨μ',hS'⟩:=hS.read (hσ.at hK hS) h
 ⟨hK,μ',hS'⟩
def xq:Exit→Ex→Prop
 | .normal,.normal=>True
 | .exit i,.exit j=>i=j
 | .ret,.ret=>True
 |_,_=>False
def cF:Code→List Code
 | .seq a b=>cF a++cF b
 | .cond _ a b=>cF a++cF b
 | .block _ c=>cF c
 | .loop c=>c::cF c
 |_=>[]
def lI:Code→List Code
 | .seq a b=>b::(lI a++lI b)
 | .cond _ a b=>lI a++lI b
 | .block _ c=>lI c
 | .loop c=>lI c
 |_=>[]
def yi(σ:FuncId→Option ai)(n:Nat)(brk:Nat)(bs:List Nat)(bt:Ty)(rs:List Nat)(rt:Ty):Ex→AF→Option (bt.T ⊕ rt.T)
 | .normal,_=>none
 | .exit i,af=>if i=brk then match Gk σ n af bs bt with
   |some y=>some (.inl y)
   |none=>none
   else none
 | .ret,af=>match Gk σ n af rs rt with
   |some z=>some (.inr z)
   |none=>none
def U8(Γ:cD)(E:bR)(σ:FuncId→Option ai)(Λ:Nat→Option aM)(n:Nat)(ls:aM)(b:Code):Prop:=
 ∀x out,ls.L x=some out→d6 Γ E σ Λ n b (eS n ls.ss ls.t x) (yi σ n ls.brk ls.bs ls.bt ls.rs ls.rt)=some out
def Fw(σ:FuncId→Option ai)(n:Nat)(ls:List Nat)(lt:Ty)(brk:Nat)(bs:List Nat)(bt:Ty)(rs:List Nat)(rt:Ty):Ex→AF→Option (lt.T ⊕ (bt.T ⊕ rt.T))
 | .normal,af=>match Gk σ n af ls lt with
   |some x=>some (.inl x)
   |none=>none
 | .exit i,af=>if i=brk then match Gk σ n af bs bt with
   |some y=>some (.inr (.inl y))
   |none=>none
   else none
 | .ret,af=>match Gk σ n af rs rt with
   |some z=>some (.inr (.inr z))
   |none=>none
def U9(Γ:cD)(E:bR)(σ:FuncId→Option ai)(Λ:Nat→Option aM)(n:Nat)(ls:aM)(c:Code):Prop:=
 ∃m:ls.t.T→Nat,∀x out,ls.L x=some out→∃st,d6 Γ E σ Λ n c (eS n ls.ss ls.t x) (Fw σ n ls.ss ls.t ls.brk ls.bs ls.bt ls.rs ls.rt)=some st∧
  match st with
  | .inl x'=>ls.L x'=some out∧m x'<m x
  | .inr o=>o=out
theorem Dd {k:List Nat}(hV:∀d,d ∉ k→C.V d=none){ops:Array Oper}(h:(k.isEmpty||ops.all fun o=>match o.dst with|some d=> !k.contains d|none=>true)=true):∀o ∈ ops,∀d,o.dst=some d→C.V d=none:=by
 intro o ho d hd
 simp only[Bool.or_eq_true]at h
 rcases h with h|h
 ·have:k= []:=by simpa using h
  subst this
  exact hV d (by simp)
 have:=Array.all_eq_true_iff_forall_mem.1 h o ho
 rw[hd]at this
 exact hV d (by simpa using this)
theorem LL:∀l:List Bool,tf l.length (lR l)=l
 | []=>rfl
 |b::r=>by
  have ih:=LL r
  show tf (r.length+1) (lR (b::r))=b::r
  cases b with
  |true=>
   have e:lR (true::r)=2*lR r+1:=rfl
   rw[e]
   unfold tf
   rw[show(2*lR r+1) / 2=lR r from by omega,ih,show(2*lR r+1) % 2=1 from by omega]
   rfl
  |false=>
   have e:lR (false::r)=2*lR r+0:=rfl
   rw[e]
   unfold tf
   rw[show(2*lR r+0) / 2=lR r from by omega,ih,show(2*lR r+0) % 2=0 from by omega]
   rfl
theorem SQ {all:Array Oper}{listed:Array Bool}(h:listed.size=all.size):Oe all (lR listed.toList)=(Region.ready .any all listed).map fun j=>(j,Region.free .any all listed j):=by
 have e:(tf all.size (lR listed.toList)).toArray=listed:=by
  have:=LL listed.toList
  rw[Array.length_toList,h]at this
  rw[this]
 unfold Oe
 rw[e]
theorem Va {all:Array Oper}{K:AF→Option R}:∀(fuel:Nat) (fresh:Bool) (listed:Array Bool) (af:AF),listed.size=all.size→Fj Γ E σ all fuel fresh listed af K=qb Γ E σ all fuel fresh listed af K
 |0,fresh,listed,af,h=>by
  have e:=SQ h
  unfold Fj qb
  simp only[e]
  cases Region.ready .any all listed<;>rfl
 |fuel+1,fresh,listed,af,h=>by
  have e:=SQ h
  have ih:∀fr j,(fun af'=>Fj Γ E σ all fuel fr (listed.setIfInBounds j true) af' K)=fun af'=>qb Γ E σ all fuel fr (listed.setIfInBounds j true) af' K:=fun fr j=>funext fun af'=>Va fuel fr _ af' (by simpa using h)
  unfold Fj qb
  simp only[e]
  cases Region.ready .any all listed with
  |nil=>rfl
  |cons i r=>
   have e2:((i::r).map fun j=>(j,Region.free .any all listed j)).find? (fun q=>jP false all af fresh q.1&&q.2)=((i::r).find? (fun j=>jP false all af fresh j&&Region.free .any all listed j)).map fun j=>(j,Region.free .any all listed j):=List.find?_map ..
   rw[List.map_cons]at e2 ⊢
   simp only[e2]
   have e3:((i,Region.free .any all listed i)::r.map fun j=>(j,Region.free .any all listed j)).map (·.1)=i::r:=by simp[Function.comp_def]
   cases (i::r).find? (fun j=>jP false all af fresh j&&Region.free .any all listed j)with
   |some j=>simp only[Option.map_some,ih]
   |none=>simp only[Option.map_none,e3,ih]
theorem mb {G:Gl}(hT:cH P Γ E=true)(hσ:kW G P C w0 σ){k:List Nat}(hV:∀d,d ∉ k→C.V d=none):∀(c:Code),nL k c=true→(∀c' ∈ cF c,∀ls,Λ (dF c')=some ls→U9 Γ E σ Λ n ls c')→(∀b ∈ lI c,∀ls,Λ (rf b)=some ls→U8 Γ E σ Λ n ls b)→
  ∀ {R:Type} {K:Ex→AF→Option R} {r:R} {af:AF} {a:Act} {w:World},d6 Γ E σ Λ n c af K=some r→St P C w0 af a w→
  c.wp P (fun e a w=>∃e' af',xq e e'∧K e' af'=some r∧St P C w0 af' a w) a w
 | .skip,_,_,_,R,K,r,af,a,w,h,hst=>wp_skip ⟨.normal,af,trivial,h,hst⟩
 | .label l,_,_,_,R,K,r,af,a,w,h,hst=>wp_label ⟨.normal,af,trivial,h,hst⟩
 | .exit id,_,_,_,R,K,r,af,a,w,h,hst=>wp_exit ⟨.exit id,af,rfl,h,hst⟩
 | .ret,_,_,_,R,K,r,af,a,w,h,hst=>wp_ret ⟨.ret,af,trivial,h,hst⟩
 | .region id ops draw,hnd,_,_,R,K,r,af,a,w,h,hst=>by
   unfold d6 at h
   split at h
   ·split at h
    ·rename_i hsel
     split at h
     ·obtain⟨hK,μ,hS⟩:=hst
      refine Xk (C:=C) (w0:=w0) hT hσ hsel (Dd hV hnd) ?_ (fun c a w ⟨e',_,hm,_⟩=>by cases e'<;>exact hm) hK hS h
      rintro a' w' ⟨af',h1,hK',μ',hS'⟩
      exact⟨.normal,_,trivial,h1,hK',μ',hS'.locked af.lock hS.chg⟩
     ·split at h
      ·cases h
      ·rename_i hl
       split at h
       ·exact acX hT hσ hsel (Dd hV hnd) (fun a w ⟨af',h1,h2⟩=>⟨.normal,af',trivial,h1,h2⟩) (fun c a w ⟨e',_,hm,_⟩=>by cases e'<;>exact hm) hst hl h
       ·split at h
        ·exact acZ hT hσ hsel (Dd hV hnd) (fun a w ⟨af',h1,h2⟩=>⟨.normal,af',trivial,h1,h2⟩) (fun c a w ⟨e',_,hm,_⟩=>by cases e'<;>exact hm) hst hl h
        rw[Va _ _ _ _ (by simp)]at h
        exact acY hT hσ hsel (Dd hV hnd) (fun a w ⟨af',h1,h2⟩=>⟨.normal,af',trivial,h1,h2⟩) (fun c a w ⟨e',_,hm,_⟩=>by cases e'<;>exact hm) hst hl h
    ·cases h
   ·exact wp_region_list (Q4 hT hσ (fun a w ⟨af',h1,h2⟩=>⟨.normal,af',trivial,h1,h2⟩) _ (fun o ho=>Dd hV hnd o (by simpa using ho)) hst h)
 | .seq x y,hnd,hL,hC,R,K,r,af,a,w,h,hst=>by
   simp only[nL,Bool.and_eq_true]at hnd
   unfold d6 at h
   have h1:=mb hT hσ hV x hnd.1 (fun c' hc=>hL c' (List.mem_append.2 (.inl hc))) (fun c' hc=>hC c' (List.mem_cons_of_mem _ (List.mem_append.2 (.inl hc)))) h hst
   refine wp_seq (wp_mono h1 ?_)
   rintro e a' w' ⟨e',af',hm,hk,hst'⟩
   cases e' with
   |normal=>
    cases e<;>simp only[xq]at hm
    have hL2:∀c' ∈ cF y,∀ls,Λ (dF c')=some ls→U9 Γ E σ Λ n ls c':=fun c' hc=>hL c' (List.mem_append.2 (.inr hc))
    have hC2:∀c' ∈ lI y,∀ls,Λ (rf c')=some ls→U8 Γ E σ Λ n ls c':=fun c' hc=>hC c' (List.mem_cons_of_mem _ (List.mem_append.2 (.inr hc)))
    simp only at hk
    split at hk
    ·exact mb hT hσ hV y hnd.2 hL2 hC2 hk hst'
    ·rename_i ls hls
     split at hk
     ·cases hk
     ·rename_i x' hx
      split at hk
      ·cases hk
      all_goals
       rename_i out hout
       have hc:=hC y (by simp[lI]) ls hls x' _ hout
       refine wp_mono (mb hT hσ hV y hnd.2 hL2 hC2 hc (hst'.read hσ hx)) ?_
       rintro e0 a2 w2 ⟨e2,af2,hmm,hk2,hst2⟩
       cases e2 with
       |normal=>simp[yi]at hk2
       |exit i=>
        cases e0<;>simp only[xq]at hmm
        simp only[yi]at hk2
        split at hk2
        ·rename_i h1
         split at hk2
         ·rename_i y2 h2
          have hk2:=Option.some.inj hk2
          cases hk2<;>exact⟨.exit ls.brk,_,by simp[xq,hmm,h1],hk,hst2.read hσ h2⟩
         ·cases hk2
        ·cases hk2
       |ret=>
        cases e0<;>simp only[xq]at hmm
        simp only[yi]at hk2
        split at hk2
        ·rename_i z2 h2
         have hk2:=Option.some.inj hk2
         cases hk2<;>exact⟨.ret,_,trivial,hk,hst2.read hσ h2⟩
        ·cases hk2
   |exit i=>
    cases e<;>simp only[xq]at hm
    exact⟨.exit i,af',hm,hk,hst'⟩
   |ret=>
    cases e<;>simp only[xq]at hm
    exact⟨.ret,af',trivial,hk,hst'⟩
 | .cond c x y,hnd,hL,hC,R,K,r,af,a,w,h,hst=>by
   simp only[nL,Bool.and_eq_true]at hnd
   unfold d6 at h
   split at h
   ·rename_i d
    split at h
    ·rename_i t ht
     have hc:a.eval (.tmp d)= .bool t:=hst.bool ht
     split at h
     ·exact wp_cond_true hc (mb hT hσ hV x hnd.1 (fun c' hc=>hL c' (List.mem_append.2 (.inl hc))) (fun c' hc=>hC c' (List.mem_append.2 (.inl hc))) h (hst.know ht))
     ·exact wp_cond_false hc (mb hT hσ hV y hnd.2 (fun c' hc=>hL c' (List.mem_append.2 (.inr hc))) (fun c' hc=>hC c' (List.mem_append.2 (.inr hc))) h (hst.know ht))
    ·cases h
   ·rename_i t
    split at h
    ·exact wp_cond_true rfl (mb hT hσ hV x hnd.1 (fun c' hc=>hL c' (List.mem_append.2 (.inl hc))) (fun c' hc=>hC c' (List.mem_append.2 (.inl hc))) h hst)
    ·exact wp_cond_false rfl (mb hT hσ hV y hnd.2 (fun c' hc=>hL c' (List.mem_append.2 (.inr hc))) (fun c' hc=>hC c' (List.mem_append.2 (.inr hc))) h hst)
   ·cases h
 | .block id c,hnd,hL,hC,R,K,r,af,a,w,h,hst=>by
   simp only[nL]at hnd
   unfold d6 at h
   have h1:=mb hT hσ hV c hnd hL hC h hst
   refine wp_block (wp_mono h1 ?_)
   rintro e a' w' ⟨e',af',hm,hk,hst'⟩
   cases e' with
   |normal=>
    cases e<;>simp only[xq]at hm
    exact⟨.normal,af',trivial,hk,hst'⟩
   |exit i=>
    cases e<;>simp only[xq]at hm
    subst hm
    simp only[Exit.inBlock]
    simp only at hk
    split
    ·rename_i hid
     rw[if_pos hid]at hk
     exact⟨.normal,af',trivial,hk,hst'⟩
    ·rename_i hid
     rw[if_neg hid]at hk
     exact⟨.exit _,af',rfl,hk,hst'⟩
   |ret=>
    cases e<;>simp only[xq]at hm
    exact⟨.ret,af',trivial,hk,hst'⟩
 | .loop c,hnd,hL,hC,R,K,r,af,a,w,h,hst=>by
   simp only[nL]at hnd
   unfold d6 at h
   split at h
   ·cases h
   ·rename_i ls hls
    split at h
    ·cases h
    ·rename_i x hx
     obtain⟨m,hm⟩:=hL c (by simp[cF]) ls hls
     split at h
     ·cases h
     all_goals
      rename_i out hout
      refine wp_loop_ghost (fun k a w=>∃x,m x=k∧ls.L x=some _∧St P C w0 (eS n ls.ss ls.t x) a w) (m x) ⟨x,rfl,hout,hst.read hσ hx⟩ ?_
      rintro k a w ⟨x,rfl,hx,hst⟩
      obtain⟨st,hc,he⟩:=hm x _ hx
      refine wp_mono (mb hT hσ hV c hnd (fun c' hc'=>hL c' (by simp[cF,hc'])) hC hc hst) ?_
      rintro e0 a' w' ⟨e',af2,hmm,hk,hst'⟩
      cases e' with
      |normal=>
       cases e0<;>simp only[xq]at hmm
       simp only[Fw]at hk
       split at hk
       ·rename_i x' h1
        obtain rfl:=Option.some.inj hk
        exact⟨m x',he.2,x',rfl,he.1,hst'.read hσ h1⟩
       ·cases hk
      |exit i=>
       cases e0<;>simp only[xq]at hmm
       simp only[Fw]at hk
       split at hk
       ·rename_i h1
        split at hk
        ·rename_i y h2
         obtain rfl:=Option.some.inj hk
         cases he<;>exact⟨.exit ls.brk,_,by simp[xq,hmm,h1],h,hst'.read hσ h2⟩
        ·cases hk
       ·cases hk
      |ret=>
       cases e0<;>simp only[xq]at hmm
       simp only[Fw]at hk
       split at hk
       ·rename_i z h2
        obtain rfl:=Option.some.inj hk
        cases he<;>exact⟨.ret,_,trivial,h,hst'.read hσ h2⟩
       ·cases hk
 | .rangeFunc _ _ _ _,_,_,_,R,K,r,af,a,w,h,hst=>by simp[d6]at h
 | .scope _,_,_,_,R,K,r,af,a,w,h,hst=>by simp[d6]at h
 | .goto _,_,_,_,R,K,r,af,a,w,h,hst=>by simp[d6]at h
 | .refuse _,_,_,_,R,K,r,af,a,w,h,hst=>by simp[d6]at h
end
end Go.Proofs.YtnambbcafhnhpaaGreatDoor
