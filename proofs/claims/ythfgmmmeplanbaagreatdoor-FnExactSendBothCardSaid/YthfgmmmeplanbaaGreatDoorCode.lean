import Derived.Test.YthfgmmmeplanbaaGreatDoorDraw
import Derived.Deep.LoopGhost
namespace Go.Proofs.YthfgmmmeplanbaaGreatDoor
open Go.RowKit
set_option linter.unusedVariables false
set_option linter.unusedSimpArgs false
section
variable {P:Program} {C:Cx} {μ:Nm} {af:AF} {a:Act} {w w0:World} {Γ:Tab} {E:Elems} {R:Type} {σ:FuncId→Option Spec} {Λ:Nat→Option LSpec} {n:Nat}
theorem Sim.know(hS:Sim P C μ af a w){d:Nat}{t:Bool}(h:af.get d= .dat .bool t):Sim P C μ (af.know d t) a w:=by
 refine⟨hS.defers,by simp[AF.know,AF.put,hS.tl], ?_,hS.objs,hS.wr,hS.inj,hS.fr,hS.chg,hS.frc,hS.fix⟩
 intro s x hx
 show VA P μ (okS C.A μ af) w x _
 simp only[AF.know,AF.put]at hx
 by_cases hd:d=s
 ·subst hd
  have hlt:d<af.tmps.length:=by have:=(List.getElem?_eq_some_iff.1 hx).1;simpa using this
  rw[List.getElem?_set_self hlt]at hx
  simp at hx;subst hx
  have:=get_VA hS d
  rwa [h]at this
 ·rw[List.getElem?_set_ne hd]at hx
  exact hS.tmps s x hx
theorem St.know(hst:St P C w0 af a w){d:Nat}{t:Bool}(h:af.get d= .dat .bool t):St P C w0 (af.know d t) a w:=
 let⟨hK,μ,hS⟩:=hst;⟨hK,μ,hS.know h⟩
theorem St.bool(hst:St P C w0 af a w){d:Nat}{t:Bool}(h:af.get d= .dat .bool t):a.tmps.getD d undef= .bool t:=by
 obtain⟨_,μ,hS⟩:=hst
 have:=get_VA hS d
 rw[h,VA_bool]at this
 exact this
theorem yielded_of {all:Array Oper}{j d:Nat}{t:Bool}(hj:(all[j]?).bind (·.dst)=some d)(h:a.tmps.getD d undef= .bool t):yielded all a.tmps j=some t:=by
 have:a.tmps[d]? =some (.bool t):=by
  cases hh:a.tmps[d]? with
  |none=>
   have:a.tmps.getD d undef=undef:=by simp[hh]
   rw[this]at h;simp[undef]at h
  |some u=>have:a.tmps.getD d undef=u:=by simp[hh]
           rw[this]at h;rw[h]
 simp[yielded,hj,this]
theorem yielded_none {all:Array Oper}{j d:Nat}(hj:(all[j]?).bind (·.dst)=some d)(h:a.tmps.getD d undef=undef):yielded all a.tmps j=none:=by
 unfold yielded
 rw[hj]
 simp only[Option.bind_some]
 cases hh:a.tmps[d]? with
 |none=>rfl
 |some u=>
  have:a.tmps.getD d undef=u:=by simp[hh]
  rw[this]at h;rw[h];rfl
theorem St.undef'(hst:St P C w0 af a w){d:Nat}(h:af.get d= .tup []):a.tmps.getD d undef=undef:=by
 obtain⟨_,μ,hS⟩:=hst
 have:=get_VA hS d
 rw[h]at this
 obtain⟨us,e,hv⟩:=this
 have hv:us= []:=hv
 subst hv
 exact e
theorem St.undef(hst:St P C w0 af a w)(d:Option Tmp)(hV:∀d',d=some d'→C.V d'=none):St P C w0 (af.put d (.tup [])) (a.put d Go.undef) w:=by
 obtain⟨hK,μ,hS⟩:=hst
 exact St.put hK hS d hV ⟨[],rfl,rfl⟩
theorem opsK_ok {G:Gl}(hT:tabB P Γ E=true)(hσ:SigG G P C w0 σ){all:Array Oper}{K:AF→Option R}{r:R}{Q:Exit→Act→World→Prop}(hQ:∀a w,PK P C w0 K r a w→Q .normal a w):
 ∀(rest:List Oper) (_:∀o ∈ rest,∀d,o.dst=some d→C.V d=none) {af:AF} {a:Act} {w:World},St P C w0 af a w→opsK Γ E σ all rest af K=some r→wpList P all Q rest a w
 | [],_,_,_,_,hst,h=>wpList_nil (hQ _ _ ⟨_,h,hst⟩)
 |o::rest,hV,af,a,w,hst,h=>by
  refine wpList_step fun N hN=> ?_
  have run:∀ {af':AF},St P C w0 af' a w→opK Γ E σ o af' (fun af'=>opsK Γ E σ all rest af' K)=some r→o.wp P a w N Q:=fun hst' h'=>
   opK_ok hT hσ hst' (hV o (by simp)) h' fun a' w' ⟨af2,h2,hst2⟩=>hN _ _ (opsK_ok hT hσ hQ rest (fun o ho=>hV o (by simp[ho])) hst2 h2)
  have skip:∀ {af':AF},St P C w0 af' a w→opsK Γ E σ all rest (af'.put o.dst (.tup [])) K=some r→N (a.put o.dst Go.undef) w:=fun hst' h'=>
   hN _ _ (opsK_ok hT hσ hQ rest (fun o ho=>hV o (by simp[ho])) (hst'.undef o.dst (hV o (by simp))) h')
  unfold opsK at h
  split at h
  ·rename_i hg
   rw[if_pos (by simp[Region.wanted,hg])]
   exact run hst h
  ·rename_i j want hg
   split at h
   ·cases h
   ·rename_i d hd
    split at h
    ·rename_i ht
     have hy:=yielded_none hd (hst.undef' ht)
     have hw:Region.wanted o (yielded all a.tmps)=false:=by simp[Region.wanted,hg,hy]
     rw[hw,if_neg (by decide)]
     exact skip hst h
    ·rename_i t ht
     have hy:=yielded_of hd (hst.bool ht)
     have hw:Region.wanted o (yielded all a.tmps)=(some t==some want):=by simp[Region.wanted,hg,hy]
     rw[hw]
     split at h
     ·cases want with
      |true=>rw[if_pos (by decide)];rw[if_pos rfl]at h;exact run (hst.know ht) h
      |false=>rw[if_neg (by decide)];rw[if_neg (by decide)]at h;exact skip (hst.know ht) h
     ·cases want with
      |true=>rw[if_neg (by decide)];rw[if_pos rfl]at h;exact skip (hst.know ht) h
      |false=>rw[if_pos (by decide)];rw[if_neg (by decide)]at h;exact run (hst.know ht) h
    ·cases h
theorem oneK_split {all:Array Oper}{o:Oper}{K:AF→Option R}{r:R}(hst:St P C w0 af a w)(h:oneK Γ E σ all o af K=some r):
 (Region.wanted o (yielded all a.tmps)=true∧∃af',St P C w0 af' a w∧(af'=af∨∃d t,af.get d= .dat .bool t∧af'=af.know d t)∧opK Γ E σ o af' K=some r)∨
 (Region.wanted o (yielded all a.tmps)=false∧∃af',St P C w0 af' a w∧(af'=af∨∃d t,af.get d= .dat .bool t∧af'=af.know d t)∧K (af'.put o.dst (.tup []))=some r):=by
 unfold oneK at h
 split at h
 ·rename_i hg
  exact .inl ⟨by simp[Region.wanted,hg],af,hst,.inl rfl,h⟩
 ·rename_i j want hg
  split at h
  ·cases h
  ·rename_i d hd
   split at h
   ·rename_i ht
    have hy:=yielded_none hd (hst.undef' ht)
    exact .inr ⟨by simp[Region.wanted,hg,hy],af,hst,.inl rfl,h⟩
   ·rename_i t ht
    have hy:=yielded_of hd (hst.bool ht)
    have hw:Region.wanted o (yielded all a.tmps)=(some t==some want):=by simp[Region.wanted,hg,hy]
    split at h
    ·cases want with
     |true=>rw[if_pos rfl]at h;exact .inl ⟨by rw[hw];rfl,_,hst.know ht,.inr ⟨d,_,ht,rfl⟩,h⟩
     |false=>rw[if_neg (by decide)]at h;exact .inr ⟨by rw[hw];rfl,_,hst.know ht,.inr ⟨d,_,ht,rfl⟩,h⟩
    ·cases want with
     |true=>rw[if_pos rfl]at h;exact .inr ⟨by rw[hw];rfl,_,hst.know ht,.inr ⟨d,_,ht,rfl⟩,h⟩
     |false=>rw[if_neg (by decide)]at h;exact .inl ⟨by rw[hw];rfl,_,hst.know ht,.inr ⟨d,_,ht,rfl⟩,h⟩
   ·cases h
theorem obj_know(d:Nat)(t:Bool)(l:Nat):(af.know d t).obj l=af.obj l:=rfl
theorem stillB_know {d:Nat}{t lk fresh:Bool}{o:Oper}(hd:af.get d= .dat .bool t)(h:stillB lk af fresh o=true):stillB lk (af.know d t) fresh o=true:=by
 have hev:∀s,(af.know d t).get s=af.get s:=by
  intro s
  by_cases hds:d=s
  ·subst hds
   rw[hd]
   unfold AF.know AF.put AF.get
   simp only[List.getD,List.getElem?_set,if_true]
   unfold AF.get at hd
   split
   ·rfl
   ·rename_i hn
    simp only[List.getD,List.getElem?_eq_none (Nat.not_lt.1 hn)]at hd
    cases hd
  ·unfold AF.know AF.put AF.get
   simp only[List.getD,List.getElem?_set]
   rw[if_neg hds]
 obtain⟨dst,op,ty,pos,after,guard⟩:=o
 cases op with
 |load id p=>
  have:(af.know d t).ev p=af.ev p:=by
   cases p with
   |tmp s=>exact hev s
   |_=>rfl
  simp only[stillB]at h ⊢
  rw[this];exact h
 |slice id x lo hi mx=>
  have:(af.know d t).ev x=af.ev x:=by
   cases x with
   |tmp s=>exact hev s
   |_=>rfl
  simp only[stillB]at h ⊢
  rw[this];exact h
 |indexAddr id x i=>
  have:(af.know d t).ev x=af.ev x:=by
   cases x with
   |tmp s=>exact hev s
   |_=>rfl
  simp only[stillB]at h ⊢
  rw[this];exact h
 |convert s0 t0 x=>
  have:(af.know d t).ev x=af.ev x:=by
   cases x with
   |tmp s=>exact hev s
   |_=>rfl
  simp only[stillB]at h ⊢
  rw[this];exact h
 |_=>first|rfl|exact h
theorem eachK_some {f:Nat→Option R}{r:R}:∀ {l:List Nat},eachK l f=some r→∀j ∈ l,f j=some r
 | [],h,j,hj=>by cases hj
 | [i],h,j,hj=>by
   obtain rfl:j=i:=by simpa using hj
   exact h
 |i::k::l,h,j,hj=>by
  obtain⟨h1,h2⟩:=both_some h
  rcases List.mem_cons.1 hj with rfl|hj
  ·exact h1
  ·exact eachK_some h2 j hj
theorem drawK_in {G:Gl}(hT:tabB P Γ E=true)(hσ:SigG G P C w0 σ){all:Array Oper}(hsel:Region.noSelect all=true)(hV:∀o ∈ all,∀d,o.dst=some d→C.V d=none){K:AF→Option R}{r:R}{Q:Exit→Act→World→Prop}(hQ:∀a w,PK P C w0 K r a w→Q .normal a w)
 (hp:∀c a w,¬Q (.panic c) a w):∀(fuel:Nat) (fresh:Bool) (listed:Array Bool) {af:AF} {a:Act} {w:World} {μ:Nm},Keeps C.Ch w0 w→Sim P C μ af a w→(fresh=true→w=w0∧∀b,okS C.A μ af b→b<w0.heap.size→¬C.Ch b)→
   drawK Γ E σ all fuel fresh listed af K=some r→wpAnyH P .any all Q (Keeps C.Ch w0) fuel listed a w
 |0,fresh,listed,af,a,w,μ,hK,hS,hf,h=>by
  unfold drawK at h
  split at h
  ·rename_i hr;exact⟨hr,hQ _ _ ⟨af,h,hK,μ,hS⟩⟩
  ·cases h
 |fuel+1,fresh,listed,af,a,w,μ,hK,hS,hf,h=>by
  unfold drawK at h
  split at h
  ·rename_i hr;exact wpAnyH_done hr (hQ _ _ ⟨af,h,hK,μ,hS⟩) _
  ·rename_i i rs hr
   split at h
   ·rename_i j hj
    have hmem:j ∈ Region.ready .any all listed:=by rw[hr];exact List.mem_of_find?_eq_some hj
    have hpj:=List.find?_some hj
    simp only[Bool.and_eq_true]at hpj
    obtain⟨hst,hfree⟩:=hpj
    split at h
    ·rename_i o ho
     have hst:stillB false af fresh o=true:=by simpa [stillAt,ho]using hst
     have hc:(Region.ready .any all listed).contains j=true:=by simpa using hmem
     rcases oneK_split ⟨hK,μ,hS⟩ h with⟨hw,af',_,ha,h⟩|⟨hw,af',_,ha,h⟩
     ·have hS':Sim P C μ af' a w:=by
       rcases ha with rfl|⟨d,t,hd,rfl⟩
       ·exact hS
       ·exact hS.know hd
      have hst':stillB false af' fresh o=true:=by
       rcases ha with rfl|⟨d,t,hd,rfl⟩
       ·exact hst
       ·exact stillB_know hd hst
      have hok:okS C.A μ af'=okS C.A μ af:=by
       rcases ha with rfl|⟨d,t,hd,rfl⟩<;>rfl
      obtain⟨v,u,hrun,hv,hk⟩:=still_ok hT hS' (S:=Keeps C.Ch w0) (lk:=false) (fresh:=fresh) (fun h=>by cases h) (fun hfr w' hw' b hb hlt=>by
       obtain⟨rfl,hnw⟩:=hf hfr
       exact hw'.block b hlt (hnw b (hok▸hb) hlt)) hst' h
      exact wpAnyH_take ho hsel hfree hc (fun c a w h=>absurd h (hp c _ w)) (.inl ⟨hw,hrun⟩) hK
       (drawK_in hT hσ hsel hV hQ hp fuel fresh _ hK (hS'.put o.dst (hV o (Array.mem_of_getElem? ho)) hv) (fun hfr=>⟨(hf hfr).1,fun b hb=>(hf hfr).2 b (by rw[okS_put,hok]at hb;exact hb)⟩) hk)
     ·have hS':Sim P C μ af' a w:=by
       rcases ha with rfl|⟨d,t,hd,rfl⟩
       ·exact hS
       ·exact hS.know hd
      have hok:okS C.A μ af'=okS C.A μ af:=by
       rcases ha with rfl|⟨d,t,hd,rfl⟩<;>rfl
      exact wpAnyH_take ho hsel hfree hc (fun c a w h=>absurd h (hp c _ w)) (.inr ⟨hw,rfl⟩) hK
       (drawK_in hT hσ hsel hV hQ hp fuel fresh _ hK (hS'.put o.dst (hV o (Array.mem_of_getElem? ho)) (v:=.tup []) ⟨[],rfl,rfl⟩) (fun hfr=>⟨(hf hfr).1,fun b hb=>(hf hfr).2 b (by rw[okS_put,hok]at hb;exact hb)⟩) h)
    ·cases h
   ·refine wpAnyH_all hr (by simp) fun j hj=> ?_
    ·have h:=eachK_some h j hj
     split at h
     ·rename_i o ho
      have go:∀ {af':AF} {a':Act} {w':World},drawK Γ E σ all fuel false (listed.setIfInBounds j true) af' K=some r→St P C w0 af' a' w'→Keeps C.Ch w0 w'∧wpAnyH P .any all Q (Keeps C.Ch w0) fuel (listed.setIfInBounds j true) a' w':=
       fun h ⟨hK',μ',hS'⟩=>⟨hK',drawK_in hT hσ hsel hV hQ hp fuel false _ hK' hS' (fun h=>by cases h) h⟩
      unfold wpOp
      simp only[ho]
      rcases oneK_split ⟨hK,μ,hS⟩ h with⟨hw,af',hst,_,h⟩|⟨hw,af',hst,_,h⟩
      ·rw[if_pos hw]
       exact .inl (opK_ok hT hσ hst (hV o (Array.mem_of_getElem? ho)) h fun a' w' ⟨af2,h2,hst2⟩=>go h2 hst2)
      ·rw[hw,if_neg (by decide)]
       exact go h (hst.undef o.dst (hV o (Array.mem_of_getElem? ho)))
     ·cases h
theorem Sim.locked {μ:Nm}(hS:Sim P C μ af a w)(b:Bool)(h:b=true∨∀b,C.Wr b→C.Ch b):Sim P C μ {af with lock:=b} a w:=
 ⟨hS.defers,hS.tl,hS.tmps,hS.objs,hS.wr,hS.inj,hS.fr,h,hS.frc,hS.fix⟩
theorem wpAnyH_S {md:Region.Mode}{all:Array Oper}{Q:Exit→Act→World→Prop}{S S':World→Prop}(hs:∀w,S' w→S w):∀(fuel:Nat) (listed:Array Bool) {a:Act} {w:World},wpAnyH P md all Q S' fuel listed a w→wpAnyH P md all Q S fuel listed a w
 |0,_,_,_,h=>h
 |fuel+1,_,_,_,h=>⟨h.1,fun i hi=>wpOp_mono (fun a' w' h'=>⟨hs _ h'.1,wpAnyH_S hs fuel _ h'.2⟩) (h.2 i hi)⟩
def LK(P:Program)(C:Cx)(K:AF→Option R)(r:R)(w0:World)(a:Act)(w:World):Prop:=
 ∃af,K af=some r∧Keeps (fun b=>w0.heap.size≤b) w0 w∧∃μ,Sim P ⟨C.A,C.Wr,fun b=>w.heap.size≤b,C.V⟩ μ {af with lock:=true} a w
theorem Sim.upto {μ:Nm}{Ch:Nat→Prop}(hS:Sim P ⟨C.A,C.Wr,Ch,C.V⟩ μ af a w):Sim P ⟨C.A,C.Wr,fun b=>w.heap.size≤b,C.V⟩ μ {af with lock:=true} a w:=
 ⟨hS.defers,hS.tl,hS.tmps,hS.objs,hS.wr,hS.inj,hS.fr,.inl rfl,fun _ h=>h,hS.fix⟩
theorem SigG.here {G:Gl}(h:SigG G P C w0 σ)(hi:G.I w):SigG G P ⟨C.A,C.Wr,fun b=>w.heap.size≤b,C.V⟩ w σ:=
 ⟨hi,fun b hb=>⟨(h.b b hb).1,(h.b b hb).2.1,fun hh=>absurd (G.lt w hi b hb) (Nat.not_lt.2 hh)⟩,h.ok⟩
theorem drawL_in {G:Gl}(hT:tabB P Γ E=true)(hσ:SigG G P C w0 σ){all:Array Oper}(hsel:Region.noSelect all=true)(hV:∀o ∈ all,∀d,o.dst=some d→C.V d=none){K:AF→Option R}{r:R}{Q:Exit→Act→World→Prop}
 (hp:∀c a w,¬Q (.panic c) a w):∀(fuel:Nat) (listed:Array Bool) {af:AF} {a:Act} {w:World} {μ:Nm},G.I w→Sim P ⟨C.A,C.Wr,fun b=>w.heap.size≤b,C.V⟩ μ af a w→
   (∀a' w',LK P C K r w a' w'→Q .normal a' w')→drawL Γ E σ all fuel listed af K=some r→wpAnyH P .any all Q (Keeps (fun b=>w.heap.size≤b) w) fuel listed a w
 |0,listed,af,a,w,μ,hi,hS,hQ,h=>by
  unfold drawL at h
  split at h
  ·rename_i hr;exact⟨hr,hQ _ _ ⟨af,h,Keeps.refl _ _,μ,hS.upto⟩⟩
  ·cases h
 |fuel+1,listed,af,a,w,μ,hi,hS,hQ,h=>by
  unfold drawL at h
  split at h
  ·rename_i hr;exact wpAnyH_done hr (hQ _ _ ⟨af,h,Keeps.refl _ _,μ,hS.upto⟩) _
  ·rename_i i rs hr
   split at h
   ·rename_i j hj
    have hmem:j ∈ Region.ready .any all listed:=by rw[hr];exact List.mem_of_find?_eq_some hj
    have hpj:=List.find?_some hj
    simp only[Bool.and_eq_true]at hpj
    obtain⟨hst,hfree⟩:=hpj
    split at h
    ·rename_i o ho
     have hst:stillB true af true o=true:=by simpa [stillAt,ho]using hst
     have hc:(Region.ready .any all listed).contains j=true:=by simpa using hmem
     have hVo:=hV o (Array.mem_of_getElem? ho)
     rcases oneK_split ⟨Keeps.refl _ _,μ,hS⟩ h with⟨hw,af',_,ha,h⟩|⟨hw,af',_,ha,h⟩
     ·have hS':Sim P ⟨C.A,C.Wr,fun b=>w.heap.size≤b,C.V⟩ μ af' a w:=by
       rcases ha with rfl|⟨d,t,hd,rfl⟩
       ·exact hS
       ·exact hS.know hd
      have hst':stillB true af' true o=true:=by
       rcases ha with rfl|⟨d,t,hd,rfl⟩
       ·exact hst
       ·exact stillB_know hd hst
      obtain⟨v,u,hrun,hv,hk⟩:=still_ok hT hS' (S:=Keeps (fun b=>w.heap.size≤b) w) (lk:=true) (fresh:=true) (fun _ _ w' hw' b hlt=>hw'.block b hlt (Nat.not_le.2 hlt)) (fun _ w' hw' b _ hlt=>hw'.block b hlt (Nat.not_le.2 hlt)) hst' h
      exact wpAnyH_take ho hsel hfree hc (fun c a w h=>absurd h (hp c _ w)) (.inl ⟨hw,hrun⟩) (Keeps.refl _ _)
       (drawL_in hT hσ hsel hV hp fuel _ hi (hS'.put o.dst hVo hv).upto hQ hk)
     ·have hS':Sim P ⟨C.A,C.Wr,fun b=>w.heap.size≤b,C.V⟩ μ af' a w:=by
       rcases ha with rfl|⟨d,t,hd,rfl⟩
       ·exact hS
       ·exact hS.know hd
      exact wpAnyH_take ho hsel hfree hc (fun c a w h=>absurd h (hp c _ w)) (.inr ⟨hw,rfl⟩) (Keeps.refl _ _)
       (drawL_in hT hσ hsel hV hp fuel _ hi (hS'.put o.dst hVo (v:=.tup []) ⟨[],rfl,rfl⟩).upto hQ h)
    ·cases h
   ·refine wpAnyH_all hr (by simp) fun j hj=> ?_
    ·have h:=eachK_some h j hj
     split at h
     ·rename_i o ho
      have hVo:=hV o (Array.mem_of_getElem? ho)
      have go:∀ {af':AF} {a':Act} {w':World},drawL Γ E σ all fuel (listed.setIfInBounds j true) {af' with lock:=true} K=some r→St P ⟨C.A,C.Wr,fun b=>w.heap.size≤b,C.V⟩ w af' a' w'→
       Keeps (fun b=>w.heap.size≤b) w w'∧wpAnyH P .any all Q (Keeps (fun b=>w.heap.size≤b) w) fuel (listed.setIfInBounds j true) a' w':=by
       intro af' a' w' h ⟨hK',μ',hS'⟩
       have hsz:=hK'.size
       have tr:∀ {x:World},Keeps (fun b=>w'.heap.size≤b) w' x→Keeps (fun b=>w.heap.size≤b) w x:=fun hx=>hK'.trans (hx.mono fun b _ hb=>Nat.le_trans hsz hb)
       refine⟨hK',wpAnyH_S (fun x hx=>tr hx) fuel _ (drawL_in hT hσ hsel hV hp fuel _ (G.stay w w' hi hK'.size fun b hb=>hK'.block b (G.lt w hi b hb) (Nat.not_le.2 (G.lt w hi b hb))) hS'.upto (fun a2 w2 ⟨af2,h2,hk2,hs2⟩=>hQ a2 w2 ⟨af2,h2,tr hk2,hs2⟩) h)⟩
      unfold wpOp
      simp only[ho]
      rcases oneK_split ⟨Keeps.refl _ _,μ,hS⟩ h with⟨hw,af',hst,_,h⟩|⟨hw,af',hst,_,h⟩
      ·rw[if_pos hw]
       exact .inl (opK_ok hT (hσ.here hi) hst hVo h fun a' w' ⟨af2,h2,hst2⟩=>go h2 hst2)
      ·rw[hw,if_neg (by decide)]
       exact go h (hst.undef o.dst hVo)
     ·cases h
theorem draw_locked {G:Gl}(hT:tabB P Γ E=true)(hσ:SigG G P C w0 σ){id:Nat}{all:Array Oper}(hsel:Region.noSelect all=true)(hV:∀o ∈ all,∀d,o.dst=some d→C.V d=none){K:AF→Option R}{r:R}{Q:Exit→Act→World→Prop}{μ:Nm}
 (hQ:∀a w,(∃af',K af'=some r∧Keeps C.Ch w0 w∧∃μ',Sim P C μ' {af' with lock:=true} a w)→Q .normal a w)
 (hp:∀c a w,¬Q (.panic c) a w) (hK:Keeps C.Ch w0 w) (hS:Sim P C μ af a w) (h:drawL Γ E σ all all.size (Array.replicate all.size false) {af with lock:=true} K=some r):(Code.region id all true).wp P Q a w:=by
 refine wp_region_held (S:=Keeps (fun b=>w.heap.size≤b) {w with drawn:=w.drawn+1}) (tab_mixed hT) ?_
 have hS1:Sim P ⟨C.A,C.Wr,fun b=>w.heap.size≤b,C.V⟩ μ {af with lock:=true} a {w with drawn:=w.drawn+1}:=by
  have hag:Agree (okS C.A μ af) w {w with drawn:=w.drawn+1}:=⟨Nat.le_refl _,fun _ _ _=>rfl⟩
  refine⟨hS.defers,hS.tl,fun t x hx=>(hS.tmps t x hx).trans (fun _ _=>rfl) hag (fun _ _ h=>h),fun l o ho=> ?_,hS.wr,hS.inj,hS.fr,.inl rfl,fun b hb=>hb,hS.fix⟩
  exact(hS.objs l o ho).trans rfl rfl (fun _ _=>rfl) hag (fun _ _ h=>h) (fun _ _=>rfl)
 refine drawL_in (C:=C) (w:={w with drawn:=w.drawn+1}) hT hσ hsel hV hp _ _ (G.stay w _ (hσ.gw hK hS).1 (Nat.le_refl _) (fun _ _=>rfl)) hS1 (fun a' w' ⟨af',h',hK',μ',hS'⟩=>hQ a' w' ?_) h
 exact⟨af',h',(hK.drew).trans (hK'.mono fun k _ hk=>hS.frc k hk),μ',hS'.defers,hS'.tl,hS'.tmps,hS'.objs,hS'.wr,hS'.inj,hS'.fr,.inl rfl,fun b hb=>hS.frc b (Nat.le_trans hK'.size hb),hS'.fix⟩
theorem drawK_ok {G:Gl}(hT:tabB P Γ E=true)(hσ:SigG G P C w0 σ){id:Nat}{all:Array Oper}(hsel:Region.noSelect all=true)(hV:∀o ∈ all,∀d,o.dst=some d→C.V d=none){K:AF→Option R}{r:R}{Q:Exit→Act→World→Prop}(hQ:∀a w,PK P C w0 K r a w→Q .normal a w)
 (hp:∀c a w,¬Q (.panic c) a w) (hst:St P C w0 af a w) (hlock0:af.lock=false) (h:drawK Γ E σ all all.size true (Array.replicate all.size false) (freezeFor all.toList all.toList af) K=some r):(Code.region id all true).wp P Q a w:=by
 obtain⟨hK,μ,hS⟩:=hst
 have hch:=hS.chg.resolve_left (by simp[hlock0])
 have hS:=hS.freezeFor all.toList all.toList
 generalize freezeFor all.toList all.toList af=af1 at hS h
 refine wp_region_held (S:=Keeps (fun b=>(∃l o,af1.obj l=some o∧μ.has l b)∨w.heap.size≤b) {w with drawn:=w.drawn+1}) (tab_mixed hT) ?_
 have hS1:Sim P ⟨C.A,fun b=>(∃l o,af1.obj l=some o∧μ.has l b)∨w.heap.size≤b,fun b=>(∃l o,af1.obj l=some o∧μ.has l b)∨w.heap.size≤b,C.V⟩ μ af1 a {w with drawn:=w.drawn+1}:=by
  have hag:Agree (okS C.A μ af1) w {w with drawn:=w.drawn+1}:=⟨Nat.le_refl _,fun _ _ _=>rfl⟩
  refine⟨hS.defers,hS.tl,fun t x hx=>(hS.tmps t x hx).trans (fun _ _=>rfl) hag (fun _ _ h=>h),fun l o ho=> ?_,fun l o b ho hb=>⟨.inl ⟨l,o,ho,hb⟩,(hS.wr l o b ho hb).2⟩,hS.inj,fun b hb=>⟨(hS.fr b hb).1,.inr hb⟩,.inr fun _ h=>h,fun b hb=>.inr hb,hS.fix⟩
  exact(hS.objs l o ho).trans rfl rfl (fun _ _=>rfl) hag (fun _ _ h=>h) (fun _ _=>rfl)
 have hwr:∀b,(∃l o,af1.obj l=some o∧μ.has l b)∨w.heap.size≤b→C.Wr b:=by
  rintro b (⟨l,o,ho,hb⟩|hb)
  ·exact(hS.wr l o b ho hb).1
  ·exact(hS.fr b hb).2
 have hgw:=hσ.gw hK hS
 have hsg:SigG G P ⟨C.A,fun b=>(∃l o,af1.obj l=some o∧μ.has l b)∨w.heap.size≤b,fun b=>(∃l o,af1.obj l=some o∧μ.has l b)∨w.heap.size≤b,C.V⟩ {w with drawn:=w.drawn+1} σ:=
  ⟨G.stay w _ hgw.1 (Nat.le_refl _) (fun _ _=>rfl),fun b hb=>⟨(hσ.b b hb).1,fun h=>(hσ.b b hb).2.1 (hwr b h),fun h=>(hσ.b b hb).2.1 (hwr b h)⟩,hσ.ok⟩
 refine drawK_in (C:=⟨C.A,fun b=>(∃l o,af1.obj l=some o∧μ.has l b)∨w.heap.size≤b,fun b=>(∃l o,af1.obj l=some o∧μ.has l b)∨w.heap.size≤b,C.V⟩) hT hsg hsel hV (fun a' w' hpk=>hQ a' w' ?_) hp _ _ _ (Keeps.refl _ _) hS1 (fun _=>⟨rfl,fun b hb hlt hw=> ?_⟩) h
 ·obtain⟨af',h',hK',μ',hS'⟩:=hpk
  have hsz:=hK'.size
  refine⟨af',h',(hK.drew).trans (hK'.mono fun k _ hk=>hch k (hwr k hk)),μ',hS'.defers,hS'.tl,hS'.tmps,hS'.objs,fun l o b ho hb=> ?_,hS'.inj,fun b hb=>⟨(hS'.fr b hb).1,hwr b (hS'.fr b hb).2⟩,.inr hch,fun b hb=>hch b (hwr b (hS'.frc b hb)),hS'.fix⟩
  exact⟨hwr b (hS'.wr l o b ho hb).1,(hS'.wr l o b ho hb).2⟩
 ·rcases hw with⟨l,o,ho,hbl⟩|hw
  ·exact hb.2 l o ho hbl
  ·exact absurd hw (Nat.not_le.2 hlt)
theorem St.read {G:Gl}(hst:St P C w0 af a w)(hσ:SigG G P C w0 σ){ss:List Nat}{t:Ty}{x:t.T}(h:rdL σ n af ss t=some x):St P C w0 (mkF n ss t x) a w:=
 let⟨hK,_,hS⟩:=hst
 let⟨μ',hS'⟩:=hS.read (hσ.at hK hS) h
 ⟨hK,μ',hS'⟩
def exM:Exit→Ex→Prop
 | .normal,.normal=>True
 | .exit i,.exit j=>i=j
 | .ret,.ret=>True
 |_,_=>False
def loopList:Code→List Code
 | .seq a b=>loopList a++loopList b
 | .cond _ a b=>loopList a++loopList b
 | .block _ c=>loopList c
 | .loop c=>c::loopList c
 |_=>[]
def cutList:Code→List Code
 | .seq a b=>b::(cutList a++cutList b)
 | .cond _ a b=>cutList a++cutList b
 | .block _ c=>cutList c
 | .loop c=>cutList c
 |_=>[]
def readC(σ:FuncId→Option Spec)(n:Nat)(brk:Nat)(bs:List Nat)(bt:Ty)(rs:List Nat)(rt:Ty):Ex→AF→Option (bt.T ⊕ rt.T)
 | .normal,_=>none
 | .exit i,af=>if i=brk then match rdL σ n af bs bt with
   |some y=>some (.inl y)
   |none=>none
   else none
 | .ret,af=>match rdL σ n af rs rt with
   |some z=>some (.inr z)
   |none=>none
def COK(Γ:Tab)(E:Elems)(σ:FuncId→Option Spec)(Λ:Nat→Option LSpec)(n:Nat)(ls:LSpec)(b:Code):Prop:=
 ∀x out,ls.L x=some out→codeK Γ E σ Λ n b (mkF n ls.ss ls.t x) (readC σ n ls.brk ls.bs ls.bt ls.rs ls.rt)=some out
def readK(σ:FuncId→Option Spec)(n:Nat)(ls:List Nat)(lt:Ty)(brk:Nat)(bs:List Nat)(bt:Ty)(rs:List Nat)(rt:Ty):Ex→AF→Option (lt.T ⊕ (bt.T ⊕ rt.T))
 | .normal,af=>match rdL σ n af ls lt with
   |some x=>some (.inl x)
   |none=>none
 | .exit i,af=>if i=brk then match rdL σ n af bs bt with
   |some y=>some (.inr (.inl y))
   |none=>none
   else none
 | .ret,af=>match rdL σ n af rs rt with
   |some z=>some (.inr (.inr z))
   |none=>none
def LOK(Γ:Tab)(E:Elems)(σ:FuncId→Option Spec)(Λ:Nat→Option LSpec)(n:Nat)(ls:LSpec)(c:Code):Prop:=
 ∃m:ls.t.T→Nat,∀x out,ls.L x=some out→∃st,codeK Γ E σ Λ n c (mkF n ls.ss ls.t x) (readK σ n ls.ss ls.t ls.brk ls.bs ls.bt ls.rs ls.rt)=some st∧
  match st with
  | .inl x'=>ls.L x'=some out∧m x'<m x
  | .inr o=>o=out
theorem noDst_V {k:List Nat}(hV:∀d,d ∉ k→C.V d=none){ops:Array Oper}(h:(k.isEmpty||ops.all fun o=>match o.dst with|some d=> !k.contains d|none=>true)=true):∀o ∈ ops,∀d,o.dst=some d→C.V d=none:=by
 intro o ho d hd
 simp only[Bool.or_eq_true]at h
 rcases h with h|h
 ·have:k= []:=by simpa using h
  subst this
  exact hV d (by simp)
 have:=Array.all_eq_true_iff_forall_mem.1 h o ho
 rw[hd]at this
 exact hV d (by simpa using this)
theorem codeK_ok {G:Gl}(hT:tabB P Γ E=true)(hσ:SigG G P C w0 σ){k:List Nat}(hV:∀d,d ∉ k→C.V d=none):∀(c:Code),noDst k c=true→(∀c' ∈ loopList c,∀ls,Λ (codeKey c')=some ls→LOK Γ E σ Λ n ls c')→(∀b ∈ cutList c,∀ls,Λ (cutKey b)=some ls→COK Γ E σ Λ n ls b)→
 ∀ {R:Type} {K:Ex→AF→Option R} {r:R} {af:AF} {a:Act} {w:World},codeK Γ E σ Λ n c af K=some r→St P C w0 af a w→
 c.wp P (fun e a w=>∃e' af',exM e e'∧K e' af'=some r∧St P C w0 af' a w) a w
 | .skip,_,_,_,R,K,r,af,a,w,h,hst=>wp_skip ⟨.normal,af,trivial,h,hst⟩
 | .label l,_,_,_,R,K,r,af,a,w,h,hst=>wp_label ⟨.normal,af,trivial,h,hst⟩
 | .exit id,_,_,_,R,K,r,af,a,w,h,hst=>wp_exit ⟨.exit id,af,rfl,h,hst⟩
 | .ret,_,_,_,R,K,r,af,a,w,h,hst=>wp_ret ⟨.ret,af,trivial,h,hst⟩
 | .region id ops draw,hnd,_,_,R,K,r,af,a,w,h,hst=>by
   unfold codeK at h
   split at h
   ·split at h
    ·rename_i hsel
     split at h
     ·obtain⟨hK,μ,hS⟩:=hst
      refine draw_locked (C:=C) (w0:=w0) hT hσ hsel (noDst_V hV hnd) ?_ (fun c a w ⟨e',_,hm,_⟩=>by cases e'<;>exact hm) hK hS h
      rintro a' w' ⟨af',h1,hK',μ',hS'⟩
      exact⟨.normal,_,trivial,h1,hK',μ',hS'.locked af.lock hS.chg⟩
     ·split at h
      ·cases h
      ·rename_i hl
       exact drawK_ok hT hσ hsel (noDst_V hV hnd) (fun a w ⟨af',h1,h2⟩=>⟨.normal,af',trivial,h1,h2⟩) (fun c a w ⟨e',_,hm,_⟩=>by cases e'<;>exact hm) hst hl h
    ·cases h
   ·exact wp_region_list (opsK_ok hT hσ (fun a w ⟨af',h1,h2⟩=>⟨.normal,af',trivial,h1,h2⟩) _ (fun o ho=>noDst_V hV hnd o (by simpa using ho)) hst h)
 | .seq x y,hnd,hL,hC,R,K,r,af,a,w,h,hst=>by
   simp only[noDst,Bool.and_eq_true]at hnd
   unfold codeK at h
   have h1:=codeK_ok hT hσ hV x hnd.1 (fun c' hc=>hL c' (List.mem_append.2 (.inl hc))) (fun c' hc=>hC c' (List.mem_cons_of_mem _ (List.mem_append.2 (.inl hc)))) h hst
   refine wp_seq (wp_mono h1 ?_)
   rintro e a' w' ⟨e',af',hm,hk,hst'⟩
   cases e' with
   |normal=>
    cases e<;>simp only[exM]at hm
    have hL2:∀c' ∈ loopList y,∀ls,Λ (codeKey c')=some ls→LOK Γ E σ Λ n ls c':=fun c' hc=>hL c' (List.mem_append.2 (.inr hc))
    have hC2:∀c' ∈ cutList y,∀ls,Λ (cutKey c')=some ls→COK Γ E σ Λ n ls c':=fun c' hc=>hC c' (List.mem_cons_of_mem _ (List.mem_append.2 (.inr hc)))
    simp only at hk
    split at hk
    ·exact codeK_ok hT hσ hV y hnd.2 hL2 hC2 hk hst'
    ·rename_i ls hls
     split at hk
     ·cases hk
     ·rename_i x' hx
      split at hk
      ·cases hk
      all_goals
       rename_i out hout
       have hc:=hC y (by simp[cutList]) ls hls x' _ hout
       refine wp_mono (codeK_ok hT hσ hV y hnd.2 hL2 hC2 hc (hst'.read hσ hx)) ?_
       rintro e0 a2 w2 ⟨e2,af2,hmm,hk2,hst2⟩
       cases e2 with
       |normal=>simp[readC]at hk2
       |exit i=>
        cases e0<;>simp only[exM]at hmm
        simp only[readC]at hk2
        split at hk2
        ·rename_i h1
         split at hk2
         ·rename_i y2 h2
          have hk2:=Option.some.inj hk2
          cases hk2<;>exact⟨.exit ls.brk,_,by simp[exM,hmm,h1],hk,hst2.read hσ h2⟩
         ·cases hk2
        ·cases hk2
       |ret=>
        cases e0<;>simp only[exM]at hmm
        simp only[readC]at hk2
        split at hk2
        ·rename_i z2 h2
         have hk2:=Option.some.inj hk2
         cases hk2<;>exact⟨.ret,_,trivial,hk,hst2.read hσ h2⟩
        ·cases hk2
   |exit i=>
    cases e<;>simp only[exM]at hm
    exact⟨.exit i,af',hm,hk,hst'⟩
   |ret=>
    cases e<;>simp only[exM]at hm
    exact⟨.ret,af',trivial,hk,hst'⟩
 | .cond c x y,hnd,hL,hC,R,K,r,af,a,w,h,hst=>by
   simp only[noDst,Bool.and_eq_true]at hnd
   unfold codeK at h
   split at h
   ·rename_i d
    split at h
    ·rename_i t ht
     have hc:a.eval (.tmp d)= .bool t:=hst.bool ht
     split at h
     ·exact wp_cond_true hc (codeK_ok hT hσ hV x hnd.1 (fun c' hc=>hL c' (List.mem_append.2 (.inl hc))) (fun c' hc=>hC c' (List.mem_append.2 (.inl hc))) h (hst.know ht))
     ·exact wp_cond_false hc (codeK_ok hT hσ hV y hnd.2 (fun c' hc=>hL c' (List.mem_append.2 (.inr hc))) (fun c' hc=>hC c' (List.mem_append.2 (.inr hc))) h (hst.know ht))
    ·cases h
   ·rename_i t
    split at h
    ·exact wp_cond_true rfl (codeK_ok hT hσ hV x hnd.1 (fun c' hc=>hL c' (List.mem_append.2 (.inl hc))) (fun c' hc=>hC c' (List.mem_append.2 (.inl hc))) h hst)
    ·exact wp_cond_false rfl (codeK_ok hT hσ hV y hnd.2 (fun c' hc=>hL c' (List.mem_append.2 (.inr hc))) (fun c' hc=>hC c' (List.mem_append.2 (.inr hc))) h hst)
   ·cases h
 | .block id c,hnd,hL,hC,R,K,r,af,a,w,h,hst=>by
   simp only[noDst]at hnd
   unfold codeK at h
   have h1:=codeK_ok hT hσ hV c hnd hL hC h hst
   refine wp_block (wp_mono h1 ?_)
   rintro e a' w' ⟨e',af',hm,hk,hst'⟩
   cases e' with
   |normal=>
    cases e<;>simp only[exM]at hm
    exact⟨.normal,af',trivial,hk,hst'⟩
   |exit i=>
    cases e<;>simp only[exM]at hm
    subst hm
    simp only[Exit.inBlock]
    simp only at hk
    split
    ·rename_i hid
     rw[if_pos hid]at hk
     exact⟨.normal,af',trivial,hk,hst'⟩
    ·rename_i hid
     rw[if_neg hid]at hk
     exact⟨.exit _,af',rfl,hk,hst'⟩
   |ret=>
    cases e<;>simp only[exM]at hm
    exact⟨.ret,af',trivial,hk,hst'⟩
 | .loop c,hnd,hL,hC,R,K,r,af,a,w,h,hst=>by
   simp only[noDst]at hnd
   unfold codeK at h
   split at h
   ·cases h
   ·rename_i ls hls
    split at h
    ·cases h
    ·rename_i x hx
     obtain⟨m,hm⟩:=hL c (by simp[loopList]) ls hls
     split at h
     ·cases h
     all_goals
      rename_i out hout
      refine wp_loop_ghost (fun k a w=>∃x,m x=k∧ls.L x=some _∧St P C w0 (mkF n ls.ss ls.t x) a w) (m x) ⟨x,rfl,hout,hst.read hσ hx⟩ ?_
      rintro k a w ⟨x,rfl,hx,hst⟩
      obtain⟨st,hc,he⟩:=hm x _ hx
      refine wp_mono (codeK_ok hT hσ hV c hnd (fun c' hc'=>hL c' (by simp[loopList,hc'])) hC hc hst) ?_
      rintro e0 a' w' ⟨e',af2,hmm,hk,hst'⟩
      cases e' with
      |normal=>
       cases e0<;>simp only[exM]at hmm
       simp only[readK]at hk
       split at hk
       ·rename_i x' h1
        obtain rfl:=Option.some.inj hk
        exact⟨m x',he.2,x',rfl,he.1,hst'.read hσ h1⟩
       ·cases hk
      |exit i=>
       cases e0<;>simp only[exM]at hmm
       simp only[readK]at hk
       split at hk
       ·rename_i h1
        split at hk
        ·rename_i y h2
         obtain rfl:=Option.some.inj hk
         cases he<;>exact⟨.exit ls.brk,_,by simp[exM,hmm,h1],h,hst'.read hσ h2⟩
        ·cases hk
       ·cases hk
      |ret=>
       cases e0<;>simp only[exM]at hmm
       simp only[readK]at hk
       split at hk
       ·rename_i z h2
        obtain rfl:=Option.some.inj hk
        cases he<;>exact⟨.ret,_,trivial,h,hst'.read hσ h2⟩
       ·cases hk
 | .rangeFunc _ _ _ _,_,_,_,R,K,r,af,a,w,h,hst=>by simp[codeK]at h
 | .scope _,_,_,_,R,K,r,af,a,w,h,hst=>by simp[codeK]at h
 | .goto _,_,_,_,R,K,r,af,a,w,h,hst=>by simp[codeK]at h
 | .refuse _,_,_,_,R,K,r,af,a,w,h,hst=>by simp[codeK]at h
end
end Go.Proofs.YthfgmmmeplanbaaGreatDoor
