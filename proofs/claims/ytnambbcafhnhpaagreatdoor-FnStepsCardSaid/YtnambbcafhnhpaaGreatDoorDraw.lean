import Derived.Test.YtnambbcafhnhpaaGreatDoorOps
namespace Go.Proofs.YtnambbcafhnhpaaGreatDoor
open Go.RowKit
set_option linter.unusedVariables false
set_option linter.unusedSimpArgs false
section
variable {P:Program} {C:Cx} {μ:Nm} {af:AF} {a:Act} {w w0 w1:World} {Γ:cD} {E:bR} {R:Type} {σ:FuncId→Option ai}
theorem Xi(af:AF)(l m:Nat)(t:Ty)(x:t.T):(af.freezeB l t x).obj m=if m=l then none else(af.obj m).map (AO.frzB l t x):=by
 unfold AF.freezeB AF.obj
 simp only[KF,vK]
 split<;>rfl
theorem YH {ok ok':Nat→Prop}{l b:Nat}{t:Ty}{x:t.T}{v:AV}{u:Value}{us:List Value}(h:VA P μ ok w v u)(hk:∀b,b<w.heap.size→ok b→ok' b)(hb:μ l= .pointer (some ⟨b,0,none⟩))
  (ho:ok' b) (hlt:b<w.heap.size) (hm:MR w b 0 us) (hc:CR P ok' w t x us):VA P μ ok' w (AV.frzB l t x v) u:=by
 have gen:VA P μ ok' w (v.scrub l) u:=by
  rcases y3 l v with e|e
  ·rw[e];trivial
  ·rw[e];exact h.trans (fun _ _=>rfl) (br.refl _ _) hk
 cases v with
 |bptr m off=>
  simp only[AV.frzB]
  split
  ·rename_i e;subst e
   obtain⟨b',e1,e2⟩:=h
   rw[hb]at e1
   simp at e1
   subst e1
   exact⟨b,0,us,by rw[e2,Nat.zero_add],ho,hlt,hm,hc⟩
  ·exact h
 |_=>exact gen
theorem U3 {ok ok':Nat→Prop}{l b:Nat}{t:Ty}{x:t.T}{xs:List Value}(hk:∀b,b<w.heap.size→ok b→ok' b)(hb:μ l= .pointer (some ⟨b,0,none⟩))
  (ho:ok' b) (hlt:b<w.heap.size) (hm:MR w b 0 xs) (hc:CR P ok' w t x xs):∀ {cs:List AV} {us:List Value},bE P μ ok w cs us→bE P μ ok' w (cs.map (AV.frzB l t x)) us
 | [],_,h=>h
 |c::cs,_,h=>by
  obtain⟨u,us',rfl,h1,h2⟩:=h
  exact⟨u,us',rfl,YH h1 hk hb ho hlt hm hc,U3 hk hb ho hlt hm hc h2⟩
theorem a8.freezeB(hS:a8 P C μ af a w){l:Nat}{t:Ty}{x:t.T}{cs:List AV}(ho:af.obj l=some (.box cs))(hi:imp af.objs t cs=some (x,[]))(hno:cs.any AV.owns=false):
  a8 P C μ (af.freezeB l t x) a w:=by
 have hob:=Xi af l
 have hlive:∀m o1,(af.freezeB l t x).obj m=some o1→m≠l∧∃o2,af.obj m=some o2∧o1=o2.frzB l t x:=by
  intro m o1 h
  rw[hob]at h
  split at h
  ·cases h
  ·rename_i hne
   simp only[Option.map_eq_some_iff]at h
   obtain⟨o2,h2,e⟩:=h
   exact⟨hne,o2,h2,e.symm⟩
 have hk:∀b,aO C.A μ af b→aO C.A μ (af.freezeB l t x) b:=by
  rintro b ⟨h1,h2⟩
  refine⟨h1,fun m o1 hm=> ?_⟩
  obtain⟨_,o2,h,_⟩:=hlive m o1 hm
  exact h2 m o2 h
 obtain⟨b,us,E0,hb,hg,hv,h1⟩:=hS.objs l _ ho
 obtain⟨u1,u2,ds,hu,_,hc,hr⟩:=rh hS hk t hi hv (fun c hc hoc=>by
  have:=List.any_eq_false.1 hno c hc
  exact absurd hoc this)
 have hr:u2= []:=hr
 subst hr
 rw[List.append_nil]at hu
 subst hu
 have hbk:ck (μ l)=some b:=by rw[hb];rfl
 have hw:=hS.wr l _ b ho (.inl hbk)
 have hokb:aO C.A μ (af.freezeB l t x) b:=by
  refine⟨hw.2.1,fun m o1 hm hbm=> ?_⟩
  obtain⟨hne,o2,h,_⟩:=hlive m o1 hm
  exact hne (hS.inj m l o2 _ b h ho hbm (.inl hbk))
 have hmr:=Om hg
 refine⟨hS.defers,by simp[AF.freezeB,hS.tl], ?_, ?_, ?_, ?_,hS.fr,hS.chg,hS.frc,hS.fix⟩
 ·intro t' y hx
  simp only[AF.freezeB,List.getElem?_map,Option.map_eq_some_iff]at hx
  obtain⟨y,hy,rfl⟩:=hx
  exact YH (hS.tmps t' y hy) (fun b _ h=>hk b h) hb hokb hw.2.2 hmr hc
 ·intro m o1 hm
  obtain⟨_,o2,h,rfl⟩:=hlive m o1 hm
  have:=hS.objs m o2 h
  cases o2 with
  |arr _ _ _=>exact this.trans rfl rfl (fun _ _=>rfl) (br.refl _ _) (fun b _ h=>hk b h) (fun _ _=>rfl)
  |hol _ _ _ _ _ _ _=>exact this.trans rfl rfl (fun _ _=>rfl) (br.refl _ _) (fun b _ h=>hk b h) (fun _ _=>rfl)
  |box cs=>
   obtain⟨b',us',E',e,hg',hv',h1'⟩:=this
   exact⟨b',us',E',e,hg',U3 (fun b _ h=>hk b h) hb hokb hw.2.2 hmr hc hv',h1'⟩
 ·intro m o1 b hm hb
  obtain⟨_,o2,h,_⟩:=hlive m o1 hm
  exact hS.wr m o2 b h hb
 ·intro m m' o1 o2 b h1 h2 hb hb'
  obtain⟨_,o3,h3,_⟩:=hlive m o1 h1
  obtain⟨_,o4,h4,_⟩:=hlive m' o2 h2
  exact hS.inj m m' o3 o4 b h3 h4 hb hb'
theorem a8.freezeBox(hS:a8 P C μ af a w)(l:Nat):a8 P C μ (af.freezeBox l) a w:=by
 unfold AF.freezeBox
 split
 ·rename_i cs ho
  split
  ·rename_i t _
   split
   ·rename_i x hi
    split
    ·exact hS
    ·rename_i hno
     exact hS.freezeB ho hi (by simpa using hno)
   ·exact hS
  ·exact hS
 ·exact hS
theorem a8.freezeFor(all:List Oper):∀(ops:List Oper) {af:AF},a8 P C μ af a w→a8 P C μ (iC all ops af) a w
 | [],_,h=>h
 |o::r,af,h=>by
  unfold Proofs.YtnambbcafhnhpaaGreatDoor.iC
  split
  ·split
   ·exact a8.freezeFor all r h
   ·exact a8.freezeFor all r (h.freezeBox _)
  ·exact a8.freezeFor all r h
theorem ZJ(hT:cH P Γ E=true){ok:Nat→Prop}{S:World→Prop}(hag:∀w',S w'→∀b,ok b→b<w.heap.size→w'.heap[b]? =w.heap[b]?){id:TypeId}{p:AV}{u:Value}{K:AV→Option R}{r:R}
  (hp:VA P μ ok w p u) (hk:(∃t x off,p= .rptr t x off)∨(∃t x,p= .dat (.ptr t) x)∨(∃t x,p= .dat (.nptr t) x)) (h:vt Γ af id p K=some r):
  ∃z,K z=some r∧∃u',(∀w',S w'→(Instr.loadAt id u).run P w'= .ok u' w')∧VA P μ ok w z u':=by
 unfold vt at h
 split at h
 ·cases h
 ·rename_i t ht
  have hc:=cN hT ht
  have row:∀ {t':Ty} {x:t'.T} {b o off:Nat} {us:List Value},ok b→b<w.heap.size→MR w b o us→CR P ok w t' x us→ac (wI t (((ie t' x).drop off).take t.size)) K=some r→
    ∃z,K z=some r∧∃u',(∀w',S w'→(Instr.loadAt id (.pointer (some ⟨b,o+off,none⟩))).run P w'= .ok u' w')∧VA P μ ok w z u':=by
   intro t' x b o off us hok hlt hm hr h
   obtain⟨v,hpk,hkv⟩:=bA h
   have hvs:=((pe t' x us hr (μ:=μ)).drop off).take t.size
   obtain⟨hl,hone,hv⟩:=yO hpk hvs (fun u hu=>CR.one t' x us hr u (List.mem_of_mem_drop (List.mem_of_mem_take hu)))
   refine⟨v,hkv,_,fun w' hw'=> ?_,hv⟩
   have hm':MR w' b o us:=fun j v hv=>by rw[jj (hag w' hw' b hok hlt)];exact hm j v hv
   exact gA hc (C9 hm' off t.size) hl
  have whole:∀ {x:t.T} {b o:Nat} {us:List Value},ok b→b<w.heap.size→MR w b o us→CR P ok w t x us→K (.dat t x)=some r→
    ∃z,K z=some r∧∃u',(∀w',S w'→(Instr.loadAt id (.pointer (some ⟨b,o,none⟩))).run P w'= .ok u' w')∧VA P μ ok w z u':=by
   intro x b o us hok hlt hm hr h
   refine⟨_,h,_,fun w' hw'=> ?_,uF hr⟩
   have hm':MR w' b o us:=fun j v hv=>by rw[jj (hag w' hw' b hok hlt)];exact hm j v hv
   exact gA hc hm' (CR.length _ x us hr)
  split at h
  ·rcases hk with⟨_,_,_,e⟩|⟨_,_,e⟩|⟨_,_,e⟩<;>cases e
  ·rename_i t' x off
   obtain⟨b,o,us,rfl,hok,hlt,hm,hr⟩:=hp
   split at h
   ·rename_i hh
    obtain⟨rfl,rfl⟩:=hh
    exact whole hok hlt hm hr h
   ·exact row hok hlt hm hr h
  ·rename_i t' x
   have hp:aY _ _ u:=hp
   simp only[aY,Ty.isAgg]at hp
   obtain⟨b,o,us,e,hok,hlt,hm,hr⟩:=hp
   simp at e;subst e
   split at h
   ·rename_i hh
    subst hh
    exact whole hok hlt hm hr h
   ·exact row (off:=0) hok hlt hm hr h
  ·rename_i t' x
   obtain⟨y,hxy,h2⟩:=bA h
   clear h
   subst hxy
   have hp:aY _ _ u:=hp
   simp only[aY,Ty.isAgg]at hp
   obtain⟨e,_⟩|⟨y',b,o,us,ey,e,hok,hlt,hm,hr⟩:=hp
   ·cases e
   ·cases ey
    simp at e;subst e
    have h:(if t'=t then K (.dat t' y)else ac (wI t (((ie t' y).drop 0).take t.size)) K)=some r:=h2
    split at h
    ·rename_i hh
     subst hh
     exact whole hok hlt hm hr h
    ·exact row (off:=0) hok hlt hm hr h
  ·rcases hk with⟨_,_,_,e⟩|⟨_,_,e⟩|⟨_,_,e⟩<;>cases e
  ·cases h
theorem abl(hT:cH P Γ E=true)(hS:a8 P C μ af a w){S:World→Prop}(hag:∀w',S w'→∀b,b<w.heap.size→w'.heap[b]? =w.heap[b]?){id:TypeId}{p:AV}{u:Value}{K:AV→Option R}{r:R}
  (hp:VA P μ (aO C.A μ af) w p u) (hk:(∃l off,p= .bptr l off)∨(∃l i k off,p= .eptr l i k off)) (h:vt Γ af id p K=some r):
  ∃z,K z=some r∧∃u',(∀w',S w'→(Instr.loadAt id u).run P w'= .ok u' w')∧VA P μ (aO C.A μ af) w z u':=by
 unfold vt at h
 split at h
 ·cases h
 ·rename_i t ht
  have hc:=cN hT ht
  split at h
  ·rename_i l off
   split at h
   ·rename_i cs ho
    obtain⟨v,hpk,h⟩:=bA h
    obtain⟨b,e,rfl⟩:=hp
    obtain⟨b',us,E',e',hg,hvs,h1⟩:=hS.objs l _ ho
    have hbb:b=b':=by rw[e]at e';simpa using e'
    subst hbb
    obtain⟨hl,hone,hv⟩:=yO hpk ((hvs.drop off).take t.size) (fun u hu=>h1 u (List.mem_of_mem_drop (List.mem_of_mem_take hu)))
    refine⟨v,h,_,fun w' hw'=> ?_,hv⟩
    have hm':MR w' b 0 us:=fun j v hv=>by rw[jj (hag w' hw' b (Array.getElem?_eq_some_iff.1 hg).1)];exact Om hg j v hv
    have hm:=C9 hm' off t.size
    rw[Nat.zero_add]at hm
    exact gA hc hm hl
   ·cases h
  ·rcases hk with⟨_,_,e⟩|⟨_,_,_,_,e⟩<;>cases e
  ·rcases hk with⟨_,_,e⟩|⟨_,_,_,_,e⟩<;>cases e
  ·rcases hk with⟨_,_,e⟩|⟨_,_,_,_,e⟩<;>cases e
  ·rename_i l i k off
   split at h
   ·rename_i e t' xs ho
    split at h
    ·rename_i x hx
     split at h
     ·rename_i hk
      obtain⟨hk,hnt⟩:=hk
      subst hk
      obtain⟨b,n,c,hb,rfl⟩:=hp
      obtain⟨cells,h3,h4⟩:=(rg hnt).1 (hS.objs l _ ho)
      rw[hb]at h3
      have hlt:b<w.heap.size:=dY hS ho (.inl (by rw[hb];rfl))
      obtain⟨us,hm,hr⟩:=aa6 h3 h4 hx
      have hm':∀w',S w'→MR w' b (i*t'.size) us:=fun w' hw' j v hv=>by rw[jj (hag w' hw' b hlt)];exact hm j v hv
      split at h
      ·rename_i hh
       obtain⟨rfl,rfl⟩:=hh
       exact⟨_,h,_,fun w' hw'=>gA hc (hm' w' hw') (CR.length _ x us hr),uF hr⟩
      ·obtain⟨v,hpk,hkv⟩:=bA h
       have hvs:=((pe t' x us hr (μ:=μ)).drop off).take t.size
       obtain⟨hl,hone,hv⟩:=yO hpk hvs (fun u hu=>CR.one t' x us hr u (List.mem_of_mem_drop (List.mem_of_mem_take hu)))
       exact⟨v,hkv,_,fun w' hw'=>gA hc (C9 (hm' w' hw') off t.size) hl,hv⟩
     ·cases h
    ·cases h
   ·cases h
  ·cases h
theorem SO {ok:Nat→Prop}{v:AV}{n:Int}{u:Value}(h:kT v=some n)(hv:VA P μ ok w v u)(w':World):VA P μ ok w' v u:=by
 unfold kT at h
 split at h
 ·rw[cE]at hv ⊢;exact hv
 ·cases h
theorem BL {ok:Nat→Prop}{n cap:Nat}{sl:Bool}{lo hi:Option AV}{p:Nat×Nat}{ulo uhi:Option Value}(h:aZ n lo hi=some p)(hcap:n≤cap)(hlo:∀v,lo=some v→∃u,ulo=some u∧VA P μ ok w v u)(hlo':lo=none→ulo=none)
  (hhi:∀v,hi=some v→∃u,uhi=some u∧VA P μ ok w v u) (hhi':hi=none→uhi=none) (w':World):
  (Instr.sliceBounds sl n cap ulo uhi none).run P w'= .ok (p.1,p.2,cap) w'∧p.1≤p.2∧p.2≤n:=by
 obtain⟨x,y,hx,hy,_⟩:=ri h
 refine qd (μ:=μ) (ok:=ok) (w:=w') h hcap (fun v hv=> ?_) hlo' (fun v hv=> ?_) hhi'
 ·obtain⟨u,h1,h2⟩:=hlo v hv
  subst hv
  exact⟨u,h1,SO hx h2 w'⟩
 ·obtain⟨u,h1,h2⟩:=hhi v hv
  subst hv
  exact⟨u,h1,SO hy h2 w'⟩
theorem Xj(hT:cH P Γ E=true){ok:Nat→Prop}{id:TypeId}{x:AV}{lo hi:Option AV}{u:Value}{ulo uhi:Option Value}{K:AF→AV→Option R}{r:R}(hx:VA P μ ok w x u)(hk:(∃t y,x= .dat t y)∨x= .nils)
  (hlo:∀v,lo=some v→∃u,ulo=some u∧VA P μ ok w v u) (hlo':lo=none→ulo=none) (hhi:∀v,hi=some v→∃u,uhi=some u∧VA P μ ok w v u) (hhi':hi=none→uhi=none)
  (h:Im Γ E af id x lo hi K=some r):∃z,K af z=some r∧cO P μ ok w (Instr.sliceAt id u ulo uhi none) z:=by
 unfold Im at h
 split at h
 ·rename_i t ht
  split at h
  ·cases h
  ·rename_i e he
   obtain⟨hu,hs,hag,hzb,hpos,_⟩:=kI (ma hT ht he)
   split at h
   ·rename_i t' l
    split at h
    ·rename_i htt;subst htt
     obtain⟨p,hp,hk⟩:=bA h
     have hx:aY _ _ u:=hx
     simp only[aY,Ty.isAgg]at hx
     obtain⟨x,y,_,_,h0,h1,h2,hpe⟩:=ri hp
     have hp1:p.1≤p.2:=by rw[hpe];simp;omega
     have hp2:p.2≤l.length:=by rw[hpe];simp;omega
     obtain⟨b,n,cap,rfl,rfl,hcap,hres⟩:=Ot hx hp1 hp2
     refine⟨_,hk,_,fun w'=> ?_,(show aY _ _ _ from hres)⟩
     obtain⟨hrun,_,_⟩:=BL (sl:=true) hp hcap hlo hlo' hhi hhi' w'
     simp only[Instr.sliceAt,Sem.run_bind,run_underlying hu,Result.andThen_ok,Instr.slice,hrun,gQ hs,Sem.run_pure]
    ·cases h
   ·rcases hk with⟨_,_,e⟩|e<;>cases e
   ·obtain⟨p,hp,hk⟩:=bA h
    have hx:u= .slice none 0 0:=hx
    subst hx
    refine⟨_,hk,.slice none 0 0,fun w'=> ?_,rfl⟩
    obtain⟨hrun,hp1,hp2⟩:=BL (sl:=true) hp (Nat.le_refl _) hlo hlo' hhi hhi' w'
    have h1:p.1=0:=by omega
    have h2:p.2=0:=by omega
    rw[h1,h2]at hrun
    simp only[Instr.sliceAt,Sem.run_bind,run_underlying hu,Result.andThen_ok,Instr.slice,hrun,gQ hs,Sem.run_pure]
    rfl
   ·cases h
 ·rename_i ht
  have hd:=d7 (cN hT ht)
  simp only[lr]at hd
  split at hd<;>try (cases hd;done)
  rename_i hu
  split at h
  ·rename_i s
   rw[pg]at hx;subst hx
   obtain⟨p,hp,hk⟩:=bA h
   have hsz:(⟨s.toArray⟩:ByteArray).size=s.length:=by simp[ByteArray.size]
   refine⟨_,hk,.string ((⟨s.toArray⟩:ByteArray).extract p.1 p.2),fun w'=> ?_,pg.2 ?_⟩
   ·have hrun:=(BL (sl:=false) (cap:=s.length) hp (Nat.le_refl _) hlo hlo' hhi hhi' w').1
    simp[Instr.sliceAt,Sem.run_bind,run_underlying hu,Instr.slice,hsz,hrun]
   ·congr 1
    apply ByteArray.ext
    apply Array.toList_inj.1
    rw[Lib.extract_data]
    simp[List.drop_take]
  ·cases h
 ·cases h
theorem y4(hT:cH P Γ E=true)(hS:a8 P C μ af a w){S:World→Prop}{lk fresh:Bool}(hlk:lk=true→fresh=true→∀w',S w'→∀b,b<w.heap.size→w'.heap[b]? =w.heap[b]?)(hag:fresh=true→∀w',S w'→∀b,aO C.A μ af b→b<w.heap.size→w'.heap[b]? =w.heap[b]?){o:Oper}{K:AF→Option R}{r:R}
  (hst:eW lk af fresh o=true) (h:kV Γ E σ o af K=some r):∃v u,(∀w',S w'→(execOp a.eval o).run P w'= .ok (.value u) w')∧VA P μ (aO C.A μ af) w v u∧K (af.put o.dst v)=some r:=by
 obtain⟨dst,op,ty,pos,after,guard⟩:=o
 have gives:∀ {s:Sem Value},execOp a.eval ⟨dst,op,ty,pos,after,guard⟩=(do Pure.pure (Next.value (←s)))→(∃z,K (af.put dst z)=some r∧cO P μ (aO C.A μ af) w s z)→
   ∃v u,(∀w',S w'→(execOp a.eval ⟨dst,op,ty,pos,after,guard⟩).run P w'= .ok (.value u) w')∧VA P μ (aO C.A μ af) w v u∧K (af.put dst v)=some r:=by
  rintro s he ⟨z,hk,u,hr,hv⟩
  exact⟨z,u,fun w' _=>by rw[he];exact KE (hr w'),hv,hk⟩
 cases op with
 |move x=>exact⟨_,_,fun _ _=>rfl,YE (bo hS x),h⟩
 |assign x=>exact⟨_,_,fun _ _=>rfl,bo hS x,h⟩
 |pick c x y=>
  simp only[kV]at h
  have hc:=bo hS c
  split at h
  ·rename_i t ht
   rw[ht,fC]at hc
   split at h
   ·exact⟨af.ev x,a.eval x,fun w' _=>by simp[execOp,hc,asBool],bo hS x,h⟩
   ·exact⟨af.ev y,a.eval y,fun w' _=>by simp[execOp,hc,asBool],bo hS y,h⟩
  ·cases h
 |load id p=>
  simp only[eW,Bool.and_eq_true]at hst
  obtain⟨hf,hp⟩:=hst
  have hk:af.holeB (af.ev p)=false∧(((∃t x off,af.ev p= .rptr t x off)∨(∃t x,af.ev p= .dat (.ptr t) x)∨(∃t x,af.ev p= .dat (.nptr t) x))∨(lk=true∧((∃l off,af.ev p= .bptr l off)∨(∃l i k off,af.ev p= .eptr l i k off)))∨af.ev p= .tup []):=by
   split at hp
   ·rename_i e;exact⟨by rw[e];rfl,.inr (.inr e)⟩
   ·rename_i e;exact⟨by rw[e];rfl,.inr (.inl ⟨hp,.inl ⟨_,_,e⟩⟩)⟩
   ·rename_i e
    simp only[Bool.and_eq_true,Bool.not_eq_true']at hp
    exact⟨by rw[e];exact hp.2,.inr (.inl ⟨hp.1,.inr ⟨_,_,_,_,e⟩⟩)⟩
   ·rename_i e;exact⟨by rw[e];rfl,.inl (.inl ⟨_,_,_,e⟩)⟩
   ·rename_i e;exact⟨by rw[e];rfl,.inl (.inr (.inl ⟨_,_,e⟩))⟩
   ·rename_i e;exact⟨by rw[e];rfl,.inl (.inr (.inr ⟨_,_,e⟩))⟩
   ·cases hp
  obtain⟨hh,hk⟩:=hk
  have h:vt Γ af id (af.ev p) (fun v=>K (af.put dst v))=some r:=by simpa only[kV,hh]using h
  rcases hk with hk|⟨hl,hk⟩|he
  ·obtain⟨z,hkz,u,hr,hv⟩:=ZJ hT (hag hf) (bo hS p) hk h
   exact⟨z,u,fun w' hw'=>KE (hr w' hw'),hv,hkz⟩
  ·obtain⟨z,hkz,u,hr,hv⟩:=abl hT hS (hlk hl hf) (bo hS p) hk h
   exact⟨z,u,fun w' hw'=>KE (hr w' hw'),hv,hkz⟩
  ·exfalso
   simp only[he,vt]at h
   split at h<;>cases h
 |nilCheck x=>
  simp only[kV]at h
  have hx:=bo hS x
  have key:∀u,a.eval x=u→((∃y,u= .pointer (some y))∨∃f y z,u= .func (.func f) y z)→∀w',S w'→(execOp a.eval ⟨dst,.nilCheck x,ty,pos,after,guard⟩).run P w'= .ok (.value u) w':=by
   rintro u hu (⟨y,rfl⟩|⟨f,y,z,rfl⟩)<;>intro w' _<;>simp[execOp,hu]
  split at h
  ·rename_i l off he
   rw[he]at hx
   obtain⟨b,h1,h2⟩:=hx
   exact⟨.bptr l off,_,key _ h2 (.inl ⟨_,rfl⟩),⟨b,h1,rfl⟩,h⟩
  ·rename_i t y off he
   rw[he]at hx
   obtain⟨b,o,us,h1,h2⟩:=hx
   exact⟨.rptr t y off,_,key _ h1 (.inl ⟨_,rfl⟩),⟨b,o,us,rfl,h2⟩,h⟩
  ·rename_i t y he
   rw[he]at hx
   have hx':aY _ _ (a.eval x):=hx
   simp only[aY,Ty.isAgg]at hx'
   obtain⟨b,o,us,h1,_⟩:=hx'
   simp at h1
   exact⟨.dat (.ptr t) y,_,key _ rfl (.inl ⟨_,h1⟩),hx,h⟩
  ·rename_i t y he
   rw[he]at hx
   obtain⟨z,hyz,h⟩:=bA h
   have hx':aY _ _ (a.eval x):=hx
   simp only[aY,Ty.isAgg]at hx'
   obtain⟨e,_⟩|⟨y',b,o,us,ey,h1,h2⟩:=hx'
   ·rw[hyz]at e;cases e
   ·rw[hyz]at ey
    cases ey
    have h1':=h1
    simp at h1
    exact⟨.dat (.ptr t) z,_,key _ rfl (.inl ⟨_,h1⟩),(show aY _ _ _ by simp only[aY,Ty.isAgg];exact⟨b,o,us,h1',h2⟩),h⟩
  ·rename_i p q g he
   rw[he]at hx
   have hx':aY _ _ (a.eval x):=hx
   simp only[aY,Ty.isAgg]at hx'
   obtain⟨f,caps,h1,_⟩:=hx'
   simp at h1
   exact⟨.dat (.fn p q) g,_,key _ rfl (.inr ⟨_,_,_,h1⟩),hx,h⟩
  ·rename_i f caps he
   rw[he]at hx
   have hx':=hx
   obtain⟨us,h1,_⟩:=hx'
   exact⟨.clo f caps,_,key _ rfl (.inr ⟨_,_,_,h1⟩),hx,h⟩
  ·cases h
 |binOp op t x y t'=>exact gives rfl (Yw hT hS t x y (bo hS x) (bo hS y) h)
 |unOp op t x=>exact gives rfl (aa5 (bo hS x) h)
 |convert s t x=>
  simp only[kV]at h
  split at h
  ·exfalso
   simp only[eW]at hst
   split at hst
   ·rename_i k n he
    simp only[he,Oc]at h
    split at h
    ·split at h
     ·split at h
      ·rename_i hx
       simp only[Ob]at hx
       obtain⟨e1,_⟩:=dh hx
       cases e1
      ·cases h
     ·cases h
    ·cases h
   ·cases hst
  ·exact gives rfl (UQ hT (bo hS x) h)
 |fieldAddr id p f=>exact gives rfl (SG hT (bo hS p) h)
 |field id x f=>exact gives rfl (UT hT (bo hS x) h)
 |indexAddr id x i=>
  simp only[eW,Bool.not_eq_true']at hst
  simp only[kV,hst]at h
  exact gives rfl (wL hT hS (bo hS x) (bo hS i) h)
 |extract x i=>exact gives rfl (LG (bo hS x) h)
 |build id parts=>
  simp only[kV]at h
  have:=SI (μ:=μ) (ok:=aO C.A μ af) (w:=w) hT (vals:=parts.map fun(i,x)=>(i,a.eval x)) (by simp) (fun i f v hi=> ?_) h
  ·exact gives rfl this
  ·simp only[List.getElem?_map,Option.map_eq_some_iff]at hi
   obtain⟨⟨f',x⟩,hx,e⟩:=hi
   simp at e
   obtain⟨rfl,rfl⟩:=e
   have hx':parts[i]? =some (f',x):=by simpa using hx
   exact⟨a.eval x,by simp[hx'],bo hS x,fun cs hcs=>oH hS (bo hS x) hcs⟩
 |slice id x lo hi mx=>
  cases mx with
  |some m=>simp[eW]at hst
  |none=>
   have hk:(∃t y,af.ev x= .dat t y)∨af.ev x= .nils:=by
    simp only[eW]at hst
    split at hst
    ·rename_i e;exact .inl ⟨_,_,e⟩
    ·rename_i e;exact .inr e
    ·simp at hst
   have hc:af.cuts Γ.cutAny x lo hi=none:=by
    cases hcut:af.cuts Γ.cutAny x lo hi with
    |none=>rfl
    |some q=>
     obtain⟨q1,q2⟩:=q
     obtain⟨_,_,hm⟩:=SN hcut
     obtain⟨m,rfl,hm2⟩:=SM hm
     have:af.ev (.tmp m)= .own q2:=hm2
     rw[this]at hk
     rcases hk with⟨_,_,e⟩|e<;>cases e
   simp only[kV,hc]at h
   exact gives rfl (Xj hT (ulo:=lo.map a.eval) (uhi:=hi.map a.eval) (bo hS x) hk (fun v hv=>by
    simp only[Option.map_eq_some_iff]at hv
    obtain⟨y,rfl,rfl⟩:=hv
    exact⟨_,rfl,bo hS y⟩) (fun hv=>by simp at hv;simp[hv]) (fun v hv=>by
    simp only[Option.map_eq_some_iff]at hv
    obtain⟨y,rfl,rfl⟩:=hv
    exact⟨_,rfl,bo hS y⟩) (fun hv=>by simp at hv;simp[hv]) h)
 |_=>simp[eW]at hst
end
end Go.Proofs.YtnambbcafhnhpaaGreatDoor
