import Derived.Test.YtnambbcafhnhpaaGreatDoorHole
namespace Go.Proofs.YtnambbcafhnhpaaGreatDoor
open Go.RowKit
set_option linter.unusedVariables false
set_option linter.unusedSimpArgs false
section
variable {P:Program} {C:Cx} {af:AF} {a:Act} {w w0:World} {Γ:cD} {E:bR} {R:Type} {σ:FuncId→Option ai}
theorem ZI {f:FuncId}(hf:jN P f)(caps args:Array Value)(w:World):(invoke (.fn (.func f) caps) args).run P w= .ok (.enter f (args++caps)) w:=hf (args++caps) w
theorem MH {o:Oper}{f:FuncId}{args:Array Value}{N:Act→World→Prop}{Q:Exit→Act→World→Prop}(hr:(execOp a.eval o).run P w= .ok (.enter f args) w)
  (h:Calls P f args w fun e w'=>∃v,e= .returned v∧N (a.put o.dst v) w'):o.wp P a w N Q:=by
 unfold Oper.wp
 rw[hr]
 refine h.mono ?_
 rintro e w' ⟨v,rfl,hn⟩
 exact hn
theorem Dc {G:Gl}(hT:cH P Γ E=true)(hσ:kW G P C w0 σ)(hst:St P C w0 af a w){o:Oper}(hV:∀d,o.dst=some d→C.V d=none){K:AF→Option R}{r:R}(h:kV Γ E σ o af K=some r){N:Act→World→Prop}{Q:Exit→Act→World→Prop}
  (hN:∀a w,PK P C w0 K r a w→N a w):o.wp P a w N Q:=by
 obtain⟨hK,μ,hS⟩:=hst
 obtain⟨dst,op,ty,pos,after,guard⟩:=o
 have pure:∀ {v:AV} {u:Value},(execOp a.eval ⟨dst,op,ty,pos,after,guard⟩).run P w= .ok (.value u) w→VA P μ (aO C.A μ af) w v u→K (af.put dst v)=some r→Oper.wp P ⟨dst,op,ty,pos,after,guard⟩ a w N Q:=
  fun hr hv hk=>UP hr (hN _ _ ⟨_,hk,St.put hK hS dst hV hv⟩)
 have gives:∀ {s:Sem Value},execOp a.eval ⟨dst,op,ty,pos,after,guard⟩=(do Pure.pure (Next.value (←s)))→(∃z,K (af.put dst z)=some r∧AM P μ (aO C.A μ af) w s z)→Oper.wp P ⟨dst,op,ty,pos,after,guard⟩ a w N Q:=by
  rintro s he ⟨z,hk,u,hr,hv⟩
  exact pure (by rw[he];exact KE hr) hv hk
 have eff:∀ {s:Sem Value} {z:Value} {w':World},execOp a.eval ⟨dst,op,ty,pos,after,guard⟩=(do Pure.pure (Next.value (←s)))→s.run P w= .ok z w'→PK P C w0 K r (a.put dst z) w'→Oper.wp P ⟨dst,op,ty,pos,after,guard⟩ a w N Q:=
  fun he hr hp=>UP (by rw[he];exact KE hr) (hN _ _ hp)
 cases op with
 |move x=>exact pure rfl (YE (bo hS x)) h
 |assign x=>exact pure rfl (bo hS x) h
 |pick c x y=>
  simp only[kV]at h
  have hc:=bo hS c
  split at h
  ·rename_i t ht
   rw[ht,fC]at hc
   split at h
   ·exact pure (v:=af.ev x) (u:=a.eval x) (by simp[execOp,hc,asBool]) (bo hS x) h
   ·exact pure (v:=af.ev y) (u:=a.eval y) (by simp[execOp,hc,asBool]) (bo hS y) h
  ·cases h
 |alloc id=>
  simp only[kV]at h
  split at h
  ·rename_i t ht
   split at h
   ·rename_i z hz
    obtain⟨zv,hrun,hzc,_⟩:=aa0 (Oh (cN hT ht)) hz w
    have h1:=KB (P:=P) (μ:=μ) t (ok:=aO C.A μ af) (w:=w) hz
    have h2:=afL (P:=P) t hz
    rw[←hzc]at h1 h2
    have:=St.newBox hK hS hV id h1 h2 h
    refine eff (s:=Instr.alloc id true (.tuple #[])) rfl ?_ this
    simp[Instr.alloc,hrun,newVar,newRow]
   ·cases h
  ·cases h
 |box id x=>
  simp only[kV]at h
  split at h
  ·rename_i cs hcs
   obtain⟨h1,h2⟩:=oH hS (bo hS x) hcs
   have:=St.newBox hK hS hV id h1 h2 h
   refine eff (s:=Instr.box id (a.eval x)) rfl ?_ this
   simp[Instr.box,newVar,newRow]
  ·cases h
 |build id parts=>
  simp only[kV]at h
  have:=SI (μ:=μ) (ok:=aO C.A μ af) (w:=w) hT (vals:=parts.map fun(i,x)=>(i,a.eval x)) (by simp) (fun i f v hi=> ?_) h
  ·exact gives rfl (cO.at this)
  ·simp only[List.getElem?_map,Option.map_eq_some_iff]at hi
   obtain⟨⟨f',x⟩,hx,e⟩:=hi
   simp at e
   obtain⟨rfl,rfl⟩:=e
   have hx':parts[i]? =some (f',x):=by simpa using hx
   exact⟨a.eval x,by simp[hx'],bo hS x,fun cs hcs=>oH hS (bo hS x) hcs⟩
 |buildSlice id len parts=>
  simp only[kV]at h
  have vals:∀ {af':AF} (hS':a8 P C μ af' a w),∀(i:Nat) f v,(parts.toList.map fun p=>(p.1,af'.ev p.2))[i]? =some (f,v)→∃u,(parts.map fun(i,x)=>(i,a.eval x))[i]? =some (f,u)∧VA P μ (aO C.A μ af') w v u:=by
   intro af' hS' i f v hi
   simp only[List.getElem?_map,Option.map_eq_some_iff]at hi
   obtain⟨⟨f',x⟩,hx,e⟩:=hi
   simp at e
   obtain⟨rfl,rfl⟩:=e
   have hx':parts[i]? =some (f',x):=by simpa using hx
   exact⟨a.eval x,by simp[hx'],bo hS' x⟩
  split at h
  ·obtain⟨z,w',hrun,hp⟩:=Tx hT hK hS hV (vals:=parts.map fun(i,x)=>(i,a.eval x)) (by simp) (vals hS) h
   exact eff rfl hrun hp
  ·have hS2:=hS.frzOps (parts.toList.map (·.2))
   obtain⟨z,w',hrun,hp⟩:=QX hT hK hS2 hV (vals:=parts.map fun(i,x)=>(i,a.eval x)) (by simp) (vals hS2) h
   exact eff rfl hrun hp
 |load id p=>
  simp only[kV]at h
  split at h
  ·obtain⟨z,hrun,hp⟩:=aeI hT hK hS hV (bo hS p) h
   exact eff rfl hrun hp
  ·exact gives rfl (UR hT hS (bo hS p) h)
 |store id p v=>
  simp only[kV]at h
  split at h
  ·split at h
   ·rename_i l i k off he
    split at h
    ·have hp:=bo hS p
     rw[he]at hp
     obtain⟨w',hrun,hp⟩:=abi hT hK hS hp (bo hS v) h
     exact Fn (Ut hrun) (hN _ _ hp)
    ·split at h
     ·have hp:=bo hS p
      rw[he]at hp
      obtain⟨w',hrun,hp⟩:=abk hT hK hS hp (bo hS v) h
      exact Fn (Ut hrun) (hN _ _ hp)
     ·have hS':=hS.frzV (af.ev v)
      obtain⟨w',hrun,hp⟩:=SL hT hK hS' (bo hS' p) (bo hS' v) h
      exact Fn (Ut hrun) (hN _ _ hp)
   ·obtain⟨w',hrun,hp⟩:=SL hT hK hS (bo hS p) (bo hS v) h
    exact Fn (Ut hrun) (hN _ _ hp)
  ·cases h
 |nilCheck x=>
  simp only[kV]at h
  have hx:=bo hS x
  have key:∀u,a.eval x=u→(∀y,u= .pointer (some y)→True)→((∃y,u= .pointer (some y))∨∃f y z,u= .func (.func f) y z)→(execOp a.eval ⟨dst,.nilCheck x,ty,pos,after,guard⟩).run P w= .ok (.value u) w:=by
   rintro u hu _ (⟨y,rfl⟩|⟨f,y,z,rfl⟩)<;>simp[execOp,hu]
  split at h
  ·rename_i l off he
   rw[he]at hx
   obtain⟨b,h1,h2⟩:=hx
   exact pure (v:=.bptr l off) (key _ h2 (fun _ _=>trivial) (.inl ⟨_,rfl⟩)) ⟨b,h1,rfl⟩ h
  ·rename_i t y off he
   rw[he]at hx
   obtain⟨b,o,us,h1,h2⟩:=hx
   exact pure (v:=.rptr t y off) (key _ h1 (fun _ _=>trivial) (.inl ⟨_,rfl⟩)) ⟨b,o,us,rfl,h2⟩ h
  ·rename_i t y he
   rw[he]at hx
   have hx':aY _ _ (a.eval x):=hx
   simp only[aY,Ty.isAgg]at hx'
   obtain⟨b,o,us,h1,_⟩:=hx'
   simp at h1
   exact pure (v:=.dat (.ptr t) y) (key _ rfl (fun _ _=>trivial) (.inl ⟨_,h1⟩)) hx h
  ·rename_i t y he
   rw[he]at hx
   obtain⟨z,rfl,h⟩:=bA h
   have hx':aY _ _ (a.eval x):=hx
   simp only[aY,Ty.isAgg]at hx'
   obtain⟨e,_⟩|⟨y',b,o,us,ey,h1,h2⟩:=hx'
   ·cases e
   ·cases ey
    have h1':=h1
    simp at h1
    exact pure (v:=.dat (.ptr t) z) (key _ rfl (fun _ _=>trivial) (.inl ⟨_,h1⟩)) (show aY _ _ _ by simp only[aY,Ty.isAgg];exact⟨b,o,us,h1',h2⟩) h
  ·rename_i p q g he
   rw[he]at hx
   have hx':aY _ _ (a.eval x):=hx
   simp only[aY,Ty.isAgg]at hx'
   obtain⟨f,caps,h1,_⟩:=hx'
   simp at h1
   exact pure (v:=.dat (.fn p q) g) (key _ rfl (fun _ _=>trivial) (.inr ⟨_,_,_,h1⟩)) hx h
  ·rename_i f caps he
   rw[he]at hx
   have hx':=hx
   obtain⟨us,h1,_⟩:=hx'
   exact pure (v:=.clo f caps) (key _ rfl (fun _ _=>trivial) (.inr ⟨_,_,_,h1⟩)) hx h
  ·cases h
 |binOp op t x y t'=>exact gives rfl (cO.at (Yw hT hS t x y (bo hS x) (bo hS y) h))
 |unOp op t x=>exact gives rfl (cO.at (aa5 (bo hS x) h))
 |convert s t x=>
  simp only[kV]at h
  split at h
  ·exact gives rfl (abj hT hS (bo hS x) h)
  ·exact gives rfl (cO.at (UQ hT (bo hS x) h))
 |makeFunc fn first caps=>
  simp only[kV]at h
  split at h
  ·rename_i f
   split at h
   ·rename_i h0
    have h0:first= #[]:=by simpa using h0
    subst h0
    refine pure (v:=.clo f (caps.toList.map af.ev)) (u:=.func (.func f) #[] (caps.map a.eval)) (by simp[execOp,Instr.makeFunc]) ⟨caps.toList.map a.eval,by rw[show caps.map a.eval=(caps.toList.map a.eval).toArray from by apply Array.toList_inj.1;simp],Ou hS _⟩ h
   ·cases h
  ·cases h
 |makeSlice id n c=>
  obtain⟨z,w',hrun,hp⟩:=Tw hT hK hS hV (bo hS n) (bo hS c) h
  exact eff rfl hrun hp
 |slice id x lo hi mx=>
  simp only[kV]at h
  split at h
  ·split at h
   ·rename_i hi l hl
    obtain⟨rfl,rfl,hmi⟩:=SN hl
    obtain⟨m,rfl,hm⟩:=SM hmi
    have hx:=bo hS (.tmp m)
    rw[show af.ev (.tmp m)= .own l from hm]at hx
    obtain⟨z,hrun,hp⟩:=aeG hT hK hS hV hx (bo hS hi) h
    exact eff rfl hrun hp
   obtain⟨z,hrun,hp⟩:=abh hT hK hS hV (ulo:=lo.map a.eval) (uhi:=hi.map a.eval) (bo hS x) (fun v hv=>by
    simp only[Option.map_eq_some_iff]at hv
    obtain⟨y,rfl,rfl⟩:=hv
    exact⟨_,rfl,bo hS y⟩) (fun hv=>by simp at hv;simp[hv]) (fun v hv=>by
    simp only[Option.map_eq_some_iff]at hv
    obtain⟨y,rfl,rfl⟩:=hv
    exact⟨_,rfl,bo hS y⟩) (fun hv=>by simp at hv;simp[hv]) h
   exact eff rfl hrun hp
  ·cases h
 |fieldAddr id p f=>exact gives rfl (cO.at (SG hT (bo hS p) h))
 |field id x f=>exact gives rfl (cO.at (UT hT (bo hS x) h))
 |indexAddr id x i=>
  simp only[kV]at h
  split at h
  ·obtain⟨μ',hS'⟩:=hS.fillV (af.ev x)
   obtain⟨z,hk,u,hr,hv⟩:=cO.at (wL hT hS' (bo hS' x) (bo hS' i) h)
   exact UP (by rw[show execOp a.eval ⟨dst,.indexAddr id x i,ty,pos,after,guard⟩=_ from rfl];exact KE hr) (hN _ _ ⟨_,hk,St.put hK hS' dst hV hv⟩)
  ·exact gives rfl (cO.at (wL hT hS (bo hS x) (bo hS i) h))
 |index id x i=>exact gives rfl (aa8 hT (bo hS x) (bo hS i) h)
 |extract x i=>exact gives rfl (cO.at (LG (bo hS x) h))
 |call c=>
  obtain⟨callee,args,argTypes⟩:=c
  simp only[kV]at h
  split at h
  ·rename_i b
   have hex:execOp a.eval ⟨dst,.call ⟨.builtin b,args,argTypes⟩,ty,pos,after,guard⟩=builtin b argTypes ty (args.map fun| .const _=>true|_=>false) (args.map a.eval):=rfl
   split at h
   ·rename_i x hargs
    split at h
    ·rename_i t hty
     have e1:args= #[x]:=by apply Array.toList_inj.1;rw[hargs]
     have e2:argTypes= #[t]:=by apply Array.toList_inj.1;rw[hty]
     subst e1 e2
     simp only[List.map_toArray,List.map_cons,List.map_nil]at hex
     exact gives hex (aeD hT hS (bo hS x) h ty)
    ·cases h
   ·rename_i x hargs
    split at h
    ·rename_i t hty
     have e1:args= #[x]:=by apply Array.toList_inj.1;rw[hargs]
     have e2:argTypes= #[t]:=by apply Array.toList_inj.1;rw[hty]
     subst e1 e2
     simp only[List.map_toArray,List.map_cons,List.map_nil]at hex
     exact gives hex (aeH hT (bo hS x) h ty)
    ·cases h
   ·rename_i x y hargs
    split at h
    ·rename_i t t' hty
     split at h
     ·rename_i htt
      subst htt
      have e1:args= #[x,y]:=by apply Array.toList_inj.1;rw[hargs]
      have e2:argTypes= #[t,t]:=by apply Array.toList_inj.1;rw[hty]
      subst e1 e2
      simp only[List.map_toArray,List.map_cons,List.map_nil]at hex
      split at h
      ·obtain⟨z,w',hrun,hp⟩:=Q3 hT hK hS hV (bo hS x) (bo hS y) h ty
       exact eff hex hrun hp
      ·obtain⟨z,w',hrun,hp⟩:=ZD hT hK hS hV (bo hS x) (bo hS y) h ty
       exact eff hex hrun hp
     ·have e1:args= #[x,y]:=by apply Array.toList_inj.1;rw[hargs]
      have e2:argTypes= #[t,t']:=by apply Array.toList_inj.1;rw[hty]
      subst e1 e2
      simp only[List.map_toArray,List.map_cons,List.map_nil]at hex
      obtain⟨z,w',hrun,hp⟩:=abg hT hK hS hV (bo hS x) (bo hS y) h ty
      exact eff hex hrun hp
    ·cases h
   ·rename_i x y hargs
    have e1:args= #[x,y]:=by apply Array.toList_inj.1;rw[hargs]
    subst e1
    simp only[List.map_toArray,List.map_cons,List.map_nil]at hex
    split at h
    ·rename_i k m k' n hx hy
     split at h
     ·rename_i hk
      subst hk
      have h1:=bo hS x
      have h2:=bo hS y
      rw[hx,cE]at h1
      rw[hy,cE]at h2
      refine gives (s:=Builtin.max_ argTypes ty #[a.eval x,a.eval y]) hex ⟨_,h,_, ?_,cE.2 rfl⟩
      simp[Builtin.max_,Builtin.max2,h1,h2]
     ·cases h
    ·cases h
   ·rename_i x y hargs
    have e1:args= #[x,y]:=by apply Array.toList_inj.1;rw[hargs]
    subst e1
    simp only[List.map_toArray,List.map_cons,List.map_nil]at hex
    split at h
    ·rename_i k m k' n hx hy
     split at h
     ·rename_i hk
      subst hk
      have h1:=bo hS x
      have h2:=bo hS y
      rw[hx,cE]at h1
      rw[hy,cE]at h2
      refine gives (s:=Builtin.min_ argTypes ty #[a.eval x,a.eval y]) hex ⟨_,h,_, ?_,cE.2 rfl⟩
      simp[Builtin.min_,Builtin.min2,h1,h2]
     ·cases h
    ·cases h
   ·cases h
  ·rename_i f
   have hf:=bo hS f
   have hvs:=Ou hS args.toList
   have hcall:∀ {g:FuncId} {caps:List Value},jN P g→a.eval f= .func (.func g) #[] caps.toArray→(execOp a.eval ⟨dst,.call ⟨.value f,args,argTypes⟩,ty,pos,after,guard⟩).run P w= .ok (.enter g (args.toList.map a.eval++caps).toArray) w:=by
    intro g caps he hg
    have:execOp a.eval ⟨dst,.call ⟨.value f,args,argTypes⟩,ty,pos,after,guard⟩=(do let d ←resolve a.eval ⟨.value f,args,argTypes⟩ ty;invoke d.target d.args):=rfl
    rw[this,Sem.run_bind]
    simp only[resolve,hg,Deferred.ofValue,Sem.run_pure,Result.andThen_ok]
    rw[ZI he]
    congr 2
    apply Array.toList_inj.1
    simp
   split at h
   ·rename_i g caps he
    rw[he]at hf
    obtain⟨us,hu,hcs⟩:=hf
    split at h
    ·rename_i s hs
     split at h
     ·rename_i hl
      simp only[Bool.and_eq_true,List.isEmpty_iff]at hl
      obtain⟨rfl,_⟩:=hl
      have hcs:us= []:=hcs
      subst hcs
      have hS1:=hS.frzRow s.a (args.toList.map af.ev)
      refine MH (hcall (hσ.ok g s hs).1 hu) ((U2 hσ hK hS1 hV (hσ.ok g s hs) (by rw[List.append_nil];exact Ou hS1 args.toList) h).mono ?_)
      rintro e w' ⟨v,rfl,hp⟩
      exact⟨v,rfl,hN _ _ hp⟩
     ·refine MH (hcall (hσ.ok g s hs).1 hu) ((U2 hσ hK hS hV (hσ.ok g s hs) (bE.app hvs hcs) h).mono ?_)
      rintro e w' ⟨v,rfl,hp⟩
      exact⟨v,rfl,hN _ _ hp⟩
    ·cases h
   ·rename_i p q g he
    rw[he]at hf
    have hf:aY _ _ (a.eval f):=hf
    simp only[aY,Ty.isAgg]at hf
    obtain⟨fid,caps,hu,hent,hfn⟩:=hf
    simp at hu
    split at h
    ·rename_i x hx
     split at h
     ·cases h
     ·rename_i hown
      split at h
      ·rename_i y hy
       have hcaps:caps=caps.toList.toArray:=by simp
       rw[hcaps]at hu
       refine MH (hcall hent hu) ?_
       have hqo:q.owned=false:=by
        cases hq:q.owned with
        |false=>rfl
        |true=>exact absurd (by rw[hq];simp) hown
       by_cases hany:(args.toList.map af.ev).any AV.owns=true
       ·have har:=Fl (ok2:=Uu C.A μ af) hS (hσ.at hK hS) (fun _ h=>.inl h) p hx hvs (fun v _=>.all (fun l o b h1 h2=>.inr ⟨l,o,h1,h2⟩) v)
        have:=hfn w _ (br.refl _ _) (fun b _ hb=>.inl hb) _ x y har hy
        have e1:(List.map a.eval args.toList++caps.toList).toArray=(List.map a.eval args.toList).toArray++caps:=by apply Array.toList_inj.1;simp
        rw[e1]
        refine this.mono ?_
        rintro e w' ⟨v,rfl,hkp,rs,hres,rfl⟩
        have hflat:q.flat=true:=by
         cases hq:q.flat with
         |true=>rfl
         |false=>exact absurd (by rw[hany,hq];simp) hown
        have har':AR P (aO C.A μ af) w' q y rs:=(de.flat q y hflat).2 _ hres
        exact⟨_,rfl,hN _ _ ⟨_,h,St.put (hK.trans (hkp.mono fun _ _ h=>h.elim)) (hS.grow hkp) dst hV (Fs (MF 0 0 q 0 hqo har'))⟩⟩
       ·have hno:(args.toList.map af.ev).any AV.owns=false:=by simpa using hany
        have har:=Fl (ok2:=aO C.A μ af) hS (hσ.at hK hS) (fun _ h=>h) p hx hvs (fun v hv=>.no (by have:=List.any_eq_false.1 hno v hv;simpa using this))
        have:=hfn w _ (br.refl _ _) (fun b _ hb=>hb) _ x y har hy
        have e1:(List.map a.eval args.toList++caps.toList).toArray=(List.map a.eval args.toList).toArray++caps:=by apply Array.toList_inj.1;simp
        rw[e1]
        refine this.mono ?_
        rintro e w' ⟨v,rfl,hkp,rs,hres,rfl⟩
        have har':AR P (aO C.A μ af) w' q y rs:=by
         refine(de.mono q y (br.refl _ _) (fun b _ hb=> ?_)).2 _ hres
         rcases hb with h1|hb
         ·exact h1
         ·exact⟨(hS.fr b hb).1,fun l o ho hb'=>by have:=dY hS ho hb';omega⟩
        exact⟨_,rfl,hN _ _ ⟨_,h,St.put (hK.trans (hkp.mono fun _ _ h=>h.elim)) (hS.grow hkp) dst hV (Fs (MF 0 0 q 0 hqo har'))⟩⟩
      ·cases h
    ·cases h
   ·cases h
  ·cases h
 |_=>simp[kV]at h
end
end Go.Proofs.YtnambbcafhnhpaaGreatDoor
