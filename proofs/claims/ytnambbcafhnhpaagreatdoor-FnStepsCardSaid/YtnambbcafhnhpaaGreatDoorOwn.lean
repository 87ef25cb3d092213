import Derived.Test.YtnambbcafhnhpaaGreatDoorWrite
namespace Go.Proofs.YtnambbcafhnhpaaGreatDoor
open Go.RowKit
set_option linter.unusedVariables false
set_option linter.unusedSimpArgs false
theorem ky:∀ {l:List Nat},gd l=true↔l.Nodup
 | []=>by simp[gd]
 |a::r=>by simp[gd,ky]
theorem gB:∀(o1 o2:List (Nat×AO)),aW (o1++o2)=aW o1++aW o2
 | [],_=>rfl
 |(l,o)::r,o2=>by simp[aW,gB r o2]
theorem Oo:∀ {os:List (Nat×AO)} {l:Nat} {o:AO},(l,o) ∈ os→l ∈ aW os
 |(l',o')::r,l,o,h=>by
  rcases List.mem_cons.1 h with h|h
  ·cases h;simp[aW]
  ·simp[aW,Oo h]
theorem YB:∀ {os:List (Nat×AO)} {l:Nat},l ∈ aW os→∃o,lk os l=some o
 |(l',o')::r,l,h=>by
  simp only[lk]
  split
  ·exact⟨_,rfl⟩
  ·rename_i hne
   simp only[aW,List.mem_cons]at h
   exact YB (h.resolve_left fun e=>hne e.symm)
theorem UX:∀ {os:List (Nat×AO)} {l:Nat},l ∉ aW os→lk os l=none
 | [],_,_=>rfl
 |(l',o')::r,l,h=>by
  simp only[aW,List.mem_cons,not_or]at h
  simp only[lk]
  rw[if_neg (fun e=>h.1 e.symm),UX h.2]
section
variable {P:Program} {ok:Nat→Prop} {w:World}
def d8(P:Program)(ok:Nat→Prop)(w:World)(os:List (Nat×AO))(bs:List Nat)(Q:Nm→(Nat→Prop)→Prop):Prop:=
 ∃ν:Nm,(∀μ ok',(∀l ∈ aW os,μ.v l=ν.v l∧μ.x l=ν.x l)→(∀b,ok b→ok' b)→Q μ ok'∧∀p ∈ os,OA P μ ok' w p.1 p.2)∧
  (∀l ∈ aW os,∀b,ν.has l b→b ∈ bs)∧∀l ∈ aW os,∀l' ∈ aW os,∀b,ν.has l b→ν.has l' b→l=l'
theorem d8.nil {Q:Nm→(Nat→Prop)→Prop}{bs:List Nat}(h:∀μ ok',(∀b,ok b→ok' b)→Q μ ok'):d8 P ok w [] bs Q:=
 ⟨⟨fun _=>undef,fun _ _=>False⟩,fun μ ok' _ hk=>⟨h μ ok' hk,fun p hp=>by cases hp⟩,⟨fun l hl=>(by cases hl),fun l hl=>(by cases hl)⟩⟩
theorem d8.mono {os:List (Nat×AO)}{bs:List Nat}{Q Q':Nm→(Nat→Prop)→Prop}(h:d8 P ok w os bs Q)(hq:∀μ ok',(∀b,ok b→ok' b)→Q μ ok'→Q' μ ok'):d8 P ok w os bs Q':=by
 obtain⟨ν,h1,h2,h3⟩:=h
 exact⟨ν,fun μ ok' hm hk=>⟨hq μ ok' hk (h1 μ ok' hm hk).1,(h1 μ ok' hm hk).2⟩,h2,h3⟩
theorem d8.app {o1 o2:List (Nat×AO)}{b1 b2:List Nat}{Q1 Q2:Nm→(Nat→Prop)→Prop}(h1:d8 P ok w o1 b1 Q1)(h2:d8 P ok w o2 b2 Q2)(hl:(aW o1++aW o2).Nodup)(hb:(b1++b2).Nodup):
  d8 P ok w (o1++o2) (b1++b2) fun μ ok'=>Q1 μ ok'∧Q2 μ ok':=by
 obtain⟨ν1,f1,g1,i1⟩:=h1
 obtain⟨ν2,f2,g2,i2⟩:=h2
 have hlm:=List.nodup_append.1 hl
 have hbm:=List.nodup_append.1 hb
 have e1:∀l ∈ aW o1,(if l ∈ aW o1 then ν1.v l else ν2.v l)=ν1.v l∧(fun b=>if l ∈ aW o1 then ν1.x l b else ν2.x l b)=ν1.x l:=fun l hl=>⟨if_pos hl,by funext b;exact if_pos hl⟩
 have e2:∀l ∈ aW o2,(if l ∈ aW o1 then ν1.v l else ν2.v l)=ν2.v l∧(fun b=>if l ∈ aW o1 then ν1.x l b else ν2.x l b)=ν2.x l:=by
  intro l hl
  have hn:¬l ∈ aW o1:=fun h=>hlm.2.2 l h l hl rfl
  exact⟨if_neg hn,by funext b;exact if_neg hn⟩
 have has1:∀l ∈ aW o1,∀b,Nm.has ⟨fun l=>if l ∈ aW o1 then ν1.v l else ν2.v l,fun l b=>if l ∈ aW o1 then ν1.x l b else ν2.x l b⟩ l b→ν1.has l b:=by
  intro l hl b h
  simpa only[Nm.has,if_pos hl]using h
 have has2:∀l ∈ aW o2,∀b,Nm.has ⟨fun l=>if l ∈ aW o1 then ν1.v l else ν2.v l,fun l b=>if l ∈ aW o1 then ν1.x l b else ν2.x l b⟩ l b→ν2.has l b:=by
  intro l hl b h
  have hn:¬l ∈ aW o1:=fun h=>hlm.2.2 l h l hl rfl
  simpa only[Nm.has,if_neg hn]using h
 refine⟨⟨fun l=>if l ∈ aW o1 then ν1.v l else ν2.v l,fun l b=>if l ∈ aW o1 then ν1.x l b else ν2.x l b⟩, ?_, ?_, ?_⟩
 ·intro μ ok' hm hk
  rw[gB]at hm
  obtain⟨q1,p1⟩:=f1 μ ok' (fun l hl=>by obtain⟨a,b⟩:=hm l (List.mem_append.2 (.inl hl));exact⟨a.trans (e1 l hl).1,b.trans (e1 l hl).2⟩) hk
  obtain⟨q2,p2⟩:=f2 μ ok' (fun l hl=>by obtain⟨a,b⟩:=hm l (List.mem_append.2 (.inr hl));exact⟨a.trans (e2 l hl).1,b.trans (e2 l hl).2⟩) hk
  exact⟨⟨q1,q2⟩,fun p hp=>(List.mem_append.1 hp).elim (p1 p) (p2 p)⟩
 ·intro l hl b hb
  rw[gB]at hl
  rcases List.mem_append.1 hl with h|h
  ·exact List.mem_append.2 (.inl (g1 l h b (has1 l h b hb)))
  ·exact List.mem_append.2 (.inr (g2 l h b (has2 l h b hb)))
 ·intro l hl l' hl' b hb hb'
  rw[gB]at hl hl'
  rcases List.mem_append.1 hl with h|h<;>rcases List.mem_append.1 hl' with h'|h'
  ·exact i1 l h l' h' b (has1 l h b hb) (has1 l' h' b hb')
  ·exact absurd rfl (hbm.2.2 b (g1 l h b (has1 l h b hb)) b (g2 l' h' b (has2 l' h' b hb')))
  ·exact absurd rfl (hbm.2.2 b (g1 l' h' b (has1 l' h' b hb')) b (g2 l h b (has2 l h b hb)))
  ·exact i2 l h l' h' b (has2 l h b hb) (has2 l' h' b hb')
theorem abe {μ:Nm}{l:Nat}{e:TypeId}{t:Ty}{xs:List t.T}{cells:List Value}{bs:List Nat}(hown:w.ownsRow 0 e t.size (μ.v l) xs.length cells)(hr:dV (bm P ok w t) xs cells bs)(hnd:((ck (μ.v l)).toList++bs).Nodup)(hx:∀b ∈ bs,μ.x l b):
  OA P μ ok w l (.arr e t xs):=by
 have hb:=List.nodup_append.1 hnd
 refine⟨cells,hown, ?_⟩
 split
 ·exact⟨bs,hr,hb.2.1,fun b hbm=>⟨fun e=>hb.2.2 b (by simp[e]) b hbm rfl,hx b hbm⟩⟩
 ·rename_i ht
  exact(BI (by simpa using ht) hr).1
theorem bm.okm {ok':Nat→Prop}{t:Ty}{x:t.T}{us:List Value}{bs:List Nat}(h:bm P ok w t x us bs)(hk:∀b,ok b→ok' b):bm P ok' w t x us bs:=
 bm.mono t h (br.refl _ _) (fun b _ hb=>hk b hb) fun _ _=>rfl
theorem bm.len:∀(t:Ty) {x:t.T} {us:List Value} {bs:List Nat},bm P ok w t x us bs→us.length=t.size∧∀u ∈ us,u.oneCell'=true
 | .own e t,x,us,bs,h=>by
   obtain⟨v,cells,bs',rfl,⟨_,⟨rfl,_⟩|⟨g,cap,cur,rfl,_⟩⟩,_⟩:=h<;>exact⟨rfl,by simp[Value.oneCell']⟩
 | .box t,x,us,bs,h=>by
   obtain⟨b,us,E,bs',rfl,_⟩:=h
   exact⟨rfl,by simp[Value.oneCell']⟩
 | .pair a b,x,us,bs,h=>by
   obtain⟨u1,u2,b1,b2,rfl,_,h1,h2⟩:=h
   obtain⟨e1,f1⟩:=bm.len a h1
   obtain⟨e2,f2⟩:=bm.len b h2
   refine⟨by simp[Ty.size,e1,e2],fun u hu=> ?_⟩
   rcases List.mem_append.1 hu with h|h
   ·exact f1 u h
   ·exact f2 u h
 | .int k,x,us,bs,h=>⟨CR.length _ x _ h.1,CR.one _ x _ h.1⟩
 | .bool,x,us,bs,h=>⟨CR.length _ x _ h.1,CR.one _ x _ h.1⟩
 | .str,x,us,bs,h=>⟨CR.length _ x _ h.1,CR.one _ x _ h.1⟩
 | .unit,x,us,bs,h=>⟨CR.length _ x _ h.1,CR.one _ x _ h.1⟩
 | .list t,x,us,bs,h=>⟨CR.length _ x _ h.1,CR.one _ x _ h.1⟩
 | .ptr t,x,us,bs,h=>⟨CR.length _ x _ h.1,CR.one _ x _ h.1⟩
 | .nptr t,x,us,bs,h=>⟨CR.length _ x _ h.1,CR.one _ x _ h.1⟩
 | .nil,x,us,bs,h=>⟨CR.length _ x _ h.1,CR.one _ x _ h.1⟩
 | .fn a r,x,us,bs,h=>⟨CR.length _ x _ h.1,CR.one _ x _ h.1⟩
theorem tn {a:Nat}{l:List Nat}(h:(a::l).Nodup):a ∉ l∧l.Nodup:=List.nodup_cons.1 h
theorem sF {μ:Nm}{ok':Nat→Prop}{t:Ty}(ha:t.isAgg=false)(hs:t.size=1){x:t.T}{us:List Value}(h:CR P ok w t x us)(hk:∀b,ok b→ok' b):bE P μ ok' w [.dat t x] us:=by
 obtain⟨u,rfl⟩:=List.length_eq_one_iff.1 ((CR.length t x us h).trans hs)
 refine⟨u,[],rfl, ?_,rfl⟩
 show aY t _ u
 simp only[aY,ha]
 exact(de.mono t x (br.refl _ _) fun b _ hb=>hk b hb).1 _ h
theorem sG(d n:Nat):∀(t:Ty) {x:t.T} {us:List Value} {bs:List Nat} (c:Nat),bm P ok w t x us bs→bs.Nodup→(aW (fB d n t x c)).Nodup→
  d8 P ok w (fB d n t x c) bs fun μ ok'=>bE P μ ok' w (Fe d n t x c) us
 | .own e t,x,us,bs,c,h,hnd,_=>by
   obtain⟨v,cells,bs',rfl,h1,h2,rfl⟩:=h
   refine⟨⟨fun _=>v,fun _ b=>b ∈ bs'⟩,fun μ ok' hm hk=> ?_, ?_, ?_⟩
   ·obtain⟨e1,e2⟩:=hm (d+n*c) (by simp[fB,aW])
    simp only at e1 e2
    refine⟨⟨v,[],rfl,e1.symm,rfl⟩,fun p hp=> ?_⟩
    simp only[fB,List.mem_singleton]at hp
    subst hp
    exact abe (by rw[e1];exact h1) (h2.mono fun x us b1 _ h=>h.okm hk) (by rw[e1];exact hnd) (fun b hb=>by rw[e2];exact hb)
   ·intro l _ b hb
    rcases hb with hb|hb
    ·simp only at hb;simp[hb]
    ·exact List.mem_append.2 (.inr hb)
   ·intro l hl l' hl' _ _ _
    simp only[fB,aW,List.mem_singleton]at hl hl'
    rw[hl,hl']
 | .box t,x,us,bs,c,h,hnd,hl=>by
   obtain⟨b,us,E,bs',rfl,h1,h2,h3,rfl⟩:=h
   obtain⟨hb,hnd'⟩:=tn hnd
   simp only[fB,aW]at hl
   obtain⟨hlc,hl'⟩:=tn hl
   obtain⟨ν,f,g,i⟩:=sG d n t (c+1) h3 hnd' hl'
   have ein:∀l ∈ aW (fB d n t x (c+1)),l≠d+n*c:=fun l hl e=>hlc (e▸hl)
   have hin:∀l ∈ aW (fB d n t x (c+1)),∀b',Nm.has ⟨fun l=>if l=d+n*c then .pointer (some ⟨b,0,none⟩)else ν.v l,fun l b'=>if l=d+n*c then False else ν.x l b'⟩ l b'→ν.has l b':=by
    intro l hl b' h
    have:=ein l hl
    simpa only[Nm.has,if_neg this]using h
   have htop:∀b',Nm.has ⟨fun l=>if l=d+n*c then .pointer (some ⟨b,0,none⟩)else ν.v l,fun l b'=>if l=d+n*c then False else ν.x l b'⟩ (d+n*c) b'→b'=b:=by
    intro b' h
    simp only[Nm.has,if_true,or_false]at h
    exact(Option.some.inj h).symm
   refine⟨⟨fun l=>if l=d+n*c then .pointer (some ⟨b,0,none⟩)else ν.v l,fun l b'=>if l=d+n*c then False else ν.x l b'⟩,fun μ ok' hm hk=> ?_, ?_, ?_⟩
   ·obtain⟨q,p⟩:=f μ ok' (fun l hl=>by
     obtain⟨e1,e2⟩:=hm l (by simp[fB,aW,hl])
     have:=ein l hl
     exact⟨e1.trans (if_neg this),e2.trans (by funext b;exact if_neg this)⟩) hk
    obtain⟨e1,_⟩:=hm (d+n*c) (by simp[fB,aW])
    simp only[if_true]at e1
    refine⟨⟨_,[],rfl,⟨b,e1,rfl⟩,rfl⟩,fun p' hp=> ?_⟩
    simp only[fB,List.mem_cons]at hp
    rcases hp with rfl|hp
    ·exact⟨b,us,E,e1,h1,q,h2⟩
    ·exact p p' hp
   ·intro l hl b' hb'
    simp only[fB,aW,List.mem_cons]at hl
    rcases hl with rfl|hl
    ·rw[htop b' hb'];simp
    ·exact List.mem_cons_of_mem _ (g l hl b' (hin l hl b' hb'))
   ·intro l hl l2 hl2 b' hb1 hb2
    simp only[fB,aW,List.mem_cons]at hl hl2
    rcases hl with rfl|hl<;>rcases hl2 with rfl|hl2
    ·rfl
    ·have:=g l2 hl2 b' (hin l2 hl2 b' hb2);rw[htop b' hb1]at this;exact absurd this hb
    ·have:=g l hl b' (hin l hl b' hb1);rw[htop b' hb2]at this;exact absurd this hb
    ·exact i l hl l2 hl2 b' (hin l hl b' hb1) (hin l2 hl2 b' hb2)
 | .pair a b,x,us,bs,c,h,hnd,hl=>by
   obtain⟨u1,u2,b1,b2,rfl,rfl,h1,h2⟩:=h
   simp only[fB,gB]at hl
   have hl':=List.nodup_append.1 hl
   have hb':=List.nodup_append.1 hnd
   exact(d8.app (sG d n a c h1 hb'.1 hl'.1) (sG d n b (c+a.labs) h2 hb'.2.1 hl'.2.1) hl hnd).mono fun μ ok' _ h=>bE.app h.1 h.2
 | .int k,x,us,bs,c,h,_,_=>d8.nil fun μ ok' hk=>sF rfl rfl h.1 hk
 | .bool,x,us,bs,c,h,_,_=>d8.nil fun μ ok' hk=>sF rfl rfl h.1 hk
 | .str,x,us,bs,c,h,_,_=>d8.nil fun μ ok' hk=>sF rfl rfl h.1 hk
 | .unit,x,us,bs,c,h,_,_=>d8.nil fun μ ok' hk=>h.1
 | .list t,x,us,bs,c,h,_,_=>d8.nil fun μ ok' hk=>sF rfl rfl h.1 hk
 | .ptr t,x,us,bs,c,h,_,_=>d8.nil fun μ ok' hk=>sF rfl rfl h.1 hk
 | .nptr t,x,us,bs,c,h,_,_=>d8.nil fun μ ok' hk=>sF rfl rfl h.1 hk
 | .nil,x,us,bs,c,h,_,_=>d8.nil fun μ ok' hk=>sF rfl rfl h.1 hk
 | .fn p q,x,us,bs,c,h,_,_=>d8.nil fun μ ok' hk=>sF rfl rfl h.1 hk
theorem UY(d n:Nat){t:Ty}{x:t.T}{v:Value}{bs:List Nat}(c:Nat)(h:aY t (fun us=>bm P ok w t x us bs) v)(hnd:bs.Nodup)(hl:(aW (if t.owned then fB d n t x c else [])).Nodup):
  d8 P ok w (if t.owned then fB d n t x c else []) bs fun μ ok'=>VA P μ ok' w (QQ d n t x c) v:=by
 cases ho:t.owned with
 |false=>
  simp only[ho,Bool.false_eq_true,if_false]
  refine d8.nil fun μ ok' hk=> ?_
  simp only[QQ,ho,Bool.false_eq_true,if_false]
  have h2:VR P ok w t x v:=aY.mono (fun us hu=>(bm.pure t ho hu).1) h
  exact VR.mono h2 (br.refl _ _) fun b _ hb=>hk b hb
 |true=>
  simp only[ho,if_true]at hl ⊢
  simp only[QQ,ho,if_true,aec]
  unfold aY at h
  split at h
  ·rename_i ha
   obtain⟨us,rfl,hu⟩:=h
   refine(sG d n t c hu hnd hl).mono fun μ ok' _ hv=> ?_
   rw[if_pos ha]
   exact⟨us,rfl,hv,(bm.len t hu).2⟩
  ·rename_i ha
   refine(sG d n t c h hnd hl).mono fun μ ok' _ hv=> ?_
   rw[if_neg ha]
   generalize Fe d n t x c=cs at hv ⊢
   cases cs with
   |nil=>trivial
   |cons c cs=>
    obtain⟨u,us',e,h1,_⟩:=hv
    simp at e
    rw[←e.1]at h1
    exact h1
theorem MD(d n:Nat):∀(r:Ty) {x:r.T} {vs:List Value} {bs:List Nat} (c:Nat),nF P ok w r x vs bs→bs.Nodup→(aW (QS d n r x c)).Nodup→
  d8 P ok w (QS d n r x c) bs fun μ ok'=>bE P μ ok' w (QR d n r x c) vs
 | .unit,x,vs,bs,c,h,_,_=>d8.nil fun μ ok' _=>h.1
 | .pair t r,x,vs,bs,c,h,hnd,hl=>by
   obtain⟨v,vs',b1,b2,rfl,rfl,h1,h2⟩:=h
   simp only[QS,gB]at hl
   have hl':=List.nodup_append.1 hl
   have hb':=List.nodup_append.1 hnd
   exact(d8.app (UY d n c h1 hb'.1 hl'.1) (MD d n r (c+t.labs) h2 hb'.2.1 hl'.2.1) hl hnd).mono fun μ ok' _ h=>⟨v,vs',rfl,h.1,h.2⟩
 | .int _,_,_,_,_,h,_,_=>(h:False).elim
 | .bool,_,_,_,_,h,_,_=>(h:False).elim
 | .str,_,_,_,_,h,_,_=>(h:False).elim
 | .list _,_,_,_,_,h,_,_=>(h:False).elim
 | .ptr _,_,_,_,_,h,_,_=>(h:False).elim
 | .fn _ _,_,_,_,_,h,_,_=>(h:False).elim
 | .own _ _,_,_,_,_,h,_,_=>(h:False).elim
 | .box _,_,_,_,_,h,_,_=>(h:False).elim
 | .nptr _,_,_,_,_,h,_,_=>(h:False).elim
 | .nil,_,_,_,_,h,_,_=>(h:False).elim
theorem YC(n:Nat):∀(ss:List Nat) (t:Ty) (x:t.T),(eS n ss t x).tmps.length=n
 | [],t,x=>by cases t<;>simp[eS,AF.blank]
 |s::ss,.pair t r,x=>by simp[eS,YC n ss r x.2]
 |s::ss,.unit,x=>by simp[eS,AF.blank]
 |s::ss,.int _,x=>by simp[eS,AF.blank]
 |s::ss,.bool,x=>by simp[eS,AF.blank]
 |s::ss,.str,x=>by simp[eS,AF.blank]
 |s::ss,.list _,x=>by simp[eS,AF.blank]
 |s::ss,.ptr _,x=>by simp[eS,AF.blank]
 |s::ss,.fn _ _,x=>by simp[eS,AF.blank]
 |s::ss,.own _ _,x=>by simp[eS,AF.blank]
 |s::ss,.box _,x=>by simp[eS,AF.blank]
 |s::ss,.nptr _,x=>by simp[eS,AF.blank]
 |s::ss,.nil,x=>by simp[eS,AF.blank]
theorem ZE {n t:Nat}{v:AV}(h:(AF.blank n).tmps[t]? =some v):v= .junk:=by
 simp only[AF.blank,List.getElem?_replicate]at h
 split at h
 ·cases h;rfl
 ·cases h
theorem UZ(n:Nat)(f:Nat→Value):∀(ss:List Nat) (t:Ty) {x:t.T} {bs:List Nat},nF P ok w t x (ss.map f) bs→bs.Nodup→(aW (eS n ss t x).objs).Nodup→
  d8 P ok w (eS n ss t x).objs bs fun μ ok'=>∀(s:Nat) v,(eS n ss t x).tmps[s]? =some v→VA P μ ok' w v (f s)
 | [],.unit,x,bs,_,_,_=>d8.nil fun μ ok' _ s v h=>by rw[ZE h];trivial
 |s::ss,.pair t r,x,bs,h,hnd,hl=>by
  obtain⟨v,vs',b1,b2,e,rfl,h1,h2⟩:=h
  simp only[List.map_cons,List.cons.injEq]at e
  obtain⟨rfl,rfl⟩:=e
  simp only[eS,gB]at hl
  have hl':=List.nodup_append.1 hl
  have hb':=List.nodup_append.1 hnd
  refine(d8.app (UY s n 0 h1 hb'.1 hl'.1) (UZ n f ss r h2 hb'.2.1 hl'.2.1) hl hnd).mono fun μ ok' _ h s' v' hs=> ?_
  simp only[eS]at hs
  by_cases hss:s=s'
  ·subst hss
   have hlt:s<(eS n ss r x.2).tmps.length:=by have:=(List.getElem?_eq_some_iff.1 hs).1;simpa using this
   rw[List.getElem?_set_self hlt]at hs
   cases hs
   exact h.1
  ·rw[List.getElem?_set_ne hss]at hs
   exact h.2 s' v' hs
 |_::_,.unit,_,_,h,_,_=>by obtain⟨h,_⟩:=h;simp at h
 | [],.pair _ _,_,_,h,_,_=>by obtain⟨_,_,_,_,h,_⟩:=h;simp at h
 |_,.int _,_,_,h,_,_=>(h:False).elim
 |_,.bool,_,_,h,_,_=>(h:False).elim
 |_,.str,_,_,h,_,_=>(h:False).elim
 |_,.list _,_,_,h,_,_=>(h:False).elim
 |_,.ptr _,_,_,h,_,_=>(h:False).elim
 |_,.fn _ _,_,_,h,_,_=>(h:False).elim
 |_,.own _ _,_,_,h,_,_=>(h:False).elim
 |_,.box _,_,_,h,_,_=>(h:False).elim
 |_,.nptr _,_,_,h,_,_=>(h:False).elim
 |_,.nil,_,_,h,_,_=>(h:False).elim
theorem AQ(d n:Nat):∀(t:Ty) (x:t.T) (c:Nat),aW (fB d n t x c)=yW d n t c
 | .own _ _,_,_=>rfl
 | .box t,x,c=>by simp only[fB,aW,yW,AQ d n t x (c+1)]
 | .pair a b,x,c=>by simp only[fB,gB,yW,AQ d n a x.1 c,AQ d n b x.2]
 | .unit,_,_=>rfl
 | .int _,_,_=>rfl
 | .bool,_,_=>rfl
 | .str,_,_=>rfl
 | .list _,_,_=>rfl
 | .ptr _,_,_=>rfl
 | .fn _ _,_,_=>rfl
 | .nptr _,_,_=>rfl
 | .nil,_,_=>rfl
theorem U0(n:Nat):∀(ss:List Nat) (t:Ty) (x:t.T),aW (eS n ss t x).objs=C8 n ss t
 |s::ss,.pair t r,x=>by
  simp only[eS,gB,C8,U0 n ss r x.2]
  cases t.owned<;>simp[AQ,aW]
 | [],t,_=>by cases t<;>rfl
 |_::_,.unit,_=>rfl
 |_::_,.int _,_=>rfl
 |_::_,.bool,_=>rfl
 |_::_,.str,_=>rfl
 |_::_,.list _,_=>rfl
 |_::_,.ptr _,_=>rfl
 |_::_,.fn _ _,_=>rfl
 |_::_,.own _ _,_=>rfl
 |_::_,.box _,_=>rfl
 |_::_,.nptr _,_=>rfl
 |_::_,.nil,_=>rfl
theorem a8.ini {C:Cx}{a:Act}{n:Nat}{ss:List Nat}{t:Ty}{x:t.T}{bs:List Nat}(hd:a.defers= [])(hn:a.tmps.size=n)(hl:gd (C8 n ss t)=true)(h:nF P ok w t x (ss.map fun s=>a.tmps.getD s undef) bs)(hnd:bs.Nodup)
  (hA:∀b,ok b→C.A b∧b ∉ bs) (hB:∀b ∈ bs,C.Wr b∧C.A b∧b<w.heap.size) (hfr:∀b,w.heap.size≤b→C.A b∧C.Wr b) (hch:∀b,C.Wr b→C.Ch b) (hfrc:∀b,w.heap.size≤b→C.Ch b) (hfix:∀s v,C.V s=some v→a.tmps.getD s undef=v):∃μ,a8 P C μ (eS n ss t x) a w:=by
 rw[←U0 n ss t x,ky]at hl
 obtain⟨ν,f,g,i⟩:=UZ n (fun s=>a.tmps.getD s undef) ss t h hnd hl
 have hlab:∀l o,(eS n ss t x).obj l=some o→l ∈ aW (eS n ss t x).objs:=fun l o ho=>Oo (Da ho)
 obtain⟨q,p⟩:=f ν (aO C.A ν (eS n ss t x)) (fun _ _=>⟨rfl,rfl⟩) (fun b hb=>⟨(hA b hb).1,fun l o ho hh=>(hA b hb).2 (g l (hlab l o ho) b hh)⟩)
 exact⟨ν,hd,by rw[hn,YC],q,fun l o ho=>p _ (Da ho),fun l o b ho hb=>hB b (g l (hlab l o ho) b hb),fun l l' o o' b ho ho' hb hb'=>i l (hlab l o ho) l' (hlab l' o' ho') b hb hb',hfr,.inr hch,hfrc,hfix⟩
end
end Go.Proofs.YtnambbcafhnhpaaGreatDoor
