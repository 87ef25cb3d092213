import Derived.Test.YtnambbcafhnhpaaGreatDoorOwn
namespace Go.Proofs.YtnambbcafhnhpaaGreatDoor
open Go.RowKit
set_option linter.unusedVariables false
set_option linter.unusedSimpArgs false
section
variable {P:Program} {C:Cx} {μ:Nm} {af:AF} {a:Act} {w:World} {ok2:Nat→Prop} {σ:FuncId→Option ai}
structure jF (μ:Nm) (af:AF) (ls:List Nat) (bs:List Nat):Prop where
 has:∀b ∈ bs,∃l ∈ ls,μ.has l b
 live:∀l ∈ ls,∃o,af.obj l=some o
 nodup:ls.Nodup→bs.Nodup
theorem jF.nil:jF μ af [] []:=⟨fun b h=>(by cases h),fun l h=>(by cases h),fun _=>List.nodup_nil⟩
theorem jF.app(hS:a8 P C μ af a w){l1 l2 b1 b2:List Nat}(h1:jF μ af l1 b1)(h2:jF μ af l2 b2):jF μ af (l1++l2) (b1++b2):=by
 refine⟨fun b hb=> ?_,fun l hl=> ?_,fun hn=> ?_⟩
 ·rcases List.mem_append.1 hb with h|h
  ·obtain⟨l,hl,hh⟩:=h1.has b h;exact⟨l,List.mem_append.2 (.inl hl),hh⟩
  ·obtain⟨l,hl,hh⟩:=h2.has b h;exact⟨l,List.mem_append.2 (.inr hl),hh⟩
 ·exact(List.mem_append.1 hl).elim (h1.live l) (h2.live l)
 ·have hn':=List.nodup_append.1 hn
  refine List.nodup_append.2 ⟨h1.nodup hn'.1,h2.nodup hn'.2.1, ?_⟩
  rintro b hb b' hb' rfl
  obtain⟨l,hl,hh⟩:=h1.has b hb
  obtain⟨l',hl',hh'⟩:=h2.has b hb'
  obtain⟨o,ho⟩:=h1.live l hl
  obtain⟨o',ho'⟩:=h2.live l' hl'
  exact hn'.2.2 l hl l' hl' (hS.inj l l' o o' b ho ho' hh hh')
theorem sH(hS:a8 P C μ af a w)(h1:∀b,aO C.A μ af b→ok2 b){t:Ty}{c:AV}{cs:List AV}{x:t.T}{rest:List AV}{ls:List Nat}{us:List Value}(ht:t.size=1)
  (h:LC af.objs t c cs=some (x,rest,ls)) (hv:bE P μ (aO C.A μ af) w (c::cs) us):
  ∃u1 u2,us=u1++u2∧CR P ok2 w t x u1∧bE P μ (aO C.A μ af) w rest u2∧ls= []:=by
 unfold LC at h
 split at h
 ·cases h
 ·rename_i hno
  split at h
  ·rename_i y hy
   simp at h
   obtain⟨rfl,rfl,rfl⟩:=h
   obtain⟨u,us',rfl,hc,hr⟩:=hv
   obtain⟨v1,v2,ds,e,_,hcr,h0⟩:=rh hS h1 t hy (us:=[u]) ⟨u,[],rfl,hc,rfl⟩ (fun c' hc'=>by simp at hc';subst hc';exact fun ho=>absurd ho hno)
   have h0:v2= []:=h0
   subst h0
   rw[List.append_nil]at e
   subst e
   exact⟨[u],us',rfl,hcr,hr,rfl⟩
  ·cases h
theorem vL(hS:a8 P C μ af a w)(h1:∀b,aO C.A μ af b→ok2 b):∀(t:Ty) {cs:List AV} {x:t.T} {rest:List AV} {ls:List Nat} {us:List Value},kU af.objs t cs=some (x,rest,ls)→bE P μ (aO C.A μ af) w cs us→
  ∃u1 u2 bs,us=u1++u2∧bm P ok2 w t x u1 bs∧bE P μ (aO C.A μ af) w rest u2∧jF μ af ls bs
 | .own e t,c::r,x,rest,ls,us,h,hv=>by
   obtain⟨u,us',rfl,hc,hr⟩:=hv
   simp only[kU]at h
   split at h
   ·rename_i l
    split at h
    ·rename_i e' t' xs ho
     split at h
     ·rename_i he
      split at h
      ·rename_i y hy
       simp at h
       obtain⟨rfl,rfl,rfl⟩:=h
       obtain⟨e1,rfl⟩:=dh hy
       simp at e1
       subst e1 he
       have hc:u=μ l:=hc
       subst hc
       obtain⟨cells,h2,h3⟩:=hS.objs l _ ho
       have key:∃bs',dV (bm P ok2 w t') xs cells bs'∧bs'.Nodup∧∀b ∈ bs',ck (μ l)≠some b∧μ.x l b:=by
        split at h3
        ·obtain⟨bs',h4,h5,h6⟩:=h3
         exact⟨bs',h4.mono fun x us b1 _ h=>h.okm h1,h5,h6⟩
        ·rename_i hn
         have hn:t'.owned=false:=by simpa using hn
         exact⟨[],vu hn (h3.mono (br.refl _ _) fun b _ hb=>h1 b hb),List.nodup_nil,fun b hb=>by cases hb⟩
       obtain⟨bs',h4,h5,h6⟩:=key
       refine⟨[μ l],us',_,rfl,⟨_,cells,bs',rfl,h2,h4,rfl⟩,hr,fun b hb=>⟨l,by simp, ?_⟩,fun l' hl'=> ?_,fun _=> ?_⟩
       ·rcases List.mem_append.1 hb with h|h
        ·exact .inl (by simpa using h)
        ·exact .inr (h6 b h).2
       ·simp at hl';subst hl';exact⟨_,ho⟩
       ·refine List.nodup_append.2 ⟨?_,h5, ?_⟩
        ·cases ck (μ l)<;>simp
        ·rintro b hb b' hb' rfl
         exact(h6 b hb').1 (by simpa using hb)
      ·cases h
     ·cases h
    ·rename_i e' t' xs i x0 off d ho
     split at h
     ·rename_i e2 t2 ys e3 t3 hod hat
      split at h
      ·rename_i hh
       obtain⟨he,he3,ht3⟩:=hh
       subst he3 ht3
       split at h
       ·rename_i x' hx'
        split at h
        ·rename_i z hz
         simp at h
         obtain⟨rfl,rfl,rfl⟩:=h
         obtain⟨e1,rfl⟩:=dh hz
         simp at e1
         subst e1 he
         have hc:u=μ l:=hc
         subst hc
         obtain⟨cells,bs2,h2,h3,h4,h5,h6⟩:=hS.objs l _ ho
         obtain⟨dcells,d2,d3⟩:=hS.objs d _ hod
         have key:∃bs',dV (bm P ok2 w t3) ys dcells bs'∧bs'.Nodup∧∀b ∈ bs',ck (μ d)≠some b∧μ.x d b:=by
          split at d3
          ·obtain⟨bs',h4,h5,h6⟩:=d3
           exact⟨bs',h4.mono fun x us b1 _ h=>h.okm h1,h5,h6⟩
          ·rename_i hn
           have hn:t3.owned=false:=by simpa using hn
           exact⟨[],vu hn (d3.mono (br.refl _ _) fun b _ hb=>h1 b hb),List.nodup_nil,fun b hb=>by cases hb⟩
         obtain⟨bs',k4,k5,k6⟩:=key
         have hoc:bm P ok2 w (.own e3 t3) ys [μ d] ((ck (μ d)).toList++bs'):=⟨μ d,dcells,bs',rfl,d2,k4,rfl⟩
         have hhr:=h4.mono (ok':=ok2) (br.refl _ _) (fun b _ hb=>h1 b hb) (fun _ _=>rfl)
         obtain⟨x2,bs,g1,g2,g3⟩:=Ip hat hoc hhr h3
         rw[hx']at g1
         obtain rfl:=Option.some.inj g1
         have hd1:∀b ∈ (ck (μ d)).toList++bs',μ.has d b:=by
          intro b hb
          rcases List.mem_append.1 hb with h|h
          ·exact .inl (by simpa using h)
          ·exact .inr (k6 b h).2
         have hdn:((ck (μ d)).toList++bs').Nodup:=by
          refine List.nodup_append.2 ⟨?_,k5, ?_⟩
          ·cases ck (μ d)<;>simp
          ·rintro b hb b' hb' rfl
           exact(k6 b hb').1 (by simpa using hb)
         refine⟨[μ l],us',_,rfl,⟨_,cells,bs,rfl,by simpa using h2,g2,rfl⟩,hr,fun b hb=> ?_,fun l' hl'=> ?_,fun hnl=> ?_⟩
         ·rcases List.mem_append.1 hb with h|h
          ·exact⟨l,by simp,.inl (by simpa using h)⟩
          ·rcases List.mem_append.1 (g3.mem_iff.1 h)with h|h
           ·exact⟨d,by simp,hd1 b h⟩
           ·exact⟨l,by simp,.inr (h6 b h).2⟩
         ·simp at hl'
          rcases hl' with rfl|rfl
          ·exact⟨_,ho⟩
          ·exact⟨_,hod⟩
         ·have hne:l≠d:=by
           simp at hnl
           exact hnl
          have hsep:∀b,μ.has d b→¬μ.has l b:=fun b hb hb'=>hne (hS.inj l d _ _ b ho hod hb' hb)
          refine List.nodup_append.2 ⟨?_,g3.nodup_iff.2 (List.nodup_append.2 ⟨hdn,h5, ?_⟩), ?_⟩
          ·cases ck (μ l)<;>simp
          ·rintro b hb b' hb' rfl
           exact hsep b (hd1 b hb) (.inr (h6 b hb').2)
          ·rintro b hb b' hb' rfl
           rcases List.mem_append.1 (g3.mem_iff.1 hb')with h|h
           ·exact hsep b (hd1 b h) (.inl (by simpa using hb))
           ·exact(h6 b h).1 (by simpa using hb)
        ·cases h
       ·cases h
      ·cases h
     ·cases h
    ·cases h
   ·simp at h
    obtain⟨rfl,rfl,rfl⟩:=h
    have hc:u= .slice none 0 0:=hc
    subst hc
    exact⟨[_],us',[],rfl,⟨_,[],[],rfl,World.ownsRow_nil _ _ _ _,⟨rfl,rfl⟩,rfl⟩,hr,jF.nil⟩
   ·cases h
 | .box t,c::r,x,rest,ls,us,h,hv=>by
   obtain⟨u,us',rfl,hc,hr⟩:=hv
   simp only[kU]at h
   split at h
   ·rename_i l off
    split at h
    ·rename_i h0;subst h0
     split at h
     ·rename_i cs ho
      split at h
      ·rename_i y ls' hy
       simp at h
       obtain⟨rfl,rfl,rfl⟩:=h
       obtain⟨b,e,rfl⟩:=hc
       obtain⟨b',us2,E,e',hg,hvs,hone⟩:=hS.objs l _ ho
       have hbb:b=b':=by rw[e]at e';simpa using e'
       subst hbb
       obtain⟨u1,u2,bs',rfl,h3,h4,h5⟩:=vL hS h1 t hy hvs
       have h4:u2= []:=h4
       subst h4
       rw[List.append_nil]at hg
       refine⟨[_],us',b::bs',rfl,⟨b,u1,E,bs',rfl,hg,fun u hu=>hone u (by simp[hu]),h3,rfl⟩,hr,fun b' hb'=> ?_,fun l' hl'=> ?_,fun hn=> ?_⟩
       ·rcases List.mem_cons.1 hb' with rfl|hb'
        ·exact⟨l,by simp,.inl (by rw[e];rfl)⟩
        ·obtain⟨l',hl',hh⟩:=h5.has b' hb'
         exact⟨l',by simp[hl'],hh⟩
       ·rcases List.mem_cons.1 hl' with rfl|hl'
        ·exact⟨_,ho⟩
        ·exact h5.live l' hl'
       ·obtain⟨hn1,hn2⟩:=tn hn
        refine List.nodup_cons.2 ⟨fun hb=> ?_,h5.nodup hn2⟩
        obtain⟨l',hl',hh⟩:=h5.has b hb
        obtain⟨o',ho'⟩:=h5.live l' hl'
        have:=hS.inj l l' _ o' b ho ho' (.inl (by rw[e];rfl)) hh
        subst this
        exact hn1 hl'
      ·cases h
     ·cases h
    ·cases h
   ·cases h
 | .pair p q,cs,x,rest,ls,us,h,hv=>by
   simp only[kU]at h
   split at h
   ·rename_i y r l1 hy
    split at h
    ·rename_i z r' l2 hz
     simp at h
     obtain⟨rfl,rfl,rfl⟩:=h
     obtain⟨u1,u2,b1,rfl,h2,h3,h4⟩:=vL hS h1 p hy hv
     obtain⟨u3,u4,b2,rfl,h5,h6,h7⟩:=vL hS h1 q hz h3
     exact⟨u1++u3,u4,b1++b2,by simp,⟨u1,u3,b1,b2,rfl,rfl,h2,h5⟩,h6,h4.app hS h7⟩
    ·cases h
   ·cases h
 | .unit,cs,x,rest,ls,us,h,hv=>by
   simp[kU]at h
   obtain⟨rfl,rfl⟩:=h
   exact⟨[],us,[],rfl,⟨rfl,rfl⟩,hv,jF.nil⟩
 | .int k,c::r,x,rest,ls,us,h,hv=>by
   obtain⟨u1,u2,e,h2,h3,rfl⟩:=sH hS h1 rfl (by simpa only[kU]using h) hv
   exact⟨u1,u2,[],e,⟨h2,rfl⟩,h3,jF.nil⟩
 | .nil,c::r,x,rest,ls,us,h,hv=>by
   obtain⟨u1,u2,e,h2,h3,rfl⟩:=sH hS h1 rfl (by simpa only[kU]using h) hv
   exact⟨u1,u2,[],e,⟨h2,rfl⟩,h3,jF.nil⟩
 | .bool,c::r,x,rest,ls,us,h,hv=>by
   obtain⟨u1,u2,e,h2,h3,rfl⟩:=sH hS h1 rfl (by simpa only[kU]using h) hv
   exact⟨u1,u2,[],e,⟨h2,rfl⟩,h3,jF.nil⟩
 | .str,c::r,x,rest,ls,us,h,hv=>by
   obtain⟨u1,u2,e,h2,h3,rfl⟩:=sH hS h1 rfl (by simpa only[kU]using h) hv
   exact⟨u1,u2,[],e,⟨h2,rfl⟩,h3,jF.nil⟩
 | .list t,c::r,x,rest,ls,us,h,hv=>by
   obtain⟨u1,u2,e,h2,h3,rfl⟩:=sH hS h1 rfl (by simpa only[kU]using h) hv
   exact⟨u1,u2,[],e,⟨h2,rfl⟩,h3,jF.nil⟩
 | .ptr t,c::r,x,rest,ls,us,h,hv=>by
   obtain⟨u1,u2,e,h2,h3,rfl⟩:=sH hS h1 rfl (by simpa only[kU]using h) hv
   exact⟨u1,u2,[],e,⟨h2,rfl⟩,h3,jF.nil⟩
 | .fn p q,c::r,x,rest,ls,us,h,hv=>by
   obtain⟨u1,u2,e,h2,h3,rfl⟩:=sH hS h1 rfl (by simpa only[kU]using h) hv
   exact⟨u1,u2,[],e,⟨h2,rfl⟩,h3,jF.nil⟩
 | .nptr t,c::r,x,rest,ls,us,h,hv=>by
   obtain⟨u1,u2,e,h2,h3,rfl⟩:=sH hS h1 rfl (by simpa only[kU]using h) hv
   exact⟨u1,u2,[],e,⟨h2,rfl⟩,h3,jF.nil⟩
 | .own _ _,[],_,_,_,_,h,_=>by simp[kU]at h
 | .box _,[],_,_,_,_,h,_=>by simp[kU]at h
 | .int _,[],_,_,_,_,h,_=>by simp[kU]at h
 | .bool,[],_,_,_,_,h,_=>by simp[kU]at h
 | .str,[],_,_,_,_,h,_=>by simp[kU]at h
 | .list _,[],_,_,_,_,h,_=>by simp[kU]at h
 | .ptr _,[],_,_,_,_,h,_=>by simp[kU]at h
 | .fn _ _,[],_,_,_,_,h,_=>by simp[kU]at h
 | .nptr _,[],_,_,_,_,h,_=>by simp[kU]at h
 | .nil,[],_,_,_,_,h,_=>by simp[kU]at h
theorem abf {G:Gl}(hS:a8 P C μ af a w)(hσ:∀f s,σ f=some s→GW G (aO C.A μ af) w∧FnOK G P f s)(h1:∀b,aO C.A μ af b→ok2 b){t:Ty}{v:AV}{x:t.T}{ls:List Nat}{u:Value}(h:rdV σ af.objs t v=some (x,ls))(hv:VA P μ (aO C.A μ af) w v u)
  (hl:t.owned=false→wJ μ af ok2 v):∃bs,aY t (fun us=>bm P ok2 w t x us bs) u∧jF μ af ls bs:=by
 unfold rdV at h
 split at h
 ·split at h
  ·rename_i ha
   split at h
   ·rename_i cs
    split at h
    ·rename_i y ls' hy
     simp at h
     obtain⟨rfl,rfl⟩:=h
     obtain⟨us,rfl,hvs,_⟩:=hv
     obtain⟨u1,u2,bs,rfl,h2,h3,h4⟩:=vL hS h1 t hy hvs
     have h3:u2= []:=h3
     subst h3
     rw[List.append_nil]
     refine⟨bs, ?_,h4⟩
     unfold aY
     rw[if_pos ha]
     exact⟨u1,rfl,h2⟩
    ·cases h
   ·cases h
  ·rename_i ha
   split at h
   ·rename_i y ls' hy
    simp at h
    obtain⟨rfl,rfl⟩:=h
    obtain⟨u1,u2,bs,e,h2,h3,h4⟩:=vL hS h1 t hy (us:=[u]) ⟨u,[],rfl,hv,rfl⟩
    have h3:u2= []:=h3
    subst h3
    rw[List.append_nil]at e
    subst e
    refine⟨bs, ?_,h4⟩
    unfold aY
    rw[ha]
    exact h2
   ·cases h
 ·rename_i hn
  split at h
  ·rename_i y hy
   simp at h
   obtain⟨rfl,rfl⟩:=h
   have:=Yt hS hσ h1 hy hv (hl hn)
   exact⟨[],aY.mono (fun us hu=>bm.of t hn hu) this,jF.nil⟩
  ·cases h
def Oq(μ:Nm)(af:AF)(ok2:Nat→Prop):Ty→List AV→Prop
 | .pair t r,v::vs=>(t.owned=false→wJ μ af ok2 v)∧Oq μ af ok2 r vs
 |_,_=>True
theorem uG {G:Gl}(hS:a8 P C μ af a w)(hσ:∀f s,σ f=some s→GW G (aO C.A μ af) w∧FnOK G P f s)(h1:∀b,aO C.A μ af b→ok2 b):∀(r:Ty) {vs:List AV} {x:r.T} {ls:List Nat} {us:List Value},jk σ af.objs r vs=some (x,ls)→bE P μ (aO C.A μ af) w vs us→
  Oq μ af ok2 r vs→∃bs,nF P ok2 w r x us bs∧jF μ af ls bs
 | .unit,[],x,ls,us,h,hv,_=>by
   simp[jk]at h
   subst h
   exact⟨[],⟨hv,rfl⟩,jF.nil⟩
 | .pair t r,v::vs,x,ls,us,h,hv,hl=>by
   obtain⟨u,us',rfl,hc,hr⟩:=hv
   simp only[jk]at h
   split at h
   ·rename_i y l1 hy
    split at h
    ·rename_i z l2 hz
     simp at h
     obtain⟨rfl,rfl⟩:=h
     obtain⟨b1,h2,h3⟩:=abf hS hσ h1 hy hc hl.1
     obtain⟨b2,h4,h5⟩:=uG hS hσ h1 r hz hr hl.2
     exact⟨b1++b2,⟨u,us',b1,b2,rfl,rfl,h2,h4⟩,h3.app hS h5⟩
    ·cases h
   ·cases h
 | .unit,_::_,_,_,_,h,_,_=>by simp[jk]at h
 | .pair _ _,[],_,_,_,h,_,_=>by simp[jk]at h
 | .int _,_,_,_,_,h,_,_=>by simp[jk]at h
 | .bool,_,_,_,_,h,_,_=>by simp[jk]at h
 | .str,_,_,_,_,h,_,_=>by simp[jk]at h
 | .list _,_,_,_,_,h,_,_=>by simp[jk]at h
 | .fn _ _,_,_,_,_,h,_,_=>by simp[jk]at h
 | .ptr _,_,_,_,_,h,_,_=>by simp[jk]at h
 | .own _ _,_,_,_,_,h,_,_=>by simp[jk]at h
 | .box _,_,_,_,_,h,_,_=>by simp[jk]at h
 | .nptr _,_,_,_,_,h,_,_=>by simp[jk]at h
 | .nil,_,_,_,_,h,_,_=>by simp[jk]at h
def Uu(A:Nat→Prop)(μ:Nm)(af:AF)(b:Nat):Prop:=aO A μ af b∨∃l o,af.obj l=some o∧μ.has l b
def tp(A:Nat→Prop)(μ:Nm)(af:AF)(L:List Nat)(b:Nat):Prop:=Uu A μ af b∧∀l ∈ L,¬μ.has l b
theorem vM {L:List Nat}(hL:∀l ∈ L,∃o,af.obj l=some o)(b:Nat)(h:aO C.A μ af b):tp C.A μ af L b:=
 ⟨.inl h,fun l hl hh=>by obtain⟨o,ho⟩:=hL l hl;exact h.2 l o ho hh⟩
theorem KG(hS:a8 P C μ af a w){L:List Nat}(hL:∀l ∈ L,∃o,af.obj l=some o):∀(r:Ty) {vs:List AV},yX af.objs L r vs=true→Oq μ af (tp C.A μ af L) r vs
 | .pair t r,v::vs,h=>by
   simp only[yX,Bool.and_eq_true,Bool.or_eq_true]at h
   refine⟨fun ht=> ?_,KG hS hL r h.2⟩
   have cell:∀l,L.contains l=false→∀o b,af.obj l=some o→μ.has l b→tp C.A μ af L b:=by
    intro l hl o b ho hb
    refine⟨.inr ⟨l,o,ho,hb⟩,fun l' hl' hh=> ?_⟩
    obtain⟨o',ho'⟩:=hL l' hl'
    have:=hS.inj l l' o o' b ho ho' hb hh
    subst this
    simp[hl']at hl
   rcases h.1 with(h|h)|h
   ·rw[ht]at h;cases h
   ·have:L= []:=by simpa using h
    subst this
    exact .all (fun l o b ho hb=>⟨.inr ⟨l,o,ho,hb⟩,fun l hl=>by cases hl⟩) v
   ·have one:∀c:AV,c.apartC af.objs L=true→AI μ af (tp C.A μ af L) c:=by
     intro c hc ho
     cases c with
     |own l=>exact .inr (.inl ⟨l,rfl,cell l (by simpa [AV.apartC]using hc)⟩)
     |bptr l off=>
      simp only[AV.apartC,Bool.and_eq_true]at hc
      refine .inr (.inr ⟨l,off,rfl,cell l (by simpa using hc.1),fun cs hcs d hd=> ?_⟩)
      have h3:=hc.2
      have hcs:lk af.objs l=some (.box cs):=hcs
      rw[hcs]at h3
      simpa using List.all_eq_true.1 h3 d hd
     |_=>
      simp only[AV.apartC]at hc
      rw[ho]at hc
      cases hc
    have many:∀c:AV,c.apart0 af.objs L=true→rE μ af (tp C.A μ af L) c:=by
     intro c hc
     cases c with
     |agg cs=>
      intro c hcm
      simp only[AV.apart0,List.all_eq_true]at hc
      exact one c (hc c hcm)
     |_=>exact one _ hc
    cases v with
    |clo f caps=>
     refine .inr fun c hcm=>many c ?_
     simp only[AV.apart,List.all_eq_true]at h
     exact h c hcm
    |_=>exact .of0 (by intro _ _ h;cases h) (many _ (by simpa only[AV.apart]using h))
 | .unit,_,_=>trivial
 | .pair _ _,[],_=>trivial
 | .int _,_,_=>trivial
 | .bool,_,_=>trivial
 | .str,_,_=>trivial
 | .list _,_,_=>trivial
 | .fn _ _,_,_=>trivial
 | .ptr _,_,_=>trivial
 | .own _ _,_,_=>trivial
 | .box _,_,_=>trivial
 | .nptr _,_,_=>trivial
 | .nil,_,_=>trivial
theorem YD:∀(r:Ty) {vs:List AV},Od r vs=false→Oq μ af ok2 r vs
 | .pair t r,v::vs,h=>by
   simp only[Od,Bool.or_eq_false_iff]at h
   exact⟨fun ht=>.no (by simpa [ht]using h.1),YD r h.2⟩
 | .unit,_,_=>trivial
 | .pair _ _,[],_=>trivial
 | .int _,_,_=>trivial
 | .bool,_,_=>trivial
 | .str,_,_=>trivial
 | .list _,_,_=>trivial
 | .fn _ _,_,_=>trivial
 | .ptr _,_,_=>trivial
 | .own _ _,_,_=>trivial
 | .box _,_,_=>trivial
 | .nptr _,_,_=>trivial
 | .nil,_,_=>trivial
theorem SK(hS:a8 P C μ af a w):∀ss:List Nat,bE P μ (aO C.A μ af) w (ss.map af.get) (ss.map fun s=>a.tmps.getD s undef)
 | []=>rfl
 |s::ss=>⟨_,_,rfl,vJ hS s,SK hS ss⟩
theorem U1(h:Kz μ af ok2):∀(r:Ty) (vs:List AV),Oq μ af ok2 r vs
 | .pair t r,v::vs=>⟨fun _=>.all h v,U1 h r vs⟩
 | .unit,_=>trivial
 | .pair _ _,[]=>trivial
 | .int _,_=>trivial
 | .bool,_=>trivial
 | .str,_=>trivial
 | .list _,_=>trivial
 | .fn _ _,_=>trivial
 | .ptr _,_=>trivial
 | .own _ _,_=>trivial
 | .box _,_=>trivial
 | .nptr _,_=>trivial
 | .nil,_=>trivial
theorem Fq {G:Gl}(hS:a8 P C μ af a w)(hσ:∀f s,σ f=some s→GW G (aO C.A μ af) w∧FnOK G P f s){r:Ty}{vs:List AV}{x:r.T}{L:List Nat}{us:List Value}(h:jk σ af.objs r vs=some (x,L))(hv:bE P μ (aO C.A μ af) w vs us):∀l ∈ L,∃o,af.obj l=some o:=by
 obtain⟨bs,_,hh⟩:=uG (ok2:=Uu C.A μ af) hS hσ (fun b h=>.inl h) r h hv (U1 (fun l o b ho hb=>.inr ⟨l,o,ho,hb⟩) r vs)
 exact hh.live
theorem a8.read {G:Gl}(hS:a8 P C μ af a w)(hσ:∀f s,σ f=some s→GW G (aO C.A μ af) w∧FnOK G P f s){n:Nat}{ss:List Nat}{t:Ty}{x:t.T}(h:Gk σ n af ss t=some x):∃μ',a8 P C μ' (eS n ss t x) a w:=by
 unfold Gk at h
 split at h
 ·rename_i hc
  simp only[Bool.and_eq_true,decide_eq_true_eq]at hc
  obtain⟨⟨⟨⟨hlock,hlen⟩,_⟩,_⟩,hlab⟩:=hc
  have hlock:af.lock=false:=by simpa using hlock
  split at h
  ·rename_i y L hy
   split at h
   ·rename_i hh
    simp only[Bool.and_eq_true]at hh
    obtain rfl:=Option.some.inj h
    have hv:=SK hS ss
    have hlive:=Fq hS hσ hy hv
    obtain⟨bs,har,hheld⟩:=uG (ok2:=tp C.A μ af L) hS hσ (vM hlive) t hy hv (KG hS hlive t hh.2)
    have hA:∀b,tp C.A μ af L b→C.A b∧b ∉ bs:=by
     intro b hb
     refine⟨?_,fun hm=> ?_⟩
     ·rcases hb.1 with h|⟨l,o,ho,hh⟩
      ·exact h.1
      ·exact(hS.wr l o b ho hh).2.1
     ·obtain⟨l,hl,hh⟩:=hheld.has b hm
      exact hb.2 l hl hh
    refine a8.ini hS.defers (by rw[hS.tl,hlen]) hlab har (hheld.nodup (ky.1 hh.1)) hA (fun b hb=> ?_) hS.fr (hS.chg.resolve_left (by simp[hlock])) hS.frc hS.fix
    obtain⟨l,hl,hh⟩:=hheld.has b hb
    obtain⟨o,ho⟩:=hlive l hl
    exact hS.wr l o b ho hh
   ·cases h
  ·cases h
 ·cases h
end
end Go.Proofs.YtnambbcafhnhpaaGreatDoor
