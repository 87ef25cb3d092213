import Derived.Test.YtnambbcafhnhpaaGreatDoorSim
namespace Go.Proofs.YtnambbcafhnhpaaGreatDoor
open Go.RowKit
set_option linter.unusedVariables false
set_option linter.unusedSimpArgs false
section
variable {P:Program} {C:Cx} {μ:Nm} {af:AF} {a:Act} {w:World} {ok2:Nat→Prop}
theorem dh {t t':Ty}{x:t.T}{y:t'.T}(h:fZ t t' x=some y):∃e:t=t',y=e▸x:=by
 unfold fZ at h
 split at h
 ·rename_i e;exact⟨e,by simpa using h.symm⟩
 ·cases h
theorem cC.get {ok:Nat→Prop}{t:Ty}:∀ {xs:List t.T} {cs:List Value},cC P ok w t xs cs→∀i (h:i<xs.length),∃us,CR P ok w t xs[i] us∧∀(j:Nat) u,us[j]? =some u→cs[i*t.size+j]? =some u
 | [],_,_,i,h=>by simp at h
 |x::xs,_,hr,0,_=>by
  obtain⟨u1,u2,rfl,h1,_⟩:=hr
  refine⟨u1,by simpa using h1,fun j u hu=> ?_⟩
  have hj:j<u1.length:=(List.getElem?_eq_some_iff.1 hu).1
  simp only[Nat.zero_mul,Nat.zero_add]
  rw[List.getElem?_append_left hj];exact hu
 |x::xs,_,hr,i+1,h=>by
  obtain⟨u1,u2,rfl,h1,h2⟩:=hr
  obtain⟨us,hc,hj⟩:=cC.get h2 i (by simpa using h)
  refine⟨us,by simpa using hc,fun j u hu=> ?_⟩
  have hl:=CR.length t x u1 h1
  rw[List.getElem?_append_right (by rw[hl,Nat.add_mul];omega),hl]
  have:(i+1)*t.size+j-t.size=i*t.size+j:=by rw[Nat.add_mul];omega
  rw[this];exact hj j u hu
theorem cC.length {ok:Nat→Prop}{t:Ty}:∀ {xs:List t.T} {cs:List Value},cC P ok w t xs cs→cs.length=xs.length*t.size
 | [],_,h=>by have h:_=_:=h;subst h;simp
 |x::xs,_,h=>by
  obtain⟨u1,u2,rfl,h1,h2⟩:=h
  simp[cC.length h2,CR.length t x u1 h1,Nat.add_mul,Nat.add_comm]
theorem Zx {ok:Nat→Prop}{base:Nat}{e:TypeId}{t:Ty}{v:Value}{xs:List t.T}{cells:List Value}(h:w.ownsRow base e t.size v xs.length cells)(hr:cC P ok w t xs cells)
  (hk:∀b,b<w.heap.size→ok b→ok2 b) (hb:∀b,ck v=some b→ok2 b):CR P ok2 w (.list t) xs [v]:=by
 refine⟨v,rfl, ?_⟩
 obtain⟨hl,⟨rfl,hn⟩|⟨g,cap,cur,rfl,_,hg,hcap,_,hcur,htake⟩⟩:=h
 ·exact .inl ⟨List.length_eq_zero_iff.1 hn,none,0,rfl⟩
 ·refine .inr ⟨g,0,cap,rfl,hb g rfl,(Array.getElem?_eq_some_iff.1 hg).1,hcap,fun i hi=> ?_⟩
  obtain⟨us,hc,hj⟩:=hr.get i hi
  refine⟨us,fun j u hu=> ?_,(de.mono t _ (br.refl _ _) hk).1 _ hc⟩
  rw[cell_of_row w g _ cur e (0,0) hg]
  have h2:=hj j u hu
  rw[←htake,List.getElem?_take]at h2
  split at h2
  ·simpa using h2
  ·cases h2
def Kz(μ:Nm)(af:AF)(ok2:Nat→Prop):Prop:=∀l o b,af.obj l=some o→μ.has l b→ok2 b
def AI(μ:Nm)(af:AF)(ok2:Nat→Prop)(c:AV):Prop:=c.owns=true→Kz μ af ok2∨(∃l,c= .own l∧∀o b,af.obj l=some o→μ.has l b→ok2 b)∨
 ∃l off,c= .bptr l off∧(∀o b,af.obj l=some o→μ.has l b→ok2 b)∧∀cs,af.obj l=some (.box cs)→∀d ∈ cs,d.owns=false
def rE(μ:Nm)(af:AF)(ok2:Nat→Prop):AV→Prop
 | .agg cs=>∀c ∈ cs,AI μ af ok2 c
 |v=>AI μ af ok2 v
def wJ(μ:Nm)(af:AF)(ok2:Nat→Prop):AV→Prop
 | .clo _ caps=>Kz μ af ok2∨∀c ∈ caps,rE μ af ok2 c
 |v=>rE μ af ok2 v
theorem SA {μ:Nm}{af:AF}{ok2:Nat→Prop}{l off:Nat}{cs:List AV}(h:AI μ af ok2 (.bptr l off))(ho:af.obj l=some (.box cs)):(∀c ∈ cs,AI μ af ok2 c)∧∀b,μ.has l b→ok2 b:=by
 rcases h rfl with h|⟨_,e,_⟩|⟨_,_,e,h,h'⟩
 ·exact⟨fun _ _ _=>.inl h,fun b hb=>h l _ b ho hb⟩
 ·cases e
 ·cases e
  exact⟨fun c hc hw=>(by rw[h' cs ho c hc]at hw;cases hw),fun b hb=>h _ b ho hb⟩
theorem rE.all {μ:Nm}{af:AF}{ok2:Nat→Prop}(h:Kz μ af ok2)(v:AV):rE μ af ok2 v:=by
 cases v<;>first|exact fun _ _ _=>.inl h|exact fun _=>.inl h
theorem wJ.all {μ:Nm}{af:AF}{ok2:Nat→Prop}(h:Kz μ af ok2)(v:AV):wJ μ af ok2 v:=by
 cases v<;>first|exact fun _ _ _=>.inl h|exact fun _=>.inl h|exact .inl h
theorem wJ.no {μ:Nm}{af:AF}{ok2:Nat→Prop}{v:AV}(h:v.owns=false):wJ μ af ok2 v:=by
 cases v with
 |agg cs=>
  intro c hc ho
  simp only[AV.owns,List.any_eq_false]at h
  have:=h c hc
  cases c<;>simp_all [AV.owns]
 |clo f caps=>cases h
 |_=>exact fun ho=>by rw[h]at ho;cases ho
theorem wJ.of0 {μ:Nm}{af:AF}{ok2:Nat→Prop}{v:AV}(h:∀f caps,v≠ .clo f caps)(h0:rE μ af ok2 v):wJ μ af ok2 v:=by
 cases v<;>first|exact h0|exact absurd rfl (h _ _)
theorem rE.no {μ:Nm}{af:AF}{ok2:Nat→Prop}{v:AV}(h:v.owns=false):rE μ af ok2 v:=by
 cases v with
 |agg cs=>
  intro c hc ho
  simp only[AV.owns,List.any_eq_false]at h
  have:=h c hc
  cases c<;>simp_all [AV.owns]
 |_=>exact fun ho=>by rw[h]at ho;cases ho
theorem wJ.of {μ:Nm}{af:AF}{ok2:Nat→Prop}{v:AV}(h:v.owns=true→Kz μ af ok2):wJ μ af ok2 v:=by
 cases ho:v.owns with
 |true=>exact .all (h ho) v
 |false=>exact .no ho
theorem Zy {A B:Type}(h:A=B)(x:A)(xs:List A):cast (congrArg List h) (x::xs)=cast h x::cast (congrArg List h) xs:=by subst h;rfl
theorem aaX {A B:Type}(h:A=B):cast (congrArg List h) ([]:List A)= []:=by subst h;rfl
theorem aaY {A B:Type}(h:A=B)(xs:List A):(cast (congrArg List h) xs).length=xs.length:=by subst h;rfl
theorem Zz {A B C D:Type}(h1:A=C)(h2:B=D)(h:(A×B)=(C×D))(x:A×B):cast h x=(cast h1 x.1,cast h2 x.2):=by subst h1 h2;rfl
theorem AJ {ok ok2:Nat→Prop}(hk:∀b,b<w.heap.size→ok b→ok2 b):∀(t:Ty) {x:t.T} {us:List Value} {bs:List Nat},t.nobox=true→bm P ok w t x us bs→(∀b ∈ bs,ok2 b)→CR P ok2 w t.plain (cast (kM t).symm x) us
 | .own e t,x,us,bs,hn,h,hb=>by
   obtain⟨v,cells,bs',rfl,h1,h2,rfl⟩:=h
   have rows:∀(xs:List t.T) (cs:List Value) (bz:List Nat),dV (bm P ok w t) xs cs bz→(∀b ∈ bz,ok2 b)→cC P ok2 w t.plain (cast (congrArg List (kM t).symm) xs) cs:=by
    intro xs
    induction xs with
    |nil=>
     intro cs bz h _
     rw[aaX (kM t).symm]
     exact h.1
    |cons y ys ih=>
     intro cs bz h hbz
     obtain⟨u1,u2,b1,b2,rfl,rfl,g1,g2⟩:=h
     rw[Zy (kM t).symm]
     exact⟨u1,u2,rfl,AJ hk t hn g1 (fun b hb=>hbz b (by simp[hb])),ih u2 b2 g2 (fun b hb=>hbz b (by simp[hb]))⟩
   have hr:=rows x cells bs' h2 (fun b hb'=>hb b (by simp[hb']))
   have h1':w.ownsRow 0 e t.plain.size v (cast (congrArg List (kM t).symm) x).length cells:=by rw[Fa,aaY (kM t).symm];exact h1
   exact Zx h1' hr (fun b _ h=>h) (fun b hb'=>hb b (by simp[hb']))
 | .pair a b,x,us,bs,hn,h,hb=>by
   obtain⟨u1,u2,b1,b2,rfl,rfl,h1,h2⟩:=h
   simp only[Ty.nobox,Bool.and_eq_true]at hn
   have e:cast (kM (.pair a b)).symm x=(cast (kM a).symm x.1,cast (kM b).symm x.2):=Zz _ _ _ x
   rw[e]
   exact⟨u1,u2,rfl,AJ hk a hn.1 h1 (fun b hb'=>hb b (by simp[hb'])),AJ hk b hn.2 h2 (fun b hb'=>hb b (by simp[hb']))⟩
 | .box _,_,_,_,hn,_,_=>by simp[Ty.nobox]at hn
 | .int k,x,us,bs,_,h,_=>(de.mono _ x (br.refl _ _) hk).1 _ h.1
 | .bool,x,us,bs,_,h,_=>(de.mono _ x (br.refl _ _) hk).1 _ h.1
 | .str,x,us,bs,_,h,_=>(de.mono _ x (br.refl _ _) hk).1 _ h.1
 | .unit,x,us,bs,_,h,_=>(de.mono _ x (br.refl _ _) hk).1 _ h.1
 | .list t,x,us,bs,_,h,_=>(de.mono _ x (br.refl _ _) hk).1 _ h.1
 | .ptr t,x,us,bs,_,h,_=>(de.mono _ x (br.refl _ _) hk).1 _ h.1
 | .fn a r,x,us,bs,_,h,_=>(de.mono _ x (br.refl _ _) hk).1 _ h.1
 | .nptr t,x,us,bs,_,h,_=>(de.mono _ x (br.refl _ _) hk).1 _ h.1
 | .nil,x,us,bs,_,h,_=>(de.mono _ x (br.refl _ _) hk).1 _ h.1
theorem Fk(hS:a8 P C μ af a w)(h1:∀b,aO C.A μ af b→ok2 b){t:Ty}(ht:t.isAgg=false){c:AV}{x:t.T}{u:Value}(h:sc af.objs t c=some x)(hv:VA P μ (aO C.A μ af) w c u)
  (h2:AI μ af ok2 c):CR P ok2 w t x [u]:=by
 cases c with
 |dat t' y=>
  obtain⟨e,rfl⟩:=dh h
  subst e
  have hv:VR P (aO C.A μ af) w t' y u:=hv
  have:=VR.mono hv (br.refl _ _) (ok':=ok2) (fun b _ hb=>h1 b hb)
  simpa [aY,ht]using this
 |nils=>
  have hv:u= .slice none 0 0:=hv
  subst hv
  cases t<;>simp only[sc]at h
  case list=>cases h;exact⟨_,rfl,.inl ⟨rfl,none,0,rfl⟩⟩
  case nil=>exact rfl
  all_goals cases h
 |own l=>
  have hv:u=μ l:=hv
  subst hv
  have hlent:∀b,μ.has l b→(∃o,af.obj l=some o)→ok2 b:=by
   rintro b hh ⟨o,ho⟩
   rcases h2 rfl with h2|⟨l',e,h2⟩|⟨_,_,e,_⟩
   ·exact h2 l _ b ho hh
   ·cases e;exact h2 _ b ho hh
   ·cases e
  have ho:∃e t' xs,af.obj l=some (.arr e t' xs)∧((t'.owned=true∧t'.nobox=true∧fZ (.list t'.plain) t (aaU t' xs)=some x)∨(t'.owned=false∧fZ (.list t') t xs=some x)):=by
   simp only[sc]at h
   split at h
   ·rename_i e t' xs ho
    split at h
    ·rename_i hw
     split at h
     ·rename_i hn;exact⟨e,t',xs,ho,.inl ⟨hw,hn,h⟩⟩
     ·cases h
    ·rename_i hn;exact⟨e,t',xs,ho,.inr ⟨by simpa using hn,h⟩⟩
   ·cases h
  obtain⟨e,t',xs,ho,⟨hw,hn,hc⟩|⟨hn,hc⟩⟩:=ho
  ·obtain⟨e1,rfl⟩:=dh hc
   subst e1
   obtain⟨cells,h3,h4⟩:=hS.objs l _ ho
   rw[if_pos hw]at h4
   obtain⟨bs,h4,h5,h6⟩:=h4
   have hocr:bm P (aO C.A μ af) w (.own e t') xs [μ l] ((ck (μ l)).toList++bs):=⟨μ l,cells,bs,rfl,h3,h4,rfl⟩
   exact AJ (fun b _ hb=>h1 b hb) (.own e t') hn hocr (fun b hb=>hlent b (by
    rcases List.mem_append.1 hb with h|h
    ·exact .inl (by simpa using h)
    ·exact .inr (h6 b h).2) ⟨_,ho⟩)
  ·obtain⟨e1,rfl⟩:=dh hc
   subst e1
   obtain⟨cells,h3,h4⟩:=(rg hn).1 (hS.objs l _ ho)
   exact Zx h3 h4 (fun b _ hb=>h1 b hb) (fun b hb=>hlent b (.inl hb) ⟨_,ho⟩)
 |rptr t' y off=>
  simp only[sc]at h
  split at h
  ·rename_i h0;subst h0
   obtain⟨e1,rfl⟩:=dh h
   subst e1
   obtain⟨b,o,us,rfl,hok,hlt,hm,hc⟩:=hv
   exact⟨b,o,us,rfl,h1 b hok,hlt,hm,(de.mono t' _ (br.refl _ _) (fun b _ hb=>h1 b hb)).1 _ hc⟩
  ·cases h
 |_=>simp[sc]at h
theorem y1 {objs:List (Nat×AO)}{t:Ty}{c:AV}{r:List AV}{x:t.T}{rest:List AV}(h:N9 objs t c r=some (x,rest)):sc objs t c=some x∧rest=r:=by
 unfold N9 at h
 split at h
 ·rename_i y hy;simp at h;obtain⟨rfl,rfl⟩:=h;exact⟨hy,rfl⟩
 ·cases h
theorem rh(hS:a8 P C μ af a w)(h1:∀b,aO C.A μ af b→ok2 b):∀(t:Ty) {cs:List AV} {x:t.T} {rest:List AV} {us:List Value},imp af.objs t cs=some (x,rest)→bE P μ (aO C.A μ af) w cs us→
  (∀c ∈ cs,AI μ af ok2 c)→∃u1 u2 ds,us=u1++u2∧cs=ds++rest∧CR P ok2 w t x u1∧bE P μ (aO C.A μ af) w rest u2
 | .unit,cs,x,rest,us,h,hv,_=>by
   simp[imp]at h;subst h
   exact⟨[],us,[],rfl,rfl,rfl,hv⟩
 | .pair ta tb,cs,x,rest,us,h,hv,h2=>by
   simp only[imp]at h
   split at h
   ·rename_i y r hy
    split at h
    ·rename_i z r' hz
     simp at h;obtain⟨rfl,rfl⟩:=h
     obtain⟨u1,u2,d1,rfl,rfl,c1,v1⟩:=rh hS h1 ta hy hv h2
     obtain⟨u3,u4,d2,rfl,rfl,c2,v2⟩:=rh hS h1 tb hz v1 (fun c hc=>h2 c (List.mem_append.2 (.inr hc)))
     exact⟨u1++u3,u4,d1++d2,by simp,by simp,⟨u1,u3,rfl,c1,c2⟩,v2⟩
    ·cases h
   ·cases h
 | .int k,c::r,x,rest,us,h,hv,h2=>by
   simp only[imp]at h
   obtain⟨h3,rfl⟩:=y1 h
   obtain⟨u,us',rfl,hc,hr⟩:=hv
   exact⟨[u],us',[c],rfl,rfl,Fk hS h1 rfl h3 hc (h2 c (by simp)),hr⟩
 | .nil,c::r,x,rest,us,h,hv,h2=>by
   simp only[imp]at h
   obtain⟨h3,rfl⟩:=y1 h
   obtain⟨u,us',rfl,hc,hr⟩:=hv
   exact⟨[u],us',[c],rfl,rfl,Fk hS h1 rfl h3 hc (h2 c (by simp)),hr⟩
 | .bool,c::r,x,rest,us,h,hv,h2=>by
   simp only[imp]at h
   obtain⟨h3,rfl⟩:=y1 h
   obtain⟨u,us',rfl,hc,hr⟩:=hv
   exact⟨[u],us',[c],rfl,rfl,Fk hS h1 rfl h3 hc (h2 c (by simp)),hr⟩
 | .str,c::r,x,rest,us,h,hv,h2=>by
   simp only[imp]at h
   obtain⟨h3,rfl⟩:=y1 h
   obtain⟨u,us',rfl,hc,hr⟩:=hv
   exact⟨[u],us',[c],rfl,rfl,Fk hS h1 rfl h3 hc (h2 c (by simp)),hr⟩
 | .list t,c::r,x,rest,us,h,hv,h2=>by
   simp only[imp]at h
   obtain⟨h3,rfl⟩:=y1 h
   obtain⟨u,us',rfl,hc,hr⟩:=hv
   exact⟨[u],us',[c],rfl,rfl,Fk hS h1 rfl h3 hc (h2 c (by simp)),hr⟩
 | .fn ta tb,c::r,x,rest,us,h,hv,h2=>by
   simp only[imp]at h
   obtain⟨h3,rfl⟩:=y1 h
   obtain⟨u,us',rfl,hc,hr⟩:=hv
   exact⟨[u],us',[c],rfl,rfl,Fk hS h1 rfl h3 hc (h2 c (by simp)),hr⟩
 | .ptr t,c::r,x,rest,us,h,hv,h2=>by
   obtain⟨u,us',rfl,hc,hr⟩:=hv
   have key:(∃l off cs y r',c= .bptr l off∧af.obj l=some (.box cs)∧imp af.objs t (cs.drop off)=some (y,r')∧x=y∧rest=r)∨(sc af.objs (.ptr t) c=some x∧rest=r):=by
    simp only[imp]at h
    split at h
    ·rename_i l off
     split at h
     ·rename_i cs ho
      split at h
      ·rename_i y r' hy;simp at h;exact .inl ⟨l,off,cs,y,r',rfl,ho,hy,h.1.symm,h.2.symm⟩
      ·cases h
     ·cases h
    ·exact .inr (y1 h)
   rcases key with⟨l,off,cs,y,r',rfl,ho,hy,rfl,rfl⟩|⟨h3,rfl⟩
   ·obtain⟨b,e,rfl⟩:=hc
    obtain⟨b',us2,E,e',hg,hvs,_⟩:=hS.objs l _ ho
    have hbb:b=b':=by rw[e]at e';simpa using e'
    subst hbb
    obtain⟨hL,hB⟩:=SA (h2 (.bptr l off) (by simp)) ho
    obtain⟨u1,u2,ds,hus,_,hcr,_⟩:=rh hS h1 t hy (hvs.drop off) (fun c hc=>hL c (List.mem_of_mem_drop hc))
    have hokb:ok2 b:=hB b (.inl (by rw[e];rfl))
    refine⟨[_],us',[_],rfl,rfl,⟨b,off,u1,rfl,hokb,(Array.getElem?_eq_some_iff.1 hg).1,fun j u hu=> ?_,hcr⟩,hr⟩
    rw[cell_of_row w b _ _ E (0,0) hg]
    have:(us2.drop off)[j]? =some u:=by
     rw[hus,List.getElem?_append_left (List.getElem?_eq_some_iff.1 hu).1];exact hu
    simpa using this
   ·exact⟨[u],us',[c],rfl,rfl,Fk hS h1 rfl h3 hc (h2 c (by simp)),hr⟩
 | .int _,[],_,_,_,h,_,_=>by simp[imp]at h
 | .bool,[],_,_,_,h,_,_=>by simp[imp]at h
 | .str,[],_,_,_,h,_,_=>by simp[imp]at h
 | .list _,[],_,_,_,h,_,_=>by simp[imp]at h
 | .fn _ _,[],_,_,_,h,_,_=>by simp[imp]at h
 | .ptr _,[],_,_,_,h,_,_=>by simp[imp]at h
 | .own _ _,_::_,_,_,_,h,_,_=>by simp[imp]at h
 | .box _,_::_,_,_,_,h,_,_=>by simp[imp]at h
 | .own _ _,[],_,_,_,h,_,_=>by simp[imp]at h
 | .box _,[],_,_,_,h,_,_=>by simp[imp]at h
 | .nptr _,[],_,_,_,h,_,_=>by simp[imp]at h
 | .nil,[],_,_,_,h,_,_=>by simp[imp]at h
 | .nptr t,c::r,x,rest,us,h,hv,h2=>by
   obtain⟨u,us',rfl,hc,hr⟩:=hv
   have fin:∀ {x:Option t.T},CR P ok2 w (.nptr t) x [u]→∃u1 u2 ds,u::us'=u1++u2∧c::r=ds++r∧CR P ok2 w (.nptr t) x u1∧bE P μ (aO C.A μ af) w r u2:=fun h=>⟨[u],us',[c],rfl,rfl,h,hr⟩
   simp only[imp]at h
   split at h
   ·simp at h;obtain⟨rfl,rfl⟩:=h
    have hc:u= .pointer none:=hc
    exact fin (.inl ⟨rfl,by rw[hc]⟩)
   ·rename_i l off
    split at h
    ·rename_i cs ho
     split at h
     ·rename_i y r' hy
      simp at h;obtain⟨rfl,rfl⟩:=h
      obtain⟨b,e,rfl⟩:=hc
      obtain⟨b',us2,E,e',hg,hvs,_⟩:=hS.objs l _ ho
      have hbb:b=b':=by rw[e]at e';simpa using e'
      subst hbb
      obtain⟨hL,hB⟩:=SA (h2 (.bptr l off) (by simp)) ho
      obtain⟨u1,u2,ds,hus,_,hcr,_⟩:=rh hS h1 t hy (hvs.drop off) (fun c hc=>hL c (List.mem_of_mem_drop hc))
      have hokb:ok2 b:=hB b (.inl (by rw[e];rfl))
      refine fin (.inr ⟨y,b,off,u1,rfl,rfl,hokb,(Array.getElem?_eq_some_iff.1 hg).1,fun j u hu=> ?_,hcr⟩)
      rw[cell_of_row w b _ _ E (0,0) hg]
      have:(us2.drop off)[j]? =some u:=by
       rw[hus,List.getElem?_append_left (List.getElem?_eq_some_iff.1 hu).1];exact hu
      simpa using this
     ·cases h
    ·cases h
   ·rename_i t' y off
    split at h
    ·rename_i h0;subst h0
     split at h
     ·rename_i z hz
      simp at h;obtain⟨rfl,rfl⟩:=h
      obtain⟨e1,rfl⟩:=dh hz
      subst e1
      obtain⟨b,o,us2,rfl,hok,hlt,hm,hc⟩:=hc
      exact fin (.inr ⟨_,b,o,us2,rfl,rfl,h1 b hok,hlt,hm,(de.mono t' _ (br.refl _ _) (fun b _ hb=>h1 b hb)).1 _ hc⟩)
     ·cases h
    ·cases h
   ·rename_i t' y
    have hc:VR P (aO C.A μ af) w t' y u:=hc
    split at h
    ·rename_i z hz
     simp at h;obtain⟨rfl,rfl⟩:=h
     obtain⟨e1,rfl⟩:=dh hz
     subst e1
     have:=VR.mono hc (br.refl _ _) (ok':=ok2) (fun b _ hb=>h1 b hb)
     exact fin (by simpa [aY,Ty.isAgg]using this)
    ·split at h
     ·rename_i z hz
      simp at h;obtain⟨rfl,rfl⟩:=h
      obtain⟨e1,rfl⟩:=dh hz
      subst e1
      have:=VR.mono hc (br.refl _ _) (ok':=ok2) (fun b _ hb=>h1 b hb)
      have:CR P ok2 w (.ptr t) y [u]:=by simpa [aY,Ty.isAgg]using this
      obtain⟨b,o,us2,e,hok,hlt,hm,hc⟩:=this
      exact fin (.inr ⟨_,b,o,us2,rfl,e,hok,hlt,hm,hc⟩)
     ·cases h
   ·cases h
theorem QT(hS:a8 P C μ af a w)(h1:∀b,aO C.A μ af b→ok2 b){t:Ty}{v:AV}{x:t.T}{u:Value}(h:v.get0 af.objs t=some x)(hv:VA P μ (aO C.A μ af) w v u)
  (h2:rE μ af ok2 v):VR P ok2 w t x u:=by
 have gen:AI μ af ok2 v→(if t.isAgg then none else match imp af.objs t [v]with|some (x,[])=>some x|_=>none)=some x→VR P ok2 w t x u:=by
  intro h2 h
  split at h
  ·cases h
  ·rename_i hna
   split at h
   ·rename_i y hy
    simp at h;subst h
    obtain⟨u1,u2,ds,e,_,hc,hr⟩:=rh hS h1 t hy (us:=[u]) ⟨u,[],rfl,hv,rfl⟩ (fun c hc=>by simp at hc;subst hc;exact h2)
    have hr:u2= []:=hr
    subst hr
    simp at e;subst e
    simpa [aY,hna]using hc
   ·cases h
 cases v with
 |dat t' y=>
  obtain⟨e,rfl⟩:=dh h
  subst e
  exact VR.mono hv (br.refl _ _) (fun b _ hb=>h1 b hb)
 |agg cs=>
  simp only[AV.get0]at h
  split at h
  ·rename_i ha
   split at h
   ·rename_i y hy
    simp at h;subst h
    obtain⟨us,rfl,hvs,_⟩:=hv
    obtain⟨u1,u2,ds,rfl,_,hc,hr⟩:=rh hS h1 t hy hvs h2
    have hr:u2= []:=hr
    subst hr
    show aY t _ _
    rw[aY,if_pos ha]
    exact⟨u1,by simp,hc⟩
   ·cases h
  ·cases h
 |_=>exact gen h2 h
theorem LE(hS:a8 P C μ af a w)(h1:∀b,aO C.A μ af b→ok2 b):∀(r:Ty) {vs:List AV} {x:r.T} {us:List Value},fN af.objs r vs=some x→bE P μ (aO C.A μ af) w vs us→
  (∀v ∈ vs,rE μ af ok2 v)→AR P ok2 w r x us
 | .unit,[],x,us,_,hv,_=>by have hv:us= []:=hv;exact hv
 | .pair t r,v::vs,x,us,h,hv,h2=>by
   obtain⟨u,us',rfl,hc,hr⟩:=hv
   simp only[fN]at h
   split at h
   ·rename_i y hy
    split at h
    ·rename_i z hz
     simp at h;subst h
     exact⟨u,us',rfl,QT hS h1 hy hc (h2 v (by simp)),LE hS h1 r hz hr (fun v hv=>h2 v (by simp[hv]))⟩
    ·cases h
   ·cases h
 | .unit,_::_,_,_,h,_,_=>by simp[fN]at h
 | .pair _ _,[],_,_,h,_,_=>by simp[fN]at h
 | .int _,_,_,_,h,_,_=>by simp[fN]at h
 | .bool,_,_,_,h,_,_=>by simp[fN]at h
 | .str,_,_,_,h,_,_=>by simp[fN]at h
 | .list _,_,_,_,h,_,_=>by simp[fN]at h
 | .fn _ _,_,_,_,h,_,_=>by simp[fN]at h
 | .ptr _,_,_,_,h,_,_=>by simp[fN]at h
 | .own _ _,_,_,_,h,_,_=>by simp[fN]at h
 | .box _,_,_,_,h,_,_=>by simp[fN]at h
 | .nptr _,_,_,_,h,_,_=>by simp[fN]at h
 | .nil,_,_,_,h,_,_=>by simp[fN]at h
end
def MC(P:Program)(s:ai)(y:(s.r.app s.m).T)(ok:Nat→Prop)(args:List Value)(bs:List Nat)(w:World)(e:Ending)(w':World):Prop:=
 ∃v rs b1 b2,e= .returned v∧aG (· ∈ bs) w w'∧v=(if oW s.r then rs.headD undef else .tuple rs.toArray)∧(b1++b2).Nodup∧(∀b ∈ b1++b2,(b ∈ bs∨w.heap.size≤b)∧b<w'.heap.size)∧
  nF P (fun b=>(ok b∨b ∈ bs∨w.heap.size≤b)∧b ∉ b1++b2) w' s.r (BF s.r s.m y) rs b1∧
  (s.m≠ .unit→kS P (fun b=>(ok b∨b ∈ bs∨w.heap.size≤b)∧b ∉ b1++b2) w' s.a s.m (UA s.r s.m s.row y) args b2)
structure Gl where
 I:World→Prop
 B:Nat→Prop
 lt:∀w,I w→∀b,B b→b<w.heap.size
 stay:∀w w',I w→w.heap.size≤w'.heap.size→(∀b,B b→w'.heap[b]? =w.heap[b]?)→I w'
def Gl.none:Gl:=⟨fun _=>True,fun _=>False,fun _ _ _ h=>h.elim,fun _ _ _ _ _=>trivial⟩
def GW(G:Gl)(ok:Nat→Prop)(w:World):Prop:=G.I w∧∀b,G.B b→ok b
theorem GW.agree {G:Gl}{ok ok':Nat→Prop}{w w':World}(h:GW G ok w)(ha:br ok w w')(hk:∀b,b<w.heap.size→ok b→ok' b):GW G ok' w':=
 ⟨G.stay w w' h.1 ha.1 fun b hb=>ha.2 b (h.2 b hb) (G.lt w h.1 b hb),fun b hb=>hk b (G.lt w h.1 b hb) (h.2 b hb)⟩
theorem GW.mono {G:Gl}{ok ok':Nat→Prop}{w:World}(h:GW G ok w)(hk:∀b,ok b→ok' b):GW G ok' w:=⟨h.1,fun b hb=>hk b (h.2 b hb)⟩
def aeB(G:Gl)(P:Program)(f:FuncId)(s:ai):Prop:=
 ∀(w:World) (ok:Nat→Prop) (args:List Value) (x:s.a.T) (y:(s.r.app s.m).T) (bs:List Nat),GW G ok w→nF P ok w s.a x args bs→bs.Nodup→(∀b ∈ bs,¬ok b∧b<w.heap.size)→s.fn x=some y→Calls P f args.toArray w (MC P s y ok args bs w)
def FnOK(G:Gl)(P:Program)(f:FuncId)(s:ai):Prop:=jN P f∧aeB G P f s
structure kW (G:Gl) (P:Program) (C:Cx) (w0:World) (σ:FuncId→Option ai):Prop where
 i:G.I w0
 b:∀b,G.B b→C.A b∧¬C.Wr b∧¬C.Ch b
 ok:∀f s,σ f=some s→FnOK G P f s
theorem kW.gw {G:Gl}{P:Program}{C:Cx}{w0 w:World}{σ:FuncId→Option ai}{μ:Nm}{af:AF}{a:Act}(h:kW G P C w0 σ)(hK:aG C.Ch w0 w)(hS:a8 P C μ af a w):GW G (aO C.A μ af) w:=
 ⟨G.stay w0 w h.i hK.size fun b hb=>hK.block b (G.lt w0 h.i b hb) (h.b b hb).2.2,fun b hb=>⟨(h.b b hb).1,fun l o ho hh=>(h.b b hb).2.1 (hS.wr l o b ho hh).1⟩⟩
theorem kW.at {G:Gl}{P:Program}{C:Cx}{w0 w:World}{σ:FuncId→Option ai}{μ:Nm}{af:AF}{a:Act}(h:kW G P C w0 σ)(hK:aG C.Ch w0 w)(hS:a8 P C μ af a w):∀f s,σ f=some s→GW G (aO C.A μ af) w∧FnOK G P f s:=
 fun f s hs=>⟨h.gw hK hS,h.ok f s hs⟩
theorem Iq {P:Program}{ok:Nat→Prop}{w:World}:∀(a:Ty) {x:a.T} {vs:List Value},a.owned=false→AR P ok w a x vs→nF P ok w a x vs []
 | .unit,_,_,_,h=>⟨h,rfl⟩
 | .pair t r,x,_,ho,h=>by
   simp only[Ty.owned,Bool.or_eq_false_iff]at ho
   obtain⟨v,vs',rfl,h1,h2⟩:=h
   exact⟨v,vs',[],[],rfl,rfl,h1.mono fun us hu=>bm.of t ho.1 hu,Iq r ho.2 h2⟩
 | .int _,_,_,_,h=>(h:False).elim
 | .bool,_,_,_,h=>(h:False).elim
 | .str,_,_,_,h=>(h:False).elim
 | .list _,_,_,_,h=>(h:False).elim
 | .fn _ _,_,_,_,h=>(h:False).elim
 | .ptr _,_,_,_,h=>(h:False).elim
 | .own _ _,_,_,_,h=>(h:False).elim
 | .box _,_,_,_,h=>(h:False).elim
 | .nptr _,_,_,_,h=>(h:False).elim
 | .nil,_,_,_,h=>(h:False).elim
theorem Ir {P:Program}{ok:Nat→Prop}{w:World}:∀(a:Ty) {x:a.T} {vs:List Value} {bs:List Nat},a.owned=false→nF P ok w a x vs bs→AR P ok w a x vs∧bs= []
 | .unit,_,_,_,_,h=>h
 | .pair t r,x,_,_,ho,h=>by
   simp only[Ty.owned,Bool.or_eq_false_iff]at ho
   obtain⟨v,vs',b1,b2,rfl,rfl,h1,h2⟩:=h
   obtain⟨h3,rfl⟩:=Ir r ho.2 h2
   have h4:b1= []:=by
    unfold aY at h1
    split at h1
    ·obtain⟨us,_,hu⟩:=h1;exact(bm.pure t ho.1 hu).2
    ·exact(bm.pure t ho.1 h1).2
   subst h4
   exact⟨⟨v,vs',rfl,h1.mono fun us hu=>(bm.pure t ho.1 hu).1,h3⟩,rfl⟩
 | .int _,_,_,_,_,h=>(h:False).elim
 | .bool,_,_,_,_,h=>(h:False).elim
 | .str,_,_,_,_,h=>(h:False).elim
 | .list _,_,_,_,_,h=>(h:False).elim
 | .fn _ _,_,_,_,_,h=>(h:False).elim
 | .ptr _,_,_,_,_,h=>(h:False).elim
 | .own _ _,_,_,_,_,h=>(h:False).elim
 | .box _,_,_,_,_,h=>(h:False).elim
 | .nptr _,_,_,_,_,h=>(h:False).elim
 | .nil,_,_,_,_,h=>(h:False).elim
theorem aaZ {P:Program}{ok:Nat→Prop}{w:World}:∀(a c:Ty) (x:a.T) (y:c.T) (vs us:List Value),a.row=true→AR P ok w a x vs→AR P ok w c y us→AR P ok w (a.app c) (Fb a c x y) (vs++us)
 | .unit,_,_,_,vs,us,_,h,h'=>by have h:vs= []:=h;subst h;exact h'
 | .pair t r,c,x,y,vs,us,hr,h,h'=>by
   obtain⟨v,vs',rfl,h1,h2⟩:=h
   exact⟨v,vs'++us,rfl,h1,aaZ r c x.2 y vs' us (by simpa [Ty.row]using hr) h2 h'⟩
 | .int _,_,_,_,_,_,hr,_,_=>by simp[Ty.row]at hr
 | .bool,_,_,_,_,_,hr,_,_=>by simp[Ty.row]at hr
 | .str,_,_,_,_,_,hr,_,_=>by simp[Ty.row]at hr
 | .list _,_,_,_,_,_,hr,_,_=>by simp[Ty.row]at hr
 | .fn _ _,_,_,_,_,_,hr,_,_=>by simp[Ty.row]at hr
 | .ptr _,_,_,_,_,_,hr,_,_=>by simp[Ty.row]at hr
 | .own _ _,_,_,_,_,_,hr,_,_=>by simp[Ty.row]at hr
 | .box _,_,_,_,_,_,hr,_,_=>by simp[Ty.row]at hr
 | .nptr _,_,_,_,_,_,hr,_,_=>by simp[Ty.row]at hr
 | .nil,_,_,_,_,_,hr,_,_=>by simp[Ty.row]at hr
theorem Ys {P:Program}{ok:Nat→Prop}{w:World}:∀(r:Ty) {y:(r.app .unit).T} {rs:List Value},AR P ok w r (BF r .unit y) rs→AR P ok w (r.app .unit) y rs
 | .unit,_,_,h=>h
 | .pair t r,y,_,h=>by
   obtain⟨v,vs',rfl,h1,h2⟩:=h
   exact⟨v,vs',rfl,h1,Ys r h2⟩
 | .int _,_,_,h=>(h:False).elim
 | .bool,_,_,h=>(h:False).elim
 | .str,_,_,h=>(h:False).elim
 | .list _,_,_,h=>(h:False).elim
 | .fn _ _,_,_,h=>(h:False).elim
 | .ptr _,_,_,h=>(h:False).elim
 | .own _ _,_,_,h=>(h:False).elim
 | .box _,_,_,h=>(h:False).elim
 | .nptr _,_,_,h=>(h:False).elim
 | .nil,_,_,h=>(h:False).elim
section
variable {P:Program} {C:Cx} {μ:Nm} {af:AF} {a:Act} {w:World} {ok2:Nat→Prop} {σ:FuncId→Option ai}
theorem afI {G:Gl}{f:FuncId}{s:ai}(hg:GW G ok2 w)(hf:FnOK G P f s){pa c r:Ty}{y0:c.T}{us:List Value}(hrow:pa.row=true)(hm:s.m= .unit)(ha:s.a.owned=false)(hr:s.r.owned=false)(e1:pa.app c=s.a)(e2:s.r.app s.m=r)(e3:s.r=r)(hy:AR P ok2 w c y0 us):
  CR P ok2 w (.fn pa r) (fun x=>e2▸s.fn (e1▸Fb pa c x y0)) [.func (.func f) #[] us.toArray]:=by
 obtain⟨sa,sr,sm,srow,fn⟩:=s
 simp only at e1 e2 e3 hm ha hr
 subst e1 e2 hm
 refine⟨f,us.toArray,rfl,hf.1,fun w' ok' ha' hk args x y hx hxy=> ?_⟩
 have h2:=(de.mono c y0 ha' hk).2 _ hy
 have h3:=aaZ pa c x y0 args us hrow hx h2
 have:=hf.2 w' ok' (args++us) _ y [] (hg.agree ha' hk) (Iq _ ha h3) List.nodup_nil (fun b hb=>by cases hb) hxy
 rw[←List.append_toArray]at this
 refine this.mono fun e w'' hp=> ?_
 obtain⟨v,rs,b1,b2,he,hkp,hv,_,_,hr1,_⟩:=hp
 obtain⟨hr2,_⟩:=Ir sr hr hr1
 refine⟨v,he,hkp.mono (fun _ _ h=>by cases h),rs,(de.mono _ y (br.refl _ _) (fun b _ hb=> ?_)).2 _ (Ys sr hr2),by rw[←e3];exact hv⟩
 rcases hb.1 with h|h|h
 ·exact .inl h
 ·cases h
 ·exact .inr h
theorem Yt {G:Gl}(hS:a8 P C μ af a w)(hσ:∀f s,σ f=some s→GW G (aO C.A μ af) w∧FnOK G P f s)(h1:∀b,aO C.A μ af b→ok2 b){t:Ty}{v:AV}{x:t.T}{u:Value}(h:v.get1 σ af.objs t=some x)(hv:VA P μ (aO C.A μ af) w v u)
  (h2:wJ μ af ok2 v):VR P ok2 w t x u:=by
 cases v with
 |clo f caps=>
  have hO:∀c ∈ caps,rE μ af ok2 c:=by
   rcases h2 with h2|h2
   ·exact fun c _=>rE.all h2 c
   ·exact h2
  obtain⟨us,rfl,hvs⟩:=hv
  simp only[AV.get1]at h
  split at h
  ·rename_i pa r
   split at h
   ·rename_i s hs
    split at h
    ·rename_i c hc
     split at h
     ·rename_i y0 hy0
      split at h
      ·rename_i hh
       simp at h;subst h
       obtain⟨e1,e2,hm,e3,ha,hr,hrow⟩:=hh
       have:=LE hS h1 c hy0 hvs hO
       have:=afI ((hσ f s hs).1.mono h1) (hσ f s hs).2 hrow hm ha hr e1 e2 e3 this
       simpa [aY,Ty.isAgg]using this
      ·cases h
     ·cases h
    ·cases h
   ·cases h
  ·cases h
 |_=>exact QT hS h1 (by simpa only[AV.get1]using h) hv h2
theorem Fl {G:Gl}(hS:a8 P C μ af a w)(hσ:∀f s,σ f=some s→GW G (aO C.A μ af) w∧FnOK G P f s)(h1:∀b,aO C.A μ af b→ok2 b):∀(r:Ty) {vs:List AV} {x:r.T} {us:List Value},iy σ af.objs r vs=some x→bE P μ (aO C.A μ af) w vs us→
  (∀v ∈ vs,wJ μ af ok2 v)→AR P ok2 w r x us
 | .unit,[],x,us,_,hv,_=>by have hv:us= []:=hv;exact hv
 | .pair t r,v::vs,x,us,h,hv,h2=>by
   obtain⟨u,us',rfl,hc,hr⟩:=hv
   simp only[iy]at h
   split at h
   ·rename_i y hy
    split at h
    ·rename_i z hz
     simp at h;subst h
     exact⟨u,us',rfl,Yt hS hσ h1 hy hc (h2 v (by simp)),Fl hS hσ h1 r hz hr (fun v hv=>h2 v (by simp[hv]))⟩
    ·cases h
   ·cases h
 | .unit,_::_,_,_,h,_,_=>by simp[iy]at h
 | .pair _ _,[],_,_,h,_,_=>by simp[iy]at h
 | .int _,_,_,_,h,_,_=>by simp[iy]at h
 | .bool,_,_,_,h,_,_=>by simp[iy]at h
 | .str,_,_,_,h,_,_=>by simp[iy]at h
 | .list _,_,_,_,h,_,_=>by simp[iy]at h
 | .fn _ _,_,_,_,h,_,_=>by simp[iy]at h
 | .ptr _,_,_,_,h,_,_=>by simp[iy]at h
 | .own _ _,_,_,_,h,_,_=>by simp[iy]at h
 | .box _,_,_,_,h,_,_=>by simp[iy]at h
 | .nptr _,_,_,_,h,_,_=>by simp[iy]at h
 | .nil,_,_,_,h,_,_=>by simp[iy]at h
end
end Go.Proofs.YtnambbcafhnhpaaGreatDoor
