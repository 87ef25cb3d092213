import Derived.Test.YtnambbcafhnhpaaGreatDoorNew
import Derived.Maps.AppendAt
namespace Go.Proofs.YtnambbcafhnhpaaGreatDoor
open Go.RowKit
set_option linter.unusedVariables false
set_option linter.unusedSimpArgs false
section
variable {P:Program} {C:Cx} {μ:Nm} {af:AF} {a:Act} {w w0:World} {Γ:cD} {E:bR} {R:Type} {σ:FuncId→Option ai}
theorem YA {ok:Nat→Prop}{t:Ty}{b:Nat}:∀ {xs:List t.T} {o:Nat},(∀i (h:i<xs.length),∃us,MR w b (o+i*t.size) us∧CR P ok w t xs[i] us)→∃news,cC P ok w t xs news∧MR w b o news
 | [],o,_=>⟨[],rfl,fun j u hu=>by simp at hu⟩
 |x::xs,o,h=>by
  obtain⟨us,hm,hr⟩:=h 0 (by simp)
  simp only[Nat.zero_mul,Nat.add_zero,List.getElem_cons_zero]at hm hr
  obtain⟨news,h1,h2⟩:=YA (xs:=xs) (o:=o+t.size) (ok:=ok) (fun i hi=>by
   obtain⟨us,hm,hr⟩:=h (i+1) (by simpa using hi)
   refine⟨us, ?_,by simpa using hr⟩
   rw[Nat.add_mul,Nat.one_mul]at hm
   rw[show o+t.size+i*t.size=o+(i*t.size+t.size) from by omega];exact hm)
  refine⟨us++news,⟨us,news,rfl,hr,h1⟩,fun j u hu=> ?_⟩
  have hl:=CR.length t x us hr
  by_cases hj:j<us.length
  ·rw[List.getElem?_append_left hj]at hu;exact hm j u hu
  ·rw[List.getElem?_append_right (by omega)]at hu
   have:=h2 _ u hu
   rw[show o+t.size+(j-us.length)=o+j from by omega]at this
   exact this
theorem abd(hS:a8 P C μ af a w){t:Ty}(hnt:t.owned=false){y:AV}{v:Value}{ys:List t.T}(h:Ob af.objs t y=some ys)(hv:VA P μ (aO C.A μ af) w y v):
  ∃news,cC P (aO C.A μ af) w t ys news∧((∃ad c,v= .slice (some ad) ys.length c∧∀(j:Nat) u,news[j]? =some u→w.cell? (ad.add j)=some u)∨(∃c,v= .slice none 0 c∧ys= [])):=by
 unfold Ob at h
 split at h
 ·rename_i l
  split at h
  ·rename_i e t' ys' ho
   obtain⟨e1,rfl⟩:=dh h
   simp at e1
   subst e1
   have hv:v=μ l:=hv
   obtain⟨cells,h1,h2⟩:=(rg hnt).1 (hS.objs l _ ho)
   refine⟨cells,h2, ?_⟩
   have h1':=h1
   obtain⟨hl,⟨hm,hn⟩|⟨g,cap,cur,hm,_⟩⟩:=h1
   ·exact .inr ⟨0,hv.trans hm,List.length_eq_zero_iff.1 hn⟩
   ·exact .inl ⟨_,cap,hv.trans hm,h1'.cells (by rw[hm];rfl)⟩
  ·cases h
 ·have hv:v= .slice none 0 0:=hv
  simp at h;subst h
  exact⟨[],rfl,.inr ⟨0,hv,rfl⟩⟩
 ·rename_i t' ys'
  obtain⟨e1,rfl⟩:=dh h
  subst e1
  have hv:aY _ _ v:=hv
  simp only[aY,Ty.isAgg]at hv
  obtain⟨v',e,⟨rfl,a',c,rfl⟩|⟨b,o,c,rfl,hok,hlt,hcap,hcell⟩⟩:=hv
  ·simp at e;subst e
   cases a' with
   |none=>exact⟨[],rfl,.inr ⟨c,rfl,rfl⟩⟩
   |some ad=>exact⟨[],rfl,.inl ⟨ad,c,rfl,fun j u hu=>by simp at hu⟩⟩
  ·simp at e;subst e
   obtain⟨news,h1,h2⟩:=YA (xs:=_) hcell
   exact⟨news,h1,.inl ⟨_,c,rfl,fun j u hu=>by rw[Addr.add_lit];exact h2 j u hu⟩⟩
 ·cases h
theorem cC.app {ok:Nat→Prop}{t:Ty}:∀ {xs ys:List t.T} {cs ds:List Value},cC P ok w t xs cs→cC P ok w t ys ds→cC P ok w t (xs++ys) (cs++ds)
 | [],_,_,_,h,h'=>by have h:_=_:=h;subst h;exact h'
 |_::_,_,_,_,h,h'=>by
  obtain⟨u1,u2,rfl,h1,h2⟩:=h
  rw[List.append_assoc]
  exact⟨u1,_,rfl,h1,cC.app h2 h'⟩
theorem cC.one {ok:Nat→Prop}{t:Ty}:∀ {xs:List t.T} {cs:List Value},cC P ok w t xs cs→∀u ∈ cs,u.oneCell'=true
 | [],_,h=>by have h:_=_:=h;subst h;simp
 |x::_,_,h=>by
  obtain⟨u1,u2,rfl,h1,h2⟩:=h
  intro u hu
  rcases List.mem_append.1 hu with hu|hu
  ·exact CR.one t x u1 h1 u hu
  ·exact cC.one h2 u hu
theorem AP(id ty e:TypeId)(i:TypeInfo)(hu:P.underlying id=some (.slice e))(hi:P.info? e=some i)(b:Option Addr)(n cap c:Nat)(hn:n≤cap):(Builtin.append_ #[id,id] ty #[.slice b n cap,.slice none 0 c]).run P w= .ok (.slice b n cap) w:=by
 cases b<;>simp[Builtin.append_,run_underlying hu,sizeOf,typeInfo,hi,Builtin.lenOf,Builtin.firstCells,hn,storeCells]
theorem BJ(hT:cH P Γ E=true){id e:TypeId}{t:Ty}(ht:Γ.at id=some (.list t))(he:E.at id=some e)(hz:t.zero.isSome=true){v0 v:Value}{n m:Nat}{cells news:List Value}(hown:w.ownsRow 0 e t.size v0 n cells)
  (hl:news.length=m*t.size) (h1:∀u ∈ news,u.oneCell'=true) (hsrc:(∃ad c,v= .slice (some ad) m c∧∀(j:Nat) u,news[j]? =some u→w.cell? (ad.add j)=some u)∨(∃c,v= .slice none 0 c∧m=0)) (hroom:n+m≤1099511627776) (ty:TypeId):
  ∃v' w',(Builtin.append_ #[id,id] ty #[v0,v]).run P w= .ok v' w'∧w'.ownsRow 0 e t.size v' (n+m) (cells++news)∧w.grownBy w' v0.ownBlock∧(v'.ownBlock=v0.ownBlock∨v'.ownBlock=some w.heap.size):=by
 obtain⟨hu,hs,hag,hzb,hpos,i,hi,his,hby⟩:=kI (ma hT ht he)
 obtain⟨z,hz⟩:=Option.isSome_iff_exists.1 hz
 obtain⟨i',zv,hi',hz',hzc,_⟩:=nM hzb hz
 rw[hi]at hi'
 simp at hi';subst hi'
 have hzl:zv.cells.size=t.size:=by
  have:=CR.length (P:=P) t (ok:=vI) (w:=w) z _ (mR t hz)
  rw[←this,←hzc];simp
 rcases hsrc with⟨ad,c,rfl,hn⟩|⟨c,rfl,rfl⟩
 ·have hb:(n+m)*i.bytes≤140737488355328:=by
   have:(n+m)*i.bytes≤1099511627776*128:=Nat.mul_le_mul hroom hby
   omega
  obtain⟨v',w',h2,h3,h4,_,h5⟩:=run_append_own_at (P:=P) w 0 id ty e i zv t.size i.bytes hu hi hz' his rfl hzl hpos v0 n cells hown ad m c news hl hn h1 (by simp only[maxLen];omega) hb (Nat.zero_le _)
  exact⟨v',w',h2,h3,h4,h5⟩
 ·have:news= []:=List.eq_nil_of_length_eq_zero (by simpa using hl)
  subst this
  have hown':=hown
  obtain⟨_,⟨rfl,rfl⟩|⟨g,cap,cur,rfl,_,_,hcap,_⟩⟩:=hown
  ·exact⟨_,w,AP id ty e i hu hi none 0 0 c (Nat.le_refl _),by simpa using hown',⟨rfl,rfl,rfl,Nat.le_refl _,fun _ _ _=>rfl⟩,.inl rfl⟩
  ·exact⟨_,w,AP id ty e i hu hi _ n cap c hcap,by simpa using hown',⟨rfl,rfl,rfl,Nat.le_refl _,fun _ _ _=>rfl⟩,.inl rfl⟩
theorem ZD(hT:cH P Γ E=true)(hK:aG C.Ch w0 w)(hS:a8 P C μ af a w){d:Option Tmp}(hV:∀d',d=some d'→C.V d'=none){id:TypeId}{x y:AV}{u v:Value}{K:AF→Option R}{r:R}(hx:VA P μ (aO C.A μ af) w x u)(hy:VA P μ (aO C.A μ af) w y v)
  (h:QP Γ E af d id x y K=some r) (ty:TypeId):∃z w',(Builtin.append_ #[id,id] ty #[u,v]).run P w= .ok z w'∧PK P C w0 K r (a.put d z) w':=by
 unfold QP at h
 split at h
 ·rename_i t e ht he
  split at h
  ·cases h
  ·rename_i ys hys
   split at h
   ·cases h
   ·rename_i hz
    simp only[not_or,Bool.not_eq_true,Bool.not_eq_false]at hz
    obtain⟨hz,hnt⟩:=hz
    obtain⟨news,hrows,hsrc⟩:=abd hS hnt hys hy
    split at h
    ·rename_i l
     split at h
     ·rename_i e' t' xs' ho
      split at h
      ·rename_i hh
       split at h
       ·rename_i xs hxs
        obtain⟨he',hrefs,hlock⟩:=hh
        subst he'
        obtain⟨e1,rfl⟩:=dh hxs
        simp at e1
        subst e1
        unfold bd at h
        split at h
        ·rename_i hroom
         have hx:u=μ l:=hx
         subst hx
         obtain⟨cells,h1,h2⟩:=(rg hnt).1 (hS.objs l _ ho)
         have hsrc':(∃ad c,v= .slice (some ad) ys.length c∧∀(j:Nat) u,news[j]? =some u→w.cell? (ad.add j)=some u)∨(∃c,v= .slice none 0 c∧ys.length=0):=hsrc.imp (fun h=>h) fun⟨c,e,e2⟩=>⟨c,e,by rw[e2];rfl⟩
         obtain⟨v',w',hrun,hown,hg,hlie⟩:=BJ hT ht he hz h1 hrows.length hrows.one hsrc' hroom ty
         have hbo:(μ l).ownBlock=ck (μ l):=Db _ (by
          obtain⟨_,⟨hm,_⟩|⟨g,cap,cur,hm,_⟩⟩:=h1<;>(rw[hm];intro a;simp))
         have hbo':v'.ownBlock=ck v':=Db _ (by
          obtain⟨_,⟨hm,_⟩|⟨g,cap,cur,hm,_⟩⟩:=hown<;>(rw[hm];intro a;simp))
         refine⟨v',w',hrun, ?_⟩
         obtain⟨d',rfl,hn',hnr,hr,hk⟩:=lS h
         have hkp:aG C.Ch w w':=aG.grown hg (fun k hk=>(hS.chg.resolve_left (by simp[hlock])) k (hS.wr l _ k ho (.inl (by rw[←hbo];exact hk))).1)
         have hagr:br (aO C.A μ af) w w':=⟨hg.size,fun b hb hlt=>hg.block b hlt (fun e=>hb.2 l _ ho (.inl (by rw[←hbo];exact e.symm)))⟩
         refine⟨_,hk,hK.trans hkp,_,hS.newArr (eu.drop af l) hn' (hV _ rfl) hnr hnt hg (fun b hb=>⟨l,_,ho,by rw[kX];simp,.inl (by rw[←hbo];exact hb)⟩) (by rw[List.length_append];exact hown) (fun b hb=> ?_) ?_⟩
         ·rw[←hbo']at hb
          rcases hlie with h|h
          ·exact .inr (h.symm.trans hb)
          ·rw[h]at hb;cases hb;exact .inl (Nat.le_refl _)
         ·intro ok' hok
          exact cC.app (h2.mono hagr hok) (hrows.mono hagr hok)
        ·cases h
       ·cases h
      ·cases h
     ·cases h
    ·unfold bd at h
     split at h
     ·rename_i hroom
      have hx:u= .slice none 0 0:=hx
      subst hx
      have hsrc':(∃ad c,v= .slice (some ad) ys.length c∧∀(j:Nat) u,news[j]? =some u→w.cell? (ad.add j)=some u)∨(∃c,v= .slice none 0 c∧ys.length=0):=hsrc.imp (fun h=>h) fun⟨c,e,e2⟩=>⟨c,e,by rw[e2];rfl⟩
      obtain⟨v',w',hrun,hown,hg,hlie⟩:=BJ hT ht he hz (World.ownsRow_nil w 0 e t.size) hrows.length hrows.one hsrc' (by omega) ty
      have hbo':v'.ownBlock=ck v':=Db _ (by
       obtain⟨_,⟨hm,_⟩|⟨g,cap,cur,hm,_⟩⟩:=hown<;>(rw[hm];intro a;simp))
      refine⟨v',w',hrun, ?_⟩
      obtain⟨d',rfl,hn',hnr,hr,hk⟩:=lS h
      have hkp:aG C.Ch w w':=aG.grown hg (fun k hk=>by simp[Value.ownBlock]at hk)
      have hagr:br (aO C.A μ af) w w':=⟨hg.size,fun b hb hlt=>hg.block b hlt (fun e=>by simp[Value.ownBlock]at e)⟩
      refine⟨_,hk,hK.trans hkp,_,hS.newArr (eu.refl af) hn' (hV _ rfl) hnr hnt hg (fun b hb=>by simp[Value.ownBlock]at hb) (cells:=news) (by simpa using hown) (fun b hb=> ?_) ?_⟩
      ·rw[←hbo']at hb
       rcases hlie with h|h
       ·rw[h]at hb;simp[Value.ownBlock]at hb
       ·rw[h]at hb;cases hb;exact .inl (Nat.le_refl _)
      ·intro ok' hok
       exact hrows.mono hagr hok
     ·cases h
    ·cases h
 ·cases h
end
end Go.Proofs.YtnambbcafhnhpaaGreatDoor
