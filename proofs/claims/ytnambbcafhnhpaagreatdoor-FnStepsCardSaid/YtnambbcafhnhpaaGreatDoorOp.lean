import Derived.Test.YtnambbcafhnhpaaGreatDoorRd
import Derived.Lib.Strings
import Derived.Lib.AppendZeros
import Derived.Laws.BytesArg
namespace Go.Proofs.YtnambbcafhnhpaaGreatDoor
open Go.RowKit
set_option linter.unusedVariables false
set_option linter.unusedSimpArgs false
section
variable {P:Program} {C:Cx} {μ:Nm} {af:AF} {a:Act} {w w0:World} {Γ:cD} {E:bR} {R:Type} {σ:FuncId→Option ai}
theorem oH(hS:a8 P C μ af a w){v:AV}{u:Value}{cs:List AV}(hv:VA P μ (aO C.A μ af) w v u)(hc:af.cellsOf v=some cs):bE P μ (aO C.A μ af) w cs u.cells.toList∧∀x ∈ u.cells.toList,x.oneCell'=true:=by
 have gen:v.cells=some cs→(∀l,v= .own l→∃a n c,μ l= .slice a n c)→_:=fun h1 h2=>aa7 hv h1 h2
 cases v with
 |own l=>
  simp only[AF.cellsOf]at hc
  split at hc
  ·rename_i e t xs ho
   obtain⟨cells,⟨_,⟨hm,_⟩|⟨g,cap,cur,hm,_⟩⟩,_⟩:=hS.objs l _ ho
   ·exact gen hc (fun l' e=>by cases e;exact⟨_,_,_,hm⟩)
   ·exact gen hc (fun l' e=>by cases e;exact⟨_,_,_,hm⟩)
  ·cases hc
 |_=>exact gen hc (fun l' e=>by cases e)
theorem yh {v:AV}{cs:List AV}(hc:af.cellsOf v=some cs)(ho:v.owns=false):∀c ∈ cs,c.owns=false:=by
 cases v with
 |agg cs'=>
  simp[AF.cellsOf,AV.cells]at hc;subst hc
  intro c hm
  simp only[AV.owns,List.any_eq_false]at ho
  have:=ho c hm
  cases c<;>simp_all [AV.owns]
 |dat t x=>
  simp[AF.cellsOf,AV.cells]at hc;subst hc
  exact expl_owns t x
 |nils=>simp[AF.cellsOf,AV.cells]at hc;subst hc;simp[AV.owns]
 |nilp=>simp[AF.cellsOf,AV.cells]at hc;subst hc;simp[AV.owns]
 |rptr t x off=>simp[AF.cellsOf,AV.cells]at hc;subst hc;simp[AV.owns]
 |junk=>simp[AF.cellsOf,AV.cells]at hc
 |tup vs=>simp[AF.cellsOf,AV.cells]at hc
 |_=>simp[AV.owns]at ho
where expl_owns:∀(t:Ty) (x:t.T),∀c ∈ ie t x,c.owns=false
 | .unit,_,c,h=>by simp[ie]at h
 | .pair p q,x,c,h=>by
   rcases List.mem_append.1 h with h|h
   ·exact expl_owns p x.1 c h
   ·exact expl_owns q x.2 c h
 | .int k,_,c,h=>by simp[ie]at h;subst h;rfl
 | .bool,_,c,h=>by simp[ie]at h;subst h;rfl
 | .str,_,c,h=>by simp[ie]at h;subst h;rfl
 | .list t,_,c,h=>by simp[ie]at h;subst h;rfl
 | .ptr t,_,c,h=>by simp[ie]at h;subst h;rfl
 | .fn _ _,_,c,h=>by simp[ie]at h;subst h;rfl
 | .own _ _,_,c,h=>by simp[ie]at h;subst h;rfl
 | .box _,_,c,h=>by simp[ie]at h;subst h;rfl
 | .nptr _,_,c,h=>by simp[ie]at h;subst h;rfl
 | .nil,_,c,h=>by simp[ie]at h;subst h;rfl
theorem cC.split {ok:Nat→Prop}{t:Ty}:∀ {xs:List t.T} {cs:List Value} {i:Nat} {x:t.T},cC P ok w t xs cs→xs[i]? =some x→
  ∃c1 us c2,cs=c1++us++c2∧c1.length=i*t.size∧CR P ok w t x us∧∀y us',CR P ok w t y us'→cC P ok w t (xs.set i y) (c1++us'++c2)
 | [],_,_,_,_,h=>by simp at h
 |x::xs,_,0,x',h,hx=>by
  simp at hx;subst hx
  obtain⟨u1,u2,rfl,h1,h2⟩:=h
  exact⟨[],u1,u2,rfl,by simp,h1,fun y us' hy=>⟨us',u2,rfl,hy,h2⟩⟩
 |x::xs,_,i+1,x',h,hx=>by
  obtain⟨u1,u2,rfl,h1,h2⟩:=h
  obtain⟨c1,us,c2,rfl,hl,hc,hy⟩:=cC.split h2 (by simpa using hx)
  refine⟨u1++c1,us,c2,by simp,by simp[hl,CR.length t x u1 h1,Nat.add_mul,Nat.add_comm],hc,fun y us' h=> ?_⟩
  exact⟨u1,c1++us'++c2,by simp,h1,hy y us' h⟩
theorem Fr(c1 us c2 rest xc:List Value)(off n:Nat)(hn:xc.length=n)(hf:off+n≤us.length):
  ((c1++us++c2++rest).take (c1.length+off)++xc++(c1++us++c2++rest).drop (c1.length+off+n)).take (c1++us++c2).length=c1++(us.take off++xc++us.drop (off+n))++c2:=by
 have e0:c1++us++c2++rest=c1++(us++(c2++rest)):=by simp
 have e1:(c1++(us++(c2++rest))).take (c1.length+off)=c1++us.take off:=by
  rw[List.take_length_add_append,List.take_append_of_le_length (by omega)]
 have e2:(c1++(us++(c2++rest))).drop (c1.length+off+n)=us.drop (off+n)++(c2++rest):=by
  rw[Nat.add_assoc,List.drop_length_add_append,List.drop_append_of_le_length (by omega)]
 rw[e0,e1,e2]
 have e3:c1++us.take off++xc++(us.drop (off+n)++(c2++rest))=(c1++(us.take off++xc++us.drop (off+n))++c2)++rest:=by simp
 rw[e3]
 refine List.take_left' ?_
 simp;omega
theorem SL(hT:cH P Γ E=true)(hK:aG C.Ch w0 w)(hS:a8 P C μ af a w){id:TypeId}{p v:AV}{u x:Value}{K:AF→Option R}{r:R}(hp:VA P μ (aO C.A μ af) w p u)(hv:VA P μ (aO C.A μ af) w v x)
  (h:Oa Γ af id p v K=some r):∃w',(Instr.storeAt id u x).run P w= .ok () w'∧PK P C w0 K r a w':=by
 unfold Oa at h
 split at h
 ·rename_i t vs ht hvs
  have hc:=cN hT ht
  obtain⟨hva,hone⟩:=oH hS hv hvs
  have hlen:=bE.length hva
  simp only[Array.length_toList]at hlen
  split at h
  ·rename_i hsz
   obtain⟨hsz,hlock⟩:=hsz
   have wr:∀ {l:Nat} {o:AO} {b:Nat},af.obj l=some o→μ.has l b→C.Ch b:=fun ho hb=>(hS.chg.resolve_left (by simp[hlock])) _ (hS.wr _ _ _ ho hb).1
   split at h
   ·rename_i l off
    split at h
    ·rename_i cs ho
     split at h
     ·rename_i hfit
      obtain⟨b,e,rfl⟩:=hp
      obtain⟨b',us,E',e',hg,hvs',h1⟩:=hS.objs l _ ho
      have hbb:b=b':=by rw[e]at e';simpa using e'
      subst hbb
      have hl2:=bE.length hvs'
      have hrun:=rF (tk hc) hg (v:=x) (o:=off) (by omega) hone (by simp;omega)
      refine⟨_,by simp[Instr.storeAt,Instr.sureAddr,hrun];rfl,_,h,hK.trans (aG.setRow C.Ch w b _ (wr ho (.inl (by rw[e];rfl)))),μ, ?_⟩
      refine hS.stored ho (b:=b) (by rw[e];rfl) (by simp) (fun k hk=> ?_) (fun ha=> ?_)
      ·have hne:¬b=k:=fun e=>hk e.symm
       simp[World.setRow,Array.getElem?_modify,hne]
      ·refine⟨b,us.take off++x.cells.toList++us.drop (off+t.size),E',e, ?_, ?_, ?_⟩
       ·have:=setRow_heap w b us.toArray (us.take off++x.cells.toList++us.drop (off+t.size)).toArray E' (0,0) hg
        simpa using this
       ·unfold AD
        rw[hsz]
        exact bE.trans (bE.app (bE.app (hvs'.take off) hva) (hvs'.drop _)) (fun _ _=>rfl) ha (fun _ _ h=>h)
       ·intro u hu
        rcases List.mem_append.1 hu with hu|hu
        ·rcases List.mem_append.1 hu with hu|hu
         ·exact h1 u (List.mem_of_mem_take hu)
         ·exact hone u hu
        ·exact h1 u (List.mem_of_mem_drop hu)
     ·cases h
    ·cases h
   ·rename_i l i k off
    split at h
    ·rename_i e t' xs ho
     split at h
     ·rename_i x0 hx0
      split at h
      ·rename_i y hy
       split at h
       ·rename_i hh
        obtain⟨rfl,hfit,hno,hnt⟩:=hh
        obtain⟨b,n,c,hb,rfl⟩:=hp
        obtain⟨cells,⟨hcl,⟨hm,_⟩|⟨g,cap,cur,hm,hb0,hg,hncap,hcm,hcs,htake⟩⟩,hrows⟩:=(rg hnt).1 (hS.objs l _ ho)
        ·rw[hb]at hm;cases hm
        ·rw[hb]at hm
         simp at hm
         obtain⟨rfl,hn,rfl⟩:=hm
         obtain⟨c1,us,c2,hce,hc1,hcr,hset⟩:=hrows.split hx0
         have hul:=CR.length t' x0 us hcr
         have hcur:cells.length≤cur.size:=by rw[←htake];simp;omega
         have hce':cells.length=c1.length+us.length+c2.length:=by rw[hce];simp[Nat.add_assoc]
         have hrun:=rF (tk hc) hg (v:=x) (o:=i*t'.size+off) (by omega) hone (by omega)
         have hex:=pe (μ:=μ) t' x0 us hcr
         have hpa:bE P μ (aO C.A μ af) w (AD (ie t' x0) vs off) (us.take off++x.cells.toList++us.drop (off+t.size)):=by
          unfold AD
          rw[hsz]
          exact bE.app (bE.app (hex.take off) hva) (hex.drop _)
         obtain⟨u1,u2,ds,hu12,_,hcry,hr2⟩:=rh hS (fun _ h=>h) t' hy hpa (fun c hc hoc=>by
          exfalso
          unfold AD at hc
          rcases List.mem_append.1 hc with hc|hc
          ·rcases List.mem_append.1 hc with hc|hc
           ·rw[yh.expl_owns t' x0 c (List.mem_of_mem_take hc)]at hoc;cases hoc
           ·rw[yh hvs hno c hc]at hoc;cases hoc
          ·rw[yh.expl_owns t' x0 c (List.mem_of_mem_drop hc)]at hoc;cases hoc)
         have hr2:u2= []:=hr2
         subst hr2
         rw[List.append_nil]at hu12
         rw[←hu12]at hcry
         have hrows':=hset y _ hcry
         refine⟨_,by simp[Instr.storeAt,Instr.sureAddr,hrun];rfl,_,h,hK.trans (aG.setRow C.Ch w b _ (wr ho (.inl (by rw[hb];rfl)))),μ, ?_⟩
         refine hS.stored ho (b:=b) (by rw[hb];rfl) (by simp) (fun k hk=> ?_) (fun ha=> ?_)
         ·have hne:¬b=k:=fun e=>hk e.symm
          simp[World.setRow,Array.getElem?_modify,hne]
         ·refine(rg hnt).2 ⟨_, ?_,hrows'.mono ha (fun _ _ h=>h)⟩
          have hlr:=hrows'.length
          refine⟨hlr,.inr ⟨b,c,_,by rw[hb,List.length_set,hn],Nat.zero_le _,setRow_heap w b cur _ e (0,0) hg,by rw[List.length_set];omega,hcm, ?_, ?_⟩⟩
          ·simp;omega
          ·have hlc:cur.toList=cells++cur.toList.drop (xs.length*t'.size):=by
            rw[←htake];exact(List.take_append_drop _ _).symm
           rw[List.length_set,←hcl,hlc,hce,←hc1]
           have:=Fr c1 us c2 (cur.toList.drop (xs.length*t'.size)) x.cells.toList off t.size (by simp;omega) (by omega)
           simpa using this
       ·cases h
      ·cases h
     ·cases h
    ·cases h
   ·cases h
  ·cases h
 ·cases h
theorem dV.split {ok:Nat→Prop}{t:Ty}:∀ {xs:List t.T} {cs:List Value} {bs:List Nat} {i:Nat} {x:t.T},dV (bm P ok w t) xs cs bs→xs[i]? =some x→
  ∃c1 us c2 b1 bx b2,cs=c1++us++c2∧bs=b1++bx++b2∧c1.length=i*t.size∧bm P ok w t x us bx∧∀ {ok':Nat→Prop} {w':World} (y:t.T) (us':List Value) (by':List Nat),(∀z uz bz,(∀b ∈ bz,b ∈ b1++b2)→bm P ok w t z uz bz→bm P ok' w' t z uz bz)→bm P ok' w' t y us' by'→dV (bm P ok' w' t) (xs.set i y) (c1++us'++c2) (b1++by'++b2)
 | [],_,_,_,_,_,h=>by simp at h
 |x::xs,_,_,0,x',h,hx=>by
  simp at hx;subst hx
  obtain⟨u1,u2,b1,b2,rfl,rfl,h1,h2⟩:=h
  exact⟨[],u1,u2,[],b1,b2,rfl,rfl,by simp,h1,fun y us' by' hm hy=>⟨us',u2,by',b2,rfl,rfl,hy,h2.mono fun z uz bz hb h=>hm z uz bz (fun b hbz=>by simpa using hb b hbz) h⟩⟩
 |x::xs,_,_,i+1,x',h,hx=>by
  obtain⟨u1,u2,b1,b2,rfl,rfl,h1,h2⟩:=h
  obtain⟨c1,us,c2,d1,dx,d2,rfl,rfl,hl,hc,hy⟩:=dV.split h2 (by simpa using hx)
  refine⟨u1++c1,us,c2,b1++d1,dx,d2,by simp,by simp,by simp[hl,(bm.len t h1).1,Nat.add_mul,Nat.add_comm],hc,fun y us' by' hm h=> ?_⟩
  refine⟨u1,c1++us'++c2,b1,d1++by'++d2,by simp,by simp,hm _ _ _ (fun b hb=>by simp[hb]) h1, ?_⟩
  exact hy y us' by' (fun z uz bz hb h=>hm z uz bz (fun b hbz=>by
   rcases List.mem_append.1 (hb b hbz)with h|h
   ·simp[h]
   ·simp[h]) h) h
theorem ME(hS:a8 P C μ af a w){t:Ty}(hs:t.size=1)(hp:∀ {x us bs},bm P (aO C.A μ af) w t x us bs↔CR P (aO C.A μ af) w t x us∧bs= []){x y:t.T}{us:List Value}{bs:List Nat}{off:Nat}{c:AV}{u:Value}
  (h:bm P (aO C.A μ af) w t x us bs) (hl:UH af.objs t off c=some y) (hv:VA P μ (aO C.A μ af) w c u) (hno:c.owns=false):bm P (aO C.A μ af) w t y (us.take off++ [u]++us.drop (off+1)) bs:=by
 unfold UH at hl
 split at hl
 ·rename_i h0
  subst h0
  split at hl
  ·rename_i z hz
   simp at hl
   subst hl
   obtain⟨u1,u2,ds,hu,_,hc,hr⟩:=rh hS (fun _ h=>h) t hz (us:=[u]) ⟨u,[],rfl,hv,rfl⟩ (fun c' hc' hoc=>by simp at hc';subst hc';rw[hno]at hoc;cases hoc)
   have hr:u2= []:=hr
   subst hr
   rw[List.append_nil]at hu
   subst hu
   obtain⟨h1,rfl⟩:=hp.1 h
   have hlen:=CR.length t x us h1
   rw[hs]at hlen
   obtain⟨v,rfl⟩:=List.length_eq_one_iff.1 hlen
   exact hp.2 ⟨by simpa using hc,rfl⟩
  ·cases hl
 ·cases hl
theorem QY(hS:a8 P C μ af a w):∀(t:Ty) {x y:t.T} {us:List Value} {bs:List Nat} {off:Nat} {c:AV} {u:Value},bm P (aO C.A μ af) w t x us bs→qH af.objs t x off c=some y→VA P μ (aO C.A μ af) w c u→c.owns=false→
  bm P (aO C.A μ af) w t y (us.take off++ [u]++us.drop (off+1)) bs
 | .pair p q,x,y,us,bs,off,c,u,h,hp,hv,hno=>by
   obtain⟨u1,u2,b1,b2,rfl,rfl,h1,h2⟩:=h
   have l1:=(bm.len p h1).1
   simp only[qH]at hp
   by_cases hlt:off<p.size
   ·rw[if_pos hlt]at hp
    split at hp
    ·rename_i z hz
     simp at hp
     subst hp
     have:=QY hS p h1 hz hv hno
     refine⟨_,u2,b1,b2, ?_,rfl,this,h2⟩
     rw[List.take_append_of_le_length (by omega),List.drop_append_of_le_length (by omega)]
     simp
    ·cases hp
   ·rw[if_neg hlt]at hp
    split at hp
    ·rename_i z hz
     simp at hp
     subst hp
     have:=QY hS q h2 hz hv hno
     refine⟨u1,_,b1,b2, ?_,rfl,h1,this⟩
     obtain⟨m,hm⟩:∃m,off=u1.length+m:=⟨off-u1.length,by omega⟩
     have hm2:off-p.size=m:=by omega
     rw[hm2,hm,List.take_length_add_append,Nat.add_assoc,List.drop_length_add_append]
     simp
    ·cases hp
 | .int k,x,y,us,bs,off,c,u,h,hp,hv,hno=>ME hS rfl Iff.rfl h (by simpa only[qH]using hp) hv hno
 | .bool,x,y,us,bs,off,c,u,h,hp,hv,hno=>ME hS rfl Iff.rfl h (by simpa only[qH]using hp) hv hno
 | .str,x,y,us,bs,off,c,u,h,hp,hv,hno=>ME hS rfl Iff.rfl h (by simpa only[qH]using hp) hv hno
 | .own _ _,_,_,_,_,_,_,_,_,hp,_,_=>by simp[qH]at hp
 | .box _,_,_,_,_,_,_,_,_,hp,_,_=>by simp[qH]at hp
 | .unit,_,_,_,_,_,_,_,_,hp,_,_=>by simp[qH]at hp
 | .list _,_,_,_,_,_,_,_,_,hp,_,_=>by simp[qH]at hp
 | .ptr _,_,_,_,_,_,_,_,_,hp,_,_=>by simp[qH]at hp
 | .fn _ _,_,_,_,_,_,_,_,_,hp,_,_=>by simp[qH]at hp
 | .nptr _,_,_,_,_,_,_,_,_,hp,_,_=>by simp[qH]at hp
 | .nil,_,_,_,_,_,_,_,_,hp,_,_=>by simp[qH]at hp
theorem ri {n:Nat}{lo hi:Option AV}{p:Nat×Nat}(h:aZ n lo hi=some p):
  ∃x y:Int,lQ 0 lo=some x∧lQ n hi=some y∧0≤x∧x≤y∧y≤n∧p=(x.toNat,y.toNat):=by
 unfold aZ at h
 split at h
 ·rename_i x y hx hy
  split at h
  ·rename_i hh
   simp at h;subst h
   exact⟨x,y,hx,hy,hh.1,hh.2.1,hh.2.2,rfl⟩
  ·cases h
 ·cases h
theorem ZF {ok:Nat→Prop}{v:AV}{n:Int}{u:Value}(h:kT v=some n)(hv:VA P μ ok w v u):∃k,u= .int k n:=by
 unfold kT at h
 split at h
 ·rename_i k m
  have h:m=n:=by simpa using h
  rw[cE]at hv
  exact⟨k,by rw[hv,h]⟩
 ·cases h
theorem qd {ok:Nat→Prop}{n cap:Nat}{sl:Bool}{lo hi:Option AV}{p:Nat×Nat}{ulo uhi:Option Value}(h:aZ n lo hi=some p)(hcap:n≤cap)(hlo:∀v,lo=some v→∃u,ulo=some u∧VA P μ ok w v u)(hlo':lo=none→ulo=none)
  (hhi:∀v,hi=some v→∃u,uhi=some u∧VA P μ ok w v u) (hhi':hi=none→uhi=none):
  (Instr.sliceBounds sl n cap ulo uhi none).run P w= .ok (p.1,p.2,cap) w∧p.1≤p.2∧p.2≤n:=by
 obtain⟨x,y,hx,hy,h0,h1,h2,rfl⟩:=ri h
 refine⟨?_,by simp;omega,by simp;omega⟩
 have bound:∀ {v:AV} {u:Value} {n:Int} (m:Nat) (c:BoundsCode),kT v=some n→VA P μ ok w v u→0≤n→n≤m→(Instr.sliceBound u m c).run P w= .ok n.toNat w:=by
  intro v u n m c h1 h2 h3 h4
  obtain⟨k,rfl⟩:=ZF h1 h2
  simp[Instr.sliceBound,asIntOf,h3,h4]
 have hyc:y≤(cap:Int):=by omega
 have hy0:0≤y:=by omega
 have hxy:x≤(y.toNat:Int):=by omega
 cases hi with
 |none=>
  obtain rfl:=hhi' rfl
  simp[lQ]at hy
  subst hy
  cases lo with
  |none=>
   obtain rfl:=hlo' rfl
   simp[lQ]at hx
   subst hx
   simp[Instr.sliceBounds]
  |some v=>
   obtain⟨u,rfl,hv⟩:=hlo v rfl
   have:=bound n .sliceB hx hv h0 h1
   simp[Instr.sliceBounds,this]
 |some v2=>
  obtain⟨u2,rfl,hv2⟩:=hhi v2 rfl
  have hb:=bound cap (if sl then .sliceAcap else .sliceAlen) hy hv2 hy0 hyc
  cases lo with
  |none=>
   obtain rfl:=hlo' rfl
   simp[lQ]at hx
   subst hx
   simp[Instr.sliceBounds,hb]
  |some v=>
   obtain⟨u,rfl,hv⟩:=hlo v rfl
   have:=bound y.toNat .sliceB hx hv h0 hxy
   simp[Instr.sliceBounds,hb,this]
theorem Ot {ok:Nat→Prop}{t:Ty}{l:List t.T}{v:Value}{x y:Nat}(hv:CR P ok w (.list t) l [v])(hxy:x≤y)(hy:y≤l.length):
  ∃b n cap,v= .slice b n cap∧n=l.length∧n≤cap∧CR P ok w (.list t) ((l.take y).drop x) [.slice (if cap=x then b else b.map (·.add (x*t.size))) (y-x) (cap-x)]:=by
 obtain⟨v',e,⟨rfl,b,cap,rfl⟩|⟨b,o,cap,rfl,hok,hlt,hcap,hcell⟩⟩:=hv
 ·simp at e;subst e
  simp at hy;subst hy
  have:x=0:=by omega
  subst this
  exact⟨b,0,cap,rfl,rfl,Nat.zero_le _,_,rfl,.inl ⟨by simp,_,_,rfl⟩⟩
 ·simp at e;subst e
  refine⟨_,_,cap,rfl,rfl,hcap, ?_⟩
  by_cases hxe:x=y
  ·subst hxe
   exact⟨_,rfl,.inl ⟨by simp,_,_,by rw[Nat.sub_self]⟩⟩
  ·have hne:¬cap=x:=by omega
   rw[if_neg hne]
   have hlen:((l.take y).drop x).length=y-x:=by simp;omega
   refine⟨_,rfl,.inr ⟨b,o+x*t.size,cap-x,by simp[hlen,Addr.add_lit],hok,hlt,by omega,fun i hi=> ?_⟩⟩
   have hi':x+i<l.length:=by omega
   obtain⟨us,hm,hr⟩:=hcell (x+i) hi'
   refine⟨us,by rw[show o+x*t.size+i*t.size=o+(x+i)*t.size from by rw[Nat.add_mul];omega];exact hm, ?_⟩
   have:((l.take y).drop x)[i]=l[x+i]:=by simp
   rw[this];exact hr
theorem YE {ok:Nat→Prop}{v:AV}{u:Value}(h:VA P μ ok w v u):VA P μ ok w v.norm u:=by
 unfold AV.norm
 split
 ·have h:aY _ _ u:=h
  simp only[aY,Ty.isAgg]at h
  have h: [u]= [Value.slice none 0 0]:=h
  simp at h
  exact h
 ·exact h
theorem SM {any:Bool}{x:Operand}{l:Nat}(h:af.mine any x=some l):∃m,x= .tmp m∧af.get m= .own l:=by
 unfold AF.mine at h
 split at h
 ·rename_i m
  split at h
  ·rename_i l' hl
   split at h
   ·cases h
    exact⟨_,rfl,hl⟩
   ·cases h
  ·cases h
 ·cases h
theorem SN {any:Bool}{x hi:Operand}{lo' hi':Option Operand}{l:Nat}(h:af.cuts any x lo' hi'=some (hi,l)):lo'=none∧hi'=some hi∧af.mine any x=some l:=by
 unfold AF.cuts at h
 split at h
 ·split at h
  ·rename_i hl
   simp at h
   obtain⟨rfl,rfl⟩:=h
   exact⟨rfl,rfl,hl⟩
  ·cases h
 ·cases h
theorem cC.take {ok:Nat→Prop}{t:Ty}:∀ {xs:List t.T} {cs:List Value} (k:Nat),cC P ok w t xs cs→cC P ok w t (xs.take k) (cs.take (k*t.size))
 |_,_,0,h=>by simp only[List.take_zero,Nat.zero_mul];rfl
 | [],_,k+1,h=>by have h:_=_:=h;subst h;simp only[List.take_nil];rfl
 |x::xs,_,k+1,h=>by
  obtain⟨u1,u2,rfl,h1,h2⟩:=h
  have hl:=CR.length t x u1 h1
  have e:(k+1)*t.size=u1.length+k*t.size:=by rw[Nat.add_mul,Nat.one_mul,hl];omega
  rw[List.take_succ_cons,e,List.take_length_add_append]
  exact⟨u1,_,rfl,h1,cC.take k h2⟩
theorem aeG(hT:cH P Γ E=true)(hK:aG C.Ch w0 w)(hS:a8 P C μ af a w){d:Option Tmp}(hV:∀d',d=some d'→C.V d'=none){id:TypeId}{l:Nat}{hi:AV}{u uhi:Value}{K:AF→Option R}{r:R}(hx:VA P μ (aO C.A μ af) w (.own l) u)
  (hhi:VA P μ (aO C.A μ af) w hi uhi) (h:acN Γ E af d id l hi K=some r):∃z,(Instr.sliceAt id u none (some uhi) none).run P w= .ok z w∧PK P C w0 K r (a.put d z) w:=by
 unfold acN at h
 split at h
 ·rename_i t e e' t' xs' ht he ho
  obtain⟨hu,hs,hag,hzb,hpos,_⟩:=kI (ma hT ht he)
  split at h
  ·rename_i hh
   obtain⟨rfl,hnt⟩:=hh
   split at h
   ·rename_i xs hxs
    obtain⟨e1,rfl⟩:=dh hxs
    simp at e1
    subst e1
    obtain⟨p,hp,h⟩:=bA h
    have hx:u=μ l:=hx
    subst hx
    obtain⟨cells,h1,h2⟩:=(rg hnt).1 (hS.objs l _ ho)
    obtain⟨d',rfl,hn',hnr,hr,hk⟩:=lS h
    have hlo:∀v,(none:Option AV)=some v→∃u,(none:Option Value)=some u∧VA P μ (aO C.A μ af) w v u:=fun v hv=>by cases hv
    have hhi1:∀v,some hi=some v→∃u,some uhi=some u∧VA P μ (aO C.A μ af) w v u:=fun v hv=>by cases hv;exact⟨_,rfl,hhi⟩
    have hp0:p.1=0:=by
     obtain⟨x,y,hx,_,_,_,_,rfl⟩:=ri hp
     simp[lQ]at hx
     subst hx
     rfl
    have h1':=h1
    obtain⟨hcl,⟨hm,hn0⟩|⟨g,cap,cur,hm,hb0,hg,hncap,hcm,hcs,htk⟩⟩:=h1'
    ·obtain⟨hrun,hp1,hp2⟩:=qd (sl:=true) (cap:=0) hp (Nat.le_of_eq hn0) hlo (fun _=>rfl) hhi1 (fun h=>by cases h)
     have hp2:p.2≤xs'.length:=hp2
     have hp3:p.2=0:=by omega
     rw[hp0,hp3,hn0]at hrun
     refine⟨.slice none 0 0, ?_,_,hk,hK,_,hS.newArr (eu.drop af l) hn' (hV _ rfl) hnr hnt (row:=none) ⟨rfl,rfl,rfl,Nat.le_refl _,fun _ _ _=>rfl⟩ (fun b hb=>by cases hb) (cells:=[]) ?_ (fun b hb=>by simp[ck]at hb) ?_⟩
     ·rw[hm]
      simp only[Instr.sliceAt,Sem.run_bind,run_underlying hu,Result.andThen_ok,Instr.slice,hrun,gQ hs,Sem.run_pure]
      rfl
     ·rw[hp3,List.take_zero]
      exact World.ownsRow_nil w 0 _ _
     ·intro ok' _
      rw[hp3,List.take_zero]
      rfl
    ·obtain⟨hrun,hp1,hp2⟩:=qd (sl:=true) (cap:=cap) hp hncap hlo (fun _=>rfl) hhi1 (fun h=>by cases h)
     have hp2:p.2≤xs'.length:=hp2
     rw[hp0]at hrun
     refine⟨.slice (some ⟨g,0,none⟩) p.2 cap, ?_,_,hk,hK,_,hS.newArr (eu.drop af l) hn' (hV _ rfl) hnr hnt (row:=some g) ⟨rfl,rfl,rfl,Nat.le_refl _,fun _ _ _=>rfl⟩ (fun b hb=> ?_) (cells:=cells.take (p.2*t'.size)) ?_ (fun b hb=> ?_) ?_⟩
     ·rw[hm]
      simp only[Instr.sliceAt,Sem.run_bind,run_underlying hu,Result.andThen_ok,Instr.slice,hrun,gQ hs,Sem.run_pure]
      simp[Addr.add_lit]
     ·cases hb
      exact⟨l,_,ho,by rw[kX];simp,.inl (by rw[hm];rfl)⟩
     ·have hlen:(xs'.take p.2).length=p.2:=by simp;omega
      have hle:p.2*t'.size≤xs'.length*t'.size:=Nat.mul_le_mul_right _ hp2
      refine⟨?_,.inr ⟨g,cap,cur,by rw[hlen],hb0,hg,by rw[hlen];omega,hcm,hcs, ?_⟩⟩
      ·rw[hlen,List.length_take,hcl];omega
      ·rw[hlen,←htk,List.take_take,Nat.min_eq_left hle]
     ·simp[ck]at hb
      subst hb
      exact .inr rfl
     ·intro ok' hok
      exact(h2.take p.2).mono (br.refl _ _) hok
   ·cases h
  ·cases h
 ·cases h
theorem aeH(hT:cH P Γ E=true){ok:Nat→Prop}{x:AV}{u:Value}{K:AV→Option R}{r:R}{t:TypeId}(hx:VA P μ ok w x u)
  (h:acO Γ t x K=some r) (ty:TypeId):∃z,K z=some r∧AM P μ ok w (Builtin.cap_ #[t] ty #[u]) z:=by
 unfold acO at h
 split at h
 ·rename_i te ht
  have hd:=d7 (cN hT ht)
  simp only[lr]at hd
  split at hd<;>try (cases hd;done)
  rename_i e hu
  have hx:u= .slice none 0 0:=hx
  subst hx
  exact⟨_,h,.int .i64 0,by simp[Builtin.cap_,run_underlying hu,goInt],cE.2 rfl⟩
 ·cases h
theorem QZ(id id' ty e:TypeId)(i:TypeInfo)(k kn:IntKind)(hu:P.underlying id=some (.slice e))(hu':P.underlying id'=some (.int kn))(hi:P.info? e=some i):(Builtin.append_ #[id,id'] ty #[.slice none 0 0,.int k 0]).run P w= .ok (.slice none 0 0) w:=by
 have hw:IntKind.i64.wrap 0=0:=by decide
 simp[Builtin.append_,run_underlying hu,run_underlying hu',sizeOf,typeInfo,hi,asInt,asIntOf,hw]
theorem ZG(w:World)(o:Obj):w.grownBy (w.drew.alloc o) none:=by
 have g:=World.grownBy_alloc w.drew o none
 exact⟨g.os,g.tape,g.output,g.size,g.block⟩
theorem abg(hT:cH P Γ E=true)(hK:aG C.Ch w0 w)(hS:a8 P C μ af a w){d:Option Tmp}(hV:∀d',d=some d'→C.V d'=none){id id':TypeId}{x n:AV}{u v:Value}{K:AF→Option R}{r:R}(hx:VA P μ (aO C.A μ af) w x u)(hn:VA P μ (aO C.A μ af) w n v)
  (h:UG Γ E af d id id' x n K=some r) (ty:TypeId):∃z w',(Builtin.append_ #[id,id'] ty #[u,v]).run P w= .ok z w'∧PK P C w0 K r (a.put d z) w':=by
 unfold UG at h
 split at h
 ·rename_i t e k0 k n ht he ht'
  rw[cE]at hn
  subst hn
  have hx:u= .slice none 0 0:=hx
  subst hx
  have hd:=d7 (cN hT ht')
  simp only[lr]at hd
  split at hd<;>try (cases hd;done)
  rename_i kn hu'
  split at h
  ·rename_i z hz
   split at h
   ·cases h
   rename_i hnt
   split at h
   ·rename_i hn0
    unfold bd at h
    split at h
    ·rename_i hroom
     obtain⟨hu,hs,hag,hzb,hpos,i,hi,his,hby⟩:=kI (ma hT ht he)
     obtain⟨i',zv,hi',hz',hzc,_⟩:=nM hzb hz
     rw[hi]at hi'
     simp at hi';subst hi'
     have hzl:(zc t).length=t.size:=CR.length (P:=P) t (ok:=vI) (w:=w) z _ (mR t hz)
     have hnN:(n.toNat:Int)=n:=Int.toNat_of_nonneg hn0
     have hn0':(0:Int)≤n:=hn0
     obtain⟨d',rfl,hn',hnr,hr,hk⟩:=lS h
     by_cases h0:n.toNat=0
     ·have e0:n=(0:Int):=by rw[←hnN,h0];rfl
      subst e0
      refine⟨_,w,QZ id id' ty e i _ _ hu hu' hi,_,hk,hK,_,hS.newArr (eu.refl af) hn' (hV _ rfl) hnr (by simpa using hnt) (row:=none) ⟨rfl,rfl,rfl,Nat.le_refl _,fun _ _ _=>rfl⟩ (fun b hb=>by cases hb) (cells:=[]) (World.ownsRow_nil w 0 _ _) (fun b hb=>by simp[ck]at hb) ?_⟩
      intro ok' _
      exact rfl
     ·have hb:n.toNat*i.bytes≤281474976710656:=by
       have:n.toNat*i.bytes≤1099511627776*128:=Nat.mul_le_mul hroom hby
       omega
      have hrun:=Lib.run_append_nil_zeros (P:=P) w id id' ty e i zv k kn hu hu' hi hz' n.toNat (by omega) (by rw[his];exact hpos) (by omega) hb
      rw[hnN]at hrun
      have hcap:=grownCap_ge w n.toNat 0 e
      have hcm:=grownCap_le_maxLen w n.toNat 0 e (by simp only[maxLen];omega)
      have hzs:zv.cells.size=(zc t).length:=by rw[←hzc];simp
      have hza:zv.cells=(zc t).toArray:=by rw[←hzc]
      have hzt:∀m,(Builtin.zeroCells zv.cells m).toList=(List.replicate m (zc t)).flatten:=by
       intro m
       rw[←Ix (zc t) m]
       simp only[Builtin.zeroCells,Array.toList_map,Array.toList_range,hzs]
       congr 1
       funext j
       rw[hza];simp
      have hfl:∀m,((List.replicate m (zc t)).flatten).length=m*t.size:=by
       intro m;simp[hzl]
      refine⟨_,_,hrun,_,hk,hK.trans ((aG.refl _ _).drew.trans (aG.alloc C.Ch w.drew _)),_,hS.newArr (eu.refl af) hn' (hV _ rfl) hnr (by simpa using hnt) (row:=none) (ZG w _) (fun b hb=>by cases hb) (cells:=(List.replicate n.toNat (zc t)).flatten) ?_ (fun b hb=>.inl ?_) ?_⟩
      ·refine⟨by simp[hzl],.inr ⟨w.heap.size,_,_,by simp,Nat.zero_le _,Go.heap_alloc_new w.drew _,by simpa using hcap,hcm, ?_, ?_⟩⟩
       ·rw[←Array.length_toList,Array.toList_append,hzt,hzt,List.length_append,hfl,hfl,←Nat.add_mul]
        congr 1;omega
       ·rw[Array.toList_append,hzt,hzt,List.length_replicate,List.take_append_of_le_length (Nat.le_of_eq (hfl _).symm),List.take_of_length_le (Nat.le_of_eq (hfl _))]
      ·simp[ck]at hb
       exact Nat.le_of_eq hb
      ·intro ok' _
       exact UV (mR t hz) _
    ·cases h
   ·cases h
  ·cases h
 ·cases h
theorem abh(hT:cH P Γ E=true)(hK:aG C.Ch w0 w)(hS:a8 P C μ af a w){d:Option Tmp}(hV:∀d',d=some d'→C.V d'=none){id:TypeId}{x:AV}{lo hi:Option AV}{u:Value}{ulo uhi:Option Value}{K:AF→Option R}{r:R}(hx:VA P μ (aO C.A μ af) w x u)
  (hlo:∀v,lo=some v→∃u,ulo=some u∧VA P μ (aO C.A μ af) w v u) (hlo':lo=none→ulo=none) (hhi:∀v,hi=some v→∃u,uhi=some u∧VA P μ (aO C.A μ af) w v u) (hhi':hi=none→uhi=none)
  (h:Im Γ E af id x lo hi (fun af' v=>K (af'.put d v))=some r):∃z,(Instr.sliceAt id u ulo uhi none).run P w= .ok z w∧PK P C w0 K r (a.put d z) w:=by
 unfold Im at h
 split at h
 ·rename_i t ht
  split at h
  ·cases h
  ·rename_i e he
   obtain⟨hu,hs,hag,hzb,hpos,_⟩:=kI (ma hT ht he)
   have run:∀ {ok:Nat→Prop} {l:List t.T} {p:Nat×Nat},CR P ok w (.list t) l [u]→aZ l.length lo hi=some p→∃z,(Instr.sliceAt id u ulo uhi none).run P w= .ok z w∧CR P ok w (.list t) ((l.take p.2).drop p.1) [z]:=by
    intro ok l p hcr hb
    obtain⟨x,y,_,_,h0,h1,h2,hp⟩:=ri hb
    have hp1:p.1≤p.2:=by rw[hp];simp;omega
    have hp2:p.2≤l.length:=by rw[hp];simp;omega
    obtain⟨b,n,cap,rfl,rfl,hcap,hres⟩:=Ot hcr hp1 hp2
    obtain⟨hrun,_,_⟩:=qd (sl:=true) hb hcap hlo hlo' hhi hhi'
    refine⟨_, ?_,hres⟩
    simp only[Instr.sliceAt,Sem.run_bind,run_underlying hu,Result.andThen_ok,Instr.slice,hrun,gQ hs,Sem.run_pure]
   split at h
   ·rename_i t' l
    split at h
    ·rename_i htt;subst htt
     obtain⟨p,hp,hk⟩:=bA h
     have hx:aY _ _ u:=hx
     simp only[aY,Ty.isAgg]at hx
     obtain⟨z,hrun,hz⟩:=run hx hp
     exact⟨z,hrun,_,hk,St.put hK hS d hV (show aY _ _ z from hz)⟩
    ·cases h
   ·rename_i m
    split at h
    ·rename_i e' t' l ho
     split at h
     ·rename_i htt
      obtain⟨htt,hnt⟩:=htt
      subst htt
      obtain⟨p,hp,hk⟩:=bA h
      obtain⟨hS',hv⟩:=hS.freeze ho hnt
      have hx:u=μ m:=hx
      rw[←hx]at hv
      have hv:aY _ _ u:=hv
      simp only[aY,Ty.isAgg]at hv
      obtain⟨z,hrun,hz⟩:=run hv hp
      exact⟨z,hrun,_,hk,St.put hK hS' d hV (show aY _ _ z from hz)⟩
     ·cases h
    ·cases h
   ·obtain⟨p,hp,hk⟩:=bA h
    have hx:u= .slice none 0 0:=hx
    subst hx
    obtain⟨hrun,hp1,hp2⟩:=qd (sl:=true) hp (Nat.le_refl _) hlo hlo' hhi hhi'
    have h1:p.1=0:=by omega
    have h2:p.2=0:=by omega
    rw[h1,h2]at hrun
    refine⟨.slice none 0 0, ?_,_,hk,St.put hK hS d hV (show VA P μ _ w .nils _ from rfl)⟩
    simp only[Instr.sliceAt,Sem.run_bind,run_underlying hu,Result.andThen_ok,Instr.slice,hrun,gQ hs,Sem.run_pure]
    rfl
   ·cases h
 ·rename_i ht
  have hd:=d7 (cN hT ht)
  simp only[lr]at hd
  split at hd<;>try (cases hd;done)
  rename_i hu
  split at h
  ·rename_i s
   rw[pg]at hx;subst hx
   obtain⟨p,hp,hk⟩:=bA h
   have hsz:(⟨s.toArray⟩:ByteArray).size=s.length:=by simp[ByteArray.size]
   have hrun:=(qd (sl:=false) (cap:=s.length) hp (Nat.le_refl _) hlo hlo' hhi hhi').1
   refine⟨.string ((⟨s.toArray⟩:ByteArray).extract p.1 p.2), ?_,_,hk,St.put hK hS d hV (pg.2 ?_)⟩
   ·simp[Instr.sliceAt,Sem.run_bind,run_underlying hu,Instr.slice,hsz,hrun]
   ·congr 1
    apply ByteArray.ext
    apply Array.toList_inj.1
    rw[Lib.extract_data]
    simp[List.drop_take]
  ·cases h
 ·cases h
theorem ZH {r:Ty}(h:oW r=true):∃t,r= .pair t .unit:=by
 unfold oW at h
 split at h
 ·exact⟨_,rfl⟩
 ·cases h
theorem MF {ok:Nat→Prop}(d n:Nat):∀(r:Ty) {y:r.T} {rs:List Value} (c:Nat),r.owned=false→AR P ok w r y rs→bE P μ ok w (QR d n r y c) rs
 | .unit,_,rs,_,_,h=>by have h:rs= []:=h;subst h;rfl
 | .pair t r,y,rs,c,ho,h=>by
   simp only[Ty.owned,Bool.or_eq_false_iff]at ho
   obtain⟨v,vs,rfl,h1,h2⟩:=h
   refine⟨v,vs,rfl, ?_,MF d n r (c+t.labs) ho.2 h2⟩
   simp only[QQ,ho.1,Bool.false_eq_true,if_false]
   exact h1
 | .int _,_,_,_,_,h=>(h:False).elim
 | .bool,_,_,_,_,h=>(h:False).elim
 | .str,_,_,_,_,h=>(h:False).elim
 | .list _,_,_,_,_,h=>(h:False).elim
 | .fn _ _,_,_,_,_,h=>(h:False).elim
 | .ptr _,_,_,_,_,h=>(h:False).elim
 | .own _ _,_,_,_,_,h=>(h:False).elim
 | .box _,_,_,_,_,h=>(h:False).elim
 | .nptr _,_,_,_,_,h=>(h:False).elim
 | .nil,_,_,_,_,h=>(h:False).elim
theorem Fs {ok:Nat→Prop}{d n:Nat}{r:Ty}{y:r.T}{rs:List Value}(h:bE P μ ok w (QR d n r y 0) rs):VA P μ ok w (Ff d n r y) (if oW r then rs.headD undef else .tuple rs.toArray):=by
 unfold Ff
 split
 ·rename_i h1
  obtain⟨t,rfl⟩:=ZH h1
  obtain⟨v,vs,rfl,h2,h3⟩:=h
  exact h2
 ·exact⟨rs,rfl,h⟩
theorem Ou(hS:a8 P C μ af a w):∀(xs:List Operand),bE P μ (aO C.A μ af) w (xs.map af.ev) (xs.map a.eval)
 | []=>rfl
 |x::xs=>⟨_,_,rfl,bo hS x,Ou hS xs⟩
theorem cC.flat {ok ok':Nat→Prop}{w':World}{t:Ty}(hf:t.flat=true):∀ {xs:List t.T} {cs:List Value},cC P ok w t xs cs→cC P ok' w' t xs cs
 | [],_,h=>h
 |_::_,_,h=>by
  obtain⟨u1,u2,e,h1,h2⟩:=h
  exact⟨u1,u2,e,(de.flat t _ hf).1 _ h1,cC.flat hf h2⟩
theorem bm.flatO {ok ok':Nat→Prop}:∀(t:Ty) {x:t.T} {us:List Value} {bs:List Nat},t.flatO=true→bm P ok w t x us bs→bm P ok' w t x us bs
 | .int _,_,_,_,_,h=>h
 | .bool,_,_,_,_,h=>h
 | .str,_,_,_,_,h=>h
 | .unit,_,_,_,_,h=>h
 | .pair a b,x,us,bs,hf,h=>by
   simp only[Ty.flatO,Bool.and_eq_true]at hf
   obtain⟨u1,u2,b1,b2,e1,e2,h1,h2⟩:=h
   exact⟨u1,u2,b1,b2,e1,e2,bm.flatO a hf.1 h1,bm.flatO b hf.2 h2⟩
 | .own e t,x,us,bs,hf,h=>by
   obtain⟨v,cells,bs',e1,h1,h2,e2⟩:=h
   exact⟨v,cells,bs',e1,h1,h2.mono fun x us b _ hx=>bm.flatO t hf hx,e2⟩
 | .box t,x,us,bs,hf,h=>by
   obtain⟨b,us',E,bs',e1,h1,h2,h3,e2⟩:=h
   exact⟨b,us',E,bs',e1,h1,h2,bm.flatO t hf h3,e2⟩
 | .list _,_,_,_,hf,_=>by simp[Ty.flatO]at hf
 | .ptr _,_,_,_,hf,_=>by simp[Ty.flatO]at hf
 | .fn _ _,_,_,_,hf,_=>by simp[Ty.flatO]at hf
 | .nptr _,_,_,_,hf,_=>by simp[Ty.flatO]at hf
 | .nil,_,_,_,hf,_=>by simp[Ty.flatO]at hf
theorem nF.flatO {ok ok':Nat→Prop}:∀(r:Ty) {x:r.T} {vs:List Value} {bs:List Nat},r.flatO=true→nF P ok w r x vs bs→nF P ok' w r x vs bs
 | .unit,_,_,_,_,h=>h
 | .pair t r,x,vs,bs,hf,h=>by
   simp only[Ty.flatO,Bool.and_eq_true]at hf
   obtain⟨v,vs',b1,b2,e1,e2,h1,h2⟩:=h
   exact⟨v,vs',b1,b2,e1,e2,h1.mono fun us hu=>bm.flatO t hf.1 hu,nF.flatO r hf.2 h2⟩
 | .int _,_,_,_,_,h=>(h:False).elim
 | .bool,_,_,_,_,h=>(h:False).elim
 | .str,_,_,_,_,h=>(h:False).elim
 | .list _,_,_,_,_,h=>(h:False).elim
 | .fn _ _,_,_,_,_,h=>(h:False).elim
 | .ptr _,_,_,_,_,h=>(h:False).elim
 | .own _ _,_,_,_,_,h=>(h:False).elim
 | .box _,_,_,_,_,h=>(h:False).elim
 | .nptr _,_,_,_,_,h=>(h:False).elim
 | .nil,_,_,_,_,h=>(h:False).elim
theorem kS.cases {ok:Nat→Prop}{t r m:Ty}{y:m.T}{vs:List Value}{bs:List Nat}(h:kS P ok w (.pair t r) m y vs bs):
  (t.owned=false∧∃v vs',vs=v::vs'∧kS P ok w r m y vs' bs)∨
  (t.owned=true∧∃m' v vs' b1 b2,∃e:m= .pair t m',vs=v::vs'∧bs=b1++b2∧aY t (fun us=>bm P ok w t (e▸y:(Ty.pair t m').T).1 us b1) v∧kS P ok w r m' (e▸y:(Ty.pair t m').T).2 vs' b2):=by
 simp only[kS]at h
 split at h
 ·exact h.elim
 ·rename_i v vs'
  split at h
  ·rename_i ho;exact .inl ⟨ho,v,vs',rfl,h⟩
  ·rename_i ho
   split at h
   ·rename_i t' m' y'
    obtain⟨b1,b2,rfl,rfl,h1,h2⟩:=h
    exact .inr ⟨ho,m',v,vs',b1,b2,rfl,rfl,rfl,h1,h2⟩
   ·exact h.elim
theorem nF.okm {ok ok':Nat→Prop}:∀(r:Ty) {x:r.T} {vs:List Value} {bs:List Nat},nF P ok w r x vs bs→(∀b,ok b→ok' b)→nF P ok' w r x vs bs
 | .unit,_,_,_,h,_=>h
 | .pair t r,x,vs,bs,h,hk=>by
   obtain⟨v,vs',b1,b2,e1,e2,h1,h2⟩:=h
   exact⟨v,vs',b1,b2,e1,e2,h1.mono fun us hu=>hu.okm hk,nF.okm r h2 hk⟩
 | .int _,_,_,_,h,_=>(h:False).elim
 | .bool,_,_,_,h,_=>(h:False).elim
 | .str,_,_,_,h,_=>(h:False).elim
 | .list _,_,_,_,h,_=>(h:False).elim
 | .fn _ _,_,_,_,h,_=>(h:False).elim
 | .ptr _,_,_,_,h,_=>(h:False).elim
 | .own _ _,_,_,_,h,_=>(h:False).elim
 | .box _,_,_,_,h,_=>(h:False).elim
 | .nptr _,_,_,_,h,_=>(h:False).elim
 | .nil,_,_,_,h,_=>(h:False).elim
theorem kS.okm {ok ok':Nat→Prop}:∀(a m:Ty) {y:m.T} {vs:List Value} {bs:List Nat},kS P ok w a m y vs bs→(∀b,ok b→ok' b)→kS P ok' w a m y vs bs
 | .unit,.unit,_,_,_,h,_=>h
 | .pair t r,m,y,vs,bs,h,hk=>by
   rcases h.cases with⟨ho,v,vs',rfl,h1⟩|⟨ho,m',v,vs',b1,b2,rfl,rfl,rfl,h1,h2⟩
   ·simp only[kS,ho]
    exact kS.okm r m h1 hk
   ·simp only[kS,ho]
    exact⟨b1,b2,trivial,rfl,h1.mono fun us hu=>hu.okm hk,kS.okm r m' h2 hk⟩
 | .unit,.pair _ _,_,_,_,h,_=>(h:False).elim
 | .unit,.int _,_,_,_,h,_=>(h:False).elim
 | .unit,.bool,_,_,_,h,_=>(h:False).elim
 | .unit,.str,_,_,_,h,_=>(h:False).elim
 | .unit,.list _,_,_,_,h,_=>(h:False).elim
 | .unit,.fn _ _,_,_,_,h,_=>(h:False).elim
 | .unit,.ptr _,_,_,_,h,_=>(h:False).elim
 | .unit,.own _ _,_,_,_,h,_=>(h:False).elim
 | .unit,.box _,_,_,_,h,_=>(h:False).elim
 | .unit,.nptr _,_,_,_,h,_=>(h:False).elim
 | .unit,.nil,_,_,_,h,_=>(h:False).elim
 | .int _,_,_,_,_,h,_=>(h:False).elim
 | .bool,_,_,_,_,h,_=>(h:False).elim
 | .str,_,_,_,_,h,_=>(h:False).elim
 | .list _,_,_,_,_,h,_=>(h:False).elim
 | .fn _ _,_,_,_,_,h,_=>(h:False).elim
 | .ptr _,_,_,_,_,h,_=>(h:False).elim
 | .own _ _,_,_,_,_,h,_=>(h:False).elim
 | .box _,_,_,_,_,h,_=>(h:False).elim
 | .nptr _,_,_,_,_,h,_=>(h:False).elim
 | .nil,_,_,_,_,h,_=>(h:False).elim
theorem kS.flatO {ok ok':Nat→Prop}:∀(a m:Ty) {y:m.T} {vs:List Value} {bs:List Nat},m.flatO=true→kS P ok w a m y vs bs→kS P ok' w a m y vs bs
 | .unit,.unit,_,_,_,_,h=>h
 | .pair t r,m,y,vs,bs,hf,h=>by
   rcases h.cases with⟨ho,v,vs',rfl,h1⟩|⟨ho,m',v,vs',b1,b2,rfl,rfl,rfl,h1,h2⟩
   ·simp only[kS,ho]
    exact kS.flatO r m hf h1
   ·simp only[Ty.flatO,Bool.and_eq_true]at hf
    simp only[kS,ho]
    exact⟨b1,b2,trivial,rfl,h1.mono fun us hu=>bm.flatO t hf.1 hu,kS.flatO r m' hf.2 h2⟩
 | .unit,.pair _ _,_,_,_,_,h=>(h:False).elim
 | .unit,.int _,_,_,_,_,h=>(h:False).elim
 | .unit,.bool,_,_,_,_,h=>(h:False).elim
 | .unit,.str,_,_,_,_,h=>(h:False).elim
 | .unit,.list _,_,_,_,_,h=>(h:False).elim
 | .unit,.fn _ _,_,_,_,_,h=>(h:False).elim
 | .unit,.ptr _,_,_,_,_,h=>(h:False).elim
 | .unit,.own _ _,_,_,_,_,h=>(h:False).elim
 | .unit,.box _,_,_,_,_,h=>(h:False).elim
 | .unit,.nptr _,_,_,_,_,h=>(h:False).elim
 | .unit,.nil,_,_,_,_,h=>(h:False).elim
 | .int _,_,_,_,_,_,h=>(h:False).elim
 | .bool,_,_,_,_,_,h=>(h:False).elim
 | .str,_,_,_,_,_,h=>(h:False).elim
 | .list _,_,_,_,_,_,h=>(h:False).elim
 | .fn _ _,_,_,_,_,_,h=>(h:False).elim
 | .ptr _,_,_,_,_,_,h=>(h:False).elim
 | .own _ _,_,_,_,_,_,h=>(h:False).elim
 | .box _,_,_,_,_,_,h=>(h:False).elim
 | .nptr _,_,_,_,_,_,h=>(h:False).elim
 | .nil,_,_,_,_,_,h=>(h:False).elim
theorem sI {ok ok0:Nat→Prop}{w':World}{c:AV}{r rest:List AV}{os:List (Nat×AO)}{u1 us:List Value}{bs:List Nat}(h:(if c.owns then none else some (([]:List (Nat×AO)),r))=some (os,rest))(hv:bE P μ ok0 w (c::r) (u1++us))(hl:u1.length=1):
  d8 P ok w' os bs (fun μ' _=>∀l ∈ rU (c::r),l ∈ rU rest∨μ'.v l=μ.v l)∧bE P μ ok0 w rest us:=by
 split at h
 ·cases h
 ·rename_i hno
  simp at h
  obtain⟨rfl,rfl⟩:=h
  obtain⟨u,rfl⟩:=List.length_eq_one_iff.1 hl
  obtain⟨u',us',e,hc,hr⟩:=hv
  simp only[List.singleton_append,List.cons.injEq]at e
  obtain⟨rfl,rfl⟩:=e
  refine⟨d8.nil fun _ _ _ l hl=>.inl ?_,hr⟩
  cases c<;>simp_all [rU,AV.owns]
theorem MG {ok ok0:Nat→Prop}{w':World}(d n:Nat):∀(t:Ty) {y:t.T} {cs:List AV} {k:Nat} {os:List (Nat×AO)} {rest:List AV} {us u1:List Value} {bs:List Nat},jC d n t y cs k=some (os,rest)→bE P μ ok0 w cs (u1++us)→
  bm P ok w' t y u1 bs→bs.Nodup→(aW os).Nodup→d8 P ok w' os bs (fun μ' _=>∀l ∈ rU cs,l ∈ rU rest∨μ'.v l=μ.v l)∧bE P μ ok0 w rest us
 | .own e t,y,c::r,k,os,rest,us,u1,bs,h,hv,ho,hnd,_=>by
   obtain⟨v,cells,bs',rfl,h1,h2,rfl⟩:=ho
   obtain⟨u,us',e1,hc,hr⟩:=hv
   simp only[List.singleton_append,List.cons.injEq]at e1
   obtain⟨rfl,rfl⟩:=e1
   simp only[jC]at h
   split at h
   ·rename_i l
    simp at h
    obtain⟨rfl,rfl⟩:=h
    have hc:v=μ l:=hc
    refine⟨⟨⟨fun _=>v,fun _ b=>b ∈ bs'⟩,fun μ' ok' hm hk=>⟨fun l' hl'=> ?_,fun p hp=> ?_⟩, ?_, ?_⟩,hr⟩
    ·simp only[rU,List.mem_cons]at hl'
     rcases hl' with rfl|hl'
     ·exact .inr ((hm l' (by simp[aW])).1.trans hc)
     ·exact .inl hl'
    ·simp at hp;subst hp
     obtain⟨e1,e2⟩:=hm l (by simp[aW])
     simp only at e1 e2
     exact abe (by rw[e1];exact h1) (h2.mono fun x us b1 _ h=>h.okm hk) (by rw[e1];exact hnd) (fun b hb=>by rw[e2];exact hb)
    ·intro l' _ b hb
     rcases hb with hb|hb
     ·simp only at hb;simp[hb]
     ·exact List.mem_append.2 (.inr hb)
    ·intro l1 hl1 l2 hl2 _ _ _
     simp only[aW,List.mem_singleton]at hl1 hl2
     rw[hl1,hl2]
   ·simp at h
    obtain⟨rfl,rfl⟩:=h
    have hc:v= .slice none 0 0:=hc
    exact⟨d8.nil fun μ' ok' _ l' hl'=>.inl (by simpa [rU]using hl'),hr⟩
   ·cases h
 | .box t,y,c::r,k,os,rest,us,u1,bs,h,hv,ho,hnd,hl=>by
   obtain⟨b,us2,E,bs',rfl,h1,h2,h3,rfl⟩:=ho
   obtain⟨u,us',e1,hc,hr⟩:=hv
   simp only[List.singleton_append,List.cons.injEq]at e1
   obtain⟨rfl,rfl⟩:=e1
   simp only[jC]at h
   split at h
   ·rename_i l off
    simp at h
    obtain⟨rfl,rfl⟩:=h
    obtain⟨b',e2,e3⟩:=hc
    simp at e3
    obtain⟨rfl,rfl⟩:=e3
    obtain⟨hb,hnd'⟩:=tn hnd
    simp only[aW]at hl
    obtain⟨hlc,hl'⟩:=tn hl
    refine⟨?_,hr⟩
    obtain⟨ν,f,g,i⟩:=sG d n t k h3 hnd' hl'
    have ein:∀l' ∈ aW (fB d n t y k),l'≠l:=fun l' hl e=>hlc (e▸hl)
    have hin:∀l' ∈ aW (fB d n t y k),∀b',Nm.has ⟨fun l'=>if l'=l then .pointer (some ⟨b,0,none⟩)else ν.v l',fun l' b'=>if l'=l then False else ν.x l' b'⟩ l' b'→ν.has l' b':=by
     intro l' hl b' h
     have:=ein l' hl
     simpa only[Nm.has,if_neg this]using h
    have htop:∀b',Nm.has ⟨fun l'=>if l'=l then .pointer (some ⟨b,0,none⟩)else ν.v l',fun l' b'=>if l'=l then False else ν.x l' b'⟩ l b'→b'=b:=by
     intro b' h
     simp only[Nm.has,if_true,or_false]at h
     exact(Option.some.inj h).symm
    refine⟨⟨fun l'=>if l'=l then .pointer (some ⟨b,0,none⟩)else ν.v l',fun l' b'=>if l'=l then False else ν.x l' b'⟩,fun μ' ok' hm hk=> ?_, ?_, ?_⟩
    ·obtain⟨q,p⟩:=f μ' ok' (fun l' hl=>by
      obtain⟨e1,e2⟩:=hm l' (by simp[aW,hl])
      have:=ein l' hl
      exact⟨e1.trans (if_neg this),e2.trans (by funext b;exact if_neg this)⟩) hk
     obtain⟨e1,_⟩:=hm l (by simp[aW])
     simp only[if_true]at e1
     refine⟨fun l' hl'=> ?_,fun p' hp=> ?_⟩
     ·simp only[rU,List.mem_cons]at hl'
      rcases hl' with rfl|hl'
      ·exact .inr (e1.trans e2.symm)
      ·exact .inl hl'
     ·simp only[List.mem_cons]at hp
      rcases hp with rfl|hp
      ·exact⟨b,us2,E,e1,h1,q,h2⟩
      ·exact p p' hp
    ·intro l' hl b' hb'
     simp only[aW,List.mem_cons]at hl
     rcases hl with rfl|hl
     ·rw[htop b' hb'];simp
     ·exact List.mem_cons_of_mem _ (g l' hl b' (hin l' hl b' hb'))
    ·intro l1 hl1 l2 hl2 b' hb1 hb2
     simp only[aW,List.mem_cons]at hl1 hl2
     rcases hl1 with rfl|hl1<;>rcases hl2 with rfl|hl2
     ·rfl
     ·have:=g l2 hl2 b' (hin l2 hl2 b' hb2);rw[htop b' hb1]at this;exact absurd this hb
     ·have:=g l1 hl1 b' (hin l1 hl1 b' hb1);rw[htop b' hb2]at this;exact absurd this hb
     ·exact i l1 hl1 l2 hl2 b' (hin l1 hl1 b' hb1) (hin l2 hl2 b' hb2)
   ·cases h
 | .pair p q,y,cs,k,os,rest,us,u1,bs,h,hv,ho,hnd,hl=>by
   obtain⟨v1,v2,b1,b2,rfl,rfl,h1,h2⟩:=ho
   simp only[jC]at h
   split at h
   ·rename_i o1 r hy
    split at h
    ·rename_i o2 r' hz
     simp at h
     obtain⟨rfl,rfl⟩:=h
     rw[gB]at hl
     have hl':=List.nodup_append.1 hl
     have hb':=List.nodup_append.1 hnd
     rw[List.append_assoc]at hv
     obtain⟨i1,hv2⟩:=MG d n p hy hv h1 hb'.1 hl'.1
     obtain⟨i2,hv3⟩:=MG d n q hz hv2 h2 hb'.2.1 hl'.2.1
     refine⟨(d8.app i1 i2 hl hnd).mono fun μ' ok' _ h l hl=> ?_,hv3⟩
     rcases h.1 l hl with h'|h'
     ·exact h.2 l h'
     ·exact .inr h'
    ·cases h
   ·cases h
 | .unit,y,cs,k,os,rest,us,u1,bs,h,hv,ho,_,_=>by
   simp[jC]at h
   obtain⟨rfl,rfl⟩:=h
   have e:u1= []:=ho.1
   subst e
   exact⟨d8.nil fun _ _ _ l hl=>.inl hl,hv⟩
 | .int k',y,c::r,k,os,rest,us,u1,bs,h,hv,ho,_,_=>sI (by simpa only[jC]using h) hv (CR.length _ _ _ ho.1)
 | .bool,y,c::r,k,os,rest,us,u1,bs,h,hv,ho,_,_=>sI (by simpa only[jC]using h) hv (CR.length _ _ _ ho.1)
 | .str,y,c::r,k,os,rest,us,u1,bs,h,hv,ho,_,_=>sI (by simpa only[jC]using h) hv (CR.length _ _ _ ho.1)
 | .list t,y,c::r,k,os,rest,us,u1,bs,h,hv,ho,_,_=>sI (by simpa only[jC]using h) hv (CR.length _ _ _ ho.1)
 | .ptr t,y,c::r,k,os,rest,us,u1,bs,h,hv,ho,_,_=>sI (by simpa only[jC]using h) hv (CR.length _ _ _ ho.1)
 | .fn p q,y,c::r,k,os,rest,us,u1,bs,h,hv,ho,_,_=>sI (by simpa only[jC]using h) hv (CR.length _ _ _ ho.1)
 | .nptr t,y,c::r,k,os,rest,us,u1,bs,h,hv,ho,_,_=>sI (by simpa only[jC]using h) hv (CR.length _ _ _ ho.1)
 | .nil,y,c::r,k,os,rest,us,u1,bs,h,hv,ho,_,_=>sI (by simpa only[jC]using h) hv (CR.length _ _ _ ho.1)
 | .own _ _,_,[],_,_,_,_,_,_,h,_,_,_,_=>by simp[jC]at h
 | .box _,_,[],_,_,_,_,_,_,h,_,_,_,_=>by simp[jC]at h
 | .int _,_,[],_,_,_,_,_,_,h,_,_,_,_=>by simp[jC]at h
 | .bool,_,[],_,_,_,_,_,_,h,_,_,_,_=>by simp[jC]at h
 | .str,_,[],_,_,_,_,_,_,h,_,_,_,_=>by simp[jC]at h
 | .list _,_,[],_,_,_,_,_,_,h,_,_,_,_=>by simp[jC]at h
 | .ptr _,_,[],_,_,_,_,_,_,h,_,_,_,_=>by simp[jC]at h
 | .fn _ _,_,[],_,_,_,_,_,_,h,_,_,_,_=>by simp[jC]at h
 | .nptr _,_,[],_,_,_,_,_,_,h,_,_,_,_=>by simp[jC]at h
 | .nil,_,[],_,_,_,_,_,_,h,_,_,_,_=>by simp[jC]at h
theorem Iy {ok ok0:Nat→Prop}{w':World}(d n:Nat):∀(a m:Ty) {y:m.T} {vs:List AV} {k:Nat} {os:List (Nat×AO)} {us:List Value} {bs:List Nat},eA d n a m y vs k=some os→bE P μ ok0 w vs us→
  kS P ok w' a m y us bs→bs.Nodup→(aW os).Nodup→d8 P ok w' os bs (fun μ' _=>∀l ∈ Fg a vs,μ'.v l=μ.v l)
 | .unit,.unit,y,vs,k,os,us,bs,h,hv,ho,_,_=>by
   cases vs with
   |nil=>
    simp[eA]at h
    subst h
    exact d8.nil fun _ _ _ l hl=>by simp[Fg]at hl
   |cons _ _=>simp[eA]at h
 | .pair t r,m,y,vs,k,os,us,bs,h,hv,ho,hnd,hl=>by
   cases vs with
   |nil=>simp[eA]at h
   |cons v vs=>
    obtain⟨u,us',rfl,hc,hr⟩:=hv
    rcases ho.cases with⟨hto,v2,vs2,e,h1⟩|⟨hto,m',v2,vs2,b1,b2,rfl,e,rfl,h1,h2⟩
    ·simp only[List.cons.injEq]at e
     obtain⟨rfl,rfl⟩:=e
     simp only[eA,hto]at h
     refine(Iy d n r m h hr h1 hnd hl).mono fun μ' _ _ hq l hl=>hq l ?_
     simpa [Fg,hto]using hl
    ·simp only[List.cons.injEq]at e
     obtain⟨rfl,rfl⟩:=e
     simp only[eA,hto]at h
     split at h
     ·rename_i cs hcs
      split at h
      ·rename_i o1 ho1
       split at h
       ·rename_i o2 ho2
        obtain rfl:=Option.some.inj h
        rw[gB]at hl
        have hl':=List.nodup_append.1 hl
        have hb':=List.nodup_append.1 hnd
        have key:∃us1,bE P μ ok0 w cs (us1++ [])∧bm P ok w' t y.1 us1 b1∧∀l ∈ v.top,l ∈ rU cs:=by
         unfold aY at h1
         cases ha:t.isAgg with
         |true=>
          rw[if_pos ha]at h1
          simp only[ha]at hcs
          split at hcs
          ·obtain rfl:=Option.some.inj hcs
           obtain⟨us1,e1,h3⟩:=h1
           obtain⟨us2,e2,h4,_⟩:=hc
           have:us1=us2:=by rw[e1]at e2;simpa using e2
           subst this
           exact⟨us1,by simpa using h4,h3,fun l hl=>hl⟩
          ·cases hcs
         |false=>
          rw[ha]at h1
          simp only[ha]at hcs
          obtain rfl:=Option.some.inj hcs
          refine⟨[u],⟨u,[],rfl,hc,rfl⟩,h1,fun l hl=> ?_⟩
          cases v with
          |agg cs=>
           exfalso
           obtain⟨us2,e2,_⟩:=hc
           have:=(bm.len t h1).2 u (by simp)
           rw[e2]at this
           simp[Value.oneCell']at this
          |_=>exact hl
        obtain⟨us1,hv1,hoc,htop⟩:=key
        obtain⟨i1,_⟩:=MG d n t ho1 hv1 hoc hb'.1 hl'.1
        have i2:=Iy d n r m' ho2 hr h2 hb'.2.1 hl'.2.1
        refine(d8.app i1 i2 hl hnd).mono fun μ' _ _ hq l hl=> ?_
        simp only[Fg,hto,if_true,List.mem_append]at hl
        rcases hl with hl|hl
        ·rcases hq.1 l (htop l hl)with h3|h3
         ·simp[rU]at h3
         ·exact h3
        ·exact hq.2 l hl
       ·cases h
      ·cases h
     ·cases h
 | .unit,.pair _ _,_,vs,_,_,_,_,h,_,_,_,_=>by cases vs<;>simp[eA]at h
 | .unit,.int _,_,vs,_,_,_,_,h,_,_,_,_=>by cases vs<;>simp[eA]at h
 | .unit,.bool,_,vs,_,_,_,_,h,_,_,_,_=>by cases vs<;>simp[eA]at h
 | .unit,.str,_,vs,_,_,_,_,h,_,_,_,_=>by cases vs<;>simp[eA]at h
 | .unit,.list _,_,vs,_,_,_,_,h,_,_,_,_=>by cases vs<;>simp[eA]at h
 | .unit,.fn _ _,_,vs,_,_,_,_,h,_,_,_,_=>by cases vs<;>simp[eA]at h
 | .unit,.ptr _,_,vs,_,_,_,_,h,_,_,_,_=>by cases vs<;>simp[eA]at h
 | .unit,.own _ _,_,vs,_,_,_,_,h,_,_,_,_=>by cases vs<;>simp[eA]at h
 | .unit,.box _,_,vs,_,_,_,_,h,_,_,_,_=>by cases vs<;>simp[eA]at h
 | .unit,.nptr _,_,vs,_,_,_,_,h,_,_,_,_=>by cases vs<;>simp[eA]at h
 | .unit,.nil,_,vs,_,_,_,_,h,_,_,_,_=>by cases vs<;>simp[eA]at h
 | .int _,_,_,vs,_,_,_,_,h,_,_,_,_=>by simp[eA]at h
 | .bool,_,_,vs,_,_,_,_,h,_,_,_,_=>by simp[eA]at h
 | .str,_,_,vs,_,_,_,_,h,_,_,_,_=>by simp[eA]at h
 | .list _,_,_,vs,_,_,_,_,h,_,_,_,_=>by simp[eA]at h
 | .fn _ _,_,_,vs,_,_,_,_,h,_,_,_,_=>by simp[eA]at h
 | .ptr _,_,_,vs,_,_,_,_,h,_,_,_,_=>by simp[eA]at h
 | .own _ _,_,_,vs,_,_,_,_,h,_,_,_,_=>by simp[eA]at h
 | .box _,_,_,vs,_,_,_,_,h,_,_,_,_=>by simp[eA]at h
 | .nptr _,_,_,vs,_,_,_,_,h,_,_,_,_=>by simp[eA]at h
 | .nil,_,_,vs,_,_,_,_,h,_,_,_,_=>by simp[eA]at h
theorem eu.trans {f g h:AF}(h1:eu f g)(h2:eu g h):eu f h:=by
 refine⟨h1.lk.trans h2.lk,h1.len.trans h2.len,fun t x hx=> ?_,fun l cs hc=> ?_,fun l e t xs hc=>h2.arr l e t xs (h1.arr l e t xs hc),fun l e t xs i x off d hc=>h2.hol l e t xs i x off d (h1.hol l e t xs i x off d hc)⟩
 ·rcases h1.tmps t x hx with h|h
  ·exact .inl h
  ·exact h2.tmps t x h
 ·obtain⟨cs',a1,a2,a3⟩:=h1.box l cs hc
  obtain⟨cs'',b1,b2,b3⟩:=h2.box l cs' a1
  exact⟨cs'',b1,a2.trans b2,fun i c hc=>by
   rcases a3 i c hc with h|h
   ·exact .inl h
   ·exact b3 i c h⟩
theorem eu.drops:∀(L:List Nat) (af:AF),eu (af.drops L) af
 | [],af=>eu.refl af
 |l::r,af=>(eu.drops r (af.drop l)).trans (eu.drop af l)
theorem vN:∀(L:List Nat) {af:AF} {l:Nat},l ∈ L→(af.drops L).obj l=none
 |m::r,af,l,h=>by
  have keep:∀(r:List Nat) (f:AF),f.obj l=none→(f.drops r).obj l=none:=by
   intro r
   induction r with
   |nil=>exact fun f h=>h
   |cons m r ih=>exact fun f h=>ih _ (by rw[kX,h];split<;>rfl)
  rcases List.mem_cons.1 h with rfl|h
  ·exact keep r _ (by rw[kX,if_pos rfl])
  ·exact vN r h
theorem abi(hT:cH P Γ E=true)(hK:aG C.Ch w0 w)(hS:a8 P C μ af a w){id:TypeId}{l i k off:Nat}{v:AV}{u x:Value}{K:AF→Option R}{r:R}(hp:VA P μ (aO C.A μ af) w (.eptr l i k off) u)(hv:VA P μ (aO C.A μ af) w v x)
  (h:UI Γ af id l i k off v K=some r):∃w',(Instr.storeAt id u x).run P w= .ok () w'∧PK P C w0 K r a w':=by
 unfold UI at h
 split at h
 ·rename_i t e t' xs vs ht ho hvs
  have hc:=cN hT ht
  obtain⟨hva,hone⟩:=oH hS hv hvs
  have hlen:=bE.length hva
  simp only[Array.length_toList]at hlen
  split at h
  ·rename_i x0 hx0
   split at h
   ·rename_i hh
    obtain⟨hsz,rfl,hfit,hlock⟩:=hh
    obtain⟨b,n,c,hb,rfl⟩:=hp
    have hbk:ck (μ l)=some b:=by rw[hb];rfl
    have hch:C.Ch b:=(hS.chg.resolve_left (by simp[hlock])) _ (hS.wr _ _ _ ho (.inl hbk)).1
    obtain⟨cells,hown,hrw⟩:=hS.objs l _ ho
    have key:∃bs,dV (bm P (aO C.A μ af) w t') xs cells bs∧bs.Nodup∧∀b ∈ bs,ck (μ l)≠some b∧μ.x l b:=by
     split at hrw
     ·exact hrw
     ·rename_i hn
      exact⟨[],vu (by simpa using hn) hrw,List.nodup_nil,fun b hb=>by cases hb⟩
    obtain⟨bs,hrows,hnd,hbs⟩:=key
    obtain⟨hcl,⟨hm,_⟩|⟨g,cap,cur,hm,hb0,hg,hncap,hcm,hcs,htake⟩⟩:=hown
    ·rw[hb]at hm;cases hm
    ·rw[hb]at hm
     simp at hm
     obtain⟨rfl,hn,rfl⟩:=hm
     obtain⟨c1,us,c2,b1,bx,b2,hce,hbe,hc1,hcr,hset⟩:=hrows.split hx0
     have hul:=(bm.len t' hcr).1
     have hcur:cells.length≤cur.size:=by rw[←htake];simp;omega
     have hce':cells.length=c1.length+us.length+c2.length:=by rw[hce];simp[Nat.add_assoc]
     have hrun:=rF (tk hc) hg (v:=x) (o:=i*t'.size+off) (by omega) hone (by omega)
     generalize hW:w.setRow b _=W at hrun
     have hWs:W.heap.size=w.heap.size:=by rw[←hW];simp
     have hother:∀k,k≠b→W.heap[k]? =w.heap[k]? :=fun k hk=>by
      have hne:¬b=k:=fun e=>hk e.symm
      rw[←hW]
      simp[World.setRow,Array.getElem?_modify,hne]
     have hkeep:aG C.Ch w W:=by rw[←hW];exact aG.setRow C.Ch w b _ hch
     have hrow:∀y:t'.T,W.ownsRow 0 e t'.size (μ l) (xs.set i y).length (c1++(us.take off++x.cells.toList++us.drop (off+t.size))++c2):=by
      intro y
      have hlr:(c1++(us.take off++x.cells.toList++us.drop (off+t.size))++c2).length=(xs.set i y).length*t'.size:=by
       rw[List.length_set,←hcl,hce']
       simp;omega
      refine⟨hlr,.inr ⟨b,c,_,by rw[hb,List.length_set,hn],Nat.zero_le _,by rw[←hW];exact setRow_heap w b cur _ e (0,0) hg,by rw[List.length_set];omega,hcm, ?_, ?_⟩⟩
      ·simp;omega
      ·have hlc:cur.toList=cells++cur.toList.drop (xs.length*t'.size):=by
        rw[←htake];exact(List.take_append_drop _ _).symm
       rw[List.length_set,←hcl,hlc,hce,←hc1]
       have:=Fr c1 us c2 (cur.toList.drop (xs.length*t'.size)) x.cells.toList off t.size (by simp;omega) (by omega)
       simpa using this
     have hnb:∀b' ∈ bs,b'≠b:=fun b' h e=>(hbs b' h).1 (by rw[e];exact hbk)
     refine⟨W,by simp[Instr.storeAt,Instr.sureAddr,hrun], ?_⟩
     split at h
     ·rename_i hwhole
      split at h
      ·rename_i y ls hrd
       split at h
       ·rename_i hndl
        rw[ky]at hndl
        have hl0:=(List.nodup_cons.1 hndl).1
        obtain⟨u1,u2,by',hu12,hoy,hr2,hheld⟩:=vL hS (fun _ h=>h) t' hrd hva
        have hr2:u2= []:=hr2
        subst hr2
        rw[List.append_nil]at hu12
        rw[←hu12]at hoy
        have hoff:off=0:=by omega
        subst hoff
        have hus':us.take 0++x.cells.toList++us.drop (0+t.size)=x.cells.toList:=by
         rw[List.take_zero,List.nil_append,List.drop_of_length_le (by omega),List.append_nil]
        rw[hus']at hrow
        have hby:∀b' ∈ by',∃l2 ∈ ls,μ.has l2 b':=hheld.has
        have hnl:∀l2 ∈ ls,l2≠l:=fun l2 h e=>hl0 (e▸h)
        have hbyb:∀b' ∈ by',¬μ.has l b':=by
         intro b' hb' hh
         obtain⟨l2,h2,hh2⟩:=hby b' hb'
         obtain⟨o2,ho2⟩:=hheld.live l2 h2
         exact hnl l2 h2 (hS.inj l2 l o2 _ b' ho2 ho hh2 hh)
        have hsub:=eu.drops ls af
        have hob:∀m,((af.drops ls).putObj l (some (.arr e t' (xs.set i y)))).obj m=if m=l then some (.arr e t' (xs.set i y))else(af.drops ls).obj m:=fun m=>nN l _ m
        have ha:br (aO C.A μ af) w W:=⟨by omega,fun k hk _=>hother k fun e=>by subst e;exact hk.2 l _ ho (.inl hbk)⟩
        refine⟨_,h,hK.trans hkeep,⟨μ.v,fun m b'=>if m=l then(μ.x l b'∨b' ∈ by')else μ.x m b'⟩, ?_⟩
        refine hS.renew (N:=fun m=>m=l) (d:=none) (u:=undef) (by simpa [AF.putObj]using hsub.len) (by simpa [AF.putObj]using hsub.lk) (fun d' e=>by cases e) (by omega) ha ?_ ?_ ?_ ?_ ?_
        ·rintro m b' rfl _ hh
         have hh:μ.has m b'∨b' ∈ by':=by
          rcases hh with hh|hh
          ·exact .inl (.inl hh)
          ·simp only[if_true]at hh
           exact hh.imp (fun h=>.inr h) (fun h=>h)
         rcases hh with hh|hh
         ·exact⟨by rw[hWs];exact dY hS ho hh,.inr ⟨m,_,ho,fun _ _=>rfl,hh⟩⟩
         ·obtain⟨l2,h2,hh2⟩:=hby b' hh
          obtain⟨o2,ho2⟩:=hheld.live l2 h2
          refine⟨by rw[hWs];exact dY hS ho2 hh2,.inr ⟨l2,o2,ho2,fun o ho'=> ?_,hh2⟩⟩
          rw[hob,if_neg (hnl l2 h2),vN ls h2]at ho'
          cases ho'
        ·rintro m m' b' rfl rfl _ _ _ _;rfl
        ·intro m o hm hne
         rw[hob,if_neg hne]at hm
         obtain⟨o0,ho0,hs0⟩:=hsub.objO hm
         refine⟨rfl,by funext b';exact if_neg hne,fun b' hb'=>hother b' fun e=> ?_,⟨o0,ho0,hs0⟩,fun _ _=>rfl⟩
         subst e
         exact hne (hS.inj m l o0 _ b' ho0 ho hb' (.inl hbk))
        ·rintro hk1 _ m o hm rfl
         rw[hob,if_pos rfl]at hm
         cases hm
         have hmono:∀(z:t'.T) uz bz,(∀b' ∈ bz,b'≠b)→bm P (aO C.A μ af) w t' z uz bz→bm P (aO C.A ⟨μ.v,fun m' b'=>if m'=m then(μ.x m b'∨b' ∈ by')else μ.x m' b'⟩ ((af.drops ls).putObj m (some (.arr e t' (xs.set i y))))) W t' z uz bz:=
          fun z uz bz hz ho=>bm.mono t' ho ha hk1 fun b' hb'=>hother b' (hz b' hb')
         refine yN (bs:=b1++by'++b2) (by simpa using hrow y) (hset y _ by' (fun z uz bz hz ho=>hmono z uz bz (fun b' hb'=>hnb b' ?_) ho) (hmono y _ by' (fun b' hb' e=>hbyb b' hb' (by rw[e];exact .inl hbk)) hoy)) ?_ ?_
         ·rw[hbe]
          rcases List.mem_append.1 (hz b' hb')with h|h<;>simp[h]
         ·have hbyn:=hheld.nodup (List.nodup_cons.1 hndl).2
          rw[hbe]at hnd
          have h12:=List.nodup_append.1 hnd
          have h11:=List.nodup_append.1 h12.1
          have hout:∀b' ∈ by',b' ∉ bs:=fun b' hb' hm=>hbyb b' hb' (.inr (hbs b' hm).2)
          refine List.nodup_append.2 ⟨List.nodup_append.2 ⟨h11.1,hbyn, ?_⟩,h12.2.1, ?_⟩
          ·rintro p hp q hq rfl
           exact hout p hq (by rw[hbe];simp[hp])
          ·rintro p hp q hq rfl
           rcases List.mem_append.1 hp with hp|hp
           ·exact h12.2.2 p (by simp[hp]) p hq rfl
           ·exact hout p hp (by rw[hbe];simp[hq])
         ·intro b' hb'
          have hcase:b' ∈ bs∨b' ∈ by':=by
           rw[hbe]
           rcases List.mem_append.1 hb' with h|h
           ·rcases List.mem_append.1 h with h|h
            ·exact .inl (by simp[h])
            ·exact .inr h
           ·exact .inl (by simp[h])
          rcases hcase with h|h
          ·exact⟨(hbs b' h).1,by show(if _ then _ else _);rw[if_pos rfl];exact .inl (hbs b' h).2⟩
          ·exact⟨fun e=>hbyb b' h (.inl e),by show(if _ then _ else _);rw[if_pos rfl];exact .inr h⟩
        ·intro _ _ tt z hz
         have hz:(af.drops ls).tmps[tt]? =some z:=hz
         rcases hsub.tmps tt z hz with h|h
         ·exact .inl h
         ·exact .inr (.inr ⟨by simp,h,fun _ _=>rfl⟩)
       ·cases h
      ·cases h
     ·split at h
      ·cases h
      ·rename_i hno
       have hno:v.owns=false:=by simpa using hno
       split at h
       ·rename_i cc _
        split at h
        ·rename_i y hy
         obtain⟨u',us0,hxu,hvc,hr0⟩:=hva
         have hr0:us0= []:=hr0
         subst hr0
         have ht1:t.size=1:=by simpa using hsz.symm
         have hcno:cc.owns=false:=yh hvs hno cc (by simp)
         have hoy:=QY hS t' hcr hy hvc hcno
         have hus':us.take off++x.cells.toList++us.drop (off+t.size)=us.take off++ [u']++us.drop (off+1):=by rw[hxu,ht1]
         rw[hus']at hrow
         refine⟨_,h,hK.trans hkeep,μ,hS.stored ho hbk hWs hother (fun ha=> ?_)⟩
         have hmono:∀(z:t'.T) uz bz,(∀b' ∈ bz,b' ∈ bs)→bm P (aO C.A μ af) w t' z uz bz→bm P (aO C.A μ af) W t' z uz bz:=
          fun z uz bz hz ho=>bm.mono t' ho ha (fun _ _ h=>h) fun b' hb'=>hother b' (hnb b' (hz b' hb'))
         refine yN (bs:=b1++bx++b2) (by simpa using hrow y) (hset y _ bx (fun z uz bz hz ho=>hmono z uz bz (fun b' hb'=> ?_) ho) (hmono y _ bx (fun b' hb'=>by rw[hbe];simp[hb']) hoy)) (by rw[←hbe];exact hnd) (by rw[←hbe];exact hbs)
         rw[hbe]
         rcases List.mem_append.1 (hz b' hb')with h|h<;>simp[h]
        ·cases h
       ·cases h
   ·cases h
  ·cases h
 ·cases h
theorem a8.fill(hS:a8 P C μ af a w)(l:Nat):∃μ',a8 P C μ' (af.fill l) a w:=by
 unfold AF.fill
 split
 ·rename_i e t xs i x off d0 ho
  split
  ·rename_i z l' d hrd
   split
   ·rename_i hh
    obtain⟨rfl,hdl⟩:=hh
    obtain⟨u1,u2,bs,hu,hoc,hr2,hheld⟩:=vL hS (fun _ h=>h) (.own e t) hrd (us:=[μ l']) ⟨_,[],rfl,rfl,rfl⟩
    have hr2:u2= []:=hr2
    subst hr2
    rw[List.append_nil]at hu
    subst hu
    obtain⟨v,cells,bs',hv,hown,hrows,hbs⟩:=hoc
    simp at hv
    subst hv
    have hnd:=hheld.nodup (by simp;exact fun e=>hdl e.symm)
    rw[hbs]at hnd
    have hnd':=List.nodup_append.1 hnd
    obtain⟨od,hod⟩:=hheld.live d (by simp)
    have hin:∀b ∈ bs',μ.has l' b∨μ.has d b:=by
     intro b hb
     obtain⟨l2,h2,hh2⟩:=hheld.has b (by rw[hbs];exact List.mem_append.2 (.inr hb))
     simp at h2
     rcases h2 with rfl|rfl
     ·exact .inl hh2
     ·exact .inr hh2
    have hne':∀b ∈ bs',ck (μ l')≠some b:=fun b hb e=>hnd'.2.2 b (by simp[e]) b hb rfl
    have hsub:=eu.drop af d
    have hob:∀m,((af.drop d).putObj l' (some (.arr e t z))).obj m=if m=l' then some (.arr e t z)else(af.drop d).obj m:=fun m=>nN l' _ m
    let ν:Nm:=⟨μ.v,fun m b=>if m=l' then(μ.x l' b∨μ.has d b)else μ.x m b⟩
    have νx:∀b,ν.x l' b↔μ.x l' b∨μ.has d b:=fun b=>by show(if l'=l' then _ else _)↔_;rw[if_pos rfl]
    refine⟨ν, ?_⟩
    refine hS.renew (N:=fun m=>m=l') (d:=none) (u:=undef) (by simpa [AF.putObj]using hsub.len) (by simpa [AF.putObj]using hsub.lk) (fun d' e=>by cases e) (Nat.le_refl _) (br.refl _ _) ?_ ?_ ?_ ?_ ?_
    ·rintro m b rfl _ hh
     have hh:μ.has m b∨μ.has d b:=by
      rcases hh with hh|hh
      ·exact .inl (.inl hh)
      ·exact((νx b).1 hh).imp (fun h=>.inr h) (fun h=>h)
     rcases hh with hh|hh
     ·exact⟨dY hS ho hh,.inr ⟨m,_,ho,fun _ _=>rfl,hh⟩⟩
     ·refine⟨dY hS hod hh,.inr ⟨d,od,hod,fun o ho'=> ?_,hh⟩⟩
      rw[hob,if_neg hdl,kX,if_pos rfl]at ho'
      cases ho'
    ·rintro m m' b rfl rfl _ _ _ _;rfl
    ·intro m o hm hne
     rw[hob,if_neg hne]at hm
     obtain⟨o0,ho0,hs0⟩:=hsub.objO hm
     exact⟨rfl,by funext b;exact if_neg hne,fun _ _=>rfl,⟨o0,ho0,hs0⟩,fun _ _=>rfl⟩
    ·rintro hk1 _ m o hm rfl
     rw[hob,if_pos rfl]at hm
     cases hm
     refine yN (bs:=bs') hown (hrows.mono fun z uz bz _ h=>bm.mono t h (br.refl _ _) hk1 fun _ _=>rfl) hnd'.2.1 fun b hb=>⟨hne' b hb,(νx b).2 ?_⟩
     rcases hin b hb with h|h
     ·exact .inl (h.resolve_left (hne' b hb))
     ·exact .inr h
    ·intro _ _ tt y hy
     have hy:(af.drop d).tmps[tt]? =some y:=hy
     rcases hsub.tmps tt y hy with h|h
     ·exact .inl h
     ·exact .inr (.inr ⟨by simp,h,fun _ _=>rfl⟩)
   ·exact⟨μ,hS⟩
  ·exact⟨μ,hS⟩
 ·exact⟨μ,hS⟩
theorem a8.fillV(hS:a8 P C μ af a w)(v:AV):∃μ',a8 P C μ' (af.fillV v) a w:=by
 cases v with
 |own l=>exact hS.fill l
 |_=>exact⟨μ,hS⟩
theorem YF {ok:Nat→Prop}:∀ {xs:List Int} {cs:List Value},cC P ok w (.int .u8) xs cs→cs=xs.map (Value.int .u8)
 | [],_,h=>h
 |x::xs,_,h=>by
  obtain⟨u1,u2,rfl,h1,h2⟩:=h
  have h1:u1= [Value.int .u8 x]:=h1
  rw[h1,YF h2];rfl
theorem abj(hT:cH P Γ E=true)(hS:a8 P C μ af a w){s t:TypeId}{v:AV}{u:Value}{K:AV→Option R}{r:R}(hv:VA P μ (aO C.A μ af) w v u)(h:Oc Γ E af s t v K=some r):
  ∃z,K z=some r∧AM P μ (aO C.A μ af) w (convert s t u) z:=by
 unfold Oc at h
 split at h
 ·rename_i e hs ht he
  split at h
  ·rename_i hee
   split at h
   ·rename_i xs hx
    refine⟨_,h, ?_⟩
    have hel:=ma hT hs he
    have hus:P.underlying s=some (.slice e):=by
     unfold KA at hel
     simp only[Bool.and_eq_true]at hel
     have h1:=hel.1.1.1.1.1
     split at h1
     ·rename_i e' hu;simp at h1;subst h1;exact hu
     ·cases h1
    have hue:P.underlying e=some (.int .u8):=by
     have:=d7 (cN hT hee)
     simp only[lr]at this
     split at this
     ·rename_i k2 hu;simp at this;subst this;exact hu
     ·cases this
    have hud:P.underlying t=some .string:=by
     have:=d7 (cN hT ht)
     simp only[lr]at this
     split at this
     ·rename_i hu;exact hu
     ·cases this
    obtain⟨news,hr,⟨ad,c,rfl,hc⟩|⟨c,rfl,rfl⟩⟩:=abd hS rfl hx hv
    ·have hn:=YF hr
     subst hn
     have hl:(loadCells ad (xs:List Int).length).run P w= .ok ((xs:List Int).map (Value.int .u8)).toArray w:=by
      have:=run_loadCells_list (P:=P) w ad ((xs:List Int).map (Value.int .u8)) hc
      simpa using this
     have hrun:=run_convert_bytes_string (P:=P) w s t e (some ad) (xs:List Int).length c hus hue hud
     rw[run_bytesToString w ad _ c xs hl,foldl_push_bytes]at hrun
     exact⟨_,hrun,pg.2 (by simp[ByteArray.empty,ByteArray.emptyWithCapacity];rfl)⟩
    ·have hrun:=run_convert_bytes_nil (P:=P) w s e hus hue 0 c t hud
     exact⟨_,hrun,pg.2 rfl⟩
   ·cases h
  ·cases h
 ·cases h
theorem Q0 {ok:Nat→Prop}{v:Value}:∀(t:Ty) {x:t.T} {us:List Value} {bs:List Nat} {off:Nat},jB P ok w v t off x us bs→us[off]? =some v
 | .own e t,x,us,bs,off,h=>by
   cases off with
   |zero=>obtain⟨rfl,_⟩:=h;rfl
   |succ n=>exact(h:False).elim
 | .pair a b,x,us,bs,off,h=>by
   simp only[jB]at h
   split at h
   ·obtain⟨u1,u2,b1,b2,rfl,_,h1,_⟩:=h
    have h1:=Q0 a h1
    have hlt:=(List.getElem?_eq_some_iff.1 h1).1
    rw[List.getElem?_append_left hlt];exact h1
   ·rename_i hn
    obtain⟨u1,u2,b1,b2,rfl,_,h1,h2⟩:=h
    have hl:=(bm.len a h1).1
    rw[List.getElem?_append_right (by omega),hl]
    exact Q0 b h2
 | .int _,_,_,_,_,h=>(h:False).elim
 | .bool,_,_,_,_,h=>(h:False).elim
 | .str,_,_,_,_,h=>(h:False).elim
 | .unit,_,_,_,_,h=>(h:False).elim
 | .list _,_,_,_,_,h=>(h:False).elim
 | .ptr _,_,_,_,_,h=>(h:False).elim
 | .fn _ _,_,_,_,_,h=>(h:False).elim
 | .box _,_,_,_,_,h=>(h:False).elim
 | .nptr _,_,_,_,_,h=>(h:False).elim
 | .nil,_,_,_,_,h=>(h:False).elim
theorem Ov {ok:Nat→Prop}{v:Value}{t:Ty}{off:Nat}:∀ {xs:List t.T} {i:Nat} {cs:List Value} {bs:List Nat},jO P ok w v t off xs i cs bs→cs[i*t.size+off]? =some v
 | [],_,_,_,h=>(h:False).elim
 |x::xs,0,cs,bs,h=>by
  obtain⟨u1,u2,b1,b2,rfl,_,h1,_⟩:=h
  have h1:=Q0 t h1
  have hlt:=(List.getElem?_eq_some_iff.1 h1).1
  rw[Nat.zero_mul,Nat.zero_add,List.getElem?_append_left hlt];exact h1
 |x::xs,i+1,cs,bs,h=>by
  obtain⟨u1,u2,b1,b2,rfl,_,h1,h2⟩:=h
  have hl:=(bm.len t h1).1
  have:=Ov h2
  rw[Nat.add_mul,Nat.one_mul,List.getElem?_append_right (by omega),hl,show i*t.size+t.size+off-t.size=i*t.size+off from by omega]
  exact this
theorem aeI(hT:cH P Γ E=true)(hK:aG C.Ch w0 w)(hS:a8 P C μ af a w){d:Option Tmp}(hV:∀d',d=some d'→C.V d'=none){id:TypeId}{p:AV}{u:Value}{K:AF→Option R}{r:R}(hp:VA P μ (aO C.A μ af) w p u)
  (h:acP Γ af d id p K=some r):∃z,(Instr.loadAt id u).run P w= .ok z w∧PK P C w0 K r (a.put d z) w:=by
 unfold acP at h
 split at h
 ·rename_i l i k off d
  split at h
  ·rename_i e t xs t1 ho ht1
   have hc:=cN hT ht1
   split at h
   ·rename_i e2 t2 hat
    split at h
    rotate_left
    ·cases h
    rename_i x hx
    split at h
    ·rename_i ys hys
     split at h
     ·rename_i hh
      obtain⟨rfl,hs1,hag,hlock,hdl,hown⟩:=hh
      split at h
      ·rename_i hh2
       obtain⟨hdn,hnr⟩:=hh2
       have hdn:af.obj d=none:=by simpa using hdn
       obtain⟨b,n,c,hb,rfl⟩:=hp
       have hbk:ck (μ l)=some b:=by rw[hb];rfl
       obtain⟨cells,hrowl,hrw⟩:=hS.objs l _ ho
       rw[if_pos hown]at hrw
       obtain⟨bs,hrows,hnd,hbs⟩:=hrw
       obtain⟨v,ys2,b1,b2,g1,g2,g3,g4⟩:=Gm hat hrows hx
       rw[hys]at g1
       obtain rfl:=Option.some.inj g1
       have hcell:=Ov g2
       have hrow':=hrowl
       obtain⟨hcl,⟨hm,_⟩|⟨g,cap,cur,hm,hb0,hg,hncap,hcm,hcs,htake⟩⟩:=hrowl
       ·rw[hb]at hm;cases hm
       rw[hb]at hm
       simp at hm
       obtain⟨rfl,hn,rfl⟩:=hm
       have hmr:MR w b (i*t.size+off) [v]:=by
        intro j u hu
        have hj:j=0:=by
         cases j with
         |zero=>rfl
         |succ j=>simp at hu
        subst hj
        simp at hu
        subst hu
        have hg':w.heap[b]? =some (.cells cur.toList.toArray e (0,0)):=by simpa using hg
        have:=Om hg' (i*t.size+off) v (by
         rw[←htake,List.getElem?_take]at hcell
         split at hcell
         ·exact hcell
         ·cases hcell)
        simpa using this
       have hrun:=gA hc hmr (by simp[hs1])
       have hpk:oX t1.isAgg [v]=v:=by rw[hag];rfl
       rw[hpk]at hrun
       refine⟨v,hrun, ?_⟩
       obtain⟨v0,dcells,bs',hv0,d2,d3,hb1⟩:=g3
       simp at hv0
       subst hv0
       have hall:=g4.nodup_iff.1 hnd
       have h12:=List.nodup_append.1 hall
       have hb1n:=h12.1
       rw[hb1]at hb1n
       have hb1m:=List.nodup_append.1 hb1n
       have hin1:∀b' ∈ b1,b' ∈ bs:=fun b' h=>g4.mem_iff.2 (List.mem_append.2 (.inl h))
       have hin2:∀b' ∈ b2,b' ∈ bs:=fun b' h=>g4.mem_iff.2 (List.mem_append.2 (.inr h))
       let ν:Nm:=⟨fun m=>if m=d then v else μ.v m,fun m b'=>if m=d then b' ∈ bs' else if m=l then b' ∈ b2 else μ.x m b'⟩
       have hld:¬l=d:=fun e=>hdl e.symm
       have νl:ν.v l=μ.v l:=if_neg hld
       have νd:ν.v d=v:=if_pos rfl
       have νxl:∀b',ν.x l b'↔b' ∈ b2:=fun b'=>by show(if l=d then _ else if l=l then _ else _)↔_;rw[if_neg hld,if_pos rfl]
       have νxd:∀b',ν.x d b'↔b' ∈ bs':=fun b'=>by show(if d=d then _ else _)↔_;rw[if_pos rfl]
       have hasl:∀b',ν.has l b'→ck (μ l)=some b'∨b' ∈ b2:=fun b' hh=>hh.imp (fun h=>by rw[νl]at h;exact h) (νxl b').1
       have hasd:∀b',ν.has d b'→b' ∈ b1:=fun b' hh=>by
        rw[hb1]
        rcases hh with hh|hh
        ·rw[νd]at hh;simp[hh]
        ·exact List.mem_append.2 (.inr ((νxd b').1 hh))
       have hob:∀m,(((af.putObj l (some (.hol e t xs i x off d))).putObj d (some (.arr e2 t2 ys))).put (some d) (.own d)).obj m=if m=d then some (.arr e2 t2 ys)else if m=l then some (.hol e t xs i x off d)else af.obj m:=fun m=>by
        rw[KD,nN,nN]
       refine⟨_,h,hK,ν, ?_⟩
       refine hS.renew (N:=fun m=>m=l∨m=d) (d:=some d) (u:=v) (by simp[AF.put,AF.putObj]) rfl (fun d' e=>by cases e;exact hV _ rfl) (Nat.le_refl _) (br.refl _ _) ?_ ?_ ?_ ?_ ?_
       ·rintro m b' (rfl|rfl) _ hh
        ·have hh:μ.has m b':=(hasl b' hh).imp (fun h=>h) (fun h=>(hbs b' (hin2 b' h)).2)
         exact⟨dY hS ho hh,.inr ⟨m,_,ho,fun _ _=>.inl rfl,hh⟩⟩
        ·have hh:μ.has l b':=.inr (hbs b' (hin1 b' (hasd b' hh))).2
         exact⟨dY hS ho hh,.inr ⟨l,_,ho,fun _ _=>.inl rfl,hh⟩⟩
       ·have sep:∀b',ν.has l b'→ν.has d b'→False:=by
         intro b' h1 h2
         have h2:=hasd b' h2
         rcases hasl b' h1 with h1|h1
         ·exact(hbs b' (hin1 b' h2)).1 h1
         ·exact h12.2.2 b' h2 b' h1 rfl
        rintro m m' b' (rfl|rfl) (rfl|rfl) _ _ h1 h2
        ·rfl
        ·exact(sep b' h1 h2).elim
        ·exact(sep b' h2 h1).elim
        ·rfl
       ·intro m o hm hne
        simp only[not_or]at hne
        rw[hob,if_neg hne.2,if_neg hne.1]at hm
        refine⟨if_neg hne.2,by funext b';show(if m=d then _ else if m=l then _ else _)=_;rw[if_neg hne.2,if_neg hne.1],fun _ _=>rfl,⟨o,hm,QW.refl o⟩,fun m' hr=>show(if m'=d then v else μ.v m')=μ.v m' from if_neg (fun e:m'=d=>yg hnr hm (e▸hr))⟩
       ·rintro hk1 _ m o hm (rfl|rfl)
        ·rw[hob,if_neg hld,if_pos rfl]at hm
         cases hm
         refine⟨cells,b2,by rw[νl];exact hrow',hx, ?_,h12.2.1,fun b' hb'=>⟨by rw[νl];exact(hbs b' (hin2 b' hb')).1,(νxl b').2 hb'⟩⟩
         rw[νd]
         exact g2.mono (br.refl _ _) hk1 fun _ _=>rfl
        ·rw[hob,if_pos rfl]at hm
         cases hm
         refine yN (bs:=bs') (by rw[νd];exact d2) (d3.mono fun z uz bz _ h=>bm.mono t2 h (br.refl _ _) hk1 fun _ _=>rfl) hb1m.2.1 fun b' hb'=>⟨fun e=> ?_,(νxd b').2 hb'⟩
         rw[νd]at e
         exact hb1m.2.2 b' (by simp[e]) b' hb' rfl
       ·intro _ _ tt z hz
        simp only[AF.put,AF.putObj]at hz
        by_cases hdt:d=tt
        ·subst hdt
         have hlt:d<af.tmps.length:=by have:=(List.getElem?_eq_some_iff.1 hz).1;simpa using this
         rw[List.getElem?_set_self hlt]at hz
         simp at hz
         subst hz
         exact .inr (.inl ⟨rfl,νd.symm⟩)
        ·rw[List.getElem?_set_ne hdt]at hz
         exact .inr (.inr ⟨fun e=>hdt (by cases e;rfl),hz,fun m hr=>show(if m=d then v else μ.v m)=μ.v m from if_neg (fun e:m=d=>AN hnr hz (e▸hr))⟩)
      ·cases h
     ·cases h
    ·cases h
   ·cases h
  ·cases h
 ·cases h
theorem YG:∀(L:List Nat) (os:List (Nat×AO)) (l:Nat),lk (Fh os L) l=if l ∈ L then none else lk os l
 | [],_,_=>by simp[Fh]
 |m::r,os,l=>by
  simp only[Fh]
  rw[YG r,vK]
  by_cases h1:l ∈ r
  ·simp[h1]
  ·by_cases h2:l=m
   ·simp[h2]
   ·simp[h1,h2]
theorem a8.called {ok:Nat→Prop}(hS:a8 P C μ af a w){d:Option Tmp}(hV:∀d',d=some d'→C.V d'=none){w':World}{bs b12 L T:List Nat}{af1:AF}{news:List (Nat×AO)}{u:Value}{val:AV}
  (hsub:eu af1 af) (hgone:∀l ∈ L,l ∉ T→af1.obj l=none) (hlive:∀l ∈ L,∃o,af.obj l=some o) (hbs:∀b ∈ bs,∃l ∈ L,μ.has l b) (hkp:aG (· ∈ bs) w w')
  (h12:∀b ∈ b12,(b ∈ bs∨w.heap.size≤b)∧b<w'.heap.size) (hT:∀l ∈ T,l ∈ aW news) (hnew:∀l ∈ aW news,l ∈ T∨af1.noref l=true)
  (hok:∀b,ok b→(aO C.A μ af b∨b ∈ bs∨w.heap.size≤b)∧b ∉ b12)
  (hi:d8 P ok w' news b12 fun μ' ok'=>VA P μ' ok' w' val u∧∀l ∈ T,μ'.v l=μ.v l):
  ∃μ',a8 P C μ' (AF.put {af1 with objs:=news++Fh af1.objs T} d val) (a.put d u) w':=by
 obtain⟨ν,f,g,i⟩:=hi
 have hob:∀l,(AF.put {af1 with objs:=news++Fh af1.objs T} d val).obj l=match lk news l with|some o=>some o|none=>if l ∈ T then none else af1.obj l:=by
  intro l
  rw[KD]
  show lk (news++Fh af1.objs T) l=_
  rw[aa9,YG]
  rfl
 refine⟨⟨fun l=>if l ∈ aW news then ν.v l else μ.v l,fun l b=>if l ∈ aW news then ν.x l b else μ.x l b⟩, ?_⟩
 generalize haf':AF.put {af1 with objs:=news++Fh af1.objs T} d val=af' at hob
 generalize hμ':(⟨fun l=>if l ∈ aW news then ν.v l else μ.v l,fun l b=>if l ∈ aW news then ν.x l b else μ.x l b⟩:Nm)=μ'
 have ev:∀l,l ∈ aW news→μ'.v l=ν.v l∧μ'.x l=ν.x l:=by
  intro l hl
  subst hμ'
  exact⟨if_pos hl,by funext b;exact if_pos hl⟩
 have en:∀l,l ∉ aW news→μ'.v l=μ.v l∧μ'.x l=μ.x l:=by
  intro l hl
  subst hμ'
  exact⟨if_neg hl,by funext b;exact if_neg hl⟩
 have qa:∀l b,l ∈ aW news→μ'.has l b→ν.has l b:=by
  intro l b hl h
  unfold Nm.has at h ⊢
  rwa [(ev l hl).1,(ev l hl).2]at h
 have hasO:∀l b,l ∉ aW news→(μ'.has l b↔μ.has l b):=by
  intro l b hl
  unfold Nm.has
  rw[(en l hl).1,(en l hl).2]
 have old:∀l o,af'.obj l=some o→l ∉ aW news→l ∉ T∧af1.obj l=some o∧l ∉ L:=by
  intro l o ho hl
  rw[hob,UX hl]at ho
  simp only at ho
  split at ho
  ·cases ho
  ·rename_i hlT
   exact⟨hlT,ho,fun hL=>by rw[hgone l hL hlT]at ho;cases ho⟩
 have new:∀l o,af'.obj l=some o→l ∈ aW news→lk news l=some o:=by
  intro l o ho hl
  obtain⟨o',h1⟩:=YB hl
  rw[hob,h1]at ho
  rw[h1];exact ho
 have okS':∀b,ok b→aO C.A μ' af' b:=by
  intro b hb
  obtain⟨h1,h2⟩:=hok b hb
  refine⟨?_,fun l o ho hh=> ?_⟩
  ·rcases h1 with h|h|h
   ·exact h.1
   ·obtain⟨l,hl,hh⟩:=hbs b h
    obtain⟨o,ho⟩:=hlive l hl
    exact(hS.wr l o b ho hh).2.1
   ·exact(hS.fr b h).1
  ·by_cases hl:l ∈ aW news
   ·exact h2 (g l hl b (qa l b hl hh))
   ·obtain⟨_,ho1,hnL⟩:=old l o ho hl
    obtain⟨o0,ho0⟩:=hsub.obj ho1
    have hh:=(hasO l b hl).1 hh
    rcases h1 with h|h|h
    ·exact h.2 l o0 ho0 hh
    ·obtain⟨l',hl',hh'⟩:=hbs b h
     obtain⟨o',ho'⟩:=hlive l' hl'
     have:=hS.inj l l' o0 o' b ho0 ho' hh hh'
     subst this
     exact hnL hl'
    ·have:=dY hS ho0 hh;omega
 obtain⟨⟨hval,hTv⟩,hOA⟩:=f μ' (aO C.A μ' af') ev okS'
 have hnref:∀l,l ∈ aW news→∀x:AV,(∀m,af1.noref m=true→¬jD m x)→jD l x→μ'.v l=μ.v l:=by
  intro l hl x hx hr
  rcases hnew l hl with h|h
  ·exact hTv l h
  ·exact absurd hr (hx l h)
 have hlen:af'.tmps.length=af.tmps.length:=by
  rw[←haf',←hsub.len];cases d<;>simp[AF.put]
 refine hS.renew (N:=fun l=>l ∈ aW news) hlen (by rw[←haf',←hsub.lk];cases d<;>rfl) hV hkp.size (hkp.agree fun b hb h1 h2=> ?_) ?_ ?_ ?_ ?_ ?_
 ·obtain⟨l,hl,hh⟩:=hbs b h2
  obtain⟨o,ho⟩:=hlive l hl
  exact h1.2 l o ho hh
 ·intro l b hl _ hh
  obtain⟨h1,h2⟩:=h12 b (g l hl b (qa l b hl hh))
  refine⟨h2,h1.symm.imp id fun h=> ?_⟩
  obtain⟨l',hl',hh'⟩:=hbs b h
  obtain⟨o',ho'⟩:=hlive l' hl'
  refine⟨l',o',ho',fun o ho=> ?_,hh'⟩
  exact Classical.byContradiction fun hn=>(old l' o ho hn).2.2 hl'
 ·intro l l' b hl hl' _ _ hh hh'
  exact i l hl l' hl' b (qa l b hl hh) (qa l' b hl' hh')
 ·intro l o ho hl
  obtain⟨hlT,ho1,hnL⟩:=old l o ho hl
  obtain⟨o0,ho0,hso⟩:=hsub.objO ho1
  refine⟨(en l hl).1,(en l hl).2,fun b hb=>hkp.block b (dY hS ho0 hb) fun hm=> ?_,⟨o0,ho0,hso⟩,fun m hm=> ?_⟩
  ·obtain⟨l',hl',hh'⟩:=hbs b hm
   obtain⟨o',ho'⟩:=hlive l' hl'
   have:=hS.inj l l' o0 o' b ho0 ho' hb hh'
   subst this
   exact hnL hl'
  ·by_cases hml:m ∈ aW news
   ·rcases hnew m hml with h|h
    ·exact hTv m h
    ·exact absurd hm (yg h ho1)
   ·exact(en m hml).1
 ·intro _ _ l o ho hl
  exact hOA _ (Da (new l o ho hl))
 ·intro _ _ t x hx
  have step:∀x,af1.tmps[t]? =some x→x= .junk∨(af.tmps[t]? =some x∧∀l,jD l x→μ'.v l=μ.v l):=by
   intro x hx
   rcases hsub.tmps t x hx with h|h
   ·exact .inl h
   ·refine .inr ⟨h,fun l hr=> ?_⟩
    by_cases hl:l ∈ aW news
    ·exact hnref l hl x (fun m hm=>AN hm hx) hr
    ·exact(en l hl).1
  rw[←haf']at hx
  cases d with
  |none=>exact(step x hx).imp id fun h=>.inr ⟨by simp,h⟩
  |some d=>
   simp only[AF.put]at hx
   by_cases hdt:d=t
   ·subst hdt
    have hlt:d<af1.tmps.length:=by have:=(List.getElem?_eq_some_iff.1 hx).1;simpa using this
    rw[List.getElem?_set_self hlt]at hx
    cases hx
    exact .inr (.inl ⟨rfl,hval⟩)
   ·rw[List.getElem?_set_ne hdt]at hx
    exact(step x hx).imp id fun h=>.inr ⟨fun e=>hdt (by cases e;rfl),h⟩
theorem U2 {G:Gl}(hσ:kW G P C w0 σ)(hK:aG C.Ch w0 w)(hS:a8 P C μ af a w){d:Option Tmp}(hV:∀d',d=some d'→C.V d'=none){f:FuncId}{s:ai}(hs:FnOK G P f s){args:List AV}{vals:List Value}(hv:bE P μ (aO C.A μ af) w args vals){K:AF→Option R}{r:R}
  (h:Uq σ af d s args K=some r):Calls P f vals.toArray w fun e w'=>∃v,e= .returned v∧PK P C w0 K r (a.put d v) w':=by
 unfold Uq at h
 split at h
 ·cases h
 ·rename_i x L hx
  split at h
  ·cases h
  ·rename_i hc
   simp only[Bool.not_eq_true,Bool.or_eq_false_iff,Bool.not_eq_false',Bool.and_eq_false_iff]at hc
   obtain⟨⟨⟨hlk,hndL⟩,hap⟩,hlend⟩:=hc
   rw[ky]at hndL
   have hlive:=Fq hS (hσ.at hK hS) hx hv
   split at h
   ·cases h
   ·rename_i y hy
    have hread:∃ok2:Nat→Prop,(∀b,ok2 b→∀l ∈ L,¬μ.has l b)∧((∀b,ok2 b→aO C.A μ af b)∨s.lends=true)∧GW G ok2 w∧∃bs,nF P ok2 w s.a x vals bs∧jF μ af L bs:=by
     rcases hlend with h|h
     ·refine⟨aO C.A μ af,fun b hb l hl hh=> ?_,.inl fun _ h=>h,hσ.gw hK hS,uG hS (hσ.at hK hS) (fun _ h=>h) s.a hx hv (YD s.a h)⟩
      obtain⟨o,ho⟩:=hlive l hl
      exact hb.2 l o ho hh
     ·exact⟨tp C.A μ af L,fun b hb=>hb.2,.inr (by simpa using h),(hσ.gw hK hS).mono (vM hlive),uG hS (hσ.at hK hS) (vM hlive) s.a hx hv (KG hS hlive s.a hap)⟩
    obtain⟨ok2,hoL,hoS,hgw,bs,har,hheld⟩:=hread
    have hnd:=hheld.nodup hndL
    refine(hs.2 w ok2 vals x y bs hgw har hnd (fun b hb=> ?_) hy).mono ?_
    ·obtain⟨l,hl,hh⟩:=hheld.has b hb
     obtain⟨o,ho⟩:=hlive l hl
     exact⟨fun h=>hoL b h l hl hh,dY hS ho hh⟩
    rintro e w' ⟨v,rs,b1,b2,rfl,hkp,rfl,hn12,h12,hres,hmut⟩
    refine⟨_,rfl, ?_⟩
    have hkW:aG C.Ch w w':=hkp.mono fun b _ hb=>by
     obtain⟨l,hl,hh⟩:=hheld.has b hb
     obtain⟨o,ho⟩:=hlive l hl
     refine(hS.chg.resolve_left fun h=> ?_) b (hS.wr l o b ho hh).1
     rcases hlk with h'|h'
     ·rw[h]at h';cases h'
     ·have:L= []:=by simpa using h'
      subst this;cases hl
    have hbm:=List.nodup_append.1 hn12
    have toS:∀b,((ok2 b∨b ∈ bs∨w.heap.size≤b)∧b ∉ b1++b2)→(∀b,ok2 b→aO C.A μ af b)→(aO C.A μ af b∨b ∈ bs∨w.heap.size≤b)∧b ∉ b1++b2:=fun b hb h=>⟨hb.1.imp (h b) id,hb.2⟩
    have hres':nF P (fun b=>(aO C.A μ af b∨b ∈ bs∨w.heap.size≤b)∧b ∉ b1++b2) w' s.r (BF s.r s.m y) rs b1:=by
     rcases hoS with h|h
     ·exact nF.okm s.r hres fun b hb=>toS b hb h
     ·simp only[ai.lends,Bool.and_eq_true]at h
      exact nF.flatO s.r h.1 hres
    simp only at h
    split at h
    ·rename_i hm
     split at h
     ·rename_i hh
      simp only[Bool.and_eq_true,List.all_eq_true]at hh
      obtain⟨⟨hnl,hdn⟩,hall⟩:=hh
      rw[ky]at hnl
      have hi:=(MD (d.getD 0) af.tmps.length s.r 0 (nF.okm s.r hres' (ok':=fun b=>(aO C.A μ af b∨b ∈ bs∨w.heap.size≤b)∧b ∉ b1) fun b hb=>⟨hb.1,fun h=>hb.2 (List.mem_append.2 (.inl h))⟩) hbm.1 hnl).mono (Q':=fun μ' ok'=>VA P μ' ok' w' (Ff (d.getD 0) af.tmps.length s.r (BF s.r s.m y)) (if oW s.r then rs.headD undef else .tuple rs.toArray)∧∀l ∈ ([]:List Nat),μ'.v l=μ.v l) fun μ' ok' _ h=>⟨Fs h,fun l hl=>by cases hl⟩
      obtain⟨μ',hS'⟩:=hS.called (T:=[]) (L:=L) (af1:=af.drops L) hV (eu.drops L af) (fun l hl _=>vN L hl) hlive hheld.has hkp (fun b hb=>h12 b (List.mem_append.2 (.inl hb))) (fun l hl=>by cases hl) (fun l hl=>.inr (hall l hl).1) (fun b hb=>hb) hi
      exact⟨_,h,hK.trans hkW,μ',hS'⟩
     ·cases h
    ·rename_i hm
     have hm:s.m≠ .unit:=by simpa using hm
     have hmut':kS P (fun b=>(aO C.A μ af b∨b ∈ bs∨w.heap.size≤b)∧b ∉ b1++b2) w' s.a s.m (UA s.r s.m s.row y) vals b2:=by
      rcases hoS with h|h
      ·exact kS.okm s.a s.m (hmut hm) fun b hb=>toS b hb h
      ·simp only[ai.lends,Bool.and_eq_true]at h
       exact kS.flatO s.a s.m h.2 (hmut hm)
     split at h
     ·cases h
     ·rename_i back hback
      split at h
      ·rename_i hh
       simp only[Bool.and_eq_true,Bool.or_eq_true,List.all_eq_true]at hh
       obtain⟨⟨hnl,hTn⟩,hall⟩:=hh
       rw[ky]at hnl
       have hnl':=hnl
       rw[gB]at hnl'
       have hnl2:=List.nodup_append.1 hnl'
       have i1:=MD (d.getD 0) af.tmps.length s.r 0 hres' hbm.1 hnl2.1
       have i2:=Iy (d.getD 0) af.tmps.length s.a s.m hback hv hmut' hbm.2.1 hnl2.2.1
       have hi:=(d8.app i1 i2 hnl' hn12).mono (Q':=fun μ' ok'=>VA P μ' ok' w' (Ff (d.getD 0) af.tmps.length s.r (BF s.r s.m y)) (if oW s.r then rs.headD undef else .tuple rs.toArray)∧∀l ∈ Fg s.a args,μ'.v l=μ.v l) fun μ' ok' _ h=>⟨Fs h.1,h.2⟩
       obtain⟨μ',hS'⟩:=hS.called (T:=Fg s.a args) (L:=L) (af1:=af.drops (L.filter fun l=> !(Fg s.a args).contains l)) hV (eu.drops _ af) (fun l hl hlT=>vN _ (by simp[hl,hlT])) hlive hheld.has hkp h12 (fun l hl=>by simpa using hTn l hl) (fun l hl=>by
        rcases hall l hl with h|h
        ·exact .inl (by simpa using h)
        ·exact .inr h.1.2) (fun b hb=>hb) hi
       exact⟨_,h,hK.trans hkW,μ',hS'⟩
      ·cases h
end
end Go.Proofs.YtnambbcafhnhpaaGreatDoor
