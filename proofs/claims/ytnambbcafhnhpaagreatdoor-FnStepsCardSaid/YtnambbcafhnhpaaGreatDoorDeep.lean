import Derived.Test.YtnambbcafhnhpaaGreatDoorOp
namespace Go.Proofs.YtnambbcafhnhpaaGreatDoor
open Go.RowKit
set_option linter.unusedVariables false
set_option linter.unusedSimpArgs false
section
variable {P:Program} {C:Cx} {μ:Nm} {af:AF} {a:Act} {w w0:World} {Γ:cD} {E:bR} {R:Type} {σ:FuncId→Option ai}
def BK(μ:Nm)(d:Nat)(m:Value)(bs:List Nat):Nm:=⟨fun l=>if l=d then m else μ l,fun l b=>if l=d then b ∈ bs else μ.x l b⟩
theorem acV(μ:Nm)(d:Nat)(m:Value)(bs:List Nat)(b:Nat):(BK μ d m bs).has d b↔(ck m=some b∨b ∈ bs):=by simp[BK,Nm.has]
theorem a8.newArrX(hS:a8 P C μ af a w){af1:AF}(hsub:eu af1 af){d:Nat}(hn:af1.obj d=none)(hd:C.V d=none)(hnr:af1.noref d=true){e:TypeId}{t:Ty}{xs:List t.T}{cells:List Value}{v':Value}{w':World}{row:Option Nat}{bs:List Nat}
  (hg:w.grownBy w' row) (hrow:∀b,row=some b→∃l o,af.obj l=some o∧af1.obj l=none∧μ.has l b)
  (hown:w'.ownsRow 0 e t.size v' xs.length cells) (hv':∀b,ck v'=some b→w.heap.size≤b∨row=some b)
  (hbs:∀b ∈ bs,ck v'≠some b∧∃l o,af.obj l=some o∧af1.obj l=none∧μ.has l b) (hnd:bs.Nodup)
  (hrows:∀ok',(∀b,b<w.heap.size→aO C.A μ af b→ok' b)→dV (bm P ok' w' t) xs cells bs):
  a8 P C (BK μ d v' bs) ((af1.putObj d (some (.arr e t xs))).put (some d) (.own d)) (a.put (some d) v') w':=by
 have hok:∀k,k<w.heap.size→aO C.A μ af k→some k≠row:=by
  intro k _ hk e
  obtain⟨l,o,h1,_,h2⟩:=hrow k e.symm
  exact hk.2 l o h1 h2
 have hkept:∀l o b,af1.obj l=some o→μ.has l b→w'.heap[b]? =w.heap[b]? :=by
  intro l o b ho hb
  obtain⟨o2,ho2⟩:=hsub.obj ho
  refine hg.block b (dY hS ho2 hb) fun e=> ?_
  obtain⟨l',o',h1,h2,h3⟩:=hrow b e.symm
  have:=hS.inj l l' o2 o' b ho2 h1 hb h3
  subst this
  rw[h2]at ho;cases ho
 have hob:∀l,((af1.putObj d (some (.arr e t xs))).put (some d) (.own d)).obj l=if l=d then some (.arr e t xs)else af1.obj l:=fun l=>by rw[KD,nN]
 have hmu:∀l,l≠d→(BK μ d v' bs).v l=μ.v l:=fun l h=>if_neg h
 have hmx:∀l,l≠d→(BK μ d v' bs).x l=μ.x l:=fun l h=>by funext b;exact if_neg h
 refine hS.renew (N:=fun l=>l=d) (d:=some d) (u:=v') ?_ hsub.lk (fun d' e=>by cases e;exact hd) hg.size ⟨hg.size,fun b hb hlt=>hg.block b hlt (hok b hlt hb)⟩ ?_ ?_ ?_ ?_ ?_
 ·have:((af1.putObj d (some (.arr e t xs))).put (some d) (.own d)).tmps.length=af1.tmps.length:=by simp[AF.put,AF.putObj]
  rw[this];exact hsub.len
 ·rintro l b rfl _ hb
  have gone:∀ {l':Nat} {o':AO},af.obj l'=some o'→af1.obj l'=none→∀o,((af1.putObj l (some (.arr e t xs))).put (some l) (.own l)).obj l'=some o→l'=l:=by
   intro l' o' h3 h4 o2 h6
   rw[hob]at h6
   by_cases e:l'=l
   ·exact e
   ·rw[if_neg e,h4]at h6;cases h6
  rcases(acV μ l v' bs b).1 hb with hb|hb
  ·refine⟨?_,(hv' b hb).imp id fun er=> ?_⟩
   ·obtain⟨_,⟨rfl,_⟩|⟨g,cap,cur,rfl,_,hgg,_⟩⟩:=hown
    ·simp[ck]at hb
    ·simp[ck]at hb;subst hb
     exact(Array.getElem?_eq_some_iff.1 hgg).1
   ·obtain⟨l',o',h3,h4,h5⟩:=hrow b er
    exact⟨l',o',h3,gone h3 h4,h5⟩
  ·obtain⟨_,l',o',h3,h4,h5⟩:=hbs b hb
   exact⟨Nat.lt_of_lt_of_le (dY hS h3 h5) hg.size,.inr ⟨l',o',h3,gone h3 h4,h5⟩⟩
 ·rintro l l' b rfl rfl _ _ _ _;rfl
 ·intro l o' ho hl
  rw[hob,if_neg hl]at ho
  exact⟨hmu l hl,hmx l hl,fun b hb=>hkept l o' b ho hb,hsub.objO ho,fun k hr=>hmu k fun e=>yg hnr ho (e▸hr)⟩
 ·rintro h1 h2 l o' ho rfl
  rw[hob,if_pos rfl]at ho
  cases ho
  refine yN (bs:=bs) (by simpa [BK]using hown) (hrows _ h1) hnd fun b hb=>⟨?_, ?_⟩
  ·have:(BK μ l v' bs).v l=v':=if_pos rfl
   show ck ((BK μ l v' bs).v l)≠some b
   rw[this];exact(hbs b hb).1
  ·show(if l=l then b ∈ bs else μ.x l b)
   rw[if_pos rfl];exact hb
 ·intro h1 h2 tt x hx
  simp only[AF.put,AF.putObj]at hx
  by_cases hdt:d=tt
  ·subst hdt
   have hlt:d<af1.tmps.length:=by have:=(List.getElem?_eq_some_iff.1 hx).1;simpa using this
   rw[List.getElem?_set_self hlt]at hx
   simp at hx;subst hx
   refine .inr (.inl ⟨rfl, ?_⟩)
   show v'=(BK μ d v' bs).v d
   simp[BK]
  ·rw[List.getElem?_set_ne hdt]at hx
   rcases hsub.tmps tt x hx with rfl|h
   ·exact .inl rfl
   ·exact .inr (.inr ⟨fun e=>hdt (by cases e;rfl),h,fun l hl=>hmu l fun e=>AN hnr hx (e▸hl)⟩)
theorem Tx(hT:cH P Γ E=true)(hK:aG C.Ch w0 w)(hS:a8 P C μ af a w){d:Option Tmp}(hV:∀d',d=some d'→C.V d'=none){id:TypeId}{len:Nat}{parts:List (Nat×AV)}{vals:Array (Nat×Value)}{K:AF→Option R}{r:R}(hl:parts.length=vals.size)
  (hp:∀(i:Nat) f v,parts[i]? =some (f,v)→∃u,vals[i]? =some (f,u)∧VA P μ (aO C.A μ af) w v u)
  (h:Fi Γ E af d id len parts K=some r):∃z w',(Instr.buildSlice id len vals).run P w= .ok z w'∧PK P C w0 K r (a.put d z) w':=by
 unfold Fi at h
 split at h
 ·rename_i t e ht he
  split at h
  ·rename_i hh
   obtain⟨hz,hto⟩:=hh
   obtain⟨z,hz⟩:=Option.isSome_iff_exists.1 hz
   obtain⟨hu,hs,hag,hzb,hpos,i,hi,his,hby⟩:=kI (ma hT ht he)
   obtain⟨i',zv,hi',hz',hzc,_⟩:=nM hzb hz
   rw[hi]at hi'
   simp at hi';subst hi'
   have step:∀(xs:List t.T) (rows:List Value) (ls bs:List Nat),xs.length=len→len≤1→rows.length=len*t.size→(Instr.buildSlice id len vals).run P w= .ok (.slice (some ⟨w.heap.size,0,none⟩) len len) (w.alloc (.cells rows.toArray e))→
     dV (bm P (aO C.A μ af) w t) xs rows bs→bs.Nodup→(∀b ∈ bs,∃l o,af.obj l=some o∧(af.drops ls).obj l=none∧μ.has l b)→rT (af.drops ls) d (.arr e t xs) .own K=some r→
     ∃z w',(Instr.buildSlice id len vals).run P w= .ok z w'∧PK P C w0 K r (a.put d z) w':=by
    intro xs rows ls bs hxl hlen hrl hrun hrows hnd hbs h
    refine⟨_,_,hrun, ?_⟩
    obtain⟨d',rfl,hn',hnr,hr,hk⟩:=lS h
    refine⟨_,hk,hK.trans (aG.alloc C.Ch w _),_,hS.newArrX (eu.drops ls af) hn' (hV _ rfl) hnr (row:=none) (bs:=bs) (World.grownBy_alloc w _ none) (fun b hb=>by cases hb) (cells:=rows) ?_ (fun b hb=>.inl ?_) (fun b hb=>⟨fun e=> ?_,hbs b hb⟩) hnd ?_⟩
    ·refine⟨by rw[hrl,hxl],.inr ⟨w.heap.size,len,_,by rw[hxl],Nat.zero_le _,Go.heap_alloc_new w _,by omega,by simp only[maxLen];omega,by simp[hrl], ?_⟩⟩
     rw[hxl,←hrl];simp
    ·cases hb;exact Nat.le_refl _
    ·obtain⟨l,o,h1,_,h2⟩:=hbs b hb
     have hlt:=dY hS h1 h2
     have e:some w.heap.size=some b:=e
     have:=Option.some.inj e
     omega
    ·intro ok' hok
     have hag2:br (aO C.A μ af) w (w.alloc (.cells rows.toArray e)):=(aG.alloc vI w _).agree fun _ _ _ h=>h
     refine hrows.mono fun x us bs' hsub hx=>bm.mono t hx hag2 hok fun b hb=> ?_
     obtain⟨l,o,h1,_,h2⟩:=hbs b (hsub b hb)
     exact(World.grownBy_alloc w _ none).block b (dY hS h1 h2) (by simp)
   split at h
   ·split at h
    ·rename_i h0
     subst h0
     have hv0:vals= #[]:=Array.eq_empty_of_size_eq_zero (by simpa using hl.symm)
     subst hv0
     refine step [] [] [] [] rfl (by omega) (by simp) ?_ ⟨rfl,rfl⟩ List.nodup_nil (fun b hb=>by cases hb) h
     simp[Instr.buildSlice,run_underlying hu,sizeOf,typeInfo,hi,newRow,Instr.fill,Array.range_zero']
    ·cases h
   ·rename_i i0 v
    split at h
    ·rename_i h0
     obtain⟨rfl,rfl,hts⟩:=h0
     split at h
     ·rename_i vs hvs
      split at h
      ·rename_i hlv
       split at h
       ·rename_i y ls hrd
        split at h
        ·rename_i hndl
         rw[ky]at hndl
         obtain⟨u,hu1,hva0⟩:=hp 0 0 v rfl
         have hvs1:vals= #[(0,u)]:=by
          apply Array.ext
          ·simpa using hl.symm
          ·intro j h1 h2
           have hj:j=0:=by simp at h2;omega
           subst hj
           have:=(Array.getElem?_eq_some_iff.1 hu1).2
           rw[this];rfl
         obtain⟨hva,hone⟩:=oH hS hva0 hvs
         have hlen:=bE.length hva
         simp only[Array.length_toList]at hlen
         obtain⟨u1,u2,by',hu12,hoy,hr2,hheld⟩:=vL hS (fun _ h=>h) t hrd hva
         have hr2:u2= []:=hr2
         subst hr2
         rw[List.append_nil]at hu12
         rw[←hu12]at hoy
         have hus:u.cells.size=t.size:=by omega
         have hfill:∀cells:Array Value,cells.size=t.size→Instr.fill (fun j=>some (j*i.size,i.size)) cells [(0,u)]=some u.cells.toList.toArray:=by
          intro cells hc
          rw[Iw _ cells 0 u [] (0*i.size) i.size rfl (by rw[his];exact hus) (by rw[his,hc];omega)]
          simp only[Instr.fill,Nat.zero_mul,Nat.zero_add,List.take_zero,List.nil_append]
          rw[List.drop_of_length_le (by simp[hc,his]),List.append_nil]
         refine step [y] u.cells.toList ls by' rfl (Nat.le_refl _) (by simp[hus]) ?_ ⟨u.cells.toList,[],by',[],by simp,by simp,hoy,rfl,rfl⟩ (hheld.nodup hndl) (fun b hb=> ?_) h
         ·rw[hvs1]
          refine run_buildSlice w id e 1 _ _ i zv hu hi hz' (by rw[his];omega) (by rw[his];omega) ?_
          exact hfill _ (by simp[his])
         ·obtain⟨l2,h2,hh2⟩:=hheld.has b hb
          obtain⟨o2,ho2⟩:=hheld.live l2 h2
          exact⟨l2,o2,ho2,vN ls h2,hh2⟩
        ·cases h
       ·cases h
      ·cases h
     ·cases h
    ·cases h
   ·cases h
  ·cases h
 ·cases h
theorem Q3(hT:cH P Γ E=true)(hK:aG C.Ch w0 w)(hS:a8 P C μ af a w){d:Option Tmp}(hV:∀d',d=some d'→C.V d'=none){id:TypeId}{x y:AV}{u v:Value}{K:AF→Option R}{r:R}(hx:VA P μ (aO C.A μ af) w x u)(hy:VA P μ (aO C.A μ af) w y v)
  (h:BH Γ E af d id x y K=some r) (ty:TypeId):∃z w',(Builtin.append_ #[id,id] ty #[u,v]).run P w= .ok z w'∧PK P C w0 K r (a.put d z) w':=by
 unfold BH at h
 split at h
 ·rename_i t e l m ht he
  split at h
  ·rename_i hh
   obtain⟨hz,hto,hlm,hlock⟩:=hh
   split at h
   ·rename_i e' t' xs' e2 t2 ys' hol hom
    split at h
    ·rename_i hee
     subst hee
     split at h
     ·rename_i xs ys hxs hys
      obtain⟨e1,rfl⟩:=dh hxs
      simp at e1
      subst e1
      obtain⟨e1,rfl⟩:=dh hys
      simp at e1
      subst e1
      unfold bd at h
      split at h
      ·rename_i hroom
       have hx:u=μ l:=hx
       have hy:v=μ m:=hy
       subst hx
       subst hy
       obtain⟨cx,hox,hrx⟩:=hS.objs l _ hol
       obtain⟨cy,hoy,hry⟩:=hS.objs m _ hom
       rw[if_pos hto]at hrx hry
       obtain⟨bx,rx,nx,px⟩:=hrx
       obtain⟨bY,ry,ny,py⟩:=hry
       have hone:∀u ∈ cy,u.oneCell'=true:=by
        have gen:∀(zs:List t2.T) (cs:List Value) (bs:List Nat),dV (bm P (aO C.A μ af) w t2) zs cs bs→∀u ∈ cs,u.oneCell'=true:=by
         intro zs
         induction zs with
         |nil=>intro cs bs h u hu;have h:cs= []∧bs= []:=h;rw[h.1]at hu;cases hu
         |cons z zs ih=>
          intro cs bs h u hu
          obtain⟨u1,u2,b1,b2,rfl,rfl,h1,h2⟩:=h
          rcases List.mem_append.1 hu with hu|hu
          ·exact(bm.len t2 h1).2 u hu
          ·exact ih _ _ h2 u hu
        exact gen _ _ _ ry
       have hsrc:(∃ad c,μ m= .slice (some ad) ys'.length c∧∀(j:Nat) u,cy[j]? =some u→w.cell? (ad.add j)=some u)∨(∃c,μ m= .slice none 0 c∧ys'.length=0):=by
        obtain⟨_,⟨hm,h0⟩|⟨g,cap,cur,hm,_,hg,_,_,_,htk⟩⟩:=hoy
        ·exact .inr ⟨0,hm,h0⟩
        ·refine .inl ⟨_,cap,hm,fun j u hj=> ?_⟩
         rw[←htk]at hj
         have hj':cur.toList[j]? =some u:=by
          rw[List.getElem?_take]at hj
          split at hj
          ·exact hj
          ·cases hj
         have hj2:cur[j]? =some u:=by simpa using hj'
         rw[Addr.add_lit]
         simp[World.cell?,hg,hj2]
       obtain⟨v',w',hrun,hown,hg,hlie⟩:=BJ hT ht he hz hox hoy.1 hone hsrc hroom ty
       have hbo:(μ l).ownBlock=ck (μ l):=Db _ (by
        obtain⟨_,⟨hm,_⟩|⟨g,cap,cur,hm,_⟩⟩:=hox<;>(rw[hm];intro a;simp))
       have hbo':v'.ownBlock=ck v':=Db _ (by
        obtain⟨_,⟨hm,_⟩|⟨g,cap,cur,hm,_⟩⟩:=hown<;>(rw[hm];intro a;simp))
       refine⟨v',w',hrun, ?_⟩
       obtain⟨d',rfl,hn',hnr,hr,hk⟩:=lS h
       have hkp:aG C.Ch w w':=aG.grown hg (fun k hk=>(hS.chg.resolve_left (by simp[hlock])) k (hS.wr l _ k hol (.inl (by rw[←hbo];exact hk))).1)
       have hagr:br (aO C.A μ af) w w':=⟨hg.size,fun b hb hlt=>hg.block b hlt (fun e=>hb.2 l _ hol (.inl (by rw[←hbo];exact e.symm)))⟩
       have hxl:∀b ∈ bx,μ.has l b:=fun b hb=>.inr (px b hb).2
       have hyl:∀b ∈ bY,μ.has m b:=fun b hb=>.inr (py b hb).2
       have hgl:((af.drop l).drop m).obj l=none:=by rw[kX,kX];split<;>simp
       have hgm:((af.drop l).drop m).obj m=none:=by rw[kX];simp
       have hdis:∀b,b ∈ bx→b ∈ bY→False:=fun b h1 h2=>hlm (hS.inj l m _ _ b hol hom (hxl b h1) (hyl b h2))
       have hkeepb:∀b,b ∈ bx∨b ∈ bY→w'.heap[b]? =w.heap[b]? :=fun b hb=>by
        rcases hb with hb|hb
        ·exact hg.block b (dY hS hol (hxl b hb)) fun e=>(px b hb).1 (by rw[←hbo];exact e.symm)
        ·exact hg.block b (dY hS hom (hyl b hb)) fun e=>hlm (hS.inj l m _ _ b hol hom (.inl (by rw[←hbo];exact e.symm)) (hyl b hb))
       refine⟨_,hk,hK.trans hkp,_,hS.newArrX ((eu.drop (af.drop l) m).trans (eu.drop af l)) hn' (hV _ rfl) hnr (bs:=bx++bY) hg (fun b hb=>⟨l,_,hol,hgl,.inl (by rw[←hbo];exact hb)⟩) (by rw[List.length_append];exact hown) (fun b hb=> ?_) (fun b hb=>⟨fun e=> ?_, ?_⟩) ?_ ?_⟩
       ·rw[←hbo']at hb
        rcases hlie with h|h
        ·exact .inr (h.symm.trans hb)
        ·rw[h]at hb;cases hb;exact .inl (Nat.le_refl _)
       ·rw[←hbo']at e
        have hlt:b<w.heap.size:=by
         rcases List.mem_append.1 hb with hb|hb
         ·exact dY hS hol (hxl b hb)
         ·exact dY hS hom (hyl b hb)
        rcases hlie with h|h
        ·have e2:ck (μ l)=some b:=by rw[←hbo,←h];exact e
         rcases List.mem_append.1 hb with hb|hb
         ·exact(px b hb).1 e2
         ·exact hlm (hS.inj l m _ _ b hol hom (.inl e2) (hyl b hb))
        ·rw[h]at e;cases e;omega
       ·rcases List.mem_append.1 hb with hb|hb
        ·exact⟨l,_,hol,hgl,hxl b hb⟩
        ·exact⟨m,_,hom,hgm,hyl b hb⟩
       ·refine List.nodup_append.2 ⟨nx,ny, ?_⟩
        rintro p hp q hq rfl
        exact hdis p hp hq
       ·intro ok' hok
        have app:∀(zs:List t2.T) (cs:List Value) (bs:List Nat) (zs2:List t2.T) (cs2:List Value) (bs2:List Nat),dV (bm P ok' w' t2) zs cs bs→dV (bm P ok' w' t2) zs2 cs2 bs2→dV (bm P ok' w' t2) (zs++zs2) (cs++cs2) (bs++bs2):=by
         intro zs
         induction zs with
         |nil=>intro cs bs zs2 cs2 bs2 h h2;have h:cs= []∧bs= []:=h;rw[h.1,h.2];exact h2
         |cons z zs ih=>
          intro cs bs zs2 cs2 bs2 h h2
          obtain⟨u1,u2,b1,b2,rfl,rfl,h1,h3⟩:=h
          rw[List.append_assoc,List.append_assoc]
          exact⟨u1,_,b1,_,rfl,rfl,h1,ih _ _ _ _ _ h3 h2⟩
        exact app _ _ _ _ _ _ (rx.mono fun x us bs' hsub hx=>bm.mono t2 hx hagr hok fun b hb=>hkeepb b (.inl (hsub b hb))) (ry.mono fun x us bs' hsub hx=>bm.mono t2 hx hagr hok fun b hb=>hkeepb b (.inr (hsub b hb)))
      ·cases h
     ·cases h
    ·cases h
   ·cases h
  ·cases h
 ·cases h
end
end Go.Proofs.YtnambbcafhnhpaaGreatDoor
