import Derived.Test.YtnambbcafhnhpaaGreatDoorFill
import Derived.Great.BuildSlice
namespace Go.Proofs.YtnambbcafhnhpaaGreatDoor
open Go.RowKit
set_option linter.unusedVariables false
set_option linter.unusedSimpArgs false
section
variable {P:Program} {C:Cx} {μ:Nm} {af:AF} {a:Act} {w w0:World} {Γ:cD} {E:bR} {R:Type}
def PK(P:Program)(C:Cx)(w0:World)(K:AF→Option R)(r:R)(a:Act)(w:World):Prop:=∃af,K af=some r∧St P C w0 af a w
theorem kI {id e:TypeId}{t:Ty}(h:KA P id e t=true):P.underlying id=some (.slice e)∧kx P e t.size=true∧ti P e t.isAgg=true∧AK P e t=true∧0<t.size∧∃i,P.info? e=some i∧i.size=t.size∧i.bytes≤128:=by
 simp only[KA,Bool.and_eq_true]at h
 obtain⟨⟨⟨⟨⟨h1,h2⟩,h3⟩,h4⟩,h5⟩,h6⟩:=h
 obtain⟨i,hi,hs⟩:=qc h2
 rw[hi]at h6
 refine⟨?_,h2,h3,h4,by simpa using h5,i,hi,hs,by simpa using h6⟩
 split at h1
 ·rename_i e' hu;simp at h1;subst h1;exact hu
 ·cases h1
theorem lS {d:Option Tmp}{o:AO}{v:Nat→AV}{K:AF→Option R}{r:R}(h:rT af d o v K=some r):
  ∃d',d=some d'∧af.obj d'=none∧af.noref d'=true∧o.refs d'=false∧K ((af.putObj d' (some o)).put (some d') (v d'))=some r:=by
 unfold rT at h
 split at h
 ·rename_i d'
  split at h
  ·rename_i hn
   split at h
   ·rename_i hh;exact⟨d',rfl,hn,hh.1,hh.2,h⟩
   ·cases h
  ·cases h
 ·cases h
theorem a8.newBox(hS:a8 P C μ af a w){d:Nat}(hn:af.obj d=none)(hd:C.V d=none)(hnr:af.noref d=true){cs:List AV}{us:List Value}(hr:(AO.box cs).refs d=false)(E:TypeId)
  (hv:bE P μ (aO C.A μ af) w cs us) (h1:∀u ∈ us,u.oneCell'=true):
  a8 P C (tm μ d (.pointer (some ⟨w.heap.size,0,none⟩))) ((af.putObj d (some (.box cs))).put (some d) (.bptr d 0)) (a.put (some d) (.pointer (some ⟨w.heap.size,0,none⟩))) (w.alloc (.cells us.toArray E)):=by
 have hk:=aG.alloc vI w (.cells us.toArray E)
 refine hS.next (eu.refl af) hd hn hnr hk.size (hk.agree fun _ _ _ h=>h) (fun l o b ho hb=>hk.block b (dY hS ho hb) id) ?_ ?_ ?_
 ·intro b hb
  simp[ck]at hb;subst hb
  exact⟨by simp,.inl (Nat.le_refl _)⟩
 ·intro ok' hok _
  refine⟨w.heap.size,us,E,by simp[tm],Go.heap_alloc_new w _, ?_,h1⟩
  refine hv.trans (fun l hl=> ?_) (hk.agree fun _ _ _ h=>h) hok
  refine if_neg fun e=> ?_
  subst e
  exact eX.of (by simpa [AO.refs]using hr) hl
 ·intro ok' _ _
  exact⟨w.heap.size,by simp[tm],rfl⟩
theorem St.newBox(hK:aG C.Ch w0 w)(hS:a8 P C μ af a w){d:Option Tmp}(hV:∀d',d=some d'→C.V d'=none){cs:List AV}{us:List Value}{K:AF→Option R}{r:R}(E:TypeId)(hv:bE P μ (aO C.A μ af) w cs us)(h1:∀u ∈ us,u.oneCell'=true)
  (h:rT af d (.box cs) (.bptr · 0) K=some r):PK P C w0 K r (a.put d (.pointer (some ⟨w.heap.size,0,none⟩))) (w.alloc (.cells us.toArray E)):=by
 obtain⟨d',rfl,hn,hnr,hr,hk⟩:=lS h
 exact⟨_,hk,hK.trans (aG.alloc C.Ch w _),_,hS.newBox hn (hV _ rfl) hnr hr E hv h1⟩
theorem Db(v:Value)(h:∀a,v≠ .pointer a):v.ownBlock=ck v:=by
 cases v<;>simp_all [Value.ownBlock,ck]
 rename_i a n c;cases a<;>rfl
theorem a8.newArr(hS:a8 P C μ af a w){af1:AF}(hsub:eu af1 af){d:Nat}(hn:af1.obj d=none)(hd:C.V d=none)(hnr:af1.noref d=true){e:TypeId}{t:Ty}(hnt:t.owned=false){xs:List t.T}{cells:List Value}{v':Value}{w':World}{row:Option Nat}
  (hg:w.grownBy w' row) (hrow:∀b,row=some b→∃l o,af.obj l=some o∧af1.obj l=none∧μ.has l b)
  (hown:w'.ownsRow 0 e t.size v' xs.length cells) (hv':∀b,ck v'=some b→w.heap.size≤b∨row=some b)
  (hrows:∀ok',(∀b,b<w.heap.size→aO C.A μ af b→ok' b)→cC P ok' w' t xs cells):
  a8 P C (tm μ d v') ((af1.putObj d (some (.arr e t xs))).put (some d) (.own d)) (a.put (some d) v') w':=by
 have hok:∀k,k<w.heap.size→aO C.A μ af k→some k≠row:=by
  intro k _ hk e
  obtain⟨l,o,h1,_,h2⟩:=hrow k e.symm
  exact hk.2 l o h1 h2
 refine hS.next hsub hd hn hnr hg.size ⟨hg.size,fun b hb hlt=>hg.block b hlt (hok b hlt hb)⟩ ?_ ?_ ?_ ?_
 ·intro l o b ho hb
  obtain⟨o2,ho2⟩:=hsub.obj ho
  refine hg.block b (dY hS ho2 hb) fun e=> ?_
  obtain⟨l',o',h1,h2,h3⟩:=hrow b e.symm
  have:=hS.inj l l' o2 o' b ho2 h1 hb h3
  subst this
  rw[h2]at ho;cases ho
 ·intro b hb
  refine⟨?_,(hv' b hb).imp id fun e=>hrow b e⟩
  obtain⟨_,⟨rfl,_⟩|⟨g,cap,cur,rfl,_,hgg,_⟩⟩:=hown
  ·simp[ck]at hb
  ·simp[ck]at hb;subst hb
   exact(Array.getElem?_eq_some_iff.1 hgg).1
 ·intro ok' hk _
  exact(rg hnt).2 ⟨cells,by simpa [tm]using hown,hrows ok' hk⟩
 ·intro ok' _ _
  show v'=(tm μ d v').v d
  simp[tm]
theorem Ix(zs:List Value):∀l,(List.range (l*zs.length)).map (fun i=>zs[i % zs.length]!)=(List.replicate l zs).flatten
 |0=>by simp
 |l+1=>by
  rw[Nat.add_mul,Nat.one_mul,List.range_add,List.map_append,Ix zs l,List.replicate_succ',List.flatten_append]
  congr 1
  simp only[List.map_map,List.flatten_cons,List.flatten_nil,List.append_nil]
  apply List.ext_getElem
  ·simp
  ·intro i h1 h2
   have h3:i<zs.length:=by simpa using h2
   simp only[List.getElem_map,List.getElem_range,Function.comp]
   rw[Nat.mul_comm,Nat.mul_add_mod,Nat.mod_eq_of_lt h3]
   simp[h3]
theorem UV {ok:Nat→Prop}{t:Ty}{z:t.T}{zs:List Value}(h:CR P ok w t z zs):∀l,cC P ok w t (List.replicate l z) (List.replicate l zs).flatten
 |0=>rfl
 |l+1=>by
  rw[List.replicate_succ,List.replicate_succ]
  exact⟨zs,_,rfl,h,UV h l⟩
theorem UW:∀(t:Ty) {z:t.T} {ok:Nat→Prop},t.zero=some z→bm P ok w t z (zc t) []
 | .own e t,z,_,h=>by
   simp[Ty.zero]at h;subst h
   exact⟨_,[],[],rfl,World.ownsRow_nil w 0 _ _,⟨rfl,rfl⟩,rfl⟩
 | .pair a b,z,_,h=>by
   simp only[Ty.zero]at h
   split at h
   ·rename_i x y hx hy
    simp at h;subst h
    exact⟨_,_,[],[],rfl,rfl,UW a hx,UW b hy⟩
   ·cases h
 | .int k,z,_,h=>⟨mR _ h,rfl⟩
 | .bool,z,_,h=>⟨mR _ h,rfl⟩
 | .str,z,_,h=>⟨mR _ h,rfl⟩
 | .list t,z,_,h=>⟨mR _ h,rfl⟩
 | .unit,z,_,h=>⟨mR _ h,rfl⟩
 | .ptr t,z,_,h=>⟨mR _ h,rfl⟩
 | .fn a r,z,_,h=>⟨mR _ h,rfl⟩
 | .box t,z,_,h=>by simp[Ty.zero]at h
 | .nptr t,z,_,h=>⟨mR _ h,rfl⟩
 | .nil,z,_,h=>by simp[Ty.zero]at h
theorem SJ {ok:Nat→Prop}{t:Ty}{z:t.T}{zs:List Value}(h:bm P ok w t z zs []):∀l,dV (bm P ok w t) (List.replicate l z) (List.replicate l zs).flatten []
 |0=>⟨rfl,rfl⟩
 |l+1=>by
  rw[List.replicate_succ,List.replicate_succ]
  exact⟨zs,_,[],[],rfl,rfl,h,SJ h l⟩
theorem a8.newArrO(hS:a8 P C μ af a w){af1:AF}(hsub:eu af1 af){d:Nat}(hn:af1.obj d=none)(hd:C.V d=none)(hnr:af1.noref d=true){e:TypeId}{t:Ty}{xs:List t.T}{cells:List Value}{v':Value}{w':World}{row:Option Nat}
  (hg:w.grownBy w' row) (hrow:∀b,row=some b→∃l o,af.obj l=some o∧af1.obj l=none∧μ.has l b)
  (hown:w'.ownsRow 0 e t.size v' xs.length cells) (hv':∀b,ck v'=some b→w.heap.size≤b∨row=some b)
  (hrows:∀ok',(∀b,b<w.heap.size→aO C.A μ af b→ok' b)→dV (bm P ok' w' t) xs cells []):
  a8 P C (tm μ d v') ((af1.putObj d (some (.arr e t xs))).put (some d) (.own d)) (a.put (some d) v') w':=by
 have hok:∀k,k<w.heap.size→aO C.A μ af k→some k≠row:=by
  intro k _ hk e
  obtain⟨l,o,h1,_,h2⟩:=hrow k e.symm
  exact hk.2 l o h1 h2
 refine hS.next hsub hd hn hnr hg.size ⟨hg.size,fun b hb hlt=>hg.block b hlt (hok b hlt hb)⟩ ?_ ?_ ?_ ?_
 ·intro l o b ho hb
  obtain⟨o2,ho2⟩:=hsub.obj ho
  refine hg.block b (dY hS ho2 hb) fun e=> ?_
  obtain⟨l',o',h1,h2,h3⟩:=hrow b e.symm
  have:=hS.inj l l' o2 o' b ho2 h1 hb h3
  subst this
  rw[h2]at ho;cases ho
 ·intro b hb
  refine⟨?_,(hv' b hb).imp id fun e=>hrow b e⟩
  obtain⟨_,⟨rfl,_⟩|⟨g,cap,cur,rfl,_,hgg,_⟩⟩:=hown
  ·simp[ck]at hb
  ·simp[ck]at hb;subst hb
   exact(Array.getElem?_eq_some_iff.1 hgg).1
 ·intro ok' hk _
  exact yN (by simpa [tm]using hown) (hrows ok' hk) List.nodup_nil (fun b hb=>by cases hb)
 ·intro ok' _ _
  show v'=(tm μ d v').v d
  simp[tm]
theorem Tw(hT:cH P Γ E=true)(hK:aG C.Ch w0 w)(hS:a8 P C μ af a w){d:Option Tmp}(hV:∀d',d=some d'→C.V d'=none){id:TypeId}{n c:AV}{u v:Value}{K:AF→Option R}{r:R}(hn:VA P μ (aO C.A μ af) w n u)(hc:VA P μ (aO C.A μ af) w c v)
  (h:Fd Γ E af d id n c K=some r):∃z w',(Instr.makeSlice id u v).run P w= .ok z w'∧PK P C w0 K r (a.put d z) w':=by
 unfold Fd at h
 split at h
 ·rename_i t e kn n kc c ht he
  rw[cE]at hn hc
  subst hn hc
  split at h
  ·rename_i z hz
   split at h
   ·rename_i hnc
    have hn0:(0:Int)≤n:=hnc.1
    have hn1:(n:Int)≤c:=hnc.2
    have hc0:(0:Int)≤c:=Int.le_trans hn0 hn1
    unfold bd at h
    split at h
    ·rename_i hroom
     obtain⟨hu,hs,hag,hzb,hpos,i,hi,his,hby⟩:=kI (ma hT ht he)
     obtain⟨i',zv,hi',hz',hzc,_⟩:=nM hzb hz
     rw[hi]at hi'
     simp at hi';subst hi'
     have hcN:(c.toNat:Int)=c:=Int.toNat_of_nonneg hc0
     have hnN:n.toNat≤c.toNat:=Int.toNat_le_toNat hn1
     have hb:(i.bytes:Int)*c≤281474976710656:=by
      have h1:i.bytes*c.toNat≤128*1099511627776:=Nat.mul_le_mul hby hroom
      have h2:((i.bytes*c.toNat:Nat):Int)≤140737488355328:=by omega
      rw[Int.natCast_mul,hcN]at h2
      omega
     have hrun:=run_make (P:=P) w id e i zv hu hi hz' kn kc n c hn0 hn1 hb (by omega)
     refine⟨_,_,hrun, ?_⟩
     obtain⟨d',rfl,hn',hnr,hr,hk⟩:=lS h
     refine⟨_,hk,hK.trans (aG.alloc C.Ch w _),_,hS.newArrO (eu.refl af) hn' (hV _ rfl) hnr (row:=none) (World.grownBy_alloc w _ none) (fun b hb=>by cases hb) (cells:=(List.replicate n.toNat (zc t)).flatten) ?_ (fun b hb=>.inl ?_) ?_⟩
     ·refine⟨by simp[zc_len hz],.inr ⟨w.heap.size,c.toNat,_,by simp,Nat.zero_le _,Go.heap_alloc_new w _,by simpa using hnN,by simp only[maxLen];omega,by rw[size_madeCells,his], ?_⟩⟩
      have hzl:(zc t).length=t.size:=zc_len hz
      have:(madeCells zv.cells (c.toNat*i.size)).toList=(List.range (c.toNat*t.size)).map (fun i=>(zc t)[i % (zc t).length]!):=by
       rw[his]
       simp only[madeCells,Array.toList_map,Array.toList_range]
       congr 1
       funext j
       have e1:zv.cells.size=(zc t).length:=by rw[←hzc];simp
       rw[e1]
       have:zv.cells=(zc t).toArray:=by rw[←hzc]
       rw[this];simp
      rw[this,←List.map_take,List.take_range,List.length_replicate]
      have hmin:min (n.toNat*t.size) (c.toNat*t.size)=n.toNat*(zc t).length:=by
       rw[hzl]
       exact Nat.min_eq_left (Nat.mul_le_mul_right _ hnN)
      rw[hmin,Ix]
     ·cases hb;exact Nat.le_refl _
     ·intro ok' _
      exact SJ (UW t hz) _
    ·cases h
   ·cases h
  ·cases h
 ·cases h
where zc_len {t:Ty} {z:t.T} (hz:t.zero=some z):(zc t).length=t.size:=CR.length (P:=P) t (ok:=vI) (w:=w) z _ (mR t hz)
theorem aeF(hS:a8 P C μ af a w){t:Ty}{v:AV}{x:t.T}{u:Value}(h:v.get0 af.objs t=some x)(hv:VA P μ (aO C.A μ af) w v u)(ho:v.owns=false):CR P (aO C.A μ af) w t x u.cells.toList:=
 VR.cells (QT hS (fun _ h=>h) h hv (.no ho))
theorem On(hS:a8 P C μ af a w){t:Ty}{place:Nat→Option (Nat×Nat)}(hplace:∀i,place i=some (i*t.size,t.size)):
  ∀ {parts:List (Nat×AV)} {n:Nat} {xs:List t.T} {vals:List (Nat×Value)} {cells:Array Value},sD af.objs t n parts=some xs→parts.length=vals.length→
  (∀(i:Nat) f v,parts[i]? =some (f,v)→∃u,vals[i]? =some (f,u)∧VA P μ (aO C.A μ af) w v u)→cells.size=(n+parts.length)*t.size→
  ∃rows,Instr.fill place cells vals=some (cells.toList.take (n*t.size)++rows).toArray∧cC P (aO C.A μ af) w t xs rows
 | [],n,xs,[],cells,h,_,_,hs=>by
   simp[sD]at h;subst h
   refine⟨[], ?_,rfl⟩
   simp only[Instr.fill,List.append_nil]
   congr 1
   apply Array.toList_inj.1
   simp only[List.length_nil,Nat.add_zero]at hs
   have:cells.toList.length=n*t.size:=by simpa using hs
   rw[←this,List.take_length]
 |(f,v)::parts,n,xs,(f',u)::vals,cells,h,hl,hp,hs=>by
  simp only[sD]at h
  split at h
  ·rename_i hh
   split at h
   ·rename_i x hx
    split at h
    ·rename_i xs' hxs
     simp at h;subst h
     obtain⟨u',hu',hva⟩:=hp 0 f v rfl
     have e1:f'=f∧u=u':=by simpa using hu'
     obtain⟨e1,e2⟩:=e1
     subst e2
     have e3:f'=n:=e1.trans hh.1
     subst e3
     have hcr:=aeF hS hx hva hh.2
     have hlen:=CR.length t x _ hcr
     simp only[Array.length_toList]at hlen
     simp only[List.length_cons]at hs
     have hle:(f'+1)*t.size≤cells.size:=by rw[hs];exact Nat.mul_le_mul_right _ (by omega)
     rw[Nat.add_mul,Nat.one_mul]at hle
     rw[Iw place cells _ u vals (f'*t.size) t.size (hplace _) hlen hle]
     have htl:(cells.toList.take (f'*t.size)).length=f'*t.size:=by simp;omega
     obtain⟨rows,h1,h2⟩:=On hS hplace (cells:=(cells.toList.take (f'*t.size)++u.cells.toList++cells.toList.drop (f'*t.size+t.size)).toArray) hxs (by simpa using hl)
      (fun i f2 v2 h2=>by simpa using hp (i+1) f2 v2 (by simpa using h2)) (by simp;rw[Nat.min_eq_left (by omega),hlen,hs];rw[show f'+1+parts.length=f'+(parts.length+1) from by omega] ;omega)
     refine⟨u.cells.toList++rows, ?_,_,_,rfl,hcr,h2⟩
     rw[h1]
     congr 1
     apply Array.toList_inj.1
     have:(cells.toList.take (f'*t.size)++u.cells.toList).length=(f'+1)*t.size:=by
      rw[List.length_append,htl,Array.length_toList,hlen,Nat.add_mul,Nat.one_mul]
     rw[←this,List.take_left,List.append_assoc]
    ·cases h
   ·cases h
  ·cases h
 | [],_,_,_::_,_,_,hl,_,_=>by simp at hl
 |_::_,_,_,[],_,_,hl,_,_=>by simp at hl
theorem QX(hT:cH P Γ E=true)(hK:aG C.Ch w0 w)(hS:a8 P C μ af a w){d:Option Tmp}(hV:∀d',d=some d'→C.V d'=none){id:TypeId}{len:Nat}{parts:List (Nat×AV)}{vals:Array (Nat×Value)}{K:AF→Option R}{r:R}(hl:parts.length=vals.size)
  (hp:∀(i:Nat) f v,parts[i]? =some (f,v)→∃u,vals[i]? =some (f,u)∧VA P μ (aO C.A μ af) w v u)
  (h:BG Γ E af d id len parts K=some r):∃z w',(Instr.buildSlice id len vals).run P w= .ok z w'∧PK P C w0 K r (a.put d z) w':=by
 unfold BG at h
 split at h
 ·rename_i t e ht he
  split at h
  ·rename_i xs hxs
   split at h
   ·rename_i hh
    obtain⟨hlen,hsmall,hz,hnt⟩:=hh
    obtain⟨z,hz⟩:=Option.isSome_iff_exists.1 hz
    obtain⟨hu,hs,hag,hzb,hpos,i,hi,his,hby⟩:=kI (ma hT ht he)
    obtain⟨i',zv,hi',hz',hzc,_⟩:=nM hzb hz
    rw[hi]at hi'
    simp at hi';subst hi'
    have key:∀cells:Array Value,cells.size=len*t.size→∃rows,Instr.fill (fun j=>some (j*i.size,i.size)) cells vals.toList=some rows.toArray∧cC P (aO C.A μ af) w t xs rows:=by
     intro cells hc
     obtain⟨rows,h1,h2⟩:=On hS (place:=fun j=>some (j*i.size,i.size)) (fun j=>by rw[his]) (vals:=vals.toList) (cells:=cells) hxs (by simpa using hl) (fun i f v hi=>by simpa using hp i f v hi) (by rw[hc,hlen];simp)
     exact⟨rows,by simpa using h1,h2⟩
    have hxl:∀ {parts:List (Nat×AV)} {n:Nat} {xs:List t.T},sD af.objs t n parts=some xs→xs.length=parts.length:=by
     intro parts
     induction parts with
     |nil=>intro n xs h;simp[sD]at h;subst h;rfl
     |cons p ps ih=>
      intro n xs h
      simp only[sD]at h
      split at h
      ·split at h
       ·split at h
        ·rename_i ys hys
         simp at h;subst h
         simp[ih hys]
        ·cases h
       ·cases h
      ·cases h
    have hxl:=hxl hxs
    have hrun:∃rows,(Instr.buildSlice id len vals).run P w= .ok (.slice (some ⟨w.heap.size,0,none⟩) len len) (w.alloc (.cells rows.toArray e))∧cC P (aO C.A μ af) w t xs rows:=by
     by_cases h0:len*i.size=0
     ·obtain⟨rows,h1,h2⟩:=key #[] (by rw[←his];simp[h0])
      refine⟨rows, ?_,h2⟩
      simp[Instr.buildSlice,run_underlying hu,sizeOf,typeInfo,hi,h0,newRow,h1,Array.range_zero']
     ·obtain⟨rows,h1,h2⟩:=key ((Array.range (len*i.size)).map (zv.cells[· % zv.cells.size]!)) (by simp[his])
      exact⟨rows,run_buildSlice w id e len vals _ i zv hu hi hz' (by rw[his];omega) h0 h1,h2⟩
    obtain⟨rows,hrun,hrows⟩:=hrun
    refine⟨_,_,hrun, ?_⟩
    obtain⟨d',rfl,hn',hnr,hr,hk⟩:=lS h
    refine⟨_,hk,hK.trans (aG.alloc C.Ch w _),_,hS.newArr (eu.refl af) hn' (hV _ rfl) hnr hnt (row:=none) (World.grownBy_alloc w _ none) (fun b hb=>by cases hb) (cells:=rows) ?_ (fun b hb=>.inl ?_) ?_⟩
    ·refine⟨hrows.length,.inr ⟨w.heap.size,len,_,by rw[hxl,hlen],Nat.zero_le _,Go.heap_alloc_new w _,by omega, ?_,by simp[hrows.length,hxl,hlen], ?_⟩⟩
     ·have:len*1≤len*t.size:=Nat.mul_le_mul_left _ hpos
      simp only[maxLen];omega
     ·rw[←hrows.length];simp
    ·cases hb;exact Nat.le_refl _
    ·intro ok' hok
     exact hrows.mono ((aG.alloc vI w _).agree fun _ _ _ h=>h) hok
   ·cases h
  ·cases h
 ·cases h
end
end Go.Proofs.YtnambbcafhnhpaaGreatDoor
