import Derived.Test.YtkgcbbkodalfmaaGreatDoorCode
namespace Go.Proofs.YtkgcbbkodalfmaaGreatDoor
open Go.RowKit
set_option linter.unusedVariables false
set_option linter.unusedSimpArgs false
section
variable {P:Program} {C:Cx} {μ:Nm} {af:AF} {a:Act} {w w0:World} {Γ:cf} {E:bB} {σ:FuncId→Option Spec} {Λ:Nat→Option ay}
theorem kJ {f:FuncId}{fn:Func}{c:Code}(hf:P.funcs[f]? =some fn)(hname:(fn.name=="runtime.NumGoroutine")=false)(hb:fn.body=some c):gZ P f:=by
 intro args w
 have h1:fn.name≠"runtime.NumGoroutine":=by simpa using hname
 simp[callFunc,hf,h1,hb]
theorem Tx {ok:Nat→Prop}:∀(t:Ty) {x:t.T} {vs:List Value} {bs:List Nat},kz P ok w t x vs bs→vs.length=lQ t
 | .unit,_,_,_,h=>by rw[h.1];rfl
 | .pair t r,x,_,_,h=>by
   obtain⟨v,vs',b1,b2,rfl,_,_,h2⟩:=h
   simp[lQ,Tx r h2]
 | .int _,_,_,_,h=>(h:False).elim
 | .bool,_,_,_,h=>(h:False).elim
 | .str,_,_,_,h=>(h:False).elim
 | .list _,_,_,_,h=>(h:False).elim
 | .fn _ _,_,_,_,h=>(h:False).elim
 | .ptr _,_,_,_,h=>(h:False).elim
 | .own _ _,_,_,_,h=>(h:False).elim
 | .box _,_,_,_,h=>(h:False).elim
 | .nptr _,_,_,_,h=>(h:False).elim
 | .nil,_,_,_,h=>(h:False).elim
theorem Up {args:List Value}{n:Nat}:(List.range args.length).map (fun s=>(args.toArray++Array.replicate (n-args.toArray.size) undef).getD s undef)=args:=by
 apply List.ext_getElem
 ·simp
 ·intro i h1 h2
  simp only[List.getElem_map,List.getElem_range,Array.getD_eq_getD_getElem?]
  rw[Array.getElem?_append_left (by simpa using h2)]
  simp[h2]
theorem VO:∀(r m:Ty) (y:r.T) (z:m.T),xv r m (zF r m y z)=y
 | .unit,_,_,_=>rfl
 | .pair t r,m,y,z=>by simp only[xv,zF,VO r m]
 | .int _,_,_,_=>rfl
 | .bool,_,_,_=>rfl
 | .str,_,_,_=>rfl
 | .list _,_,_,_=>rfl
 | .fn _ _,_,_,_=>rfl
 | .ptr _,_,_,_=>rfl
 | .own _ _,_,_,_=>rfl
 | .box _,_,_,_=>rfl
 | .nptr _,_,_,_=>rfl
 | .nil,_,_,_=>rfl
theorem VP:∀(r m:Ty) (h:r.row=true) (y:r.T) (z:m.T),Pf r m h (zF r m y z)=z
 | .unit,_,_,_,_=>rfl
 | .pair t r,m,h,y,z=>VP r m h y.2 z
 | .int _,_,h,_,_=>by cases h
 | .bool,_,h,_,_=>by cases h
 | .str,_,h,_,_=>by cases h
 | .list _,_,h,_,_=>by cases h
 | .fn _ _,_,h,_,_=>by cases h
 | .ptr _,_,h,_,_=>by cases h
 | .own _ _,_,h,_,_=>by cases h
 | .box _,_,h,_,_=>by cases h
 | .nptr _,_,h,_,_=>by cases h
 | .nil,_,h,_,_=>by cases h
theorem C3 {ok2:Nat→Prop}(hS:aN P C μ af a w)(h1:∀b,aE C.A μ af b→ok2 b):∀(t m:Ty) {y:m.T} {L:List Nat} {i:Nat} {vs:List Value},c9 af t m i=some (y,L)→vs.length=lQ t→(∀(j:Nat) v,vs[j]? =some v→i+j ∈ jF t i→a.tmps.getD (i+j) undef=v)→
  ∃bs,iP P ok2 w t m y vs bs∧gP μ af L bs
 | .unit,.unit,y,L,i,vs,h,hl,_=>by
   simp[c9]at h
   subst h
   exact⟨[],⟨List.eq_nil_of_length_eq_zero hl,rfl⟩,gP.nil⟩
 | .pair t r,m,y,L,i,vs,h,hl,hv=>by
   cases vs with
   |nil=>simp[lQ]at hl
   |cons v vs=>
    have hv':∀(j:Nat) v,vs[j]? =some v→i+1+j ∈ jF r (i+1)→a.tmps.getD (i+1+j) undef=v:=fun j v hj hm=>by
     have:=hv (j+1) v (by simpa using hj)
     rw[show i+1+j=i+(j+1) from by omega]at hm ⊢
     refine this ?_
     simp only[jF]
     split
     ·exact List.mem_cons_of_mem _ hm
     ·exact hm
    have hl':vs.length=lQ r:=by simpa [lQ]using hl
    unfold c9 at h
    split at h
    ·rename_i ho
     obtain⟨bs,h2,h3⟩:=C3 hS h1 r m h hl' hv'
     exact⟨bs,by simp only[iP,ho];exact h2,h3⟩
    ·rename_i ho
     split at h
     ·rename_i t' m'
      split at h
      ·rename_i x l1 ht hx
       split at h
       ·rename_i y' l2 hy
        simp at h
        obtain⟨rfl,rfl⟩:=h
        have ht:t'=t:=by simpa using ht
        subst ht
        have hu:=ro hS i
        have e:a.tmps.getD i undef=v:=hv 0 v rfl (by simp[jF,ho])
        rw[e]at hu
        obtain⟨b1,h2,h3⟩:=VH (G:=Gl.none) hS (σ:=fun _=>none) (fun f s h=>by cases h) h1 hx hu (fun h=>by rw[h]at ho;cases ho)
        obtain⟨b2,h4,h5⟩:=C3 hS h1 r m' hy hl' hv'
        exact⟨b1++b2,by simp only[iP,ho];exact⟨b1,b2,trivial,rfl,h2,h4⟩,h3.app hS h5⟩
       ·cases h
      ·cases h
     ·cases h
 | .unit,.pair _ _,_,_,_,_,h,_,_=>by simp[c9]at h
 | .unit,.int _,_,_,_,_,h,_,_=>by simp[c9]at h
 | .unit,.bool,_,_,_,_,h,_,_=>by simp[c9]at h
 | .unit,.str,_,_,_,_,h,_,_=>by simp[c9]at h
 | .unit,.list _,_,_,_,_,h,_,_=>by simp[c9]at h
 | .unit,.fn _ _,_,_,_,_,h,_,_=>by simp[c9]at h
 | .unit,.ptr _,_,_,_,_,h,_,_=>by simp[c9]at h
 | .unit,.own _ _,_,_,_,_,h,_,_=>by simp[c9]at h
 | .unit,.box _,_,_,_,_,h,_,_=>by simp[c9]at h
 | .unit,.nptr _,_,_,_,_,h,_,_=>by simp[c9]at h
 | .unit,.nil,_,_,_,_,h,_,_=>by simp[c9]at h
 | .int _,_,_,_,_,_,h,_,_=>by simp[c9]at h
 | .bool,_,_,_,_,_,h,_,_=>by simp[c9]at h
 | .str,_,_,_,_,_,h,_,_=>by simp[c9]at h
 | .list _,_,_,_,_,_,h,_,_=>by simp[c9]at h
 | .fn _ _,_,_,_,_,_,h,_,_=>by simp[c9]at h
 | .ptr _,_,_,_,_,_,h,_,_=>by simp[c9]at h
 | .own _ _,_,_,_,_,_,h,_,_=>by simp[c9]at h
 | .box _,_,_,_,_,_,h,_,_=>by simp[c9]at h
 | .nptr _,_,_,_,_,_,h,_,_=>by simp[c9]at h
 | .nil,_,_,_,_,_,h,_,_=>by simp[c9]at h
theorem Nq {ok2:Nat→Prop}(hS:aN P C μ af a w)(h1:∀b,aE C.A μ af b→ok2 b){t m:Ty}{y:m.T}{L:List Nat}{vs:List Value}(h:I2 af t m=some (y,L))(hl:vs.length=lQ t)(hv:m≠ .unit→∀(j:Nat) v,vs[j]? =some v→j ∈ jF t 0→a.tmps.getD j undef=v):
  ∃bs,(m≠ .unit→iP P ok2 w t m y vs bs)∧gP μ af L bs:=by
 unfold I2 at h
 split at h
 ·simp at h
  subst h
  exact⟨[],fun h=>absurd rfl h,gP.nil⟩
 ·rename_i hne
  obtain⟨bs,h2,h3⟩:=C3 hS h1 t m h hl (fun j v hj hm=>by rw[Nat.zero_add]at hm ⊢;exact hv hne j v hj hm)
  exact⟨bs,fun _=>h2,h3⟩
theorem xD(hT:ca P Γ E=true)(hS:aN P C μ af a w){g:ResultVar→Sem Value}(g1:∀t,g (.tmp t)=pure (a.tmps.getD t undef))(g2:∀x t,g (.cell x t)=(do loadVar t (←asAddr (a.tmps.getD x undef)))):∀ {rs:List ResultVar} {vs:List AV},oM Γ af rs=some vs→
  ∃us,(rs.mapM (m:=Sem) g).run P w= .ok us w∧bg P μ (aE C.A μ af) w vs us
 | [],vs,h=>by
   simp[oM]at h;subst h
   exact⟨[],rfl,rfl⟩
 | .tmp t::rs,vs,h=>by
   simp only[oM]at h
   split at h
   ·rename_i vs' hvs
    simp at h;subst h
    obtain⟨us,hr,hv⟩:=xD hT hS g1 g2 hvs
    refine⟨a.tmps.getD t undef::us, ?_,_,_,rfl,ro hS t,hv⟩
    rw[List.mapM_cons,g1]
    simp only[Sem.run_bind,Sem.run_pure,Result.andThen_ok,hr]
   ·cases h
 | .cell x id::rs,vs,h=>by
   simp only[oM]at h
   split at h
   ·rename_i v vs' hv hvs
    simp at h;subst h
    obtain⟨us,hr,hva⟩:=xD hT hS g1 g2 hvs
    obtain⟨z,hz,u,hrun,hzu⟩:=Pu hT hS (ro hS x) hv
    simp at hz;subst hz
    refine⟨u::us, ?_,_,_,rfl,hzu,hva⟩
    rw[List.mapM_cons,g2]
    have:(do loadVar id (←asAddr (a.tmps.getD x undef)):Sem Value).run P w= .ok u w:=by
     generalize a.tmps.getD x undef=q at hrun ⊢
     cases q with
     |pointer p=>
      cases p with
      |none=>simp[Instr.loadAt,Instr.sureAddr]at hrun
      |some p=>simpa [Instr.loadAt,Instr.sureAddr,asAddr]using hrun
     |_=>simp[Instr.loadAt,Instr.sureAddr]at hrun
    simp only[Sem.run_bind]at this ⊢
    rw[this]
    simp only[Result.andThen_ok,hr,Sem.run_pure]
   ·cases h
theorem Yr:∀(r:Ty) {ok:Nat→Prop} {y:r.T} {us:List Value} {bs:List Nat},kz P ok w r y us bs→(lA r=true↔us.length=1)
 | .unit,_,_,us,_,h=>by have h:us= []:=h.1;subst h;simp[lA]
 | .pair t r,_,y,us,_,h=>by
   obtain⟨v,vs,b1,b2,rfl,_,_,h2⟩:=h
   cases r with
   |unit=>have h2:vs= []:=h2.1;subst h2;simp[lA]
   |pair t' r'=>obtain⟨v',vs',_,_,rfl,_⟩:=h2;simp[lA]
   |_=>exact(h2:False).elim
 | .int _,_,_,_,_,h=>(h:False).elim
 | .bool,_,_,_,_,h=>(h:False).elim
 | .str,_,_,_,_,h=>(h:False).elim
 | .list _,_,_,_,_,h=>(h:False).elim
 | .fn _ _,_,_,_,_,h=>(h:False).elim
 | .ptr _,_,_,_,_,h=>(h:False).elim
 | .own _ _,_,_,_,_,h=>(h:False).elim
 | .box _,_,_,_,_,h=>(h:False).elim
 | .nptr _,_,_,_,_,h=>(h:False).elim
 | .nil,_,_,_,_,h=>(h:False).elim
def ya:List Code→List ay→Nat→Option ay
 |c::cs,l::ls,k=>if cV c=k then some l else ya cs ls k
 |_,_,_=>none
def C4(Γ:cf)(E:bB)(σ:FuncId→Option Spec)(Λ:Nat→Option ay)(n:Nat):List Code→List ay→Prop
 |c::cs,l::ls=>PN Γ E σ Λ n l c∧C4 Γ E σ Λ n cs ls
 |_,_=>True
theorem PO {n:Nat}:∀ {cs:List Code} {ls:List ay},C4 Γ E σ Λ n cs ls→fe (cs.map cV)=true→∀c ∈ cs,∀l,ya cs ls (cV c)=some l→PN Γ E σ Λ n l c
 |c::cs,l::ls,h,hn,c',hc,l',hl=>by
  simp only[List.map_cons,fe,Bool.and_eq_true]at hn
  simp only[ya]at hl
  rcases List.mem_cons.1 hc with rfl|hc
  ·rw[if_pos rfl]at hl
   simp at hl;subst hl
   exact h.1
  ·split at hl
   ·rename_i e
    have:cV c' ∈ cs.map cV:=List.mem_map_of_mem hc
    rw[←e]at this
    simp[this]at hn
   ·exact PO h.2 hn.2 c' hc l' hl
 | [],_,_,_,_,hc,_,_=>by simp at hc
 |_::_,[],_,_,_,_,_,hl=>by simp[ya]at hl
def jI(s:Spec):List Nat:=match s.m with
 | .unit=>[]
 |_=>jF s.a 0
theorem R8 {s:Spec}(h:s.m≠ .unit):jI s=jF s.a 0:=by
 unfold jI
 split
 ·rename_i e;exact absurd e h
 ·rfl
def Yb:List (Nat×ay)→Nat→Option ay
 |(j,l)::r,k=>if j+1000000=k then some l else Yb r k
 | [],_=>none
def PP(cs:List Code)(ls:List ay)(cuts:List (Nat×ay))(k:Nat):Option ay:=if k<1000000 then ya cs ls k else Yb cuts k
def PQ(Γ:cf)(E:bB)(σ:FuncId→Option Spec)(Λ:Nat→Option ay)(n:Nat)(cuts:List (Nat×ay)):List Code→Prop
 |b::r=>(match Yb cuts (rm b)with
  |none=>True
  |some l=>Tw Γ E σ Λ n l b)∧PQ Γ E σ Λ n cuts r
 | []=>True
theorem Tz {n:Nat}{ls:ay}{b:Code}(h:∀x,eY Γ E σ Λ n b (eX n ls.ss ls.t x) (zZ σ n ls.brk ls.bs ls.bt ls.rs ls.rt)=ls.L x):Tw Γ E σ Λ n ls b:=fun x _ hx=>(h x).trans hx
theorem TA {n:Nat}{cuts:List (Nat×ay)}:∀ {bs:List Code},PQ Γ E σ Λ n cuts bs→∀b ∈ bs,∀l,Yb cuts (rm b)=some l→Tw Γ E σ Λ n l b
 |b::bs,h,b',hb,l,hl=>by
  rcases List.mem_cons.1 hb with rfl|hb
  ·have h1:=h.1
   rw[hl]at h1
   exact h1
  ·exact TA h.2 b' hb l hl
 | [],_,_,hb,_,_=>by simp at hb
theorem TB {k:Nat}(hk:1000000≤k):∀ {cs:List Code} {ls:List ay},(cs.all fun c=>decide (cV c<1000000))=true→ya cs ls k=none
 |c::cs,l::ls,h=>by
  simp only[List.all_cons,Bool.and_eq_true,decide_eq_true_eq]at h
  simp only[ya]
  rw[if_neg (by omega)]
  exact TB hk h.2
 | [],_,_=>by simp[ya]
 |_::_,[],_=>by simp[ya]
theorem Uq {cs:List Code}{ls:List ay}{cuts:List (Nat×ay)}{l:ay}(h:(cs.all fun c=>decide (cV c<1000000))=true){c:Code}(hc:c ∈ cs)(hl:PP cs ls cuts (cV c)=some l):ya cs ls (cV c)=some l:=by
 have:=List.all_eq_true.1 h c hc
 simp only[decide_eq_true_eq]at this
 unfold PP at hl
 rwa [if_pos this]at hl
theorem VQ {G:Gl}(hT:ca P Γ E=true)(hσ:∀f s,σ f=some s→FnOK G P f s){f:FuncId}{fn:Func}{c:Code}{s:Spec}(hf:P.funcs[f]? =some fn)(hname:(fn.name=="runtime.NumGoroutine")=false)(hb:fn.body=some c)
  (hL:∀c' ∈ bZ c,∀l,Λ (cV c')=some l→PN Γ E σ Λ fn.ntmps l c') (hC:∀b ∈ jo c,∀l,Λ (rm b)=some l→Tw Γ E σ Λ fn.ntmps l b) (hnd:kG (jI s) c=true)
  (hex:∀x y,s.fn x=some y→rn Γ E σ Λ fn s x=some y):FnOK G P f s:=by
 refine⟨kJ hf hname hb,fun w ok args x y bs hgw har hnb hbs hy=> ?_⟩
 have h:=hex x y hy
 unfold rn at h
 rw[hb]at h
 simp only at h
 split at h
 ·cases h
 rename_i hchk
 simp only[Bool.not_eq_true,Bool.not_eq_false',Bool.and_eq_true,decide_eq_true_eq]at hchk
 obtain⟨hlab,hlen⟩:=hchk
 have hal:=Tx s.a har
 let C:Cx:=⟨fun b=>ok b∨b ∈ bs∨w.heap.size≤b,fun b=>b ∈ bs∨w.heap.size≤b,fun b=>b ∈ bs∨w.heap.size≤b,fun t=>if t ∈ jI s then args[t]? else none⟩
 let a0:Act:={tmps:=args.toArray++Array.replicate (fn.ntmps-args.toArray.size) undef,defers:=[]}
 have hini:∃μ,aN P C μ (Zm fn.ntmps s.a x) a0 w:=by
  refine aN.ini (C:=C) rfl ?_ hlab ?_ hnb (fun b hb=>⟨.inl hb,fun h=>(hbs b h).1 hb⟩) (fun b hb=>⟨.inl hb,.inr (.inl hb),(hbs b hb).2⟩) (fun b hb=>⟨.inr (.inr hb),.inr hb⟩) (fun _ h=>h) (fun b hb=>.inr hb) (fun t v hv=> ?_)
  ·show(args.toArray++Array.replicate (fn.ntmps-args.toArray.size) undef).size=_
   simp;omega
  ·rw[←hal]
   have:=Up (args:=args) (n:=fn.ntmps)
   show kz P ok w s.a x ((List.range args.length).map fun t=>(args.toArray++Array.replicate (fn.ntmps-args.toArray.size) undef).getD t undef) bs
   rw[this];exact har
  ·have hv:args[t]? =some v:=by
    have hv:(if t ∈ jI s then args[t]? else none)=some v:=hv
    split at hv
    ·exact hv
    ·cases hv
   have hlt:=(List.getElem?_eq_some_iff.1 hv).1
   show(args.toArray++Array.replicate (fn.ntmps-args.toArray.size) undef).getD t undef=v
   rw[Array.getD_eq_getD_getElem?,Array.getElem?_append_left (by simpa using hlt)]
   simp[hv]
 have hV:∀d,d ∉ jI s→C.V d=none:=fun d hd=>if_neg hd
 have hsg:kb G P C w σ:=⟨hgw.1,fun b hb=>⟨.inl (hgw.2 b hb),fun h=>h.elim (fun h=>(hbs b h).1 (hgw.2 b hb)) (fun h=>by have:=G.lt w hgw.1 b hb;omega),fun h=>h.elim (fun h=>(hbs b h).1 (hgw.2 b hb)) (fun h=>by have:=G.lt w hgw.1 b hb;omega)⟩,hσ⟩
 refine calls_of_wp hf hb (wp_mono (jH (C:=C) (w0:=w) hT hsg hV c hnd hL hC h ⟨aw.refl _ _,hini⟩) ?_)
 rintro e a w' ⟨e',af,hm,hk,hKW,μ,hS⟩
 have fin:(match oM Γ af fn.results.toList with
   |none=>none
   |some vs=>match gH σ af.objs s.r vs,I2 af s.a s.m with
    |some (y,l1),some (z,l2)=>if !af.lock&&fe (l1++l2)&&ux af.objs (l1++l2) s.r vs then some (zF s.r s.m y z)else none
    |_,_=>none)=some y→a.defers= []∧∃v,(results fn a.tmps).run P w'= .ok v w'∧Hp P s y ok args bs w (.returned v) w':=by
  intro h
  refine⟨hS.defers, ?_⟩
  split at h
  ·cases h
  ·rename_i vs hvs
   obtain⟨us,hrun,hva⟩:=xD hT hS (g:=fun| .tmp t=>pure (a.tmps.getD t undef)| .cell x t=>do loadVar t (←asAddr (a.tmps.getD x undef))) (fun _=>rfl) (fun _ _=>rfl) hvs
   split at h
   ·rename_i yr l1 ym l2 h1 h2
    split at h
    ·rename_i hh
     simp only[Bool.and_eq_true]at hh
     obtain⟨⟨hlock,hn12⟩,hap⟩:=hh
     rw[iy]at hn12
     obtain rfl:=Option.some.inj h
     have hfix:s.m≠ .unit→∀(j:Nat) v,args[j]? =some v→j ∈ jF s.a 0→a.tmps.getD j undef=v:=fun hne j v hj hm=>hS.fix j v (by show(if j ∈ jI s then args[j]? else none)=some v;rw[R8 hne,if_pos hm];exact hj)
     have hlive:∀l ∈ l1++l2,∃o,af.obj l=some o:=by
      intro l hl
      rcases List.mem_append.1 hl with hl|hl
      ·exact zU hS (hsg.at hKW hS) h1 hva l hl
      ·obtain⟨_,_,hh⟩:=Nq (ok2:=O8 C.A μ af) hS (fun _ h=>.inl h) h2 hal hfix
       exact hh.live l hl
     obtain⟨b1,har1,hh1⟩:=qD (ok2:=pu C.A μ af (l1++l2)) hS (hsg.at hKW hS) (rr hlive) s.r h1 hva (E7 hS hlive s.r hap)
     obtain⟨b2,har2,hh2⟩:=Nq (ok2:=pu C.A μ af (l1++l2)) hS (rr hlive) h2 hal hfix
     have hh12:=hh1.app hS hh2
     have hkeep:aw (· ∈ bs) w w':=hKW.mono fun b hlt hb=>hb.resolve_right (by omega)
     have okb:∀b,pu C.A μ af (l1++l2) b→(ok b∨b ∈ bs∨w.heap.size≤b)∧b ∉ b1++b2:=by
      intro b hb
      refine⟨?_,fun hm=> ?_⟩
      ·rcases hb.1 with h|⟨l,o,ho,hh⟩
       ·exact h.1
       ·exact(hS.wr l o b ho hh).2.1
      ·obtain⟨l,hl,hh⟩:=hh12.has b hm
       exact hb.2 l hl hh
     have hone:=Yr s.r har1
     have hres:(results fn a.tmps).run P w'= .ok (if lA s.r then us.headD undef else .tuple us.toArray) w':=by
      have hres:results fn a.tmps=(do
        let vs ←(fn.results.mapM (m:=Sem) fun| .tmp t=>pure (a.tmps.getD t undef)| .cell x t=>do loadVar t (←asAddr (a.tmps.getD x undef)))
        pure (if h:vs.size=1 then vs[0]else .tuple vs)):=by
       rfl
      rw[hres,Array.mapM_eq_mapM_toList]
      rw[Sem.run_bind,Sem.run_map,hrun]
      simp only[Result.andThen_ok,Sem.run_pure]
      by_cases h2:us.length=1
      ·obtain⟨u,rfl⟩:=List.length_eq_one_iff.1 h2
       rw[if_pos (hone.2 h2)]
       rfl
      ·rw[if_neg (fun e=>h2 (hone.1 e))]
       have:¬us.toArray.size=1:=by simpa using h2
       rw[dif_neg this]
     refine⟨_,hres,_,us,b1,b2,rfl,hkeep,rfl,hh12.nodup hn12,fun b hb=> ?_, ?_,fun hm=> ?_⟩
     ·obtain⟨l,hl,hh⟩:=hh12.has b hb
      obtain⟨o,ho⟩:=hlive l hl
      exact⟨(hS.wr l o b ho hh).1,dk hS ho hh⟩
     ·rw[VO];exact kz.okm s.r har1 okb
     ·rw[VP];exact iP.okm s.a s.m (har2 hm) okb
    ·cases h
   ·cases h
 cases e' with
 |normal=>
  cases e<;>simp only[sQ]at hm
  exact fin hk
 |ret=>
  cases e<;>simp only[sQ]at hm
  exact fin hk
 |exit i=>simp at hk
theorem Yc {G:Gl}(hT:ca P Γ E=true)(hσ:∀f s,σ f=some s→FnOK G P f s){f:FuncId}{fn:Func}{c:Code}{s:Spec}(hf:P.funcs[f]? =some fn)(hname:(fn.name=="runtime.NumGoroutine")=false)(hb:fn.body=some c)
  (ls:List ay) (hΛ:Λ=ya (bZ c) ls) (hn:(fe ((bZ c).map cV)&&(bZ c).all fun c=>decide (cV c<1000000))=true) (hls:C4 Γ E σ Λ fn.ntmps (bZ c) ls) (hnd:kG (jI s) c=true)
  (hex:∀x y,s.fn x=some y→rn Γ E σ Λ fn s x=some y):FnOK G P f s:=by
 simp only[Bool.and_eq_true]at hn
 exact VQ hT hσ hf hname hb (fun c' hc l hl=>PO hls hn.1 c' hc l (by rw[←hΛ];exact hl)) (fun b _ l hl=>by
  rw[hΛ,TB (by unfold rm;omega) hn.2]at hl
  cases hl) hnd hex
theorem Zr {G:Gl}(hT:ca P Γ E=true)(hσ:∀f s,σ f=some s→FnOK G P f s){f:FuncId}{fn:Func}{c:Code}{s:Spec}(hf:P.funcs[f]? =some fn)(hname:(fn.name=="runtime.NumGoroutine")=false)(hb:fn.body=some c)
  (ls:List ay) (cuts:List (Nat×ay)) (hΛ:Λ=PP (bZ c) ls cuts) (hn:(fe ((bZ c).map cV)&&(bZ c).all fun c=>decide (cV c<1000000))=true) (hls:C4 Γ E σ Λ fn.ntmps (bZ c) ls) (hcs:PQ Γ E σ Λ fn.ntmps cuts (jo c)) (hnd:kG (jI s) c=true)
  (hex:∀x y,s.fn x=some y→rn Γ E σ Λ fn s x=some y):FnOK G P f s:=by
 simp only[Bool.and_eq_true]at hn
 exact VQ hT hσ hf hname hb (fun c' hc l hl=>PO hls hn.1 c' hc l (Uq hn.2 hc (by rw[←hΛ];exact hl))) (fun b hb l hl=>TA hcs b hb l (by
  rw[hΛ]at hl
  unfold PP at hl
  rwa [if_neg (by unfold rm;omega)]at hl)) hnd hex
end
theorem Ys {G:Gl}{P:Program}{f:FuncId}{fn:Func}{c:Code}{a r m:Ty}{h:r.row=true}(hf:P.funcs[f]? =some fn)(hname:(fn.name=="runtime.NumGoroutine")=false)(hb:fn.body=some c):FnOK G P f ⟨a,r,m,h,fun _=>none⟩:=
 ⟨kJ hf hname hb,fun _ _ _ _ _ _ _ _ _ _ hy=>by cases hy⟩
end Go.Proofs.YtkgcbbkodalfmaaGreatDoor
