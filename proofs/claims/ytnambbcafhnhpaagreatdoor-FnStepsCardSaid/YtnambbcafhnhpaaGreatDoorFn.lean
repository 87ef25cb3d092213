import Derived.Test.YtnambbcafhnhpaaGreatDoorCode
namespace Go.Proofs.YtnambbcafhnhpaaGreatDoor
open Go.RowKit
set_option linter.unusedVariables false
set_option linter.unusedSimpArgs false
section
variable {P:Program} {C:Cx} {μ:Nm} {af:AF} {a:Act} {w w0:World} {Γ:cD} {E:bR} {σ:FuncId→Option ai} {Λ:Nat→Option aM}
theorem nP {f:FuncId}{fn:Func}{c:Code}(hf:P.funcs[f]? =some fn)(hname:(fn.name=="runtime.NumGoroutine")=false)(hb:fn.body=some c):jN P f:=by
 intro args w
 have h1:fn.name≠"runtime.NumGoroutine":=by simpa using hname
 simp[callFunc,hf,h1,hb]
theorem YJ {ok:Nat→Prop}:∀(t:Ty) {x:t.T} {vs:List Value} {bs:List Nat},nF P ok w t x vs bs→vs.length=pd t
 | .unit,_,_,_,h=>by rw[h.1];rfl
 | .pair t r,x,_,_,h=>by
   obtain⟨v,vs',b1,b2,rfl,_,_,h2⟩:=h
   simp[pd,YJ r h2]
 | .int _,_,_,_,h=>(h:False).elim
 | .bool,_,_,_,h=>(h:False).elim
 | .str,_,_,_,h=>(h:False).elim
 | .list _,_,_,_,h=>(h:False).elim
 | .fn _ _,_,_,_,h=>(h:False).elim
 | .ptr _,_,_,_,h=>(h:False).elim
 | .own _ _,_,_,_,h=>(h:False).elim
 | .box _,_,_,_,h=>(h:False).elim
 | .nptr _,_,_,_,h=>(h:False).elim
 | .nil,_,_,_,h=>(h:False).elim
theorem ZK {args:List Value}{n:Nat}:(List.range args.length).map (fun s=>(args.toArray++Array.replicate (n-args.toArray.size) undef).getD s undef)=args:=by
 apply List.ext_getElem
 ·simp
 ·intro i h1 h2
  simp only[List.getElem_map,List.getElem_range,Array.getD_eq_getD_getElem?]
  rw[Array.getElem?_append_left (by simpa using h2)]
  simp[h2]
theorem abm:∀(r m:Ty) (y:r.T) (z:m.T),BF r m (Fb r m y z)=y
 | .unit,_,_,_=>rfl
 | .pair t r,m,y,z=>by simp only[BF,Fb,abm r m]
 | .int _,_,_,_=>rfl
 | .bool,_,_,_=>rfl
 | .str,_,_,_=>rfl
 | .list _,_,_,_=>rfl
 | .fn _ _,_,_,_=>rfl
 | .ptr _,_,_,_=>rfl
 | .own _ _,_,_,_=>rfl
 | .box _,_,_,_=>rfl
 | .nptr _,_,_,_=>rfl
 | .nil,_,_,_=>rfl
theorem abn:∀(r m:Ty) (h:r.row=true) (y:r.T) (z:m.T),UA r m h (Fb r m y z)=z
 | .unit,_,_,_,_=>rfl
 | .pair t r,m,h,y,z=>abn r m h y.2 z
 | .int _,_,h,_,_=>by cases h
 | .bool,_,h,_,_=>by cases h
 | .str,_,h,_,_=>by cases h
 | .list _,_,h,_,_=>by cases h
 | .fn _ _,_,h,_,_=>by cases h
 | .ptr _,_,h,_,_=>by cases h
 | .own _ _,_,h,_,_=>by cases h
 | .box _,_,h,_,_=>by cases h
 | .nptr _,_,h,_,_=>by cases h
 | .nil,_,h,_,_=>by cases h
theorem IA {ok2:Nat→Prop}(hS:a8 P C μ af a w)(h1:∀b,aO C.A μ af b→ok2 b):∀(t m:Ty) {y:m.T} {L:List Nat} {i:Nat} {vs:List Value},dP af t m i=some (y,L)→vs.length=pd t→(∀(j:Nat) v,vs[j]? =some v→i+j ∈ l9 t i→a.tmps.getD (i+j) undef=v)→
  ∃bs,kS P ok2 w t m y vs bs∧jF μ af L bs
 | .unit,.unit,y,L,i,vs,h,hl,_=>by
   simp[dP]at h
   subst h
   exact⟨[],⟨List.eq_nil_of_length_eq_zero hl,rfl⟩,jF.nil⟩
 | .pair t r,m,y,L,i,vs,h,hl,hv=>by
   cases vs with
   |nil=>simp[pd]at hl
   |cons v vs=>
    have hv':∀(j:Nat) v,vs[j]? =some v→i+1+j ∈ l9 r (i+1)→a.tmps.getD (i+1+j) undef=v:=fun j v hj hm=>by
     have:=hv (j+1) v (by simpa using hj)
     rw[show i+1+j=i+(j+1) from by omega]at hm ⊢
     refine this ?_
     simp only[l9]
     split
     ·exact List.mem_cons_of_mem _ hm
     ·exact hm
    have hl':vs.length=pd r:=by simpa [pd]using hl
    unfold dP at h
    split at h
    ·rename_i ho
     obtain⟨bs,h2,h3⟩:=IA hS h1 r m h hl' hv'
     exact⟨bs,by simp only[kS,ho];exact h2,h3⟩
    ·rename_i ho
     split at h
     ·rename_i t' m'
      split at h
      ·rename_i x l1 ht hx
       split at h
       ·rename_i y' l2 hy
        simp at h
        obtain⟨rfl,rfl⟩:=h
        have ht:t'=t:=by simpa using ht
        subst ht
        have hu:=vJ hS i
        have e:a.tmps.getD i undef=v:=hv 0 v rfl (by simp[l9,ho])
        rw[e]at hu
        obtain⟨b1,h2,h3⟩:=abf (G:=Gl.none) hS (σ:=fun _=>none) (fun f s h=>by cases h) h1 hx hu (fun h=>by rw[h]at ho;cases ho)
        obtain⟨b2,h4,h5⟩:=IA hS h1 r m' hy hl' hv'
        exact⟨b1++b2,by simp only[kS,ho];exact⟨b1,b2,trivial,rfl,h2,h4⟩,h3.app hS h5⟩
       ·cases h
      ·cases h
     ·cases h
 | .unit,.pair _ _,_,_,_,_,h,_,_=>by simp[dP]at h
 | .unit,.int _,_,_,_,_,h,_,_=>by simp[dP]at h
 | .unit,.bool,_,_,_,_,h,_,_=>by simp[dP]at h
 | .unit,.str,_,_,_,_,h,_,_=>by simp[dP]at h
 | .unit,.list _,_,_,_,_,h,_,_=>by simp[dP]at h
 | .unit,.fn _ _,_,_,_,_,h,_,_=>by simp[dP]at h
 | .unit,.ptr _,_,_,_,_,h,_,_=>by simp[dP]at h
 | .unit,.own _ _,_,_,_,_,h,_,_=>by simp[dP]at h
 | .unit,.box _,_,_,_,_,h,_,_=>by simp[dP]at h
 | .unit,.nptr _,_,_,_,_,h,_,_=>by simp[dP]at h
 | .unit,.nil,_,_,_,_,h,_,_=>by simp[dP]at h
 | .int _,_,_,_,_,_,h,_,_=>by simp[dP]at h
 | .bool,_,_,_,_,_,h,_,_=>by simp[dP]at h
 | .str,_,_,_,_,_,h,_,_=>by simp[dP]at h
 | .list _,_,_,_,_,_,h,_,_=>by simp[dP]at h
 | .fn _ _,_,_,_,_,_,h,_,_=>by simp[dP]at h
 | .ptr _,_,_,_,_,_,h,_,_=>by simp[dP]at h
 | .own _ _,_,_,_,_,_,h,_,_=>by simp[dP]at h
 | .box _,_,_,_,_,_,h,_,_=>by simp[dP]at h
 | .nptr _,_,_,_,_,_,h,_,_=>by simp[dP]at h
 | .nil,_,_,_,_,_,h,_,_=>by simp[dP]at h
theorem SR {ok2:Nat→Prop}(hS:a8 P C μ af a w)(h1:∀b,aO C.A μ af b→ok2 b){t m:Ty}{y:m.T}{L:List Nat}{vs:List Value}(h:Og af t m=some (y,L))(hl:vs.length=pd t)(hv:m≠ .unit→∀(j:Nat) v,vs[j]? =some v→j ∈ l9 t 0→a.tmps.getD j undef=v):
  ∃bs,(m≠ .unit→kS P ok2 w t m y vs bs)∧jF μ af L bs:=by
 unfold Og at h
 split at h
 ·simp at h
  subst h
  exact⟨[],fun h=>absurd rfl h,jF.nil⟩
 ·rename_i hne
  obtain⟨bs,h2,h3⟩:=IA hS h1 t m h hl (fun j v hj hm=>by rw[Nat.zero_add]at hm ⊢;exact hv hne j v hj hm)
  exact⟨bs,fun _=>h2,h3⟩
theorem BM(hT:cH P Γ E=true)(hS:a8 P C μ af a w){g:ResultVar→Sem Value}(g1:∀t,g (.tmp t)=pure (a.tmps.getD t undef))(g2:∀x t,g (.cell x t)=(do loadVar t (←asAddr (a.tmps.getD x undef)))):∀ {rs:List ResultVar} {vs:List AV},sE Γ af rs=some vs→
  ∃us,(rs.mapM (m:=Sem) g).run P w= .ok us w∧bE P μ (aO C.A μ af) w vs us
 | [],vs,h=>by
   simp[sE]at h;subst h
   exact⟨[],rfl,rfl⟩
 | .tmp t::rs,vs,h=>by
   simp only[sE]at h
   split at h
   ·rename_i vs' hvs
    simp at h;subst h
    obtain⟨us,hr,hv⟩:=BM hT hS g1 g2 hvs
    refine⟨a.tmps.getD t undef::us, ?_,_,_,rfl,vJ hS t,hv⟩
    rw[List.mapM_cons,g1]
    simp only[Sem.run_bind,Sem.run_pure,Result.andThen_ok,hr]
   ·cases h
 | .cell x id::rs,vs,h=>by
   simp only[sE]at h
   split at h
   ·rename_i v vs' hv hvs
    simp at h;subst h
    obtain⟨us,hr,hva⟩:=BM hT hS g1 g2 hvs
    obtain⟨z,hz,u,hrun,hzu⟩:=UR hT hS (vJ hS x) hv
    simp at hz;subst hz
    refine⟨u::us, ?_,_,_,rfl,hzu,hva⟩
    rw[List.mapM_cons,g2]
    have:(do loadVar id (←asAddr (a.tmps.getD x undef)):Sem Value).run P w= .ok u w:=by
     generalize a.tmps.getD x undef=q at hrun ⊢
     cases q with
     |pointer p=>
      cases p with
      |none=>simp[Instr.loadAt,Instr.sureAddr]at hrun
      |some p=>simpa [Instr.loadAt,Instr.sureAddr,asAddr]using hrun
     |_=>simp[Instr.loadAt,Instr.sureAddr]at hrun
    simp only[Sem.run_bind]at this ⊢
    rw[this]
    simp only[Result.andThen_ok,hr,Sem.run_pure]
   ·cases h
theorem aeJ:∀(r:Ty) {ok:Nat→Prop} {y:r.T} {us:List Value} {bs:List Nat},nF P ok w r y us bs→(oW r=true↔us.length=1)
 | .unit,_,_,us,_,h=>by have h:us= []:=h.1;subst h;simp[oW]
 | .pair t r,_,y,us,_,h=>by
   obtain⟨v,vs,b1,b2,rfl,_,_,h2⟩:=h
   cases r with
   |unit=>have h2:vs= []:=h2.1;subst h2;simp[oW]
   |pair t' r'=>obtain⟨v',vs',_,_,rfl,_⟩:=h2;simp[oW]
   |_=>exact(h2:False).elim
 | .int _,_,_,_,_,h=>(h:False).elim
 | .bool,_,_,_,_,h=>(h:False).elim
 | .str,_,_,_,_,h=>(h:False).elim
 | .list _,_,_,_,_,h=>(h:False).elim
 | .fn _ _,_,_,_,_,h=>(h:False).elim
 | .ptr _,_,_,_,_,h=>(h:False).elim
 | .own _ _,_,_,_,_,h=>(h:False).elim
 | .box _,_,_,_,_,h=>(h:False).elim
 | .nptr _,_,_,_,_,h=>(h:False).elim
 | .nil,_,_,_,_,h=>(h:False).elim
def De:List Code→List aM→Nat→Option aM
 |c::cs,l::ls,k=>if dF c=k then some l else De cs ls k
 |_,_,_=>none
def IB(Γ:cD)(E:bR)(σ:FuncId→Option ai)(Λ:Nat→Option aM)(n:Nat):List Code→List aM→Prop
 |c::cs,l::ls=>U9 Γ E σ Λ n l c∧IB Γ E σ Λ n cs ls
 |_,_=>True
theorem Vb {n:Nat}:∀ {cs:List Code} {ls:List aM},IB Γ E σ Λ n cs ls→gd (cs.map dF)=true→∀c ∈ cs,∀l,De cs ls (dF c)=some l→U9 Γ E σ Λ n l c
 |c::cs,l::ls,h,hn,c',hc,l',hl=>by
  simp only[List.map_cons,gd,Bool.and_eq_true]at hn
  simp only[De]at hl
  rcases List.mem_cons.1 hc with rfl|hc
  ·rw[if_pos rfl]at hl
   simp at hl;subst hl
   exact h.1
  ·split at hl
   ·rename_i e
    have:dF c' ∈ cs.map dF:=List.mem_map_of_mem hc
    rw[←e]at this
    simp[this]at hn
   ·exact Vb h.2 hn.2 c' hc l' hl
 | [],_,_,_,_,hc,_,_=>by simp at hc
 |_::_,[],_,_,_,_,_,hl=>by simp[De]at hl
def mc(s:ai):List Nat:=match s.m with
 | .unit=>[]
 |_=>l9 s.a 0
theorem Xn {s:ai}(h:s.m≠ .unit):mc s=l9 s.a 0:=by
 unfold mc
 split
 ·rename_i e;exact absurd e h
 ·rfl
def lkC:List (Nat×aM)→Nat→Option aM
 |(j,l)::r,k=>if j+1000000=k then some l else lkC r k
 | [],_=>none
def Q5(cs:List Code)(ls:List aM)(cuts:List (Nat×aM))(k:Nat):Option aM:=if k<1000000 then De cs ls k else lkC cuts k
def Vc(Γ:cD)(E:bR)(σ:FuncId→Option ai)(Λ:Nat→Option aM)(n:Nat)(cuts:List (Nat×aM)):List Code→Prop
 |b::r=>(match lkC cuts (rf b)with
  |none=>True
  |some l=>U8 Γ E σ Λ n l b)∧Vc Γ E σ Λ n cuts r
 | []=>True
theorem Q6 {n:Nat}{ls:aM}{b:Code}(h:∀x,d6 Γ E σ Λ n b (eS n ls.ss ls.t x) (yi σ n ls.brk ls.bs ls.bt ls.rs ls.rt)=ls.L x):U8 Γ E σ Λ n ls b:=fun x _ hx=>(h x).trans hx
theorem YK {n:Nat}{cuts:List (Nat×aM)}:∀ {bs:List Code},Vc Γ E σ Λ n cuts bs→∀b ∈ bs,∀l,lkC cuts (rf b)=some l→U8 Γ E σ Λ n l b
 |b::bs,h,b',hb,l,hl=>by
  rcases List.mem_cons.1 hb with rfl|hb
  ·have h1:=h.1
   rw[hl]at h1
   exact h1
  ·exact YK h.2 b' hb l hl
 | [],_,_,hb,_,_=>by simp at hb
theorem YL {k:Nat}(hk:1000000≤k):∀ {cs:List Code} {ls:List aM},(cs.all fun c=>decide (dF c<1000000))=true→De cs ls k=none
 |c::cs,l::ls,h=>by
  simp only[List.all_cons,Bool.and_eq_true,decide_eq_true_eq]at h
  simp only[De]
  rw[if_neg (by omega)]
  exact YL hk h.2
 | [],_,_=>by simp[De]
 |_::_,[],_=>by simp[De]
theorem ZL {cs:List Code}{ls:List aM}{cuts:List (Nat×aM)}{l:aM}(h:(cs.all fun c=>decide (dF c<1000000))=true){c:Code}(hc:c ∈ cs)(hl:Q5 cs ls cuts (dF c)=some l):De cs ls (dF c)=some l:=by
 have:=List.all_eq_true.1 h c hc
 simp only[decide_eq_true_eq]at this
 unfold Q5 at hl
 rwa [if_pos this]at hl
theorem abo {G:Gl}(hT:cH P Γ E=true)(hσ:∀f s,σ f=some s→FnOK G P f s){f:FuncId}{fn:Func}{c:Code}{s:ai}(hf:P.funcs[f]? =some fn)(hname:(fn.name=="runtime.NumGoroutine")=false)(hb:fn.body=some c)
  (hL:∀c' ∈ cF c,∀l,Λ (dF c')=some l→U9 Γ E σ Λ fn.ntmps l c') (hC:∀b ∈ lI c,∀l,Λ (rf b)=some l→U8 Γ E σ Λ fn.ntmps l b) (hnd:nL (mc s) c=true)
  (hex:∀x y,s.fn x=some y→th Γ E σ Λ fn s x=some y):FnOK G P f s:=by
 refine⟨nP hf hname hb,fun w ok args x y bs hgw har hnb hbs hy=> ?_⟩
 have h:=hex x y hy
 unfold th at h
 rw[hb]at h
 simp only at h
 split at h
 ·cases h
 rename_i hchk
 simp only[Bool.not_eq_true,Bool.not_eq_false',Bool.and_eq_true,decide_eq_true_eq]at hchk
 obtain⟨hlab,hlen⟩:=hchk
 have hal:=YJ s.a har
 let C:Cx:=⟨fun b=>ok b∨b ∈ bs∨w.heap.size≤b,fun b=>b ∈ bs∨w.heap.size≤b,fun b=>b ∈ bs∨w.heap.size≤b,fun t=>if t ∈ mc s then args[t]? else none⟩
 let a0:Act:={tmps:=args.toArray++Array.replicate (fn.ntmps-args.toArray.size) undef,defers:=[]}
 have hini:∃μ,a8 P C μ (afH fn.ntmps s.a x) a0 w:=by
  refine a8.ini (C:=C) rfl ?_ hlab ?_ hnb (fun b hb=>⟨.inl hb,fun h=>(hbs b h).1 hb⟩) (fun b hb=>⟨.inl hb,.inr (.inl hb),(hbs b hb).2⟩) (fun b hb=>⟨.inr (.inr hb),.inr hb⟩) (fun _ h=>h) (fun b hb=>.inr hb) (fun t v hv=> ?_)
  ·show(args.toArray++Array.replicate (fn.ntmps-args.toArray.size) undef).size=_
   simp;omega
  ·rw[←hal]
   have:=ZK (args:=args) (n:=fn.ntmps)
   show nF P ok w s.a x ((List.range args.length).map fun t=>(args.toArray++Array.replicate (fn.ntmps-args.toArray.size) undef).getD t undef) bs
   rw[this];exact har
  ·have hv:args[t]? =some v:=by
    have hv:(if t ∈ mc s then args[t]? else none)=some v:=hv
    split at hv
    ·exact hv
    ·cases hv
   have hlt:=(List.getElem?_eq_some_iff.1 hv).1
   show(args.toArray++Array.replicate (fn.ntmps-args.toArray.size) undef).getD t undef=v
   rw[Array.getD_eq_getD_getElem?,Array.getElem?_append_left (by simpa using hlt)]
   simp[hv]
 have hV:∀d,d ∉ mc s→C.V d=none:=fun d hd=>if_neg hd
 have hsg:kW G P C w σ:=⟨hgw.1,fun b hb=>⟨.inl (hgw.2 b hb),fun h=>h.elim (fun h=>(hbs b h).1 (hgw.2 b hb)) (fun h=>by have:=G.lt w hgw.1 b hb;omega),fun h=>h.elim (fun h=>(hbs b h).1 (hgw.2 b hb)) (fun h=>by have:=G.lt w hgw.1 b hb;omega)⟩,hσ⟩
 refine calls_of_wp hf hb (wp_mono (mb (C:=C) (w0:=w) hT hsg hV c hnd hL hC h ⟨aG.refl _ _,hini⟩) ?_)
 rintro e a w' ⟨e',af,hm,hk,hKW,μ,hS⟩
 have fin:(match sE Γ af fn.results.toList with
   |none=>none
   |some vs=>match jk σ af.objs s.r vs,Og af s.a s.m with
    |some (y,l1),some (z,l2)=>if !af.lock&&gd (l1++l2)&&yX af.objs (l1++l2) s.r vs then some (Fb s.r s.m y z)else none
    |_,_=>none)=some y→a.defers= []∧∃v,(results fn a.tmps).run P w'= .ok v w'∧MC P s y ok args bs w (.returned v) w':=by
  intro h
  refine⟨hS.defers, ?_⟩
  split at h
  ·cases h
  ·rename_i vs hvs
   obtain⟨us,hrun,hva⟩:=BM hT hS (g:=fun| .tmp t=>pure (a.tmps.getD t undef)| .cell x t=>do loadVar t (←asAddr (a.tmps.getD x undef))) (fun _=>rfl) (fun _ _=>rfl) hvs
   split at h
   ·rename_i yr l1 ym l2 h1 h2
    split at h
    ·rename_i hh
     simp only[Bool.and_eq_true]at hh
     obtain⟨⟨hlock,hn12⟩,hap⟩:=hh
     rw[ky]at hn12
     obtain rfl:=Option.some.inj h
     have hfix:s.m≠ .unit→∀(j:Nat) v,args[j]? =some v→j ∈ l9 s.a 0→a.tmps.getD j undef=v:=fun hne j v hj hm=>hS.fix j v (by show(if j ∈ mc s then args[j]? else none)=some v;rw[Xn hne,if_pos hm];exact hj)
     have hlive:∀l ∈ l1++l2,∃o,af.obj l=some o:=by
      intro l hl
      rcases List.mem_append.1 hl with hl|hl
      ·exact Fq hS (hsg.at hKW hS) h1 hva l hl
      ·obtain⟨_,_,hh⟩:=SR (ok2:=Uu C.A μ af) hS (fun _ h=>.inl h) h2 hal hfix
       exact hh.live l hl
     obtain⟨b1,har1,hh1⟩:=uG (ok2:=tp C.A μ af (l1++l2)) hS (hsg.at hKW hS) (vM hlive) s.r h1 hva (KG hS hlive s.r hap)
     obtain⟨b2,har2,hh2⟩:=SR (ok2:=tp C.A μ af (l1++l2)) hS (vM hlive) h2 hal hfix
     have hh12:=hh1.app hS hh2
     have hkeep:aG (· ∈ bs) w w':=hKW.mono fun b hlt hb=>hb.resolve_right (by omega)
     have okb:∀b,tp C.A μ af (l1++l2) b→(ok b∨b ∈ bs∨w.heap.size≤b)∧b ∉ b1++b2:=by
      intro b hb
      refine⟨?_,fun hm=> ?_⟩
      ·rcases hb.1 with h|⟨l,o,ho,hh⟩
       ·exact h.1
       ·exact(hS.wr l o b ho hh).2.1
      ·obtain⟨l,hl,hh⟩:=hh12.has b hm
       exact hb.2 l hl hh
     have hone:=aeJ s.r har1
     have hres:(results fn a.tmps).run P w'= .ok (if oW s.r then us.headD undef else .tuple us.toArray) w':=by
      have hres:results fn a.tmps=(do
        let vs ←(fn.results.mapM (m:=Sem) fun| .tmp t=>pure (a.tmps.getD t undef)| .cell x t=>do loadVar t (←asAddr (a.tmps.getD x undef)))
        pure (if h:vs.size=1 then vs[0]else .tuple vs)):=by
       rfl
      rw[hres,Array.mapM_eq_mapM_toList]
      rw[Sem.run_bind,Sem.run_map,hrun]
      simp only[Result.andThen_ok,Sem.run_pure]
      by_cases h2:us.length=1
      ·obtain⟨u,rfl⟩:=List.length_eq_one_iff.1 h2
       rw[if_pos (hone.2 h2)]
       rfl
      ·rw[if_neg (fun e=>h2 (hone.1 e))]
       have:¬us.toArray.size=1:=by simpa using h2
       rw[dif_neg this]
     refine⟨_,hres,_,us,b1,b2,rfl,hkeep,rfl,hh12.nodup hn12,fun b hb=> ?_, ?_,fun hm=> ?_⟩
     ·obtain⟨l,hl,hh⟩:=hh12.has b hb
      obtain⟨o,ho⟩:=hlive l hl
      exact⟨(hS.wr l o b ho hh).1,dY hS ho hh⟩
     ·rw[abm];exact nF.okm s.r har1 okb
     ·rw[abn];exact kS.okm s.a s.m (har2 hm) okb
    ·cases h
   ·cases h
 cases e' with
 |normal=>
  cases e<;>simp only[xq]at hm
  exact fin hk
 |ret=>
  cases e<;>simp only[xq]at hm
  exact fin hk
 |exit i=>simp at hk
theorem aef {G:Gl}(hT:cH P Γ E=true)(hσ:∀f s,σ f=some s→FnOK G P f s){f:FuncId}{fn:Func}{c:Code}{s:ai}(hf:P.funcs[f]? =some fn)(hname:(fn.name=="runtime.NumGoroutine")=false)(hb:fn.body=some c)
  (ls:List aM) (hΛ:Λ=De (cF c) ls) (hn:(gd ((cF c).map dF)&&(cF c).all fun c=>decide (dF c<1000000))=true) (hls:IB Γ E σ Λ fn.ntmps (cF c) ls) (hnd:nL (mc s) c=true)
  (hex:∀x y,s.fn x=some y→th Γ E σ Λ fn s x=some y):FnOK G P f s:=by
 simp only[Bool.and_eq_true]at hn
 exact abo hT hσ hf hname hb (fun c' hc l hl=>Vb hls hn.1 c' hc l (by rw[←hΛ];exact hl)) (fun b _ l hl=>by
  rw[hΛ,YL (by unfold rf;omega) hn.2]at hl
  cases hl) hnd hex
theorem abp {G:Gl}(hT:cH P Γ E=true)(hσ:∀f s,σ f=some s→FnOK G P f s){f:FuncId}{fn:Func}{c:Code}{s:ai}(hf:P.funcs[f]? =some fn)(hname:(fn.name=="runtime.NumGoroutine")=false)(hb:fn.body=some c)
  (ls:List aM) (cuts:List (Nat×aM)) (hΛ:Λ=Q5 (cF c) ls cuts) (hn:(gd ((cF c).map dF)&&(cF c).all fun c=>decide (dF c<1000000))=true) (hls:IB Γ E σ Λ fn.ntmps (cF c) ls) (hcs:Vc Γ E σ Λ fn.ntmps cuts (lI c)) (hnd:nL (mc s) c=true)
  (hex:∀x y,s.fn x=some y→th Γ E σ Λ fn s x=some y):FnOK G P f s:=by
 simp only[Bool.and_eq_true]at hn
 exact abo hT hσ hf hname hb (fun c' hc l hl=>Vb hls hn.1 c' hc l (ZL hn.2 hc (by rw[←hΛ];exact hl))) (fun b hb l hl=>YK hcs b hb l (by
  rw[hΛ]at hl
  unfold Q5 at hl
  rwa [if_neg (by unfold rf;omega)]at hl)) hnd hex
end
theorem aeK {G:Gl}{P:Program}{f:FuncId}{fn:Func}{c:Code}{a r m:Ty}{h:r.row=true}(hf:P.funcs[f]? =some fn)(hname:(fn.name=="runtime.NumGoroutine")=false)(hb:fn.body=some c):FnOK G P f ⟨a,r,m,h,fun _=>none⟩:=
 ⟨nP hf hname hb,fun _ _ _ _ _ _ _ _ _ _ hy=>by cases hy⟩
end Go.Proofs.YtnambbcafhnhpaaGreatDoor
