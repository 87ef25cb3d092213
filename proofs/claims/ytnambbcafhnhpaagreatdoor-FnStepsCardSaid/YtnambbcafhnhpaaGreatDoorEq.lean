import Derived.Test.YtnambbcafhnhpaaGreatDoorConf
import Derived.Laws.StructEq
namespace Go.Proofs.YtnambbcafhnhpaaGreatDoor
open Go.RowKit
set_option linter.unusedVariables false
set_option linter.unusedSimpArgs false
section
variable {P:Program} {μ:Nm} {ok:Nat→Prop} {w:World}
theorem QV {t:Ty}{cs:List AV}{x:t.T}{rest:List AV}{us:List Value}(ht:t.isAgg=false)(h:UC t cs=some (x,rest))(hv:bE P μ ok w cs us):
  ∃u1 u2,us=u1++u2∧CR P ok w t x u1∧bE P μ ok w rest u2:=by
 unfold UC at h
 split at h
 ·rename_i t' y r
  split at h
  ·rename_i z hz
   simp at h;obtain⟨rfl,rfl⟩:=h
   obtain⟨u,us',rfl,hc,hr⟩:=hv
   obtain⟨e,rfl⟩:=dh hz
   subst e
   have hc:aY t' _ u:=hc
   simp only[aY,ht]at hc
   exact⟨[u],us',rfl,hc,hr⟩
  ·cases h
 ·cases h
theorem Iu:∀(t:Ty) {cs:List AV} {x:t.T} {rest:List AV} {us:List Value},ku t cs=some (x,rest)→bE P μ ok w cs us→∃u1 u2,us=u1++u2∧CR P ok w t x u1∧bE P μ ok w rest u2
 | .unit,cs,x,rest,us,h,hv=>by
   simp[ku]at h;subst h
   exact⟨[],us,rfl,rfl,hv⟩
 | .pair a b,cs,x,rest,us,h,hv=>by
   simp only[ku]at h
   split at h
   ·rename_i y r hy
    split at h
    ·rename_i z r' hz
     simp at h;obtain⟨rfl,rfl⟩:=h
     obtain⟨u1,u2,rfl,c1,v1⟩:=Iu a hy hv
     obtain⟨u3,u4,rfl,c2,v2⟩:=Iu b hz v1
     exact⟨u1++u3,u4,by simp,⟨u1,u3,rfl,c1,c2⟩,v2⟩
    ·cases h
   ·cases h
 | .int k,cs,x,rest,us,h,hv=>QV rfl (by simpa only[ku]using h) hv
 | .bool,cs,x,rest,us,h,hv=>QV rfl (by simpa only[ku]using h) hv
 | .str,cs,x,rest,us,h,hv=>QV rfl (by simpa only[ku]using h) hv
 | .list t,cs,x,rest,us,h,hv=>by simp[ku]at h
 | .ptr t,cs,x,rest,us,h,hv=>by simp[ku]at h
 | .fn a r,cs,x,rest,us,h,hv=>by simp[ku]at h
 | .own e t,cs,x,rest,us,h,hv=>by simp[ku]at h
 | .box t,cs,x,rest,us,h,hv=>by simp[ku]at h
 | .nptr t,cs,x,rest,us,h,hv=>by simp[ku]at h
 | .nil,cs,x,rest,us,h,hv=>by simp[ku]at h
theorem UN {t:Ty}(ha:t.isAgg=true){v:AV}{x:t.T}{u:Value}(h:v.flatV t=some x)(hv:VA P μ ok w v u):VR P ok w t x u:=by
 unfold AV.flatV at h
 split at h
 ·obtain⟨e,rfl⟩:=dh h
  subst e;exact hv
 ·split at h
  ·rename_i y hy
   simp at h;subst h
   obtain⟨us,rfl,hvs,_⟩:=hv
   obtain⟨u1,u2,rfl,c,hr⟩:=Iu t hy hvs
   have hr:u2= []:=hr
   subst hr
   show aY t _ _
   rw[aY,if_pos ha]
   exact⟨u1,by simp,c⟩
  ·cases h
 ·cases h
theorem SD {id:TypeId}{n:Nat}{g:Bool}(hs:kx P id n=true)(ha:ti P id g=true)(w:World)(u1 u2 u3:List Value)(hl:u2.length=n)(h1:g=false→n=1):
  (part id (u1++u2++u3).toArray u1.length).run P w= .ok (oX g u2) w:=by
 cases g with
 |true=>
  simp only[part,Sem.run_bind,tj ha,Result.andThen_ok,if_true,gQ hs,Sem.run_pure,oX]
  congr 2
  apply Array.toList_inj.1
  simp[List.extract_eq_take_drop,←hl]
 |false=>
  have hn:=h1 rfl
  subst hn
  obtain⟨u,rfl⟩:=List.length_eq_one_iff.1 hl
  simp[part,Sem.run_bind,tj ha,oX]
theorem Oj {t:Ty}{c:List Value→Prop}{us:List Value}(h:c us)(hl:us.length=t.size)(hs:t.isAgg=false→t.size=1):aY t c (oX t.isAgg us):=by
 unfold aY oX
 split
 ·exact⟨us,rfl,h⟩
 ·rename_i ha
  have:=hs (by simpa using ha)
  rw[this]at hl
  obtain⟨u,rfl⟩:=List.length_eq_one_iff.1 hl
  exact h
theorem Fm:∀(t:Ty),t.isAgg=false→t.size=1
 | .int _,_=>rfl
 | .bool,_=>rfl
 | .str,_=>rfl
 | .list _,_=>rfl
 | .ptr _,_=>rfl
 | .fn _ _,_=>rfl
 | .own _ _,_=>rfl
 | .box _,_=>rfl
 | .nptr _,_=>rfl
 | .nil,_=>rfl
 | .unit,h=>by simp[Ty.isAgg]at h
 | .pair _ _,h=>by simp[Ty.isAgg]at h
theorem UO:∀(t:Ty),
  (∀ {id:TypeId} {x y:t.T} {u v:Value} (d:Nat),(jE P t).1 id=true→t.nest≤d→aY t (CR P ok w t x) u→aY t (CR P ok w t y) v→∀w',(Op.equalIn (d+1) id u v).run P w'= .ok (et t x y) w')∧
  (∀ {fs:List Field} {off:Nat} {x y:t.T} {us vs p q:List Value} (d:Nat),(jE P t).2 fs off=true→t.nest≤d→CR P ok w t x us→CR P ok w t y vs→p.length=off→q.length=off→∀w',(Op.eqFields d (p++us).toArray (q++vs).toArray fs).run P w'= .ok (et t x y) w')
 | .int k=>by
   refine⟨fun {id x y u v} d h _ hx hy w'=> ?_,fun d h=>by simp[jE]at h⟩
   simp only[jE]at h
   split at h
   ·rename_i k' hu
    have hx: [u]= [Value.int k x]:=hx
    have hy: [v]= [Value.int k y]:=hy
    simp at hx hy;subst hx hy
    exact run_equalIn_int w' d id k k' x y hu
   ·cases h
 | .bool=>by
   refine⟨fun {id x y u v} d h _ hx hy w'=> ?_,fun d h=>by simp[jE]at h⟩
   simp only[jE]at h
   split at h
   ·rename_i hu
    have hx: [u]= [Value.bool x]:=hx
    have hy: [v]= [Value.bool y]:=hy
    simp at hx hy;subst hx hy
    exact run_equalIn_bool' w' d id x y hu
   ·cases h
 | .str=>by
   refine⟨fun {id x y u v} d h _ hx hy w'=> ?_,fun d h=>by simp[jE]at h⟩
   simp only[jE]at h
   split at h
   ·rename_i hu
    have hx: [u]= [Value.string ⟨x.toArray⟩]:=hx
    have hy: [v]= [Value.string ⟨y.toArray⟩]:=hy
    simp at hx hy;subst hx hy
    rw[run_equalIn_string w' d id _ _ hu]
    simp[et,ByteArray.toList_eq]
   ·cases h
 | .unit=>by
   have row:∀ {fs:List Field} {off:Nat} {us vs p q:List Value} (d:Nat),(jE P .unit).2 fs off=true→us= []→vs= []→∀w',(Op.eqFields d (p++us).toArray (q++vs).toArray fs).run P w'= .ok true w':=by
    intro fs off us vs p q d h _ _ w'
    simp only[jE,List.isEmpty_iff]at h
    subst h
    simp[Op.eqFields]
   refine⟨fun {id x y u v} d h hd hx hy w'=> ?_,fun {fs off x y us vs p q} d h _ hx hy _ _ w'=>row (off:=off) d h hx hy w'⟩
   simp only[jE]at h
   split at h
   ·rename_i fs hu
    simp only[Bool.and_eq_true,Bool.not_eq_true']at h
    obtain⟨us,rfl,hx⟩:=hx
    obtain⟨vs,rfl,hy⟩:=hy
    have hf:P.fieldsOf id=fs:=by simp[Program.fieldsOf,hu]
    rw[run_equalIn_struct w' d id _ _ (by rw[hf];exact hu) h.1,hf]
    exact row (p:=[]) (q:=[]) (off:=0) d (by simpa [jE,List.isEmpty_iff]using h.2) hx hy w'
   ·cases h
 | .pair a b=>by
   have row:∀ {fs:List Field} {off:Nat} {x y:(Ty.pair a b).T} {us vs p q:List Value} (d:Nat),(jE P (.pair a b)).2 fs off=true→(Ty.pair a b).nest≤d→CR P ok w (.pair a b) x us→CR P ok w (.pair a b) y vs→p.length=off→q.length=off→
     ∀w',(Op.eqFields d (p++us).toArray (q++vs).toArray fs).run P w'= .ok (et (.pair a b) x y) w':=by
    intro fs off x y us vs p q d h hd hx hy hp hq w'
    simp only[jE]at h
    split at h
    ·rename_i f r
     simp only[Bool.and_eq_true,decide_eq_true_eq,Bool.not_eq_true',beq_eq_false_iff_ne]at h
     obtain⟨⟨⟨⟨⟨h1,h2⟩,h3⟩,h4⟩,h5⟩,h6⟩:=h
     obtain⟨u1,u2,rfl,cx1,cx2⟩:=hx
     obtain⟨v1,v2,rfl,cy1,cy2⟩:=hy
     have l1:=CR.length a x.1 u1 cx1
     have l2:=CR.length a y.1 v1 cy1
     simp only[Ty.nest]at hd
     obtain⟨d',rfl⟩:∃d',d=d'+1:=⟨d-1,by omega⟩
     have e1:=SD (P:=P) h3 h4 w' p u1 u2 l1 (Fm a)
     have e2:=SD (P:=P) h3 h4 w' q v1 v2 l2 (Fm a)
     rw[hp,←h2]at e1
     rw[hq,←h2]at e2
     have e3:=(UO a).1 (x:=x.1) (y:=y.1) d' h5 (by omega) (Oj cx1 l1 (Fm a)) (Oj cy1 l2 (Fm a)) w'
     rw[←List.append_assoc,←List.append_assoc]
     simp only[Op.eqFields,ne_eq,h1,not_false_eq_true,if_true,Sem.run_bind,e1,e2,e3,Result.andThen_ok]
     cases hh:et a x.1 y.1 with
     |false=>simp[et,hh]
     |true=>
      simp only[Bool.not_true,Bool.false_eq_true,if_false]
      rw[(UO b).2 (x:=x.2) (y:=y.2) (d'+1) h6 (by omega) cx2 cy2 (by simp[hp,l1]) (by simp[hq,l2]) w']
      simp[et,hh]
    ·cases h
   refine⟨fun {id x y u v} d h hd hx hy w'=> ?_,row⟩
   simp only[jE]at h
   split at h
   ·rename_i fs hu
    simp only[Bool.and_eq_true,Bool.not_eq_true']at h
    obtain⟨us,rfl,hx⟩:=hx
    obtain⟨vs,rfl,hy⟩:=hy
    have hf:P.fieldsOf id=fs:=by simp[Program.fieldsOf,hu]
    rw[run_equalIn_struct w' d id _ _ (by rw[hf];exact hu) h.1,hf]
    have:=row (p:=[]) (q:=[]) (off:=0) (fs:=fs.toList) d (by
     have h2:=h.2
     simp only[jE]
     split at h2
     ·rename_i f r hfr
      simp only[Nat.zero_add]
      exact h2
     ·cases h2) hd hx hy rfl rfl w'
    simpa using this
   ·cases h
 | .list _=>⟨fun d h=>by simp[jE]at h,fun d h=>by simp[jE]at h⟩
 | .ptr _=>⟨fun d h=>by simp[jE]at h,fun d h=>by simp[jE]at h⟩
 | .fn _ _=>⟨fun d h=>by simp[jE]at h,fun d h=>by simp[jE]at h⟩
 | .own _ _=>⟨fun d h=>by simp[jE]at h,fun d h=>by simp[jE]at h⟩
 | .box _=>⟨fun d h=>by simp[jE]at h,fun d h=>by simp[jE]at h⟩
 | .nptr _=>⟨fun d h=>by simp[jE]at h,fun d h=>by simp[jE]at h⟩
 | .nil=>⟨fun d h=>by simp[jE]at h,fun d h=>by simp[jE]at h⟩
theorem SE {R:Type}{x y:Option R}{r:R}(h:aD x y=some r):x=some r∧y=some r:=by
 unfold aD at h
 split at h
 ·rename_i e;exact⟨h,e▸h⟩
 ·cases h
theorem cY {R:Type}(x:Option R):aD x x=x:=by
 unfold aD;rw[if_pos rfl]
theorem SF {R α:Type}{l:List α}{K:Bool→Option R}{r:R}(h:My l K=some r):K false=some r∧(l= []→K true=some r):=by
 unfold My at h
 split at h
 ·obtain⟨h1,h2⟩:=SE h;exact⟨h2,fun _=>h1⟩
 ·exact⟨h,fun e=>by cases e⟩
end
end Go.Proofs.YtnambbcafhnhpaaGreatDoor
