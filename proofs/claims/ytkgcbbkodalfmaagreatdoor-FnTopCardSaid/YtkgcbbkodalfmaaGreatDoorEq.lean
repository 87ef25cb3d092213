import Derived.Test.YtkgcbbkodalfmaaGreatDoorConf
import Derived.Laws.StructEq
namespace Go.Proofs.YtkgcbbkodalfmaaGreatDoor
open Go.RowKit
set_option linter.unusedVariables false
set_option linter.unusedSimpArgs false
section
variable {P:Program} {μ:Nm} {ok:Nat→Prop} {w:World}
theorem Na {t:Ty}{cs:List AV}{x:t.T}{rest:List AV}{us:List Value}(ht:t.isAgg=false)(h:QK t cs=some (x,rest))(hv:be P μ ok w cs us):
  ∃u1 u2,us=u1++u2∧CR P ok w t x u1∧be P μ ok w rest u2:=by
 unfold QK at h
 split at h
 ·rename_i t' y r
  split at h
  ·rename_i z hz
   simp at h;obtain⟨rfl,rfl⟩:=h
   obtain⟨u,us',rfl,hc,hr⟩:=hv
   obtain⟨e,rfl⟩:=cM hz
   subst e
   have hc:aK t' _ u:=hc
   simp only[aK,ht]at hc
   exact⟨[u],us',rfl,hc,hr⟩
  ·cases h
 ·cases h
theorem EX:∀(t:Ty) {cs:List AV} {x:t.T} {rest:List AV} {us:List Value},jb t cs=some (x,rest)→be P μ ok w cs us→∃u1 u2,us=u1++u2∧CR P ok w t x u1∧be P μ ok w rest u2
 | .unit,cs,x,rest,us,h,hv=>by
   simp[jb]at h;subst h
   exact⟨[],us,rfl,rfl,hv⟩
 | .pair a b,cs,x,rest,us,h,hv=>by
   simp only[jb]at h
   split at h
   ·rename_i y r hy
    split at h
    ·rename_i z r' hz
     simp at h;obtain⟨rfl,rfl⟩:=h
     obtain⟨u1,u2,rfl,c1,v1⟩:=EX a hy hv
     obtain⟨u3,u4,rfl,c2,v2⟩:=EX b hz v1
     exact⟨u1++u3,u4,by simp,⟨u1,u3,rfl,c1,c2⟩,v2⟩
    ·cases h
   ·cases h
 | .int k,cs,x,rest,us,h,hv=>Na rfl (by simpa only[jb]using h) hv
 | .bool,cs,x,rest,us,h,hv=>Na rfl (by simpa only[jb]using h) hv
 | .str,cs,x,rest,us,h,hv=>Na rfl (by simpa only[jb]using h) hv
 | .list t,cs,x,rest,us,h,hv=>by simp[jb]at h
 | .ptr t,cs,x,rest,us,h,hv=>by simp[jb]at h
 | .fn a r,cs,x,rest,us,h,hv=>by simp[jb]at h
 | .own e t,cs,x,rest,us,h,hv=>by simp[jb]at h
 | .box t,cs,x,rest,us,h,hv=>by simp[jb]at h
 | .nptr t,cs,x,rest,us,h,hv=>by simp[jb]at h
 | .nil,cs,x,rest,us,h,hv=>by simp[jb]at h
theorem QT {t:Ty}(ha:t.isAgg=true){v:AV}{x:t.T}{u:Value}(h:v.flatV t=some x)(hv:VA P μ ok w v u):VR P ok w t x u:=by
 unfold AV.flatV at h
 split at h
 ·obtain⟨e,rfl⟩:=cM h
  subst e;exact hv
 ·split at h
  ·rename_i y hy
   simp at h;subst h
   obtain⟨us,rfl,hvs,_⟩:=hv
   obtain⟨u1,u2,rfl,c,hr⟩:=EX t hy hvs
   have hr:u2= []:=hr
   subst hr
   show aK t _ _
   rw[aK,if_pos ha]
   exact⟨u1,by simp,c⟩
  ·cases h
 ·cases h
theorem OY {id:TypeId}{n:Nat}{g:Bool}(hs:jd P id n=true)(ha:qs P id g=true)(w:World)(u1 u2 u3:List Value)(hl:u2.length=n)(h1:g=false→n=1):
  (part id (u1++u2++u3).toArray u1.length).run P w= .ok (l0 g u2) w:=by
 cases g with
 |true=>
  simp only[part,Sem.run_bind,qt ha,Result.andThen_ok,if_true,fY hs,Sem.run_pure,l0]
  congr 2
  apply Array.toList_inj.1
  simp[List.extract_eq_take_drop,←hl]
 |false=>
  have hn:=h1 rfl
  subst hn
  obtain⟨u,rfl⟩:=List.length_eq_one_iff.1 hl
  simp[part,Sem.run_bind,qt ha,l0]
theorem KI {t:Ty}{c:List Value→Prop}{us:List Value}(h:c us)(hl:us.length=t.size)(hs:t.isAgg=false→t.size=1):aK t c (l0 t.isAgg us):=by
 unfold aK l0
 split
 ·exact⟨us,rfl,h⟩
 ·rename_i ha
  have:=hs (by simpa using ha)
  rw[this]at hl
  obtain⟨u,rfl⟩:=List.length_eq_one_iff.1 hl
  exact h
theorem B3:∀(t:Ty),t.isAgg=false→t.size=1
 | .int _,_=>rfl
 | .bool,_=>rfl
 | .str,_=>rfl
 | .list _,_=>rfl
 | .ptr _,_=>rfl
 | .fn _ _,_=>rfl
 | .own _ _,_=>rfl
 | .box _,_=>rfl
 | .nptr _,_=>rfl
 | .nil,_=>rfl
 | .unit,h=>by simp[Ty.isAgg]at h
 | .pair _ _,h=>by simp[Ty.isAgg]at h
theorem QU:∀(t:Ty),
  (∀ {id:TypeId} {x y:t.T} {u v:Value} (d:Nat),(im P t).1 id=true→t.nest≤d→aK t (CR P ok w t x) u→aK t (CR P ok w t y) v→∀w',(Op.equalIn (d+1) id u v).run P w'= .ok (ex t x y) w')∧
  (∀ {fs:List Field} {off:Nat} {x y:t.T} {us vs p q:List Value} (d:Nat),(im P t).2 fs off=true→t.nest≤d→CR P ok w t x us→CR P ok w t y vs→p.length=off→q.length=off→∀w',(Op.eqFields d (p++us).toArray (q++vs).toArray fs).run P w'= .ok (ex t x y) w')
 | .int k=>by
   refine⟨fun {id x y u v} d h _ hx hy w'=> ?_,fun d h=>by simp[im]at h⟩
   simp only[im]at h
   split at h
   ·rename_i k' hu
    have hx: [u]= [Value.int k x]:=hx
    have hy: [v]= [Value.int k y]:=hy
    simp at hx hy;subst hx hy
    exact run_equalIn_int w' d id k k' x y hu
   ·cases h
 | .bool=>by
   refine⟨fun {id x y u v} d h _ hx hy w'=> ?_,fun d h=>by simp[im]at h⟩
   simp only[im]at h
   split at h
   ·rename_i hu
    have hx: [u]= [Value.bool x]:=hx
    have hy: [v]= [Value.bool y]:=hy
    simp at hx hy;subst hx hy
    exact run_equalIn_bool' w' d id x y hu
   ·cases h
 | .str=>by
   refine⟨fun {id x y u v} d h _ hx hy w'=> ?_,fun d h=>by simp[im]at h⟩
   simp only[im]at h
   split at h
   ·rename_i hu
    have hx: [u]= [Value.string ⟨x.toArray⟩]:=hx
    have hy: [v]= [Value.string ⟨y.toArray⟩]:=hy
    simp at hx hy;subst hx hy
    rw[run_equalIn_string w' d id _ _ hu]
    simp[ex,ByteArray.toList_eq]
   ·cases h
 | .unit=>by
   have row:∀ {fs:List Field} {off:Nat} {us vs p q:List Value} (d:Nat),(im P .unit).2 fs off=true→us= []→vs= []→∀w',(Op.eqFields d (p++us).toArray (q++vs).toArray fs).run P w'= .ok true w':=by
    intro fs off us vs p q d h _ _ w'
    simp only[im,List.isEmpty_iff]at h
    subst h
    simp[Op.eqFields]
   refine⟨fun {id x y u v} d h hd hx hy w'=> ?_,fun {fs off x y us vs p q} d h _ hx hy _ _ w'=>row (off:=off) d h hx hy w'⟩
   simp only[im]at h
   split at h
   ·rename_i fs hu
    simp only[Bool.and_eq_true,Bool.not_eq_true']at h
    obtain⟨us,rfl,hx⟩:=hx
    obtain⟨vs,rfl,hy⟩:=hy
    have hf:P.fieldsOf id=fs:=by simp[Program.fieldsOf,hu]
    rw[run_equalIn_struct w' d id _ _ (by rw[hf];exact hu) h.1,hf]
    exact row (p:=[]) (q:=[]) (off:=0) d (by simpa [im,List.isEmpty_iff]using h.2) hx hy w'
   ·cases h
 | .pair a b=>by
   have row:∀ {fs:List Field} {off:Nat} {x y:(Ty.pair a b).T} {us vs p q:List Value} (d:Nat),(im P (.pair a b)).2 fs off=true→(Ty.pair a b).nest≤d→CR P ok w (.pair a b) x us→CR P ok w (.pair a b) y vs→p.length=off→q.length=off→
     ∀w',(Op.eqFields d (p++us).toArray (q++vs).toArray fs).run P w'= .ok (ex (.pair a b) x y) w':=by
    intro fs off x y us vs p q d h hd hx hy hp hq w'
    simp only[im]at h
    split at h
    ·rename_i f r
     simp only[Bool.and_eq_true,decide_eq_true_eq,Bool.not_eq_true',beq_eq_false_iff_ne]at h
     obtain⟨⟨⟨⟨⟨h1,h2⟩,h3⟩,h4⟩,h5⟩,h6⟩:=h
     obtain⟨u1,u2,rfl,cx1,cx2⟩:=hx
     obtain⟨v1,v2,rfl,cy1,cy2⟩:=hy
     have l1:=CR.length a x.1 u1 cx1
     have l2:=CR.length a y.1 v1 cy1
     simp only[Ty.nest]at hd
     obtain⟨d',rfl⟩:∃d',d=d'+1:=⟨d-1,by omega⟩
     have e1:=OY (P:=P) h3 h4 w' p u1 u2 l1 (B3 a)
     have e2:=OY (P:=P) h3 h4 w' q v1 v2 l2 (B3 a)
     rw[hp,←h2]at e1
     rw[hq,←h2]at e2
     have e3:=(QU a).1 (x:=x.1) (y:=y.1) d' h5 (by omega) (KI cx1 l1 (B3 a)) (KI cy1 l2 (B3 a)) w'
     rw[←List.append_assoc,←List.append_assoc]
     simp only[Op.eqFields,ne_eq,h1,not_false_eq_true,if_true,Sem.run_bind,e1,e2,e3,Result.andThen_ok]
     cases hh:ex a x.1 y.1 with
     |false=>simp[ex,hh]
     |true=>
      simp only[Bool.not_true,Bool.false_eq_true,if_false]
      rw[(QU b).2 (x:=x.2) (y:=y.2) (d'+1) h6 (by omega) cx2 cy2 (by simp[hp,l1]) (by simp[hq,l2]) w']
      simp[ex,hh]
    ·cases h
   refine⟨fun {id x y u v} d h hd hx hy w'=> ?_,row⟩
   simp only[im]at h
   split at h
   ·rename_i fs hu
    simp only[Bool.and_eq_true,Bool.not_eq_true']at h
    obtain⟨us,rfl,hx⟩:=hx
    obtain⟨vs,rfl,hy⟩:=hy
    have hf:P.fieldsOf id=fs:=by simp[Program.fieldsOf,hu]
    rw[run_equalIn_struct w' d id _ _ (by rw[hf];exact hu) h.1,hf]
    have:=row (p:=[]) (q:=[]) (off:=0) (fs:=fs.toList) d (by
     have h2:=h.2
     simp only[im]
     split at h2
     ·rename_i f r hfr
      simp only[Nat.zero_add]
      exact h2
     ·cases h2) hd hx hy rfl rfl w'
    simpa using this
   ·cases h
 | .list _=>⟨fun d h=>by simp[im]at h,fun d h=>by simp[im]at h⟩
 | .ptr _=>⟨fun d h=>by simp[im]at h,fun d h=>by simp[im]at h⟩
 | .fn _ _=>⟨fun d h=>by simp[im]at h,fun d h=>by simp[im]at h⟩
 | .own _ _=>⟨fun d h=>by simp[im]at h,fun d h=>by simp[im]at h⟩
 | .box _=>⟨fun d h=>by simp[im]at h,fun d h=>by simp[im]at h⟩
 | .nptr _=>⟨fun d h=>by simp[im]at h,fun d h=>by simp[im]at h⟩
 | .nil=>⟨fun d h=>by simp[im]at h,fun d h=>by simp[im]at h⟩
theorem OZ {R:Type}{x y:Option R}{r:R}(h:aN x y=some r):x=some r∧y=some r:=by
 unfold aN at h
 split at h
 ·rename_i e;exact⟨h,e▸h⟩
 ·cases h
theorem cW {R:Type}(x:Option R):aN x x=x:=by
 unfold aN;rw[if_pos rfl]
theorem O0 {R α:Type}{l:List α}{K:Bool→Option R}{r:R}(h:I3 l K=some r):K false=some r∧(l= []→K true=some r):=by
 unfold I3 at h
 split at h
 ·obtain⟨h1,h2⟩:=OZ h;exact⟨h2,fun _=>h1⟩
 ·exact⟨h,fun e=>by cases e⟩
end
end Go.Proofs.YtkgcbbkodalfmaaGreatDoor
