import Derived.Test.YtnambbcafhnhpaaGreatDoorEq
import Derived.Lib.SliceRun
import Derived.Laws.Pointers
namespace Go.Proofs.YtnambbcafhnhpaaGreatDoor
open Go.RowKit
set_option linter.unusedVariables false
set_option linter.unusedSimpArgs false
section
variable {P:Program} {C:Cx} {μ:Nm} {af:AF} {a:Act} {w:World} {Γ:cD} {E:bR} {R:Type}
theorem cE {ok:Nat→Prop}{k:IntKind}{n:Int}{u:Value}:VA P μ ok w (.dat (.int k) n) u↔u= .int k n:=by
 show aY _ _ _↔_
 simp only[aY,Ty.isAgg]
 exact⟨fun h=>by simpa using(show [u]= [Value.int k n] from h),fun h=>by subst h;rfl⟩
theorem fC {ok:Nat→Prop}{n:Bool}{u:Value}:VA P μ ok w (.dat .bool n) u↔u= .bool n:=by
 show aY _ _ _↔_
 simp only[aY,Ty.isAgg]
 exact⟨fun h=>by simpa using(show [u]= [Value.bool n] from h),fun h=>by subst h;rfl⟩
theorem pg {ok:Nat→Prop}{s:List UInt8}{u:Value}:VA P μ ok w (.dat .str s) u↔u= .string ⟨s.toArray⟩:=by
 show aY _ _ _↔_
 simp only[aY,Ty.isAgg]
 exact⟨fun h=>by simpa using(show [u]= [Value.string ⟨s.toArray⟩] from h),fun h=>by subst h;rfl⟩
theorem acR(ok:Nat→Prop)(v:Value):VA P μ ok w (QN v) v:=by
 unfold QN
 split
 ·exact cE.2 rfl
 ·exact fC.2 rfl
 ·exact pg.2 (by simp)
 ·rfl
 ·rfl
 ·trivial
theorem AF.get_some {t:Nat}(h:t<af.tmps.length):af.tmps[t]? =some (af.get t):=by
 simp[AF.get,List.getD,List.getElem?_eq_getElem h]
theorem vJ(hS:a8 P C μ af a w)(t:Nat):VA P μ (aO C.A μ af) w (af.get t) (a.tmps.getD t undef):=by
 by_cases h:t<af.tmps.length
 ·exact hS.tmps t _ (AF.get_some h)
 ·have:af.get t= .junk:=by simp[AF.get,List.getD,List.getElem?_eq_none (Nat.not_lt.1 h)]
  rw[this];trivial
theorem bo(hS:a8 P C μ af a w)(x:Operand):VA P μ (aO C.A μ af) w (af.ev x) (a.eval x):=by
 cases x with
 |tmp t=>exact vJ hS t
 |const v=>exact acR _ v
 |func f=>exact⟨[],rfl,rfl⟩
 |global g=>trivial
theorem KC(d:Option Tmp)(v:AV):aO C.A μ (af.put d v)=aO C.A μ af:=by
 cases d<;>rfl
theorem KD(d:Option Tmp)(v:AV)(l:Nat):(af.put d v).obj l=af.obj l:=by cases d<;>rfl
theorem Yv {V:Nat→Option Value}{d:Option Tmp}(hd:∀d',d=some d'→V d'=none)(u:Value)(h:∀s v,V s=some v→a.tmps.getD s undef=v):∀s v,V s=some v→(a.put d u).tmps.getD s undef=v:=by
 intro s v hv
 rw[←h s v hv]
 cases d with
 |none=>rfl
 |some d=>
  have hne:d≠s:=fun e=>by subst e;rw[hd _ rfl]at hv;cases hv
  simp[Act.put,Array.getElem?_setIfInBounds_ne hne]
theorem a8.put(hS:a8 P C μ af a w)(d:Option Tmp)(hd:∀d',d=some d'→C.V d'=none){v:AV}{u:Value}(h:VA P μ (aO C.A μ af) w v u):a8 P C μ (af.put d v) (a.put d u) w:=by
 cases d with
 |none=>exact hS
 |some d=>
  refine⟨hS.defers,by simp[AF.put,Act.put,hS.tl], ?_,hS.objs,hS.wr,hS.inj,hS.fr,hS.chg,hS.frc,Yv hd u hS.fix⟩
  intro t x hx
  show VA P μ (aO C.A μ af) w x _
  simp only[AF.put]at hx
  by_cases hd:d=t
  ·subst hd
   have hlt:d<af.tmps.length:=by
    have:=(List.getElem?_eq_some_iff.1 hx).1
    simpa using this
   rw[List.getElem?_set_self hlt]at hx
   simp at hx;subst hx
   have:d<a.tmps.size:=by rw[hS.tl];exact hlt
   simpa [Act.put,this]using h
  ·rw[List.getElem?_set_ne hd]at hx
   have:=hS.tmps t x hx
   simpa [Act.put,Array.getElem?_setIfInBounds_ne hd]using this
theorem St.put {w0:World}(hK:aG C.Ch w0 w)(hS:a8 P C μ af a w)(d:Option Tmp)(hd:∀d',d=some d'→C.V d'=none){v:AV}{u:Value}(h:VA P μ (aO C.A μ af) w v u):St P C w0 (af.put d v) (a.put d u) w:=
 ⟨hK,μ,hS.put d hd h⟩
theorem UP {o:Oper}{Q:Exit→Act→World→Prop}{K:Act→World→Prop}{w':World}{u:Value}(hr:(execOp a.eval o).run P w= .ok (.value u) w')(h:K (a.put o.dst u) w'):o.wp P a w K Q:=by
 unfold Oper.wp;rw[hr];exact h
theorem Fn {o:Oper}{Q:Exit→Act→World→Prop}{K:Act→World→Prop}{w':World}(hr:(execOp a.eval o).run P w= .ok .skip w')(h:K (a.put o.dst undef) w'):o.wp P a w K Q:=by
 unfold Oper.wp;rw[hr];exact h
theorem KE {s:Sem Value}{u:Value}{w':World}(h:s.run P w= .ok u w'):(do pure (Next.value (←s)):Sem Next).run P w= .ok (.value u) w':=by
 simp[h]
theorem Ut {s:Sem Unit}{w':World}(h:s.run P w= .ok () w'):(do s;pure Next.skip:Sem Next).run P w= .ok .skip w':=by
 simp[h]
def AM(P:Program)(μ:Nm)(ok:Nat→Prop)(w:World)(s:Sem Value)(v:AV):Prop:=∃u,s.run P w= .ok u w∧VA P μ ok w v u
def cO(P:Program)(μ:Nm)(ok:Nat→Prop)(w:World)(s:Sem Value)(v:AV):Prop:=∃u,(∀w',s.run P w'= .ok u w')∧VA P μ ok w v u
theorem cO.at {ok:Nat→Prop}{s:Sem Value}{K:AV→Option R}{r:R}(h:∃z,K z=some r∧cO P μ ok w s z):∃z,K z=some r∧AM P μ ok w s z:=
 let⟨z,h1,u,h2,h3⟩:=h;⟨z,h1,u,h2 w,h3⟩
theorem aa1 {ok:Nat→Prop}{op:BinOp}{k:IntKind}{m n:Int}{K:AV→Option R}{r:R}(t:TypeId)(x y:Operand)(h:C7 op k m n K=some r):
  ∃v,K v=some r∧cO P μ ok w (do eqGuard op t x y (.int k m) (.int k n);binOp op t (.int k m) (.int k n)) v:=by
 have hg:∀op w,(eqGuard op t x y (.int k m) (.int k n)).run P w= .ok () w:=by
  intro op w;cases op<;>simp[eqGuard]
 unfold cO
 simp only[Sem.run_bind,hg,Result.andThen_ok]
 cases op
 case add=>
  exact⟨_,h,.int k _,fun w=>by simp only[binOp,Op.intArith];simp,cE.2 rfl⟩
 case sub=>
  exact⟨_,h,.int k _,fun w=>by simp only[binOp,Op.intArith];simp,cE.2 rfl⟩
 case mul=>
  exact⟨_,h,.int k _,fun w=>by simp only[binOp,Op.intArith];simp,cE.2 rfl⟩
 case quo=>
  simp only[C7]at h
  split at h
  ·cases h
  ·rename_i h0
   exact⟨_,h,.int k _,fun w=>by simp only[binOp,Op.intDiv];simp[h0],cE.2 rfl⟩
 case rem=>
  simp only[C7]at h
  split at h
  ·cases h
  ·rename_i h0
   exact⟨_,h,.int k _,fun w=>by simp only[binOp,Op.intDiv];simp[h0],cE.2 rfl⟩
 case and=>
  exact⟨_,h,.int k _,fun w=>by simp only[binOp,intBits_and];simp,cE.2 rfl⟩
 case or=>
  exact⟨_,h,.int k _,fun w=>by simp only[binOp,intBits_or];simp,cE.2 rfl⟩
 case xor=>
  exact⟨_,h,.int k _,fun w=>by simp only[binOp,intBits_xor];simp,cE.2 rfl⟩
 case andNot=>
  exact⟨_,h,.int k _,fun w=>by simp only[binOp,intBits_andNot];simp,cE.2 rfl⟩
 case shl=>
  simp[C7]at h
 case shr=>
  simp[C7]at h
 case eql=>
  exact⟨_,h,.bool _,fun w=>by simp only[binOp,Op.intCmp];simp,fC.2 rfl⟩
 case neq=>
  exact⟨_,h,.bool _,fun w=>by simp only[binOp,Op.intCmp];simp,fC.2 rfl⟩
 case lss=>
  exact⟨_,h,.bool _,fun w=>by simp only[binOp,Op.intCmp];simp,fC.2 rfl⟩
 case leq=>
  exact⟨_,h,.bool _,fun w=>by simp only[binOp,Op.intCmp];simp,fC.2 rfl⟩
 case gtr=>
  exact⟨_,h,.bool _,fun w=>by simp only[binOp,Op.intCmp];simp,fC.2 rfl⟩
 case geq=>
  exact⟨_,h,.bool _,fun w=>by simp only[binOp,Op.intCmp];simp,fC.2 rfl⟩
theorem LF {ok:Nat→Prop}{op:BinOp}(hop:op= .shl∨op= .shr){k k':IntKind}{m n:Int}{K:AV→Option R}{r:R}(t:TypeId)(x y:Operand)(h:Mx op k m n K=some r):
  ∃v,K v=some r∧cO P μ ok w (do eqGuard op t x y (.int k m) (.int k' n);binOp op t (.int k m) (.int k' n)) v:=by
 unfold Mx at h
 split at h
 ·cases h
 ·rename_i h0
  unfold cO
  rcases hop with rfl|rfl<;>simp only at h
  ·exact⟨_,h,_,fun w=>by simp[eqGuard,binOp,Op.shift,h0],cE.2 rfl⟩
  ·exact⟨_,h,_,fun w=>by simp[eqGuard,binOp,Op.shift,h0],cE.2 rfl⟩
theorem aa2(s t:List UInt8):(⟨s.toArray⟩:ByteArray)++⟨t.toArray⟩=⟨(s++t).toArray⟩:=by
 apply ByteArray.ext
 apply Array.toList_inj.1
 rw[ByteArray.toList_data_append]
theorem aa3 {ok:Nat→Prop}{op:BinOp}{s t:List UInt8}{K:AV→Option R}{r:R}(id:TypeId)(x y:Operand)(h:UB op s t K=some r):
  ∃v,K v=some r∧cO P μ ok w (do eqGuard op id x y (.string ⟨s.toArray⟩) (.string ⟨t.toArray⟩);binOp op id (.string ⟨s.toArray⟩) (.string ⟨t.toArray⟩)) v:=by
 have hg:∀op w,(eqGuard op id x y (.string ⟨s.toArray⟩) (.string ⟨t.toArray⟩)).run P w= .ok () w:=by
  intro op w;cases op<;>simp[eqGuard]
 unfold cO
 simp only[Sem.run_bind,hg,Result.andThen_ok]
 cases op<;>simp only[UB]at h<;>try (exfalso;cases h;done)
 ·unfold bd at h
  split at h
  ·rename_i hl
   refine⟨_,h,_,fun w=> ?_,pg.2 rfl⟩
   have:¬(((⟨s.toArray⟩:ByteArray).size+(⟨t.toArray⟩:ByteArray).size:Nat):Int)>IntKind.i64.max:=by
    have e1:(⟨s.toArray⟩:ByteArray).size=s.length:=by simp[ByteArray.size]
    have e2:(⟨t.toArray⟩:ByteArray).size=t.length:=by simp[ByteArray.size]
    have e3:IntKind.i64.max=9223372036854775807:=by decide
    rw[e1,e2,e3];omega
   simp only[binOp,Op.stringOp]
   rw[if_neg this,aa2,Sem.run_pure]
  ·cases h
 ·exact⟨_,h,_,fun w=>by simp only[binOp,Op.stringOp,ByteArray.toList_mk];rfl,fC.2 rfl⟩
 ·exact⟨_,h,_,fun w=>by simp only[binOp,Op.stringOp,ByteArray.toList_mk];rfl,fC.2 rfl⟩
theorem aeC {ok:Nat→Prop}{op:BinOp}{x y:AV}{u v:Value}{K:AV→Option R}{r:R}(id:TypeId)(ox oy:Operand)(hx:VA P μ ok w x u)(hy:VA P μ ok w y v)(h:acJ op x y K=some r):
  ∃z,K z=some r∧cO P μ ok w (do eqGuard op id ox oy u v;binOp op id u v) z:=by
 unfold acJ at h
 split at h
 ·rename_i k m k' n
  rw[cE]at hx hy
  subst hx hy
  split at h
  ·exact LF (.inl rfl) id ox oy h
  ·exact LF (.inr rfl) id ox oy h
  ·split at h
   ·rename_i hk;subst hk;exact aa1 id ox oy h
   ·cases h
 ·rw[pg]at hx hy
  subst hx hy
  exact aa3 id ox oy h
 ·cases h
theorem aa4 {op:BinOp}{K:AV→Option R}{b:Bool}{r:R}(h:uD op K b=some r):(op= .eql∧K (.dat .bool b)=some r)∨(op= .neq∧K (.dat .bool (!b))=some r):=by
 unfold uD at h
 split at h
 ·exact .inl ⟨rfl,h⟩
 ·exact .inr ⟨rfl,h⟩
 ·cases h
theorem Iv {ok:Nat→Prop}{op:BinOp}{u v:Value}{b:Bool}{K:AV→Option R}{r:R}(id:TypeId)(ox oy:Operand)(hu:∀w,(Op.equal id u v).run P w= .ok b w)(hg:∀w,(eqGuard op id ox oy u v).run P w= .ok () w)
  (he:∀op',op'= .eql∨op'= .neq→binOp op' id u v=(match op' with| .eql=>(do pure (.bool (←Op.equal id u v)))|_=>(do pure (.bool (!(←Op.equal id u v)))))) (h:uD op K b=some r):
  ∃z,K z=some r∧cO P μ ok w (do eqGuard op id ox oy u v;binOp op id u v) z:=by
 rcases aa4 h with⟨rfl,h⟩|⟨rfl,h⟩
 ·refine⟨_,h,.bool b,fun w'=> ?_,fC.2 rfl⟩
  rw[Sem.run_bind,hg]
  simp only[Result.andThen_ok,he .eql (.inl rfl)]
  simp[hu]
 ·refine⟨_,h,.bool (!b),fun w'=> ?_,fC.2 rfl⟩
  rw[Sem.run_bind,hg]
  simp only[Result.andThen_ok,he .neq (.inr rfl)]
  simp[hu]
theorem Ok {ok:Nat→Prop}(hT:cH P Γ E=true){op:BinOp}{x y:AV}{u v:Value}{K:AV→Option R}{r:R}(id:TypeId)(ox oy:Operand)(hx:VA P μ ok w x u)(hy:VA P μ ok w y v)(h:Ky Γ op id x y K=some r):
  ∃z,K z=some r∧cO P μ ok w (do eqGuard op id ox oy u v;binOp op id u v) z:=by
 unfold Ky at h
 split at h
 ·rename_i ty ht
  split at h
  ·rename_i hf
   split at h
   ·rename_i p q hp hq
    have h1:=UN hf.1 hp hx
    have h2:=UN hf.1 hq hy
    have hfl:=ZB (cN hT ht)
    simp only[ZA,hf.1,hf.2,Bool.and_self,Bool.not_true,Bool.false_or,Bool.and_eq_true,decide_eq_true_eq,Bool.not_eq_true']at hfl
    obtain⟨⟨hb,hgd⟩,hn⟩:=hfl
    have heq:∀w',(Op.equal id u v).run P w'= .ok (et ty p q) w':=fun w'=>(UO (P:=P) (ok:=ok) (w:=w) ty).1 9999 hb (by omega) h1 h2 w'
    have hagg:∃us vs,u= .agg us∧v= .agg vs:=by
     have h1:aY _ _ u:=h1
     have h2:aY _ _ v:=h2
     rw[aY,if_pos hf.1]at h1 h2
     obtain⟨us,rfl,_⟩:=h1
     obtain⟨vs,rfl,_⟩:=h2
     exact⟨_,_,rfl,rfl⟩
    obtain⟨us,vs,rfl,rfl⟩:=hagg
    refine Iv (b:=et ty p q) id ox oy heq (fun w'=>run_eqGuard_agg w' op id ox oy us vs hgd) ?_ ?_
    ·rintro op' (rfl|rfl)<;>rfl
    ·cases op<;>exact h
   ·cases h
  ·cases h
 ·cases h
theorem Tv(op:BinOp)(id:TypeId)(ox oy:Operand)(a b:Option Addr)(n c n' c':Nat)(w:World):(eqGuard op id ox oy (.slice a n c) (.slice b n' c')).run P w= .ok () w:=by
 unfold eqGuard
 cases op<;>simp
theorem Ol(op:BinOp)(id:TypeId)(ox oy:Operand)(a b:Option Addr)(w:World):(eqGuard op id ox oy (.pointer a) (.pointer b)).run P w= .ok () w:=by
 unfold eqGuard
 cases op<;>simp
theorem acS(hT:cH P Γ E=true)(hS:a8 P C μ af a w){op:BinOp}{x:AV}{u v:Value}{K:AV→Option R}{r:R}(id:TypeId)(ox oy:Operand)(hx:VA P μ (aO C.A μ af) w x u)(hv:v= .slice none 0 0)(h:Zt Γ af op id x K=some r):
  ∃z,K z=some r∧cO P μ (aO C.A μ af) w (do eqGuard op id ox oy u v;binOp op id u v) z:=by
 subst hv
 unfold Zt at h
 split at h
 ·rename_i te ht
  have hd:=d7 (cN hT ht)
  simp only[lr]at hd
  split at hd<;>try (cases hd;done)
  rename_i e hu
  have go:∀ {a:Option Addr} {n c:Nat},u= .slice a n c→uD op K a.isNone=some r→∃z,K z=some r∧cO P μ (aO C.A μ af) w (do eqGuard op id ox oy u (.slice none 0 0);binOp op id u (.slice none 0 0)) z:=by
   rintro a n c rfl h
   refine Iv (b:=a.isNone) id ox oy (fun w'=> ?_) (fun w'=>Tv op id ox oy _ _ _ _ _ _ w') ?_ h
   ·exact Go.Lib.run_equalIn_slice_nil w' 9999 id e a n c 0 0 hu
   ·rintro op' (rfl|rfl)<;>rfl
  split at h
  ·have hx:u= .slice none 0 0:=hx
   exact go hx h
  ·rename_i t' l
   obtain⟨h1,h2⟩:=SF h
   have hx:aY _ _ u:=hx
   simp only[aY,Ty.isAgg]at hx
   obtain⟨v',e',⟨rfl,a',c,rfl⟩|⟨b,o,c,rfl,hok,hlt,hcap,hcell⟩⟩:=hx
   ·simp at e'
    cases a' with
    |none=>exact go e' (h2 rfl)
    |some ad=>exact go e' h1
   ·simp at e'
    exact go e' h1
  ·rename_i m
   split at h
   ·rename_i e2 t' xs ho
    obtain⟨h1,h2⟩:=SF h
    have hx:u=μ m:=hx
    obtain⟨cells,⟨_,⟨hm,hn⟩|⟨g,cap,cur,hm,_⟩⟩,_⟩:=hS.objs m _ ho
    ·exact go (hx.trans hm) (h2 (List.length_eq_zero_iff.1 hn))
    ·exact go (hx.trans hm) h1
   ·cases h
  ·cases h
 ·cases h
theorem acT(hT:cH P Γ E=true){ok:Nat→Prop}{op:BinOp}{x:AV}{u v:Value}{K:AV→Option R}{r:R}(id:TypeId)(ox oy:Operand)(hx:VA P μ ok w x u)(hv:v= .pointer none)(h:Zu Γ op id x K=some r):
  ∃z,K z=some r∧cO P μ ok w (do eqGuard op id ox oy u v;binOp op id u v) z:=by
 subst hv
 unfold Zu at h
 split at h
 ·rename_i te ht
  have hd:=d7 (cN hT ht)
  simp only[lr]at hd
  split at hd<;>try (cases hd;done)
  rename_i e hu
  have hu':P.underlying id=some (.pointer (P.pointee id)):=by rw[hu];simp[Program.pointee,hu]
  have go:∀ {a:Option Addr},u= .pointer a→uD op K a.isNone=some r→∃z,K z=some r∧cO P μ ok w (do eqGuard op id ox oy u (.pointer none);binOp op id u (.pointer none)) z:=by
   rintro a rfl h
   refine Iv (b:=a.isNone) id ox oy (fun w'=>run_equal_pointer_nil w' id a hu') (fun w'=>Ol op id ox oy _ _ w') ?_ h
   rintro op' (rfl|rfl)<;>rfl
  split at h
  ·have hx:u= .pointer none:=hx
   exact go hx h
  ·obtain⟨b,_,hx⟩:=hx
   exact go hx h
  ·obtain⟨b,o,us,hx,_⟩:=hx
   exact go hx h
  ·have hx:aY _ _ u:=hx
   simp only[aY,Ty.isAgg]at hx
   obtain⟨b,o,us,e',_⟩:=hx
   simp at e'
   exact go e' h
  ·rename_i t' y
   have hx:aY _ _ u:=hx
   simp only[aY,Ty.isAgg]at hx
   obtain⟨e1,e2⟩|⟨y',b,o,us,e1,e2,_⟩:=hx
   ·simp at e2
    exact go e2 (by rw[e1]at h;exact h)
   ·simp at e2
    exact go e2 (by rw[e1]at h;exact h)
  ·cases h
 ·cases h
theorem Yw(hT:cH P Γ E=true)(hS:a8 P C μ af a w){op:BinOp}{x y:AV}{u v:Value}{K:AV→Option R}{r:R}(id:TypeId)(ox oy:Operand)(hx:VA P μ (aO C.A μ af) w x u)(hy:VA P μ (aO C.A μ af) w y v)(h:acK Γ af op id x y K=some r):
  ∃z,K z=some r∧cO P μ (aO C.A μ af) w (do eqGuard op id ox oy u v;binOp op id u v) z:=by
 unfold acK at h
 split at h
 ·exact acS hT hS id ox oy hx hy h
 ·exact acT hT id ox oy hx hy h
 ·exact Ok hT id ox oy hx hy h
 ·exact Ok hT id ox oy hx hy h
 ·rename_i c d
  rw[fC]at hx hy
  subst hx hy
  split at h
  ·rename_i ht
   have hd:=d7 (cN hT ht)
   simp only[lr]at hd
   split at hd<;>try (cases hd;done)
   rename_i hu
   unfold cO
   split at h
   ·exact⟨_,h,_,fun w=>by simp[eqGuard,binOp,run_equal_bool _ _ _ _ hu],fC.2 rfl⟩
   ·exact⟨_,h,_,fun w=>by simp[eqGuard,binOp,run_equal_bool _ _ _ _ hu,bne],fC.2 rfl⟩
   ·cases h
  ·cases h
 ·exact aeC id ox oy hx hy h
theorem aa5 {ok:Nat→Prop}{op:UnOp}{x:AV}{u:Value}{K:AV→Option R}{r:R}(hx:VA P μ ok w x u)(h:unK op x K=some r):∃z,K z=some r∧cO P μ ok w (Op.unary op u) z:=by
 unfold unK at h
 split at h
 ·rw[fC]at hx;subst hx
  exact⟨_,h,_,fun _=>rfl,fC.2 rfl⟩
 ·rw[cE]at hx;subst hx
  exact⟨_,h,_,fun w=>by simp[Op.unary,Op.intArith],cE.2 rfl⟩
 ·cases h
theorem UQ {ok:Nat→Prop}(hT:cH P Γ E=true){s t:TypeId}{x:AV}{u:Value}{K:AV→Option R}{r:R}(hx:VA P μ ok w x u)(h:Zv Γ s t x K=some r):∃z,K z=some r∧cO P μ ok w (convert s t u) z:=by
 unfold Zv at h
 split at h
 ·rename_i k n ts k' hs ht
  rw[cE]at hx;subst hx
  refine⟨_,h,_,fun w=> ?_,cE.2 rfl⟩
  obtain⟨d,hd,_⟩:=SB (SC (cN hT hs))
  have h2:P.underlying t=some (.int k'):=by
   have:=d7 (cN hT ht)
   simp only[lr]at this
   split at this
   ·rename_i k2 hu;simp at this;subst this;exact hu
   ·cases this
  unfold convert
  simp only[Sem.run_bind,run_underlying hd,run_underlying h2,Result.andThen_ok]
  cases d<;>rfl
 ·cases h
theorem aeD(hT:cH P Γ E=true)(hS:a8 P C μ af a w){x:AV}{u:Value}{K:AV→Option R}{r:R}{t:TypeId}(hx:VA P μ (aO C.A μ af) w x u)
  (h:acL Γ af t x K=some r) (ty:TypeId):∃z,K z=some r∧AM P μ (aO C.A μ af) w (Builtin.len_ #[t] ty #[u]) z:=by
 unfold acL at h
 split at h
 ·rename_i te ht
  have hd:=d7 (cN hT ht)
  simp only[lr]at hd
  split at hd<;>try (cases hd;done)
  rename_i e hu
  have hlen:∀a n c,u= .slice a n c→(Builtin.len_ #[t] ty #[u]).run P w= .ok (.int .i64 n) w:=by
   rintro a n c rfl;simp[Builtin.len_,run_underlying hu,goInt]
  split at h
  ·rename_i t' l
   have hx:aY _ _ u:=hx
   simp only[aY,Ty.isAgg]at hx
   obtain⟨v,e,⟨rfl,a,c,rfl⟩|⟨b,o,c,rfl,_⟩⟩:=hx
   ·simp at e;subst e
    exact⟨_,h,_,hlen _ _ _ rfl,cE.2 (by simp)⟩
   ·simp at e;subst e
    exact⟨_,h,_,hlen _ _ _ rfl,cE.2 rfl⟩
  ·have hx:u=_:=hx
   subst hx
   exact⟨_,h,_,hlen _ _ _ rfl,cE.2 rfl⟩
  ·rename_i l
   split at h
   ·rename_i e t' xs ho
    have hx:u=μ l:=hx
    obtain⟨cells,⟨_,⟨hv,hn⟩|⟨g,cap,cur,hv,_⟩⟩,_⟩:=hS.objs l _ ho
    ·rw[hv]at hx
     exact⟨_,h,_,hlen _ _ _ hx,cE.2 (by simp[hn])⟩
    ·rw[hv]at hx
     exact⟨_,h,_,hlen _ _ _ hx,cE.2 rfl⟩
   ·rename_i e t' xs i0 x0 off0 d0 ho
    have hx:u=μ l:=hx
    obtain⟨cells,bs,⟨_,⟨hv,hn⟩|⟨g,cap,cur,hv,_⟩⟩,_⟩:=hS.objs l _ ho
    ·rw[hv]at hx
     exact⟨_,h,_,hlen _ _ _ hx,cE.2 (by simp[hn])⟩
    ·rw[hv]at hx
     exact⟨_,h,_,hlen _ _ _ hx,cE.2 rfl⟩
   ·cases h
  ·cases h
 ·rename_i ht
  have hd:=d7 (cN hT ht)
  simp only[lr]at hd
  split at hd<;>try (cases hd;done)
  rename_i hu
  split at h
  ·rw[pg]at hx;subst hx
   exact⟨_,h,_,by simp[Builtin.len_,run_underlying hu,goInt];rfl,cE.2 (by simp[ByteArray.size])⟩
  ·cases h
 ·cases h
theorem bA {α:Type}{o:Option α}{K:α→Option R}{r:R}(h:ac o K=some r):∃v,o=some v∧K v=some r:=by
 unfold ac at h
 split at h
 ·rename_i v;exact⟨v,rfl,h⟩
 ·cases h
theorem Fo {α:Type}{l:List α}{n:Int}{y:α}(h:aI l n=some y):0≤n∧n<l.length∧l[n.toNat]? =some y:=by
 unfold aI at h
 split at h
 ·rename_i h0
  have:=(List.getElem?_eq_some_iff.1 h).1
  exact⟨h0,by omega,h⟩
 ·cases h
theorem yO {ok:Nat→Prop}{t:Ty}{cs:List AV}{us:List Value}{v:AV}(hp:wI t cs=some v)(hv:bE P μ ok w cs us)(h1:∀u ∈ us,u.oneCell'=true):us.length=t.size∧(t.isAgg=false→t.size=1)∧VA P μ ok w v (oX t.isAgg us):=by
 unfold wI at hp
 split at hp
 ·rename_i hl
  have hlen:=bE.length hv
  have hone:t.isAgg=false→t.size=1:=by cases t<;>simp[Ty.isAgg,Ty.size]
  refine⟨by omega,hone, ?_⟩
  cases ht:t.isAgg with
  |true=>
   rw[ht]at hp;simp at hp;subst hp
   exact⟨us,rfl,hv,h1⟩
  |false=>
   rw[ht]at hp;simp at hp
   have h2:=hone ht
   obtain⟨c,rfl⟩:∃c,cs= [c]:=List.length_eq_one_iff.1 (by omega)
   simp at hp;subst hp
   obtain⟨u,us',rfl,hu,hr⟩:=hv
   exact hu
 ·cases hp
theorem C9 {b o:Nat}{us:List Value}(h:MR w b o us)(off n:Nat):MR w b (o+off) ((us.drop off).take n):=by
 intro j u hu
 have:us[off+j]? =some u:=by
  have:=List.getElem?_take (l:=us.drop off) (i:=n) (j:=j)
  rw[this]at hu
  split at hu
  ·simpa using hu
  ·cases hu
 have:=h (off+j) u this
 rwa [←Nat.add_assoc]at this
theorem Om {b:Nat}{us:List Value}{e:TypeId}{fr:Nat×Nat}(hg:w.heap[b]? =some (.cells us.toArray e fr)):MR w b 0 us:=by
 intro j u hu
 rw[cell_of_row w b _ _ e fr hg]
 simpa using hu
theorem uF {ok:Nat→Prop}{t:Ty}{x:t.T}{us:List Value}(h:CR P ok w t x us):VR P ok w t x (oX t.isAgg us):=by
 show aY _ _ _
 unfold aY oX
 split
 ·exact⟨us,rfl,h⟩
 ·rename_i ht
  have hl:=CR.length t x us h
  have h1:t.size=1:=by cases t<;>simp_all [Ty.isAgg,Ty.size]
  obtain⟨u,rfl⟩:∃u,us= [u]:=List.length_eq_one_iff.1 (by omega)
  exact h
theorem gA {id:TypeId}{t:Ty}(hc:mQ P id t=true){b o:Nat}{us:List Value}(hm:MR w b o us)(hl:us.length=t.size):(Instr.loadAt id (.pointer (some ⟨b,o,none⟩))).run P w= .ok (oX t.isAgg us) w:=by
 have hone:t.isAgg=false→t.size=1:=by cases t<;>simp[Ty.isAgg,Ty.size]
 simp[Instr.loadAt,Instr.sureAddr,UM (tk hc) (SC hc) hm hl hone]
theorem aa6 {ok:Nat→Prop}{base:Nat}{e:TypeId}{t:Ty}{b n c:Nat}{xs:List t.T}{cells:List Value}(h:w.ownsRow base e t.size (.slice (some ⟨b,0,none⟩) n c) xs.length cells)(hr:cC P ok w t xs cells){i:Nat}{x:t.T}(hx:xs[i]? =some x):
  ∃us,MR w b (i*t.size) us∧CR P ok w t x us:=by
 obtain⟨hl,⟨hv,_⟩|⟨g,cap,cur,hv,_,hg,hcap,_,hcur,htake⟩⟩:=h
 ·cases hv
 ·simp at hv
  obtain⟨rfl,rfl,rfl⟩:=hv
  obtain⟨hi,e'⟩:=List.getElem?_eq_some_iff.1 hx
  obtain⟨us,hc,hj⟩:=hr.get i hi
  rw[e']at hc
  refine⟨us,fun j u hu=> ?_,hc⟩
  rw[cell_of_row w b _ cur e (0,0) hg]
  have h2:=hj j u hu
  rw[←htake,List.getElem?_take]at h2
  split at h2
  ·simpa using h2
  ·cases h2
theorem Fp {ok:Nat→Prop}{id:TypeId}{t t':Ty}(hc:mQ P id t=true){b o off:Nat}{us:List Value}{x:t'.T}(hm:MR w b o us)(hr:CR P ok w t' x us){K:AV→Option R}{r:R}
  (h:ac (wI t (((ie t' x).drop off).take t.size)) K=some r):∃z,K z=some r∧AM P μ ok w (Instr.loadAt id (.pointer (some ⟨b,o+off,none⟩))) z:=by
 unfold ac at h
 split at h
 ·rename_i v hp
  have hvs:=((pe t' x us hr (μ:=μ)).drop off).take t.size
  obtain⟨hl,hone,hv⟩:=yO hp hvs (fun u hu=>CR.one t' x us hr u (List.mem_of_mem_drop (List.mem_of_mem_take hu)))
  exact⟨v,h,_,gA hc (C9 hm off t.size) hl,hv⟩
 ·cases h
theorem UR(hT:cH P Γ E=true)(hS:a8 P C μ af a w){id:TypeId}{p:AV}{u:Value}{K:AV→Option R}{r:R}(hp:VA P μ (aO C.A μ af) w p u)(h:vt Γ af id p K=some r):
  ∃z,K z=some r∧AM P μ (aO C.A μ af) w (Instr.loadAt id u) z:=by
 unfold vt at h
 split at h
 ·cases h
 ·rename_i t ht
  have hc:=cN hT ht
  split at h
  ·rename_i l off
   split at h
   ·rename_i cs ho
    unfold ac at h
    split at h
    ·rename_i v hpk
     obtain⟨b,e,rfl⟩:=hp
     obtain⟨b',us,E',e',hg,hvs,h1⟩:=hS.objs l _ ho
     have hbb:b=b':=by rw[e]at e';simpa using e'
     subst hbb
     obtain⟨hl,hone,hv⟩:=yO hpk ((hvs.drop off).take t.size) (fun u hu=>h1 u (List.mem_of_mem_drop (List.mem_of_mem_take hu)))
     have hm:=C9 (Om hg) off t.size
     rw[Nat.zero_add]at hm
     exact⟨v,h,_,gA hc hm hl,hv⟩
    ·cases h
   ·cases h
  ·rename_i t' x off
   obtain⟨b,o,us,rfl,hok,hlt,hm,hr⟩:=hp
   split at h
   ·rename_i hh
    obtain⟨rfl,rfl⟩:=hh
    exact⟨_,h,_,gA hc hm (CR.length _ x us hr),uF hr⟩
   ·exact Fp hc hm hr h
  ·rename_i t' x
   have hp:aY _ _ u:=hp
   simp only[aY,Ty.isAgg]at hp
   obtain⟨b,o,us,e,hok,hlt,hm,hr⟩:=hp
   simp at e;subst e
   split at h
   ·rename_i hh
    subst hh
    exact⟨_,h,_,gA hc hm (CR.length t' x us hr),uF hr⟩
   ·exact Fp (μ:=μ) (off:=0) hc hm hr h
  ·rename_i t' x
   obtain⟨y,hxy,h2⟩:=bA h
   clear h
   subst hxy
   have hp:aY _ _ u:=hp
   simp only[aY,Ty.isAgg]at hp
   obtain⟨e,_⟩|⟨y',b,o,us,ey,e,hok,hlt,hm,hr⟩:=hp
   ·cases e
   ·cases ey
    simp at e;subst e
    have h:(if t'=t then K (.dat t' y)else ac (wI t (((ie t' y).drop 0).take t.size)) K)=some r:=h2
    split at h
    ·rename_i hh
     subst hh
     exact⟨_,h,_,gA hc hm (CR.length t' _ us hr),uF hr⟩
    ·exact Fp (μ:=μ) (off:=0) hc hm hr h
  ·rename_i l i k off
   split at h
   ·rename_i e t' xs ho
    split at h
    ·rename_i x hx
     split at h
     ·rename_i hk
      obtain⟨hk,hnt⟩:=hk
      subst hk
      obtain⟨b,n,c,hb,rfl⟩:=hp
      obtain⟨cells,h3,h4⟩:=(rg hnt).1 (hS.objs l _ ho)
      rw[hb]at h3
      obtain⟨us,hm,hr⟩:=aa6 h3 h4 hx
      split at h
      ·rename_i hh
       obtain⟨rfl,rfl⟩:=hh
       exact⟨_,h,_,gA hc hm (CR.length _ x us hr),uF hr⟩
      ·exact Fp hc hm hr h
     ·cases h
    ·cases h
   ·cases h
  ·cases h
theorem SG(hT:cH P Γ E=true){ok:Nat→Prop}{id:TypeId}{p:AV}{f:Nat}{u:Value}{K:AV→Option R}{r:R}(hp:VA P μ ok w p u)(h:UD Γ id p f K=some r):
  ∃z,K z=some r∧cO P μ ok w (Instr.fieldAt id u f) z:=by
 unfold UD at h
 split at h
 ·cases h
 ·rename_i t ht
  have hc:=cN hT ht
  split at h
  ·cases h
  ·rename_i o ft hf
   split at h
   ·cases h
   ·rename_i hne
    split at h
    ·rename_i l off
     obtain⟨b,e,rfl⟩:=hp
     exact⟨_,h,_,pf hc hf hne b off,b,e,rfl⟩
    ·rename_i t' x off
     obtain⟨b,o',us,rfl,hok,hlt,hm,hr⟩:=hp
     exact⟨_,h,_,pf hc hf hne b _,b,o',us,by rw[Nat.add_assoc],hok,hlt,hm,hr⟩
    ·rename_i t' x
     have hp:aY _ _ u:=hp
     simp only[aY,Ty.isAgg]at hp
     obtain⟨b,o',us,e,hok,hlt,hm,hr⟩:=hp
     simp at e;subst e
     exact⟨_,h,_,pf hc hf hne b _,b,o',us,rfl,hok,hlt,hm,hr⟩
    ·rename_i t' x
     obtain⟨y,rfl,h⟩:=bA h
     have hp:aY _ _ u:=hp
     simp only[aY,Ty.isAgg]at hp
     obtain⟨e,_⟩|⟨y',b,o',us,ey,e,hok,hlt,hm,hr⟩:=hp
     ·cases e
     ·cases ey
      simp at e;subst e
      exact⟨_,h,_,pf hc hf hne b _,b,o',us,rfl,hok,hlt,hm,hr⟩
    ·rename_i l i k off
     obtain⟨b,n,c,hb,rfl⟩:=hp
     exact⟨_,h,_,pf hc hf hne b _,b,n,c,hb,by rw[Nat.add_assoc]⟩
    ·cases h
theorem aa7 {ok:Nat→Prop}{v:AV}{u:Value}{cs:List AV}(hv:VA P μ ok w v u)(hc:v.cells=some cs)(hsl:∀l,v= .own l→∃a n c,μ l= .slice a n c):bE P μ ok w cs u.cells.toList∧∀x ∈ u.cells.toList,x.oneCell'=true:=by
 have one:u.oneCell'=true→cs= [v]→bE P μ ok w cs u.cells.toList∧∀x ∈ u.cells.toList,x.oneCell'=true:=by
  intro h1 e
  subst e
  rw[Value.cells_one h1]
  exact⟨⟨u,[],rfl,hv,rfl⟩,by simp[h1]⟩
 cases v with
 |junk=>simp[AV.cells]at hc
 |tup _=>simp[AV.cells]at hc
 |dat t x=>
  simp[AV.cells]at hc;subst hc
  have:=VR.cells hv
  exact⟨pe t x _ this,CR.one t x _ this⟩
 |agg cs'=>
  simp[AV.cells]at hc;subst hc
  obtain⟨us,rfl,h1,h2⟩:=hv
  exact⟨by simpa [Value.cells]using h1,by simpa [Value.cells]using h2⟩
 |nils=>
  simp[AV.cells]at hc
  have hv':u=_:=hv
  exact one (by rw[hv'];rfl) hc.symm
 |nilp=>
  simp[AV.cells]at hc
  have hv':u=_:=hv
  exact one (by rw[hv'];rfl) hc.symm
 |bptr l off=>
  simp[AV.cells]at hc
  obtain⟨b,_,e⟩:=hv
  exact one (by rw[e];rfl) hc.symm
 |own l=>
  simp[AV.cells]at hc
  have hv':u=μ l:=hv
  obtain⟨a,n,c,e⟩:=hsl l rfl
  exact one (by rw[hv',e];rfl) hc.symm
 |eptr l i k off=>
  simp[AV.cells]at hc
  obtain⟨b,n,c,_,e⟩:=hv
  exact one (by rw[e];rfl) hc.symm
 |rptr t x off=>
  simp[AV.cells]at hc
  obtain⟨b,o,us,e,_⟩:=hv
  exact one (by rw[e];rfl) hc.symm
 |clo f caps=>
  simp[AV.cells]at hc
  obtain⟨us,e,_⟩:=hv
  exact one (by rw[e];rfl) hc.symm
theorem US {ok:Nat→Prop}{v:AV}{u:Value}{cs:List AV}(hv:VA P μ ok w v u)(hc:Mz v=some cs):∃us,u= .agg us.toArray∧bE P μ ok w cs us∧∀x ∈ us,x.oneCell'=true:=by
 unfold Mz at hc
 split at hc
 ·simp at hc;subst hc
  exact hv
 ·rename_i t x
  split at hc
  ·rename_i ht
   simp at hc;subst hc
   have hv:aY t _ u:=hv
   rw[aY,if_pos ht]at hv
   obtain⟨us,e,hc⟩:=hv
   exact⟨us,e,pe t x us hc,CR.one t x us hc⟩
  ·cases hc
 ·cases hc
theorem UT(hT:cH P Γ E=true){ok:Nat→Prop}{id:TypeId}{v:AV}{f:Nat}{u:Value}{K:AV→Option R}{r:R}(hv:VA P μ ok w v u)(h:Zw Γ id v f K=some r):
  ∃z,K z=some r∧cO P μ ok w (Instr.field id u f) z:=by
 unfold Zw at h
 split at h
 ·cases h
 ·rename_i t ht
  have hc:=cN hT ht
  split at h
  ·rename_i o ft cs hf hcs
   split at h
   ·rename_i hl
    obtain⟨z,hp,hz⟩:=bA h
    obtain⟨us,rfl,hvs,h1⟩:=US hv hcs
    obtain⟨hlen,hone,hva⟩:=yO hp ((hvs.drop o).take ft.size) (fun u hu=>h1 u (List.mem_of_mem_drop (List.mem_of_mem_take hu)))
    refine⟨z,hz,_,fun w=> ?_,hva⟩
    obtain⟨fs,fd,hu,hfd,rfl,hs,hag⟩:=Oi hc hf
    simp only[Instr.field,Sem.run_bind,run_underlying hu,Result.andThen_ok,hfd,asAgg,Sem.run_pure,part,tj hag,oX]
    cases hagg:ft.isAgg with
    |true=>
     simp only[if_true,Sem.run_bind,gQ hs,Result.andThen_ok,Sem.run_pure]
     simp[List.extract_eq_take_drop]
    |false=>
     have h2:=hone hagg
     have:us[fd.offset]? =some ((List.take ft.size (List.drop fd.offset us)).headD undef):=by
      rw[h2]at hlen ⊢
      obtain⟨y,hy⟩:=List.length_eq_one_iff.1 hlen
      rw[hy]
      have:(List.take 1 (List.drop fd.offset us))[0]? =some y:=by rw[hy];rfl
      simpa using this
     simp[this]
   ·cases h
  ·cases h
theorem wL(hT:cH P Γ E=true)(hS:a8 P C μ af a w){id:TypeId}{x i:AV}{u v:Value}{K:AV→Option R}{r:R}(hx:VA P μ (aO C.A μ af) w x u)(hi:VA P μ (aO C.A μ af) w i v)
  (h:ye Γ E af id x i K=some r):∃z,K z=some r∧cO P μ (aO C.A μ af) w (Instr.indexAt id u v) z:=by
 unfold ye at h
 split at h
 ·rename_i t e k n ht he
  rw[cE]at hi;subst hi
  have hel:=ma hT ht he
  simp only[KA,Bool.and_eq_true]at hel
  obtain⟨⟨⟨⟨⟨h1,h2⟩,h3⟩,h4⟩,h5⟩,h6⟩:=hel
  have hu:∃e',P.underlying id=some (.slice e')∧e'=e:=by
   split at h1
   ·rename_i e' hu;exact⟨e',hu,by simpa using h1⟩
   ·cases h1
  obtain⟨e',hu,rfl⟩:=hu
  have run:∀b o len cap,0≤n→n<(len:Nat)→∀w,(Instr.indexAt id (.slice (some ⟨b,o,none⟩) len cap) (.int k n)).run P w= .ok (.pointer (some ⟨b,o+n.toNat*t.size,none⟩)) w:=by
   intro b o len cap h0 hl w
   simp[Instr.indexAt,asIntOf,run_underlying hu,h0,hl,gQ h2,Addr.add_lit]
  split at h
  ·rename_i t' l
   split at h
   ·rename_i htt;subst htt
    obtain⟨y,hy,hk⟩:=bA h
    obtain⟨h0,hl,hg⟩:=Fo hy
    have hx:aY _ _ u:=hx
    simp only[aY,Ty.isAgg]at hx
    obtain⟨v,e,⟨rfl,a,c,rfl⟩|⟨b,o,c,rfl,hok,hlt,hcap,hcell⟩⟩:=hx
    ·simp at hl;omega
    ·simp at e;subst e
     refine⟨_,hk,_,run b o _ c h0 hl, ?_⟩
     obtain⟨hi,e'⟩:=List.getElem?_eq_some_iff.1 hg
     obtain⟨us,hm,hr⟩:=hcell n.toNat hi
     rw[e']at hr
     exact⟨b,o+n.toNat*t'.size,us,by simp,hok,hlt,hm,hr⟩
   ·cases h
  ·rename_i l
   split at h
   ·rename_i e2 t' xs ho
    split at h
    ·rename_i htt
     subst htt
     obtain⟨y,hy,hk⟩:=bA h
     obtain⟨h0,hl,hg⟩:=Fo hy
     have hx:u=μ l:=hx
     obtain⟨cells,⟨_,⟨hv,hn⟩|⟨g,cap,cur,hv,_⟩⟩,_⟩:=hS.objs l _ ho
     ·omega
     ·rw[hv]at hx;subst hx
      refine⟨_,hk,_,run g 0 _ cap h0 hl, ?_⟩
      exact⟨g,_,cap,hv,by simp⟩
    ·cases h
   ·rename_i e2 t' xs i0 x0 off0 d0 ho
    split at h
    ·rename_i htt
     subst htt
     obtain⟨y,hy,hk⟩:=bA h
     obtain⟨h0,hl,hg⟩:=Fo hy
     have hx:u=μ l:=hx
     obtain⟨cells,bs,⟨_,⟨hv,hn⟩|⟨g,cap,cur,hv,_⟩⟩,_⟩:=hS.objs l _ ho
     ·omega
     ·rw[hv]at hx;subst hx
      refine⟨_,hk,_,run g 0 _ cap h0 hl, ?_⟩
      exact⟨g,_,cap,hv,by simp⟩
    ·cases h
   ·cases h
  ·cases h
 ·cases h
theorem aa8(hT:cH P Γ E=true){ok:Nat→Prop}{id:TypeId}{x i:AV}{u v:Value}{K:AV→Option R}{r:R}(hx:VA P μ ok w x u)(hi:VA P μ ok w i v)
  (h:UE Γ id x i K=some r):∃z,K z=some r∧AM P μ ok w (Instr.index id u v) z:=by
 unfold UE at h
 split at h
 ·rename_i s k n ht
  rw[pg]at hx;subst hx
  rw[cE]at hi;subst hi
  obtain⟨y,hy,hk⟩:=bA h
  obtain⟨h0,hl,hg⟩:=Fo hy
  have hd:=d7 (cN hT ht)
  simp only[lr]at hd
  split at hd<;>try (cases hd;done)
  rename_i hu
  refine⟨_,hk,.int .u8 y.toNat, ?_,cE.2 rfl⟩
  have hg2:(⟨s.toArray⟩:ByteArray)[n.toNat]? =some y:=by
   obtain⟨h1,h2⟩:=List.getElem?_eq_some_iff.1 hg
   have h3:n.toNat<(⟨s.toArray⟩:ByteArray).size:=by simpa [ByteArray.size]using h1
   rw[getElem?_pos (⟨s.toArray⟩:ByteArray) n.toNat h3,←h2]
   rfl
  simp[Instr.index,asIntOf,run_underlying hu,h0,hg2]
 ·cases h
theorem LG {ok:Nat→Prop}{x:AV}{i:Nat}{u:Value}{K:AV→Option R}{r:R}(hx:VA P μ ok w x u)(h:MA x i K=some r):∃z,K z=some r∧cO P μ ok w (Instr.extract u i) z:=by
 unfold MA at h
 split at h
 ·rename_i vs
  obtain⟨y,hy,hk⟩:=bA h
  obtain⟨us,rfl,hvs⟩:=hx
  obtain⟨u,hu,hv⟩:=bE.get hvs hy
  exact⟨_,hk,u,fun w=>by simp[Instr.extract,hu],hv⟩
 ·cases h
end
end Go.Proofs.YtnambbcafhnhpaaGreatDoor
