import Derived.WalkKit
namespace Go.Proofs.YtnambbcafhnhpaaGreatDoor
open Go.RowKit
set_option linter.unusedVariables false
set_option linter.unusedSimpArgs false
inductive Ty where
 |int (k:IntKind)
 |bool
 |str
 |list (t:Ty)
 |unit
 |pair (a b:Ty)
 |ptr (t:Ty)
 |fn (a r:Ty)
 |own (e:TypeId) (t:Ty)
 |box (t:Ty)
 |nptr (t:Ty)
 |nil
 deriving DecidableEq
abbrev Ty.T:Ty→Type
 | .int _=>Int
 | .bool=>Bool
 | .str=>List UInt8
 | .list t=>List t.T
 | .unit=>Unit
 | .pair a b=>a.T×b.T
 | .ptr t=>t.T
 | .fn a r=>a.T→Option r.T
 | .own _ t=>List t.T
 | .box t=>t.T
 | .nptr t=>Option t.T
 | .nil=>Unit
def Ty.size:Ty→Nat
 | .unit=>0
 | .pair a b=>a.size+b.size
 |_=>1
def Ty.isAgg:Ty→Bool
 | .unit| .pair _ _=>true
 |_=>false
def Ty.owned:Ty→Bool
 | .own _ _| .box _=>true
 | .pair a b=>a.owned||b.owned
 |_=>false
def Ty.flat:Ty→Bool
 | .int _| .bool| .str| .unit=>true
 | .pair a b=>a.flat&&b.flat
 |_=>false
structure aG (S:Nat→Prop) (w w':World):Prop where
 os:w'.os=w.os
 tape:w'.tape=w.tape
 output:w'.output=w.output
 size:w.heap.size≤w'.heap.size
 block:∀k,k<w.heap.size→¬S k→w'.heap[k]? =w.heap[k]?
def vI:Nat→Prop:=fun _=>False
theorem aG.refl(S:Nat→Prop)(w:World):aG S w w:=⟨rfl,rfl,rfl,Nat.le_refl _,fun _ _ _=>rfl⟩
theorem aG.trans {S:Nat→Prop}{a b c:World}(h:aG S a b)(k:aG S b c):aG S a c:=
 ⟨k.os.trans h.os,k.tape.trans h.tape,k.output.trans h.output,Nat.le_trans h.size k.size,
  fun i hi hs=>(k.block i (Nat.lt_of_lt_of_le hi h.size) hs).trans (h.block i hi hs)⟩
theorem aG.mono {S S':Nat→Prop}{w w':World}(h:aG S w w')(hs:∀k,k<w.heap.size→S k→S' k):aG S' w w':=
 ⟨h.os,h.tape,h.output,h.size,fun k hk hn=>h.block k hk fun x=>hn (hs k hk x)⟩
theorem aG.below {w w':World}(h:aG vI w w'):Below w.heap.size w w':=⟨h.os,h.tape,h.output,h.size,fun k hk=>h.block k hk id⟩
theorem aG.ofBelow {w w':World}(h:Below w.heap.size w w'):aG vI w w':=⟨h.os,h.tape,h.output,h.size,fun k hk _=>h.block k hk⟩
theorem aG.alloc(S:Nat→Prop)(w:World)(o:Obj):aG S w (w.alloc o):=⟨rfl,rfl,rfl,by simp,fun k hk _=>Below.heap_alloc w o k hk⟩
theorem aG.drew {S:Nat→Prop}{w w':World}(h:aG S w w'):aG S w w'.drew:=⟨h.os,h.tape,h.output,h.size,h.block⟩
theorem aG.grown {S:Nat→Prop}{w w':World}{row:Option Nat}(h:w.grownBy w' row)(hr:∀k,row=some k→S k):aG S w w':=
 ⟨h.os,h.tape,h.output,h.size,fun k hk hs=>h.block k hk fun e=>hs (hr k e.symm)⟩
theorem aG.setRow(S:Nat→Prop)(w:World)(g:Nat)(cs:Array Value)(hg:S g):aG S w (w.setRow g cs):=by
 refine⟨rfl,rfl,rfl,by simp,fun k _ hs=> ?_⟩
 have hne:¬g=k:=fun e=>hs (e▸hg)
 simp[World.setRow,Array.getElem?_modify,hne]
def br(ok:Nat→Prop)(w w':World):Prop:=w.heap.size≤w'.heap.size∧∀b,ok b→b<w.heap.size→w'.heap[b]? =w.heap[b]?
theorem br.refl(ok:Nat→Prop)(w:World):br ok w w:=⟨Nat.le_refl _,fun _ _ _=>rfl⟩
theorem br.trans {ok ok':Nat→Prop}{a b c:World}(h:br ok a b)(hk:∀i,i<a.heap.size→ok i→ok' i)(k:br ok' b c):br ok a c:=
 ⟨Nat.le_trans h.1 k.1,fun i ho hi=>(k.2 i (hk i hi ho) (Nat.lt_of_lt_of_le hi h.1)).trans (h.2 i ho hi)⟩
theorem aG.agree {S ok:Nat→Prop}{w w':World}(h:aG S w w')(hs:∀k,k<w.heap.size→ok k→¬S k):br ok w w':=
 ⟨h.size,fun b hb hlt=>h.block b hlt (hs b hlt hb)⟩
def MR(w:World)(b o:Nat)(us:List Value):Prop:=∀(j:Nat) u,us[j]? =some u→w.cell? ⟨b,o+j,none⟩=some u
theorem jj {w w':World}{b o:Nat}(h:w'.heap[b]? =w.heap[b]?):w'.cell? ⟨b,o,none⟩=w.cell? ⟨b,o,none⟩:=by
 simp[World.cell?,h]
theorem MR.agree {ok:Nat→Prop}{w w':World}{b o:Nat}{us:List Value}(h:MR w b o us)(hb:ok b)(hlt:b<w.heap.size)(ha:br ok w w'):MR w' b o us:=
 fun j u hu=>by rw[jj (ha.2 b hb hlt)];exact h j u hu
def jN(P:Program)(f:FuncId):Prop:=∀(args:Array Value) (w:World),(callFunc f args).run P w= .ok (.enter f args) w
section
variable (P:Program)
def aY(t:Ty)(cr:List Value→Prop)(v:Value):Prop:=if t.isAgg then ∃us,v= .agg us.toArray∧cr us else cr [v]
def oW:Ty→Bool
 | .pair _ .unit=>true
 |_=>false
def de:(t:Ty)→(ok:Nat→Prop)→(w:World)→t.T→(List Value→Prop)×(List Value→Prop)
 | .int k,_,_,n=>(fun vs=>vs= [.int k n],fun _=>False)
 | .bool,_,_,b=>(fun vs=>vs= [.bool b],fun _=>False)
 | .nil,_,_,_=>(fun vs=>vs= [.slice none 0 0],fun _=>False)
 | .str,_,_,s=>(fun vs=>vs= [.string ⟨s.toArray⟩],fun _=>False)
 | .unit,_,_,_=>(fun vs=>vs= [],fun vs=>vs= [])
 | .pair a b,ok,w,x=>(fun vs=>∃u1 u2,vs=u1++u2∧(de a ok w x.1).1 u1∧(de b ok w x.2).1 u2,
    fun vs=>∃v vs',vs=v::vs'∧aY a (de a ok w x.1).1 v∧(de b ok w x.2).2 vs')
 | .list t,ok,w,l=>(fun vs=>∃v,vs= [v]∧((l= []∧∃a cap,v= .slice a 0 cap)∨
    ∃b o cap,v= .slice (some ⟨b,o,none⟩) l.length cap∧ok b∧b<w.heap.size∧l.length≤cap∧
     ∀i (h:i<l.length),∃us,MR w b (o+i*t.size) us∧(de t ok w l[i]).1 us),fun _=>False)
 | .ptr t,ok,w,x=>(fun vs=>∃b o us,vs= [.pointer (some ⟨b,o,none⟩)]∧ok b∧b<w.heap.size∧MR w b o us∧(de t ok w x).1 us,fun _=>False)
 | .own _ t,ok,w,l=>(fun vs=>∃v,vs= [v]∧((l= []∧∃a cap,v= .slice a 0 cap)∨
    ∃b o cap,v= .slice (some ⟨b,o,none⟩) l.length cap∧ok b∧b<w.heap.size∧l.length≤cap∧
     ∀i (h:i<l.length),∃us,MR w b (o+i*t.size) us∧(de t ok w l[i]).1 us),fun _=>False)
 | .box t,ok,w,x=>(fun vs=>∃b o us,vs= [.pointer (some ⟨b,o,none⟩)]∧ok b∧b<w.heap.size∧MR w b o us∧(de t ok w x).1 us,fun _=>False)
 | .nptr t,ok,w,x=>(fun vs=>(x=none∧vs= [.pointer none])∨∃y b o us,x=some y∧vs= [.pointer (some ⟨b,o,none⟩)]∧ok b∧b<w.heap.size∧MR w b o us∧(de t ok w y).1 us,fun _=>False)
 | .fn a r,ok,w,g=>(fun vs=>∃f caps,vs= [.func (.func f) #[] caps]∧jN P f∧
       ∀(w':World) (ok':Nat→Prop),br ok w w'→(∀b,b<w.heap.size→ok b→ok' b)→∀args x y,(de a ok' w' x).2 args→g x=some y→
        Calls P f (args.toArray++caps) w' fun e w''=>∃v,e= .returned v∧aG vI w' w''∧
         ∃rs,(de r (fun b=>ok' b∨w'.heap.size≤b) w'' y).2 rs∧v=(if oW r then rs.headD undef else .tuple rs.toArray),fun _=>False)
variable {P}
abbrev CR(P:Program)(ok:Nat→Prop)(w:World)(t:Ty)(x:t.T)(vs:List Value):Prop:=(de P t ok w x).1 vs
abbrev AR(P:Program)(ok:Nat→Prop)(w:World)(t:Ty)(x:t.T)(vs:List Value):Prop:=(de P t ok w x).2 vs
abbrev VR(P:Program)(ok:Nat→Prop)(w:World)(t:Ty)(x:t.T)(v:Value):Prop:=aY t (CR P ok w t x) v
theorem aY.mono {t:Ty}{c c':List Value→Prop}(h:∀us,c us→c' us){v:Value}(hv:aY t c v):aY t c' v:=by
 unfold aY at *
 split
 ·rename_i hs;rw[if_pos hs]at hv;obtain⟨us,e,hc⟩:=hv;exact⟨us,e,h us hc⟩
 ·rename_i hs;rw[if_neg hs]at hv;exact h _ hv
theorem de.mono:∀(t:Ty) {ok ok':Nat→Prop} {w w':World} (x:t.T),br ok w w'→(∀b,b<w.heap.size→ok b→ok' b)→
  (∀vs,(de P t ok w x).1 vs→(de P t ok' w' x).1 vs)∧(∀vs,(de P t ok w x).2 vs→(de P t ok' w' x).2 vs)
 | .int k,_,_,_,_,_,_,_=>⟨fun _ h=>h,fun _ h=>h⟩
 | .bool,_,_,_,_,_,_,_=>⟨fun _ h=>h,fun _ h=>h⟩
 | .nil,_,_,_,_,_,_,_=>⟨fun _ h=>h,fun _ h=>h⟩
 | .str,_,_,_,_,_,_,_=>⟨fun _ h=>h,fun _ h=>h⟩
 | .unit,_,_,_,_,_,_,_=>⟨fun _ h=>h,fun _ h=>h⟩
 | .pair a b,ok,ok',w,w',x,ha,hk=>by
   have h1:=de.mono a x.1 ha hk
   have h2:=de.mono b x.2 ha hk
   constructor
   ·rintro vs ⟨u1,u2,e,c1,c2⟩;exact⟨u1,u2,e,h1.1 _ c1,h2.1 _ c2⟩
   ·rintro vs ⟨v,vs',e,c1,c2⟩;exact⟨v,vs',e,c1.mono h1.1,h2.2 _ c2⟩
 | .list t,ok,ok',w,w',l,ha,hk=>by
   refine⟨?_,fun _ h=>h⟩
   rintro vs ⟨v,e,h|⟨b,o,cap,e',hok,hlt,hc,hi⟩⟩
   ·exact⟨v,e,.inl h⟩
   ·refine⟨v,e,.inr ⟨b,o,cap,e',hk b hlt hok,Nat.lt_of_lt_of_le hlt ha.1,hc,fun i h=> ?_⟩⟩
    obtain⟨us,hm,hr⟩:=hi i h
    exact⟨us,hm.agree hok hlt ha,(de.mono t l[i] ha hk).1 _ hr⟩
 | .ptr t,ok,ok',w,w',x,ha,hk=>by
   refine⟨?_,fun _ h=>h⟩
   rintro vs ⟨b,o,us,e,hok,hlt,hm,hr⟩
   exact⟨b,o,us,e,hk b hlt hok,Nat.lt_of_lt_of_le hlt ha.1,hm.agree hok hlt ha,(de.mono t x ha hk).1 _ hr⟩
 | .own _ t,ok,ok',w,w',l,ha,hk=>by
   refine⟨?_,fun _ h=>h⟩
   rintro vs ⟨v,e,h|⟨b,o,cap,e',hok,hlt,hc,hi⟩⟩
   ·exact⟨v,e,.inl h⟩
   ·refine⟨v,e,.inr ⟨b,o,cap,e',hk b hlt hok,Nat.lt_of_lt_of_le hlt ha.1,hc,fun i h=> ?_⟩⟩
    obtain⟨us,hm,hr⟩:=hi i h
    exact⟨us,hm.agree hok hlt ha,(de.mono t l[i] ha hk).1 _ hr⟩
 | .box t,ok,ok',w,w',x,ha,hk=>by
   refine⟨?_,fun _ h=>h⟩
   rintro vs ⟨b,o,us,e,hok,hlt,hm,hr⟩
   exact⟨b,o,us,e,hk b hlt hok,Nat.lt_of_lt_of_le hlt ha.1,hm.agree hok hlt ha,(de.mono t x ha hk).1 _ hr⟩
 | .nptr t,ok,ok',w,w',x,ha,hk=>by
   refine⟨?_,fun _ h=>h⟩
   rintro vs (h|⟨y,b,o,us,e0,e,hok,hlt,hm,hr⟩)
   ·exact .inl h
   ·exact .inr ⟨y,b,o,us,e0,e,hk b hlt hok,Nat.lt_of_lt_of_le hlt ha.1,hm.agree hok hlt ha,(de.mono t y ha hk).1 _ hr⟩
 | .fn a r,ok,ok',w,w',g,ha,hk=>by
   refine⟨?_,fun _ h=>h⟩
   rintro vs ⟨f,caps,e,he,h⟩
   exact⟨f,caps,e,he,fun w2 ok2 ha2 hk2 args x y hx hy=>
    h w2 ok2 (ha.trans hk ha2) (fun b hb hob=>hk2 b (Nat.lt_of_lt_of_le hb ha.1) (hk b hb hob)) args x y hx hy⟩
theorem VR.mono {t:Ty}{ok ok':Nat→Prop}{w w':World}{x:t.T}{v:Value}(h:VR P ok w t x v)(ha:br ok w w')(hk:∀b,b<w.heap.size→ok b→ok' b):VR P ok' w' t x v:=
 aY.mono (de.mono t x ha hk).1 h
theorem de.flat:∀(t:Ty) {ok ok':Nat→Prop} {w w':World} (x:t.T),t.flat=true→(∀vs,(de P t ok w x).1 vs→(de P t ok' w' x).1 vs)∧(∀vs,(de P t ok w x).2 vs→(de P t ok' w' x).2 vs)
 | .int k,_,_,_,_,_,_=>⟨fun _ h=>h,fun _ h=>h⟩
 | .bool,_,_,_,_,_,_=>⟨fun _ h=>h,fun _ h=>h⟩
 | .str,_,_,_,_,_,_=>⟨fun _ h=>h,fun _ h=>h⟩
 | .unit,_,_,_,_,_,_=>⟨fun _ h=>h,fun _ h=>h⟩
 | .pair a b,ok,ok',w,w',x,hf=>by
   simp only[Ty.flat,Bool.and_eq_true]at hf
   have h1:=de.flat a (ok:=ok) (ok':=ok') (w:=w) (w':=w') x.1 hf.1
   have h2:=de.flat b (ok:=ok) (ok':=ok') (w:=w) (w':=w') x.2 hf.2
   constructor
   ·rintro vs ⟨u1,u2,e,c1,c2⟩;exact⟨u1,u2,e,h1.1 _ c1,h2.1 _ c2⟩
   ·rintro vs ⟨v,vs',e,c1,c2⟩;exact⟨v,vs',e,c1.mono h1.1,h2.2 _ c2⟩
theorem CR.length:∀(t:Ty) {ok:Nat→Prop} {w:World} (x:t.T) (vs:List Value),CR P ok w t x vs→vs.length=t.size
 | .int k,_,_,_,_,h=>by subst h;rfl
 | .bool,_,_,_,_,h=>by subst h;rfl
 | .nil,_,_,_,_,h=>by subst h;rfl
 | .str,_,_,_,_,h=>by subst h;rfl
 | .unit,_,_,_,_,h=>by subst h;rfl
 | .pair a b,_,_,x,vs,h=>by
   obtain⟨u1,u2,rfl,c1,c2⟩:=h
   simp[Ty.size,CR.length a x.1 _ c1,CR.length b x.2 _ c2]
 | .list t,_,_,l,vs,h=>by obtain⟨v,rfl,_⟩:=h;rfl
 | .ptr t,_,_,x,vs,h=>by obtain⟨b,o,us,rfl,_⟩:=h;rfl
 | .own _ t,_,_,l,vs,h=>by obtain⟨v,rfl,_⟩:=h;rfl
 | .box t,_,_,x,vs,h=>by obtain⟨b,o,us,rfl,_⟩:=h;rfl
 | .nptr t,_,_,x,vs,h=>by obtain⟨_,rfl⟩|⟨_,_,_,_,_,rfl,_⟩:=h<;>rfl
 | .fn a r,_,_,g,vs,h=>by obtain⟨f,caps,rfl,_⟩:=h;rfl
theorem CR.one:∀(t:Ty) {ok:Nat→Prop} {w:World} (x:t.T) (vs:List Value),CR P ok w t x vs→∀v ∈ vs,v.oneCell'=true
 | .int k,_,_,_,_,h=>by subst h;simp[Value.oneCell']
 | .bool,_,_,_,_,h=>by subst h;simp[Value.oneCell']
 | .nil,_,_,_,_,h=>by subst h;simp[Value.oneCell']
 | .str,_,_,_,_,h=>by subst h;simp[Value.oneCell']
 | .unit,_,_,_,_,h=>by subst h;simp
 | .pair a b,_,_,x,vs,h=>by
   obtain⟨u1,u2,rfl,c1,c2⟩:=h
   intro v hv
   rcases List.mem_append.1 hv with hv|hv
   ·exact CR.one a x.1 _ c1 v hv
   ·exact CR.one b x.2 _ c2 v hv
 | .list t,_,_,l,vs,h=>by
   obtain⟨v,rfl,⟨_,a,c,rfl⟩|⟨b,o,c,rfl,_⟩⟩:=h<;>simp[Value.oneCell']
 | .ptr t,_,_,x,vs,h=>by obtain⟨b,o,us,rfl,_⟩:=h;simp[Value.oneCell']
 | .own _ t,_,_,l,vs,h=>by
   obtain⟨v,rfl,⟨_,a,c,rfl⟩|⟨b,o,c,rfl,_⟩⟩:=h<;>simp[Value.oneCell']
 | .box t,_,_,x,vs,h=>by obtain⟨b,o,us,rfl,_⟩:=h;simp[Value.oneCell']
 | .nptr t,_,_,x,vs,h=>by obtain⟨_,rfl⟩|⟨_,_,_,_,_,rfl,_⟩:=h<;>simp[Value.oneCell']
 | .fn a r,_,_,g,vs,h=>by obtain⟨f,caps,rfl,_⟩:=h;simp[Value.oneCell']
theorem Value.cells_one {v:Value}(h:v.oneCell'=true):v.cells= #[v]:=by cases v<;>simp_all [Value.oneCell',Value.cells]
theorem VR.cells {ok:Nat→Prop}{w:World}{t:Ty}{x:t.T}{v:Value}(h:VR P ok w t x v):CR P ok w t x v.cells.toList:=by
 replace h:aY t (CR P ok w t x) v:=h
 unfold aY at h
 split at h
 ·obtain⟨us,rfl,hc⟩:=h;simpa [Value.cells]using hc
 ·have:=CR.one t x _ h v (by simp)
  rw[Value.cells_one this];simpa using h
def cC(P:Program)(ok:Nat→Prop)(w:World)(t:Ty):List t.T→List Value→Prop
 | [],cs=>cs= []
 |x::xs,cs=>∃u1 u2,cs=u1++u2∧CR P ok w t x u1∧cC P ok w t xs u2
def ck:Value→Option Nat
 | .slice (some a) _ _=>some a.block
 | .pointer (some a)=>some a.block
 |_=>none
def dV {α:Type}(R:α→List Value→List Nat→Prop):List α→List Value→List Nat→Prop
 | [],cs,bs=>cs= []∧bs= []
 |x::xs,cs,bs=>∃u1 u2 b1 b2,cs=u1++u2∧bs=b1++b2∧R x u1 b1∧dV R xs u2 b2
def bm(P:Program)(ok:Nat→Prop)(w:World):(t:Ty)→t.T→List Value→List Nat→Prop
 | .own e t,l,vs,bs=>∃v cells bs',vs= [v]∧w.ownsRow 0 e t.size v l.length cells∧dV (bm P ok w t) l cells bs'∧bs=(ck v).toList++bs'
 | .box t,x,vs,bs=>∃b us E bs',vs= [.pointer (some ⟨b,0,none⟩)]∧w.heap[b]? =some (.cells us.toArray E (0,0))∧(∀u ∈ us,u.oneCell'=true)∧bm P ok w t x us bs'∧bs=b::bs'
 | .pair a b,x,vs,bs=>∃u1 u2 b1 b2,vs=u1++u2∧bs=b1++b2∧bm P ok w a x.1 u1 b1∧bm P ok w b x.2 u2 b2
 | .int k,x,vs,bs=>CR P ok w (.int k) x vs∧bs= []
 | .bool,x,vs,bs=>CR P ok w .bool x vs∧bs= []
 | .str,x,vs,bs=>CR P ok w .str x vs∧bs= []
 | .unit,x,vs,bs=>CR P ok w .unit x vs∧bs= []
 | .list t,x,vs,bs=>CR P ok w (.list t) x vs∧bs= []
 | .ptr t,x,vs,bs=>CR P ok w (.ptr t) x vs∧bs= []
 | .nptr t,x,vs,bs=>CR P ok w (.nptr t) x vs∧bs= []
 | .nil,x,vs,bs=>CR P ok w .nil x vs∧bs= []
 | .fn a r,x,vs,bs=>CR P ok w (.fn a r) x vs∧bs= []
def jB(P:Program)(ok:Nat→Prop)(w:World)(v:Value):(t:Ty)→Nat→t.T→List Value→List Nat→Prop
 | .own _ _,0,_,us,bs=>us= [v]∧bs= []
 | .pair a b,off,x,us,bs=>if off<a.size then ∃u1 u2 b1 b2,us=u1++u2∧bs=b1++b2∧jB P ok w v a off x.1 u1 b1∧bm P ok w b x.2 u2 b2
    else ∃u1 u2 b1 b2,us=u1++u2∧bs=b1++b2∧bm P ok w a x.1 u1 b1∧jB P ok w v b (off-a.size) x.2 u2 b2
 |_,_,_,_,_=>False
def jO(P:Program)(ok:Nat→Prop)(w:World)(v:Value)(t:Ty)(off:Nat):List t.T→Nat→List Value→List Nat→Prop
 |x::xs,0,cs,bs=>∃u1 u2 b1 b2,cs=u1++u2∧bs=b1++b2∧jB P ok w v t off x u1 b1∧dV (bm P ok w t) xs u2 b2
 |x::xs,i+1,cs,bs=>∃u1 u2 b1 b2,cs=u1++u2∧bs=b1++b2∧bm P ok w t x u1 b1∧jO P ok w v t off xs i u2 b2
 | [],_,_,_=>False
def nF(P:Program)(ok:Nat→Prop)(w:World):(a:Ty)→a.T→List Value→List Nat→Prop
 | .unit,_,vs,bs=>vs= []∧bs= []
 | .pair t r,x,vs,bs=>∃v vs' b1 b2,vs=v::vs'∧bs=b1++b2∧aY t (fun us=>bm P ok w t x.1 us b1) v∧nF P ok w r x.2 vs' b2
 |_,_,_,_=>False
def kS(P:Program)(ok:Nat→Prop)(w:World):(a m:Ty)→m.T→List Value→List Nat→Prop
 | .unit,.unit,_,vs,bs=>vs= []∧bs= []
 | .pair t r,m,y,vs,bs=>match vs with
   | []=>False
   |v::vs=>match t.owned with
    |false=>kS P ok w r m y vs bs
    |true=>match m,y with
     | .pair t' m',y=>∃b1 b2,t'=t∧bs=b1++b2∧aY t' (fun us=>bm P ok w t' y.1 us b1) v∧kS P ok w r m' y.2 vs b2
     |_,_=>False
 |_,_,_,_,_=>False
end
end Go.Proofs.YtnambbcafhnhpaaGreatDoor
