import Derived.Test.YthfgmmmeplanbaaGreatDoorLib
import Derived.Lib.SplitLaws
import Derived.Lib.SlTrimSet
import Derived.RangeFuncRecord
namespace Go.Proofs.YthfgmmmeplanbaaGreatDoor
open Go.RowKit
set_option linter.unusedVariables false
set_option linter.unusedSimpArgs false
section
variable {G:Gl} {P:Program} {f:FuncId}
theorem FnOK.str2_str {g:List UInt8→List UInt8→Option (List UInt8)}(he:dz P f)(h:∀(w:World) (s t y:List UInt8),G.I w→g s t=some y→Calls P f #[.string ⟨s.toArray⟩,.string ⟨t.toArray⟩] w fun e w'=>e= .returned (.string ⟨y.toArray⟩)∧ap my w w'):
  FnOK G P f ⟨.pair .str (.pair .str .unit),.pair .str .unit,.unit,rfl,fun x=>aa (g x.1 x.2.1) fun s=>some (s,())⟩:=by
 refine FnOK.plain he rfl rfl ?_
 rintro w ok args ⟨s,t,u⟩ y hg ⟨v,vs,rfl,hv,v2,vs2,rfl,hv2,hvs⟩ hy
 have hvs:vs2= []:=hvs
 subst hvs
 obtain rfl:=He hv
 obtain rfl:=He hv2
 obtain⟨z,hs,hy⟩:=aW hy
 obtain rfl:=Option.some.inj hy
 refine(h w s t z hg.1 hs).mono ?_
 rintro e w' ⟨rfl,hk⟩
 exact⟨[.string ⟨z.toArray⟩],rfl,hk,_,[],rfl,rfl,rfl⟩
theorem FnOK.str2_ssb {g:List UInt8→List UInt8→Option (List UInt8×List UInt8×Bool)}(he:dz P f)(h:∀(w:World) (s t:List UInt8) (y:List UInt8×List UInt8×Bool),G.I w→g s t=some y→Calls P f #[.string ⟨s.toArray⟩,.string ⟨t.toArray⟩] w fun e w'=>e= .returned (.tuple #[.string ⟨y.1.toArray⟩,.string ⟨y.2.1.toArray⟩,.bool y.2.2])∧ap my w w'):
  FnOK G P f ⟨.pair .str (.pair .str .unit),.pair .str (.pair .str (.pair .bool .unit)),.unit,rfl,fun x=>aa (g x.1 x.2.1) fun y=>some (y.1,y.2.1,y.2.2,())⟩:=by
 refine FnOK.plain he rfl rfl ?_
 rintro w ok args ⟨s,t,u⟩ y hg ⟨v,vs,rfl,hv,v2,vs2,rfl,hv2,hvs⟩ hy
 have hvs:vs2= []:=hvs
 subst hvs
 obtain rfl:=He hv
 obtain rfl:=He hv2
 obtain⟨z,hs,hy⟩:=aW hy
 obtain rfl:=Option.some.inj hy
 refine(h w s t z hg.1 hs).mono ?_
 rintro e w' ⟨rfl,hk⟩
 exact⟨[.string ⟨z.1.toArray⟩,.string ⟨z.2.1.toArray⟩,.bool z.2.2],rfl,hk,_,_,rfl,rfl,_,_,rfl,rfl,_,[],rfl,rfl,rfl⟩
theorem FnOK.str_ib {k:IntKind}{g:List UInt8→Option (Int×Bool)}(he:dz P f)(h:∀(w:World) (s:List UInt8) (y:Int×Bool),G.I w→g s=some y→Calls P f #[.string ⟨s.toArray⟩] w fun e w'=>e= .returned (.tuple #[.int k y.1,.bool y.2])∧ap my w w'):
  FnOK G P f ⟨.pair .str .unit,.pair (.int k) (.pair .bool .unit),.unit,rfl,fun x=>aa (g x.1) fun y=>some (y.1,y.2,())⟩:=by
 refine FnOK.plain he rfl rfl ?_
 rintro w ok args ⟨s,u⟩ y hg ⟨v,vs,rfl,hv,hvs⟩ hy
 have hvs:vs= []:=hvs
 subst hvs
 obtain rfl:=He hv
 obtain⟨z,hs,hy⟩:=aW hy
 obtain rfl:=Option.some.inj hy
 refine(h w s z hg.1 hs).mono ?_
 rintro e w' ⟨rfl,hk⟩
 exact⟨[.int k z.1,.bool z.2],rfl,hk,_,_,rfl,rfl,_,[],rfl,rfl,rfl⟩
theorem Nz {ok:Nat→Prop}{w:World}:∀l:List (List UInt8),cK (aP P ok w .str) l (l.map fun s=>Value.string ⟨s.toArray⟩) []
 | []=>⟨rfl,rfl⟩
 |s::l=>⟨[Value.string ⟨s.toArray⟩],l.map fun s=>Value.string ⟨s.toArray⟩,[],[],rfl,rfl,⟨rfl,rfl⟩,Nz l⟩
theorem FnOK.str2_own {e:TypeId}{g:List UInt8→List UInt8→Option (List (List UInt8))}(he:dz P f)
  (h:∀(w:World) (s t:List UInt8) (y:List (List UInt8)),G.I w→g s t=some y→y.length≤1099511627776∧Calls P f #[.string ⟨s.toArray⟩,.string ⟨t.toArray⟩] w fun e1 w'=>e1= .returned (.slice (some ⟨w.heap.size,0,none⟩) y.length y.length)∧w'=w.alloc (.cells (y.map fun s=>Value.string ⟨s.toArray⟩).toArray e)):
  FnOK G P f ⟨.pair .str (.pair .str .unit),.pair (.own e .str) .unit,.unit,rfl,fun x=>aa (g x.1 x.2.1) fun s=>some (s,())⟩:=by
 refine⟨he,fun w ok args x y bs hg har hnd hbs hy=> ?_⟩
 obtain⟨har',rfl⟩:=xr (.pair .str (.pair .str .unit)) rfl har
 obtain⟨v,vs,rfl,hv,v2,vs2,rfl,hv2,hvs⟩:=har'
 have hvs:vs2= []:=hvs
 subst hvs
 obtain rfl:=He hv
 obtain rfl:=He hv2
 obtain⟨z,hs,hy⟩:=aW hy
 obtain rfl:=Option.some.inj hy
 obtain⟨hl,hc⟩:=h w x.1 x.2.1 z hg.1 hs
 refine hc.mono ?_
 rintro e1 w' ⟨rfl,rfl⟩
 refine⟨_,[.slice (some ⟨w.heap.size,0,none⟩) z.length z.length],[w.heap.size],[],rfl,ap.alloc _ _ _,rfl,by simp, ?_, ?_,fun h=>absurd rfl h⟩
 ·intro b hb
  simp at hb
  subst hb
  exact⟨.inr (Nat.le_refl _),by simp⟩
 ·refine⟨_,[],[w.heap.size],[],rfl,rfl, ?_,rfl,rfl⟩
  refine⟨_,z.map fun s=>Value.string ⟨s.toArray⟩,[],rfl,⟨by simp[Ty.size,ru],.inr ⟨w.heap.size,z.length,(z.map fun s=>Value.string ⟨s.toArray⟩).toArray,rfl,Nat.zero_le _,World.alloc_heap_new w _,Nat.le_refl _,Nat.le_trans hl (by decide),by simp[Ty.size],by simp[Ty.size,ru,List.take_of_length_le]⟩⟩,Nz z,rfl⟩
theorem CD {k:IntKind}{ok:Nat→Prop}{w:World}:∀l:List Int,cK (aP P ok w (.int k)) l (l.map fun n=>Value.int k n) []
 | []=>⟨rfl,rfl⟩
 |n::l=>⟨[Value.int k n],l.map fun n=>Value.int k n,[],[],rfl,rfl,⟨rfl,rfl⟩,CD l⟩
theorem FnOK.own_ints {k:IntKind}{e:TypeId}{a:Ty}{g:a.T→Option (List Int)}(he:dz P f)(ha:a.owned=false)
  (h:∀(w:World) (ok:Nat→Prop) (args:List Value) (x:a.T) (y:List Int),GW G ok w→AR P ok w a x args→g x=some y→Calls P f args.toArray w fun e1 w'=>∃u,e1= .returned u∧ap my w w'∧w'.ownsRow w.heap.size e 1 u y.length (y.map fun n=>Value.int k n)):
  FnOK G P f ⟨a,.pair (.own e (.int k)) .unit,.unit,rfl,fun x=>aa (g x) fun s=>some (s,())⟩:=by
 refine⟨he,fun w ok args x y bs hg har hnd hbs hy=> ?_⟩
 obtain⟨har',rfl⟩:=xr a ha har
 obtain⟨z,hs,hy⟩:=aW hy
 obtain rfl:=Option.some.inj hy
 refine(h w ok args x z hg har' hs).mono ?_
 rintro e1 w' ⟨u,rfl,hk,hrow⟩
 have hrow0:w'.ownsRow 0 e 1 u z.length (z.map fun n=>Value.int k n):=⟨hrow.1,hrow.2.imp id fun⟨g,cap,cur,h1,h2,h3⟩=>⟨g,cap,cur,h1,Nat.zero_le _,h3⟩⟩
 have hb:∀b,bj u=some b→w.heap.size≤b∧b<w'.heap.size:=by
  intro b hb
  rcases hrow.2 with⟨rfl,_⟩|⟨g,cap,cur,rfl,h2,h3,_⟩
  ·cases hb
  ·obtain rfl:=Option.some.inj hb
   exact⟨h2,(Array.getElem?_eq_some_iff.1 h3).1⟩
 refine⟨u,[u],(bj u).toList,[],rfl,hk.mono (fun _ _ h=>h.elim),rfl, ?_, ?_, ?_,fun h=>absurd rfl h⟩
 ·cases hu:bj u<;>simp
 ·intro b hbm
  have:bj u=some b:=by
   cases hu:bj u with
   |none=>simp[hu]at hbm
   |some c=>simp[hu]at hbm;rw[hbm]
  obtain⟨h1,h2⟩:=hb b this
  exact⟨.inr h1,h2⟩
 ·exact⟨u,[],(bj u).toList,[],rfl,by simp,⟨u,z.map fun n=>Value.int k n,[],rfl,hrow0,CD z,by simp⟩,rfl,rfl⟩
end
def Gl.maxLen(P:Program):Gl where
 I w:=∃g m,P.globalNamed "internal/bytealg.MaxLen"=some g∧w.cell? ⟨g,0,Option.none⟩=some (.int .i64 m)
 B b:=P.globalNamed "internal/bytealg.MaxLen"=some b
 lt w h b hb:=by
  obtain⟨g,m,hg,hc⟩:=h
  obtain rfl:=Option.some.inj (hg.symm.trans hb)
  exact World.block_lt_of_cell? _ _ hc
 stay w w' h hz hb:=by
  obtain⟨g,m,hg,hc⟩:=h
  exact⟨g,m,hg,by rw[gj (hb g hg)];exact hc⟩
def Gl.iface(P:Program)(name:String):Gl where
 I w:=∃tp p,w.var? P name=some #[.iface tp p]
 B b:=P.globalNamed name=some b
 lt w h b hb:=by
  obtain⟨tp,p,h⟩:=h
  unfold World.var? at h
  rw[hb]at h
  simp only[Option.bind_some]at h
  rcases Nat.lt_or_ge b w.heap.size with hlt|hge
  ·exact hlt
  ·rw[Array.getElem?_eq_none hge]at h
   cases h
 stay w w' h hz hb:=by
  obtain⟨tp,p,h⟩:=h
  refine⟨tp,p, ?_⟩
  unfold World.var? at h ⊢
  cases hg:P.globalNamed name with
  |none=>rw[hg]at h;cases h
  |some g=>
   rw[hg]at h
   simp only[Option.bind_some]at h ⊢
   rw[hb g hg];exact h
def Gl.and(A B:Gl):Gl where
 I w:=A.I w∧B.I w
 B b:=A.B b∨B.B b
 lt w h b hb:=hb.elim (A.lt w h.1 b) (B.lt w h.2 b)
 stay w w' h hz hb:=⟨A.stay w w' h.1 hz fun b h1=>hb b (.inl h1),B.stay w w' h.2 hz fun b h1=>hb b (.inr h1)⟩
def Je(s t:List UInt8):Option (List UInt8):=if s.length≤1048576∧t.length≤100∧t.all (fun b=>decide (b.toNat<128))=true then some (Lib.trimS s t)else none
def aa5(s t:List UInt8):Option (List UInt8×List UInt8×Bool):=if s.length≤1048576∧t.length=1 then some (Lib.cut s t)else none
def aa2(s t:List UInt8):Option (List (List UInt8)):=if s.length≤1048576∧t.length=1 then some (Lib.split s t)else none
end Go.Proofs.YthfgmmmeplanbaaGreatDoor
