import Derived.Test.YtnambbcafhnhpaaGreatDoorLib
import Derived.Lib.SplitLaws
import Derived.Lib.SlTrimSet
import Derived.RangeFuncRecord
namespace Go.Proofs.YtnambbcafhnhpaaGreatDoor
open Go.RowKit
set_option linter.unusedVariables false
set_option linter.unusedSimpArgs false
section
variable {G:Gl} {P:Program} {f:FuncId}
theorem FnOK.str2_str {g:List UInt8→List UInt8→Option (List UInt8)}(he:jN P f)(h:∀(w:World) (s t y:List UInt8),G.I w→g s t=some y→Calls P f #[.string ⟨s.toArray⟩,.string ⟨t.toArray⟩] w fun e w'=>e= .returned (.string ⟨y.toArray⟩)∧aG vI w w'):
  FnOK G P f ⟨.pair .str (.pair .str .unit),.pair .str .unit,.unit,rfl,fun x=>ac (g x.1 x.2.1) fun s=>some (s,())⟩:=by
 refine FnOK.plain he rfl rfl ?_
 rintro w ok args ⟨s,t,u⟩ y hg ⟨v,vs,rfl,hv,v2,vs2,rfl,hv2,hvs⟩ hy
 have hvs:vs2= []:=hvs
 subst hvs
 obtain rfl:=afN hv
 obtain rfl:=afN hv2
 obtain⟨z,hs,hy⟩:=bA hy
 obtain rfl:=Option.some.inj hy
 refine(h w s t z hg.1 hs).mono ?_
 rintro e w' ⟨rfl,hk⟩
 exact⟨[.string ⟨z.toArray⟩],rfl,hk,_,[],rfl,rfl,rfl⟩
theorem IG {k:IntKind}{ok:Nat→Prop}{w:World}:∀l:List Int,dV (bm P ok w (.int k)) l (l.map fun n=>Value.int k n) []
 | []=>⟨rfl,rfl⟩
 |n::l=>⟨[Value.int k n],l.map fun n=>Value.int k n,[],[],rfl,rfl,⟨rfl,rfl⟩,IG l⟩
theorem FnOK.own_ints {k:IntKind}{e:TypeId}{a:Ty}{g:a.T→Option (List Int)}(he:jN P f)(ha:a.owned=false)
  (h:∀(w:World) (ok:Nat→Prop) (args:List Value) (x:a.T) (y:List Int),GW G ok w→AR P ok w a x args→g x=some y→Calls P f args.toArray w fun e1 w'=>∃u,e1= .returned u∧aG vI w w'∧w'.ownsRow w.heap.size e 1 u y.length (y.map fun n=>Value.int k n)):
  FnOK G P f ⟨a,.pair (.own e (.int k)) .unit,.unit,rfl,fun x=>ac (g x) fun s=>some (s,())⟩:=by
 refine⟨he,fun w ok args x y bs hg har hnd hbs hy=> ?_⟩
 obtain⟨har',rfl⟩:=Ir a ha har
 obtain⟨z,hs,hy⟩:=bA hy
 obtain rfl:=Option.some.inj hy
 refine(h w ok args x z hg har' hs).mono ?_
 rintro e1 w' ⟨u,rfl,hk,hrow⟩
 have hrow0:w'.ownsRow 0 e 1 u z.length (z.map fun n=>Value.int k n):=⟨hrow.1,hrow.2.imp id fun⟨g,cap,cur,h1,h2,h3⟩=>⟨g,cap,cur,h1,Nat.zero_le _,h3⟩⟩
 have hb:∀b,ck u=some b→w.heap.size≤b∧b<w'.heap.size:=by
  intro b hb
  rcases hrow.2 with⟨rfl,_⟩|⟨g,cap,cur,rfl,h2,h3,_⟩
  ·cases hb
  ·obtain rfl:=Option.some.inj hb
   exact⟨h2,(Array.getElem?_eq_some_iff.1 h3).1⟩
 refine⟨u,[u],(ck u).toList,[],rfl,hk.mono (fun _ _ h=>h.elim),rfl, ?_, ?_, ?_,fun h=>absurd rfl h⟩
 ·cases hu:ck u<;>simp
 ·intro b hbm
  have:ck u=some b:=by
   cases hu:ck u with
   |none=>simp[hu]at hbm
   |some c=>simp[hu]at hbm;rw[hbm]
  obtain⟨h1,h2⟩:=hb b this
  exact⟨.inr h1,h2⟩
 ·exact⟨u,[],(ck u).toList,[],rfl,by simp,⟨u,z.map fun n=>Value.int k n,[],rfl,hrow0,IG z,by simp⟩,rfl,rfl⟩
end
def Gl.maxLen(P:Program):Gl where
 I w:=∃g m,P.globalNamed "internal/bytealg.MaxLen"=some g∧w.cell? ⟨g,0,Option.none⟩=some (.int .i64 m)
 B b:=P.globalNamed "internal/bytealg.MaxLen"=some b
 lt w h b hb:=by
  obtain⟨g,m,hg,hc⟩:=h
  obtain rfl:=Option.some.inj (hg.symm.trans hb)
  exact World.block_lt_of_cell? _ _ hc
 stay w w' h hz hb:=by
  obtain⟨g,m,hg,hc⟩:=h
  exact⟨g,m,hg,by rw[jj (hb g hg)];exact hc⟩
def Gl.and(A B:Gl):Gl where
 I w:=A.I w∧B.I w
 B b:=A.B b∨B.B b
 lt w h b hb:=hb.elim (A.lt w h.1 b) (B.lt w h.2 b)
 stay w w' h hz hb:=⟨A.stay w w' h.1 hz fun b h1=>hb b (.inl h1),B.stay w w' h.2 hz fun b h1=>hb b (.inr h1)⟩
def Oz(s t:List UInt8):Option (List UInt8):=if s.length≤1048576∧t.length≤100∧t.all (fun b=>decide (b.toNat<128))=true then some (Lib.trimS s t)else none
end Go.Proofs.YtnambbcafhnhpaaGreatDoor
