import Derived.Test.YtnambbcafhnhpaaGreatDoorLibS
namespace Go.Proofs.YtnambbcafhnhpaaGreatDoor
open Go.RowKit
set_option linter.unusedVariables false
set_option linter.unusedSimpArgs false
section
variable {G:Gl} {P:Program} {f:FuncId}
theorem OB {k:IntKind}{ok:Nat→Prop}{w:World}:∀ {l:List Int} {cells:List Value} {bs:List Nat},dV (bm P ok w (.int k)) l cells bs→cells=l.map (fun n=>Value.int k n)∧bs= []
 | [],cells,bs,h=>h
 |n::l,cells,bs,h=>by
  obtain⟨u1,u2,b1,b2,rfl,rfl,⟨h1,rfl⟩,h2⟩:=h
  obtain⟨rfl,rfl⟩:=OB h2
  have h1:u1= [Value.int k n]:=h1
  subst h1
  exact⟨rfl,rfl⟩
theorem Q8 {k:IntKind}{e:TypeId}{ok:Nat→Prop}{w:World}{xs:List Int}{v:Value}{b1:List Nat}(h:aY (.own e (.int k)) (fun us=>bm P ok w (.own e (.int k)) xs us b1) v):
  w.ownsRow 0 e 1 v xs.length (xs.map fun n=>Value.int k n)∧b1=(ck v).toList:=by
 obtain⟨v',cells,bs',h1,h2,h3,h4⟩:=h
 have h1:v'=v:=by simpa using h1.symm
 subst h1
 obtain⟨rfl,rfl⟩:=OB h3
 exact⟨h2,by simpa using h4⟩
def MJ(k:IntKind)(e:TypeId)(w:World)(B:Nat→Prop)(y:List Int)(e1:Ending)(w':World):Prop:=
 ∃u,e1= .returned u∧aG B w w'∧w'.ownsRow 0 e 1 u y.length (y.map fun n=>Value.int k n)∧∀b,ck u=some b→B b∨w.heap.size≤b
theorem SU {k:IntKind}{e:TypeId}{w:World}{ok:Nat→Prop}{args:List Value}{bs:List Nat}{a:Ty}{g:a.T→Option (List Int)}{y:List Int}{e1:Ending}{w':World}(h:MJ k e w (· ∈ bs) y e1 w'):
  MC P ⟨a,.pair (.own e (.int k)) .unit,.unit,rfl,fun x=>ac (g x) fun s=>some (s,())⟩ (y,()) ok args bs w e1 w':=by
 obtain⟨u,rfl,hk,hrow,hB⟩:=h
 refine⟨u,[u],(ck u).toList,[],rfl,hk,rfl, ?_, ?_, ?_,fun h=>absurd rfl h⟩
 ·cases hu:ck u<;>simp
 ·intro b hbm
  have hb:ck u=some b:=by
   cases hu:ck u with
   |none=>simp[hu]at hbm
   |some c=>simp[hu]at hbm;rw[hbm]
  refine⟨hB b hb, ?_⟩
  rcases hrow.2 with⟨rfl,_⟩|⟨g,cap,cur,rfl,h2,h3,_⟩
  ·cases hb
  ·obtain rfl:=Option.some.inj hb
   exact(Array.getElem?_eq_some_iff.1 h3).1
 ·exact⟨u,[],(ck u).toList,[],rfl,by simp,⟨u,y.map fun n=>Value.int k n,[],rfl,hrow,IG y,by simp⟩,rfl,rfl⟩
theorem FnOK.own_int2 {k k2 k3:IntKind}{e:TypeId}{g:List Int→Int→Int→Option (List Int)}(he:jN P f)
  (h:∀(w:World) (u:Value) (xs:List Int) (i j:Int) (y:List Int),G.I w→w.ownsRow 0 e 1 u xs.length (xs.map fun n=>Value.int k n)→g xs i j=some y→
    Calls P f #[u,.int k2 i,.int k3 j] w (MJ k e w (fun b=>ck u=some b) y)):
  FnOK G P f ⟨.pair (.own e (.int k)) (.pair (.int k2) (.pair (.int k3) .unit)),.pair (.own e (.int k)) .unit,.unit,rfl,fun x=>ac (g x.1 x.2.1 x.2.2.1) fun s=>some (s,())⟩:=by
 refine⟨he,fun w ok args x y bs hg har hnd hbs hy=> ?_⟩
 obtain⟨xs,i,j,u0⟩:=x
 obtain⟨u,vs,b1,b2,rfl,rfl,hu,har⟩:=har
 obtain⟨har',rfl⟩:=Ir (.pair (.int k2) (.pair (.int k3) .unit)) rfl har
 obtain⟨v,vs,rfl,hv,v2,vs2,rfl,hv2,hvs⟩:=har'
 have hvs:vs2= []:=hvs
 subst hvs
 obtain rfl:=ac0 hv
 obtain rfl:=ac0 hv2
 obtain⟨z,hs,hy⟩:=bA hy
 obtain rfl:=Option.some.inj hy
 obtain⟨hrow,rfl⟩:=Q8 hu
 refine(h w u xs i j z hg.1 hrow hs).mono ?_
 rintro e1 w' ⟨u',rfl,hk,hr,hB⟩
 refine SU (a:=.pair (.own e (.int k)) (.pair (.int k2) (.pair (.int k3) .unit))) (g:=fun x=>g x.1 x.2.1 x.2.2.1) ⟨u',rfl,hk.mono fun b _ hb=>by simp[hb],hr,fun b hb=>(hB b hb).imp (fun h=>by simp[h]) id⟩
theorem FnOK.own_int_own {k k2:IntKind}{e:TypeId}{g:List Int→Int→List Int→Option (List Int)}(he:jN P f)
  (h:∀(w:World) (u:Value) (xs:List Int) (i:Int) (v:Value) (vs y:List Int),G.I w→w.ownsRow 0 e 1 u xs.length (xs.map fun n=>Value.int k n)→w.ownsRow 0 e 1 v vs.length (vs.map fun n=>Value.int k n)→(∀b,ck u=some b→ck v≠some b)→g xs i vs=some y→
    Calls P f #[u,.int k2 i,v] w (MJ k e w (fun b=>ck u=some b∨ck v=some b) y)):
  FnOK G P f ⟨.pair (.own e (.int k)) (.pair (.int k2) (.pair (.own e (.int k)) .unit)),.pair (.own e (.int k)) .unit,.unit,rfl,fun x=>ac (g x.1 x.2.1 x.2.2.1) fun s=>some (s,())⟩:=by
 refine⟨he,fun w ok args x y bs hg har hnd hbs hy=> ?_⟩
 obtain⟨xs,i,vs,u0⟩:=x
 obtain⟨u,us,b1,b2,rfl,rfl,hu,har⟩:=har
 obtain⟨n,us2,b3,b4,rfl,rfl,hn,har⟩:=har
 obtain⟨v,us3,b5,b6,rfl,rfl,hv,har⟩:=har
 obtain⟨har,rfl⟩:=har
 have har:us3= []:=har
 subst har
 obtain⟨z,hs,hy⟩:=bA hy
 obtain rfl:=Option.some.inj hy
 obtain⟨hrow,rfl⟩:=Q8 hu
 obtain⟨hrow2,rfl⟩:=Q8 hv
 have hn':n= .int k2 i∧b3= []:=by
  obtain⟨h1,h2⟩:=hn
  have h1: [n]= [Value.int k2 i]:=h1
  exact⟨by simpa using h1,h2⟩
 obtain⟨rfl,rfl⟩:=hn'
 refine(h w u xs i v vs z hg.1 hrow hrow2 ?_ hs).mono ?_
 ·intro b h1 h2
  rw[h1,h2]at hnd
  simp at hnd
 ·rintro e1 w' ⟨u',rfl,hk,hr,hB⟩
  refine SU (a:=.pair (.own e (.int k)) (.pair (.int k2) (.pair (.own e (.int k)) .unit))) (g:=fun x=>g x.1 x.2.1 x.2.2.1) ⟨u',rfl,hk.mono fun b _ hb=> ?_,hr,fun b hb=>(hB b hb).imp (fun h=> ?_) id⟩
  ·rcases hb with hb|hb<;>simp[hb]
  ·rcases h with hb|hb<;>simp[hb]
end
end Go.Proofs.YtnambbcafhnhpaaGreatDoor
