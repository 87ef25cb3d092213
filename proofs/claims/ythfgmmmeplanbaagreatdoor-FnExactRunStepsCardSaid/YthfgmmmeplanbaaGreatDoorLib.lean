import Derived.Test.YthfgmmmeplanbaaGreatDoorLaw
import Derived.Below
import Derived.Deep.Draws
import Derived.Sort.Grow
import Derived.Lib.LaidTab
import Derived.Lib.ItoaNum
namespace Go.Proofs.YthfgmmmeplanbaaGreatDoor
open Go.RowKit
set_option linter.unusedVariables false
set_option linter.unusedSimpArgs false
section
variable {G:Gl} {P:Program} {f:FuncId}
theorem ap.noB_below {w w':World}(h:Below w.heap.size w w'):ap my w w':=ap.ofBelow h
theorem ap.grow(S:Nat→Prop)(w:World)(k:Nat)(os:Array Obj):ap S w (Go.Sort.grow (w.drewN k) os):=by
 refine⟨rfl,rfl,rfl, ?_,fun b hb _=> ?_⟩
 ·show w.heap.size≤(w.heap++os).size
  simp
 ·show(w.heap++os)[b]? =w.heap[b]?
  rw[Array.getElem?_append_left hb]
theorem FnOK.plain {a r:Ty}{hr:r.row=true}{g:a.T→Option (r.app .unit).T}(he:dz P f)(ha:a.owned=false)(hro:r.owned=false)
  (h:∀(w:World) (ok:Nat→Prop) (args:List Value) (x:a.T) (y:(r.app .unit).T),GW G ok w→AR P ok w a x args→g x=some y→
    Calls P f args.toArray w fun e w'=>∃rs,e= .returned (if kd r then rs.headD undef else .tuple rs.toArray)∧ap my w w'∧AR P ok w' r (ru r .unit y) rs):FnOK G P f ⟨a,r,.unit,hr,g⟩:=by
 refine⟨he,fun w ok args x y bs hg har hnd hbs hy=> ?_⟩
 obtain⟨har',rfl⟩:=xr a ha har
 refine(h w ok args x y hg har' hy).mono ?_
 rintro e w' ⟨rs,rfl,hk,hr⟩
 refine⟨_,rs,[],[],rfl,hk.mono (fun _ _ h=>h.elim),rfl,by simp,fun b hb=>by simp at hb, ?_,fun h=>absurd rfl h⟩
 exact Cp r hro ((ci.mono r _ (aS.refl _ _) (fun b _ hb=>⟨.inl hb,by simp⟩)).2 _ hr)
theorem LO {ok:Nat→Prop}{w:World}{k:IntKind}{n:Int}{v:Value}(h:VR P ok w (.int k) n v):v= .int k n:=by
 have h: [v]= [Value.int k n]:=h
 simpa using h
theorem He {ok:Nat→Prop}{w:World}{s:List UInt8}{v:Value}(h:VR P ok w .str s v):v= .string ⟨s.toArray⟩:=by
 have h: [v]= [Value.string ⟨s.toArray⟩]:=h
 simpa using h
theorem FnOK.int_str {k:IntKind}{g:Int→Option (List UInt8)}(he:dz P f)(h:∀(w:World) (n:Int) (s:List UInt8),G.I w→g n=some s→Calls P f #[.int k n] w fun e w'=>e= .returned (.string ⟨s.toArray⟩)∧ap my w w'):
  FnOK G P f ⟨.pair (.int k) .unit,.pair .str .unit,.unit,rfl,fun x=>aa (g x.1) fun s=>some (s,())⟩:=by
 refine FnOK.plain he rfl rfl ?_
 rintro w ok args ⟨n,u⟩ y hg ⟨v,vs,rfl,hv,hvs⟩ hy
 have hvs:vs= []:=hvs
 subst hvs
 obtain rfl:=LO hv
 obtain⟨s,hs,hy⟩:=aW hy
 obtain rfl:=Option.some.inj hy
 refine(h w n s hg.1 hs).mono ?_
 rintro e w' ⟨rfl,hk⟩
 exact⟨[.string ⟨s.toArray⟩],rfl,hk,_,[],rfl,rfl,rfl⟩
theorem FnOK.int2_str {k k2:IntKind}{g:Int→Int→Option (List UInt8)}(he:dz P f)(h:∀(w:World) (n m:Int) (s:List UInt8),G.I w→g n m=some s→Calls P f #[.int k n,.int k2 m] w fun e w'=>e= .returned (.string ⟨s.toArray⟩)∧ap my w w'):
  FnOK G P f ⟨.pair (.int k) (.pair (.int k2) .unit),.pair .str .unit,.unit,rfl,fun x=>aa (g x.1 x.2.1) fun s=>some (s,())⟩:=by
 refine FnOK.plain he rfl rfl ?_
 rintro w ok args ⟨n,m,u⟩ y hg ⟨v,vs,rfl,hv,v2,vs2,rfl,hv2,hvs⟩ hy
 have hvs:vs2= []:=hvs
 subst hvs
 obtain rfl:=LO hv
 obtain rfl:=LO hv2
 obtain⟨s,hs,hy⟩:=aW hy
 obtain rfl:=Option.some.inj hy
 refine(h w n m s hg.1 hs).mono ?_
 rintro e w' ⟨rfl,hk⟩
 exact⟨[.string ⟨s.toArray⟩],rfl,hk,_,[],rfl,rfl,rfl⟩
end
def Gl.tab(P:Program)(name:String)(k:IntKind)(zs:List Int):Gl where
 I w:=Lib.TabIs P w name k zs
 B b:=P.globalNamed name=some b
 lt w h b hb:=by
  unfold Lib.TabIs World.var? at h
  rw[hb]at h
  simp only[Option.bind_some]at h
  rcases Nat.lt_or_ge b w.heap.size with hlt|hge
  ·exact hlt
  ·rw[Array.getElem?_eq_none hge]at h
   cases h
 stay w w' h hz hb:=by
  unfold Lib.TabIs World.var? at h ⊢
  cases hg:P.globalNamed name with
  |none=>rw[hg]at h;cases h
  |some g=>
   rw[hg]at h
   simp only[Option.bind_some]at h ⊢
   rw[hb g hg];exact h
def TQ(n b:Int):Option (List UInt8):=if b=10∧ -9223372036854775808≤n∧n≤9223372036854775807 then some (Lib.itoa n)else none
theorem aaR {G:Gl}{P:Program}{f:FuncId}(he:dz P f)(hG:∀w,G.I w→Lib.TabIs P w "internal/strconv.uint64pow10" .u64 Lib.pow10Tab)(h:∀(n:Int),-9223372036854775808≤n→n≤9223372036854775807→∀w,Lib.TabIs P w "internal/strconv.uint64pow10" .u64 Lib.pow10Tab→
   Calls P f #[.int .i64 n,.int .i64 10] w fun e w'=>e= .returned (.string ⟨(Lib.itoa n).toArray⟩)∧∃k os,w'=Go.Sort.grow (w.drewN k) os):
  FnOK G P f ⟨.pair (.int .i64) (.pair (.int .i64) .unit),.pair .str .unit,.unit,rfl,fun x=>aa (TQ x.1 x.2.1) fun s=>some (s,())⟩:=by
 refine FnOK.int2_str he ?_
 intro w n m s hI hs
 unfold TQ at hs
 split at hs
 ·rename_i hh
  obtain⟨rfl,h0,h1⟩:=hh
  obtain rfl:=Option.some.inj hs
  refine(h n h0 h1 w (hG w hI)).mono ?_
  rintro e w' ⟨rfl,k,os,rfl⟩
  exact⟨rfl,ap.grow my w k os⟩
 ·cases hs
end Go.Proofs.YthfgmmmeplanbaaGreatDoor
