import Derived.Test.YtnambbcafhnhpaaGreatDoorTab
import Derived.OpenShut
namespace Go.Proofs.YtnambbcafhnhpaaGreatDoor
open Go.RowKit Go.ChangeShapes
set_option linter.unusedVariables false
set_option linter.unusedSimpArgs false
def Wf:(t:Ty)→t.T→Prop
 | .int k,n=>(Lit.int k n).wf=true
 | .bool,_=>True
 | .str,s=>s.length≤maxLen
 | .list t,l=>l.length≤maxLen∧∀x ∈ l,Wf t x
 | .unit,_=>True
 | .pair a b,x=>Wf a x.1∧Wf b x.2
 | .ptr t,x=>Wf t x
 | .fn _ _,_=>True
 | .own _ t,l=>l.length≤maxLen∧∀x ∈ l,Wf t x
 | .box t,x=>Wf t x
 | .nptr _,_=>True
 | .nil,_=>True
section
variable (P:Program)
def cI:Ty→(TypeId→Bool)×(List Field→Nat→Bool)
 | .int k=>(fun id=>match P.underlying id with|some (.int k')=>decide (k'=k)|_=>false,fun _ _=>false)
 | .bool=>(fun id=>match P.underlying id with|some .bool=>true|_=>false,fun _ _=>false)
 | .str=>(fun id=>match P.underlying id with|some .string=>true|_=>false,fun _ _=>false)
 | .list t=>(fun id=>match P.underlying id with|some (.slice e)=>(cI t).1 e&&decide (P.cellsOf e=t.size)&&decide (0<t.size)|_=>false,fun _ _=>false)
 | .unit=>(fun _=>false,fun fs _=>fs.isEmpty)
 | .pair a b=>(fun id=>match P.underlying id with
    |some (.struct fs)=>decide (P.cellsOf id=a.size+b.size)&&match fs.toList with
     |f::r=>decide (f.offset=0)&&decide (P.cellsOf f.type=a.size)&&(cI a).1 f.type&&(cI b).2 r a.size
     | []=>false
    |_=>false,
   fun fs off=>match fs with
    |f::r=>decide (f.offset=off)&&decide (P.cellsOf f.type=a.size)&&(cI a).1 f.type&&(cI b).2 r (off+a.size)
    | []=>false)
 | .ptr _=>(fun _=>false,fun _ _=>false)
 | .fn _ _=>(fun _=>false,fun _ _=>false)
 | .own _ _=>(fun _=>false,fun _ _=>false)
 | .box _=>(fun _=>false,fun _ _=>false)
 | .nptr _=>(fun _=>false,fun _ _=>false)
 | .nil=>(fun _=>false,fun _ _=>false)
def eB:Ty→List TypeId→Bool
 | .unit,[]=>true
 | .pair t r,id::ids=>(cI P t).1 id&&P.readableRec id&&decide (id<P.types.size)&&eB r ids
 |_,_=>false
end
theorem LM {α:Type}{p:Nat→α→Prop}:∀n,(∀i,i<n→∃y,p i y)→∃l:List α,l.length=n∧∀i (h:i<l.length),p i l[i]
 |0,_=>⟨[],rfl,fun i h=>by simp at h⟩
 |n+1,h=>by
  obtain⟨l,hl,hp⟩:=LM n (fun i hi=>h i (by omega))
  obtain⟨y,hy⟩:=h n (by omega)
  refine⟨l++ [y],by simp[hl],fun i hi=> ?_⟩
  by_cases hlt:i<l.length
  ·rw[List.getElem_append_left hlt];exact hp i hlt
  ·have:i=l.length:=by simp at hi;omega
   subst this
   simp;rw[hl];exact hy
section
variable {P:Program} {H:Type} {enc:TypeId×Value→H} {W:World} {base:Nat} {spare:Nat→Bool} {held:Bool}
theorem KH:∀(t:Ty),
  (∀ {id:TypeId} {cs:List Value} {fuel:Nat} {x:DataW H×List MemPlace},(cI P t).1 id=true→DataW.trod enc P W base spare held fuel id cs=some x→∃y:t.T,CR P (fun b=>b<W.heap.size) W t y cs∧Wf t y)∧
  (∀ {fs:List Field} {off n:Nat} {cs:List Value},(cI P t).2 fs off=true→cs.length=off+t.size→(∀(i:Nat) f,fs[i]? =some f→∃d,DataW.trod enc P W base spare held n f.type ((cs.drop f.offset).take (P.cellsOf f.type))=some d)→
    ∃y:t.T,CR P (fun b=>b<W.heap.size) W t y (cs.drop off)∧Wf t y)
 | .int k=>by
   refine⟨fun {id cs fuel x} h hd=> ?_,fun h=>by simp[cI]at h⟩
   simp only[cI]at h
   split at h
   ·rename_i k' hu
    simp at h;subst h
    obtain⟨n,rfl,_,hw⟩:=DataW.trod_int hu hd
    exact⟨n,rfl,hw⟩
   ·cases h
 | .bool=>by
   refine⟨fun {id cs fuel x} h hd=> ?_,fun h=>by simp[cI]at h⟩
   simp only[cI]at h
   split at h
   ·rename_i hu
    obtain⟨n,rfl,_⟩:=DataW.trod_bool hu hd
    exact⟨n,rfl,trivial⟩
   ·cases h
 | .str=>by
   refine⟨fun {id cs fuel x} h hd=> ?_,fun h=>by simp[cI]at h⟩
   simp only[cI]at h
   split at h
   ·rename_i hu
    obtain⟨s,rfl,_,hs⟩:=DataW.trod_string hu hd
    exact⟨s.data.toList,by show _=_;simp,by show s.data.toList.length≤maxLen;rw[Array.length_toList];exact hs⟩
   ·cases h
 | .unit=>by
   refine⟨fun h=>by simp[cI]at h,fun {fs off n cs} h hl _=>⟨(), ?_,trivial⟩⟩
   show _=_
   simp[Ty.size]at hl
   rw[←hl,List.drop_length]
 | .ptr t=>⟨fun h=>by simp[cI]at h,fun h=>by simp[cI]at h⟩
 | .fn _ _=>⟨fun h=>by simp[cI]at h,fun h=>by simp[cI]at h⟩
 | .own _ _=>⟨fun h=>by simp[cI]at h,fun h=>by simp[cI]at h⟩
 | .box _=>⟨fun h=>by simp[cI]at h,fun h=>by simp[cI]at h⟩
 | .nptr _=>⟨fun h=>by simp[cI]at h,fun h=>by simp[cI]at h⟩
 | .nil=>⟨fun h=>by simp[cI]at h,fun h=>by simp[cI]at h⟩
 | .pair a b=>by
   have row:∀ {fs:List Field} {off n:Nat} {cs:List Value},(cI P (.pair a b)).2 fs off=true→cs.length=off+(Ty.pair a b).size→
     (∀(i:Nat) f,fs[i]? =some f→∃d,DataW.trod enc P W base spare held n f.type ((cs.drop f.offset).take (P.cellsOf f.type))=some d)→∃y:(Ty.pair a b).T,CR P (fun b=>b<W.heap.size) W (.pair a b) y (cs.drop off)∧Wf (.pair a b) y:=by
    intro fs off n cs h hl hd
    simp only[cI]at h
    split at h
    ·rename_i f r
     simp only[Bool.and_eq_true,decide_eq_true_eq]at h
     obtain⟨⟨⟨h1,h2⟩,h3⟩,h4⟩:=h
     obtain⟨d,hd0⟩:=hd 0 f rfl
     rw[h1,h2]at hd0
     obtain⟨y,hy,wy⟩:=(KH a).1 h3 hd0
     obtain⟨z,hz,wz⟩:=(KH b).2 (cs:=cs) (n:=n) h4 (by simp only[Ty.size]at hl;omega) (fun i f' hf=>hd (i+1) f' (by simpa using hf))
     refine⟨(y,z),⟨_,_, ?_,hy,hz⟩,wy,wz⟩
     rw[←List.drop_drop,List.take_append_drop]
    ·cases h
   refine⟨fun {id cs fuel x} h hd=> ?_,row⟩
   simp only[cI]at h
   split at h
   ·rename_i fs hu
    simp only[Bool.and_eq_true,decide_eq_true_eq]at h
    obtain⟨hsz,h⟩:=h
    obtain⟨xs,n,rfl,_,hl,hxl,hx⟩:=DataW.trod_struct hu hd
    have:=row (fs:=fs.toList) (off:=0) (n:=n) (cs:=cs) (by
     simp only[cI]
     split at h
     ·rename_i f r e
      rw[Nat.zero_add];exact h
     ·cases h) (by rw[hl,hsz];simp[Ty.size]) (fun i f hf=>by
     have hf':fs[i]? =some f:=by simpa using hf
     have hlt:i<xs.length:=by rw[hxl];exact(Array.getElem?_eq_some_iff.1 hf').1
     exact⟨xs[i],by rw[hx i f hf'];simp[hlt]⟩)
    simpa using this
   ·cases h
 | .list t=>by
   refine⟨fun {id cs fuel x} h hd=> ?_,fun h=>by simp[cI]at h⟩
   simp only[cI]at h
   split at h
   ·rename_i e hu
    simp only[Bool.and_eq_true,decide_eq_true_eq]at h
    obtain⟨⟨he,hsz⟩,hpos⟩:=h
    rcases DataW.trod_slice hu hd with⟨rfl,_⟩|⟨a,len,cap,elems,rest,n,_,rfl,_,_,hlc,hcm,hel,hcell,_⟩
    ·exact⟨[],⟨_,rfl,.inl ⟨rfl,none,0,rfl⟩⟩,by simp[maxLen],fun x hx=>by simp at hx⟩
    ·rw[hsz]at hcell
     have each:∀i,i<len→∃y:t.T,(∃us,(∀j u,us[j]? =some u→W.cell? ((a.add (i*t.size)).add j)=some u)∧us.length=t.size∧a.block<W.heap.size∧CR P (fun b=>b<W.heap.size) W t y us)∧Wf t y:=by
      intro i hi
      have h1:=hcell i hi
      have hlt:i<elems.length:=by omega
      rw[List.getElem?_eq_getElem hlt]at h1
      simp only[Option.bind_eq_some_iff]at h1
      obtain⟨us,hus,htr⟩:=h1
      obtain⟨y,hy,wy⟩:=(KH t).1 he htr
      obtain⟨_,hul,huc⟩:=World.cells?_some hus
      have hblk:=World.cells?_block hus hpos
      refine⟨y,⟨us,fun j u hu=> ?_,hul, ?_,hy⟩,wy⟩
      ·have hj:=(List.getElem?_eq_some_iff.1 hu).1
       rw[huc j (by omega)];exact hu
      ·have:(a.add (i*t.size)).block=a.block:=by unfold Addr.add;split<;>rfl
       rw[this]at hblk;exact hblk
     obtain⟨l,hll,hl⟩:=LM len each
     refine⟨l,⟨_,rfl, ?_⟩,by omega,fun x hx=> ?_⟩
     ·cases hlen:len with
      |zero=>
       have:l= []:=List.length_eq_zero_iff.1 (by omega)
       exact .inl ⟨this,_,_,rfl⟩
      |succ m=>
       obtain⟨b,o,spot⟩:=a
       have hspot:spot=none:=by
        obtain⟨⟨us,hus,hul,_,_⟩,_⟩:=hl 0 (by omega)
        obtain⟨u,hu⟩:∃u,us[0]? =some u:=⟨us[0]'(by omega),by rw[List.getElem?_eq_getElem (by omega)]⟩
        have:=World.cell?_spot (hus 0 u hu)
        simpa [Addr.add]using this
       subst hspot
       refine .inr ⟨b,o,cap,by rw[←hlen,hll], ?_, ?_,by omega,fun i hi=> ?_⟩
       ·obtain⟨⟨_,_,_,hb,_⟩,_⟩:=hl 0 (by omega);exact hb
       ·obtain⟨⟨_,_,_,hb,_⟩,_⟩:=hl 0 (by omega);exact hb
       ·obtain⟨⟨us,hus,hul,_,hc⟩,_⟩:=hl i hi
        refine⟨us,fun j u hu=> ?_,hc⟩
        have:=hus j u hu
        simpa [Addr.add_lit]using this
     ·obtain⟨i,hi,rfl⟩:=List.mem_iff_getElem.1 hx
      exact(hl i hi).2
   ·cases h
theorem aeL {t:Ty}{id:TypeId}{v:Value}{d:DataW H}{ps:List MemPlace}{b0:Nat}(h:(cI P t).1 id=true)(hval:Value.okWide P W .any b0 id v)(hd:DataW.Trod enc P W base spare held id v d ps):
  ∃y:t.T,VR P (fun b=>b<W.heap.size) W t y v∧Wf t y:=by
 obtain⟨fuel,hf⟩:=hd
 obtain⟨y,hy,wy⟩:=(KH t).1 h hf
 refine⟨y, ?_,wy⟩
 show aY t _ v
 cases t with
 |pair p q=>
  simp only[cI]at h
  split at h
  ·rename_i fs hu
   unfold Value.okWide at hval
   rw[hu]at hval
   obtain⟨cs,rfl,_⟩:=hval
   exact⟨cs.toList,by simp,hy⟩
  ·cases h
 |unit=>simp[cI]at h
 |ptr _=>simp[cI]at h
 |fn _ _=>simp[cI]at h
 |own _ _=>simp[cI]at h
 |box _=>simp[cI]at h
 |nptr _=>simp[cI]at h
 |nil=>simp[cI]at h
 |int k=>
  simp only[cI]at h
  split at h
  ·rename_i k' hu
   unfold Value.okWide Cell.okWide at hval
   rw[hu]at hval
   cases v<;>simp[Cell.ok,hu]at hval
   exact hy
  ·cases h
 |bool=>
  simp only[cI]at h
  split at h
  ·rename_i hu
   unfold Value.okWide Cell.okWide at hval
   rw[hu]at hval
   cases v<;>simp[Cell.ok,hu]at hval
   exact hy
  ·cases h
 |str=>
  simp only[cI]at h
  split at h
  ·rename_i hu
   unfold Value.okWide Cell.okWide at hval
   rw[hu]at hval
   cases v<;>simp[Cell.ok,hu]at hval
   exact hy
  ·cases h
 |list t=>
  simp only[cI]at h
  split at h
  ·rename_i e hu
   unfold Value.okWide Cell.okWide at hval
   rw[hu]at hval
   cases v<;>simp[Cell.ok,hu]at hval
   exact hy
  ·cases h
theorem SS {b0:Nat}:∀(a:Ty) {ts:List TypeId} {vs:List Value} {ds:List (DataW H)} {p:List MemPlace},eB P a ts=true→DataW.TrodAll enc P W base spare held ts vs ds p→
  (∀(j:Nat) t v,ts[j]? =some t→vs[j]? =some v→Value.okWide P W .any b0 t v)→∃x:a.T,AR P (fun b=>b<W.heap.size) W a x vs∧Wf a x
 | .unit,[],_,_,_,_,hd,_=>by
   obtain⟨rfl,_,_⟩:=trodAll_nil hd
   exact⟨(),rfl,trivial⟩
 | .pair t r,id::ids,_,_,_,h,hd,hv=>by
   simp only[eB,Bool.and_eq_true]at h
   obtain⟨v,vs',d,ds',p,q,rfl,rfl,rfl,h1,h2⟩:=trodAll_cons hd
   obtain⟨y,hy,wy⟩:=aeL h.1.1.1 (hv 0 id v rfl rfl) h1
   obtain⟨z,hz,wz⟩:=SS r h.2 h2 (fun j t v ht hv'=>hv (j+1) t v (by simpa using ht) (by simpa using hv'))
   exact⟨(y,z),⟨v,vs',rfl,hy,hz⟩,wy,wz⟩
 | .unit,_::_,_,_,_,h,_,_=>by simp[eB]at h
 | .pair _ _,[],_,_,_,h,_,_=>by simp[eB]at h
 | .int _,_,_,_,_,h,_,_=>by simp[eB]at h
 | .bool,_,_,_,_,h,_,_=>by simp[eB]at h
 | .str,_,_,_,_,h,_,_=>by simp[eB]at h
 | .list _,_,_,_,_,h,_,_=>by simp[eB]at h
 | .ptr _,_,_,_,_,h,_,_=>by simp[eB]at h
 | .fn _ _,_,_,_,_,h,_,_=>by simp[eB]at h
 | .own _ _,_,_,_,_,h,_,_=>by simp[eB]at h
 | .box _,_,_,_,_,h,_,_=>by simp[eB]at h
 | .nptr _,_,_,_,_,h,_,_=>by simp[eB]at h
 | .nil,_,_,_,_,h,_,_=>by simp[eB]at h
theorem ST(hl:laidOutB P=true){W':World}(hb:Below W.heap.size W W'):∀(a:Ty) {ts:List TypeId} {vs:List Value} {ds:List (DataW H)} {p:List MemPlace},eB P a ts=true→
  DataW.TrodAll enc P W 0 (fun _=>true) true ts vs ds p→(∀x ∈ p,x.block<W.heap.size)→DataW.TrodAll enc P W' 0 (fun b=>decide (b<W.heap.size)) true ts vs ds p
 | .unit,[],_,_,_,_,hd,_=>by
   obtain⟨rfl,rfl,rfl⟩:=trodAll_nil hd
   exact trodAll_mk0
 | .pair t r,id::ids,_,_,_,h,hd,hlt=>by
   simp only[eB,Bool.and_eq_true,decide_eq_true_eq]at h
   obtain⟨v,vs',d,ds',p,q,rfl,rfl,rfl,h1,h2⟩:=trodAll_cons hd
   exact trodAll_cons_mk (Below.trod hl h.1.1.2 h.1.2 h1 hb (fun x hx=>hlt x (List.mem_append_left _ hx))) (ST hl hb r h.2 h2 (fun x hx=>hlt x (List.mem_append_right _ hx)))
 | .unit,_::_,_,_,_,h,_,_=>by simp[eB]at h
 | .pair _ _,[],_,_,_,h,_,_=>by simp[eB]at h
 | .int _,_,_,_,_,h,_,_=>by simp[eB]at h
 | .bool,_,_,_,_,h,_,_=>by simp[eB]at h
 | .str,_,_,_,_,h,_,_=>by simp[eB]at h
 | .list _,_,_,_,_,h,_,_=>by simp[eB]at h
 | .ptr _,_,_,_,_,h,_,_=>by simp[eB]at h
 | .fn _ _,_,_,_,_,h,_,_=>by simp[eB]at h
 | .own _ _,_,_,_,_,h,_,_=>by simp[eB]at h
 | .box _,_,_,_,_,h,_,_=>by simp[eB]at h
 | .nptr _,_,_,_,_,h,_,_=>by simp[eB]at h
 | .nil,_,_,_,_,h,_,_=>by simp[eB]at h
end
end Go.Proofs.YtnambbcafhnhpaaGreatDoor
