import Derived.Test.YtnambbcafhnhpaaGreatDoorMem
namespace Go.Proofs.YtnambbcafhnhpaaGreatDoor
open Go.RowKit
set_option linter.unusedVariables false
set_option linter.unusedSimpArgs false
section
variable {P:Program} {C:Cx} {μ:Nm} {af:AF} {a:Act} {w:World} {Γ:cD} {E:bR} {R:Type}
theorem LH:∀(vs:List Value) (j0 off:Nat) (cells:Array Value),off+j0+vs.length≤cells.size→
  ((vs.zipIdx j0).foldl (fun cs (x:Value×Nat)=>cs.setIfInBounds (off+x.2) x.1) cells).toList=cells.toList.take (off+j0)++vs++cells.toList.drop (off+j0+vs.length)
 | [],j0,off,cells,h=>by simp
 |v::vs,j0,off,cells,h=>by
  simp only[List.zipIdx_cons,List.foldl_cons]
  have hl:(v::vs).length=vs.length+1:=rfl
  rw[LH vs (j0+1) off (cells.setIfInBounds (off+j0) v) (by simp;omega)]
  have:=list_seg_step cells.toList (off+j0) v vs (by simp;omega)
  simp only[Array.toList_setIfInBounds]
  rw[show off+(j0+1)=off+j0+1 from by omega,this,hl]
theorem Iw(place:Nat→Option (Nat×Nat))(cells:Array Value)(i:Nat)(v:Value)(rest:List (Nat×Value))(off size:Nat)(hp:place i=some (off,size))(hs:v.cells.size=size)(hf:off+size≤cells.size):
  Instr.fill place cells ((i,v)::rest)=Instr.fill place (cells.toList.take off++v.cells.toList++cells.toList.drop (off+size)).toArray rest:=by
 simp only[Instr.fill,hp]
 have h1:(v.cells.size≠size||decide (off+v.cells.size>cells.size))=false:=by simp[hs];omega
 simp only[h1,Bool.false_eq_true,if_false]
 congr 1
 apply Array.toList_inj.1
 have:=LH v.cells.toList 0 off cells (by simp[hs];omega)
 simp only[Nat.add_zero,Array.length_toList,hs]at this
 rw[←Array.foldl_toList]
 simpa using this
theorem SH {ok:Nat→Prop}{t:Ty}{place:Nat→Option (Nat×Nat)}(hplace:∀f o ft,t.field f=some (o,ft)→place f=some (o,ft.size)):
  ∀ {parts:List (Nat×AV)} {vals:List (Nat×Value)} {cs out:List AV} {cells:Array Value},Il af t cs parts=some out→bE P μ ok w cs cells.toList→(∀u ∈ cells.toList,u.oneCell'=true)→
  parts.length=vals.length→(∀(i:Nat) f v,parts[i]? =some (f,v)→∃u,vals[i]? =some (f,u)∧VA P μ ok w v u∧∀cs,af.cellsOf v=some cs→bE P μ ok w cs u.cells.toList∧∀x ∈ u.cells.toList,x.oneCell'=true)→
  ∃cells',Instr.fill place cells vals=some cells'∧bE P μ ok w out cells'.toList∧∀u ∈ cells'.toList,u.oneCell'=true
 | [],[],cs,out,cells,h,hv,h1,_,_=>by
   simp[Il]at h;subst h
   exact⟨cells,rfl,hv,h1⟩
 |(f,v)::parts,(f',u)::vals,cs,out,cells,h,hv,h1,hl,hp=>by
  simp only[Il]at h
  split at h
  ·rename_i o ft vs hf hvs
   split at h
   ·rename_i hh
    obtain⟨u',hu',hva,hc⟩:=hp 0 f v rfl
    simp at hu'
    obtain⟨rfl,rfl⟩:=hu'
    obtain⟨hc1,hc2⟩:=hc vs hvs
    have hlen:=bE.length hc1
    have hlen2:=bE.length hv
    simp only[Array.length_toList]at hlen hlen2
    have hsz:u.cells.size=ft.size:=by omega
    rw[Iw place cells _ u vals o ft.size (hplace _ o ft hf) hsz (by omega)]
    refine SH hplace h ?_ ?_ (by simpa using hl) (fun i f2 v2 h2=>by simpa using hp (i+1) f2 v2 (by simpa using h2))
    ·unfold AD
     rw[hh.1]
     exact bE.app (bE.app (hv.take o) hc1) (hv.drop _)
    ·intro x hx
     simp only[List.mem_append]at hx
     rcases hx with(hx|hx)|hx
     ·exact h1 x (List.mem_of_mem_take hx)
     ·exact hc2 x hx
     ·exact h1 x (List.mem_of_mem_drop hx)
   ·cases h
  ·cases h
 | [],_::_,_,_,_,_,_,_,hl,_=>by simp at hl
 |_::_,[],_,_,_,_,_,_,hl,_=>by simp at hl
theorem LI(w:World):∀(fs:List Field) (g:Field→Nat),(∀f ∈ fs,kx P f.type (g f)=true)→
  (fs.mapM (m:=Sem) (fun f=>do pure (f.offset,←sizeOf f.type))).run P w= .ok (fs.map fun f=>(f.offset,g f)) w
 | [],_,_=>rfl
 |f::fs,g,h=>by
  have h1:=gQ (h f (by simp)) w
  have h2:=LI w fs g (fun x hx=>h x (by simp[hx]))
  rw[List.mapM_cons]
  simp only[Sem.run_bind,h1,Result.andThen_ok,Sem.run_pure,h2]
  rfl
theorem Gn:∀(t:Ty) {fs:List Field} {off:Nat},eE P t fs off=true→∃g:Field→Nat,(∀f ∈ fs,kx P f.type (g f)=true)
 | .pair x y,f::fs,off,h=>by
   simp only[eE,Bool.and_eq_true]at h
   obtain⟨g,hg⟩:=Gn y h.2
   obtain⟨i,hi,hs⟩:=qc h.1.1.2
   refine⟨fun f=>match P.info? f.type with|some i=>i.size|none=>0, ?_⟩
   intro f' hf'
   rcases List.mem_cons.1 hf' with rfl|h'
   ·simp[kx,hi]
   ·obtain⟨i',hi',hs'⟩:=qc (hg f' h')
    simp[kx,hi']
 | .unit,[],_,_=>⟨fun _=>0,by simp⟩
 | .pair _ _,[],_,h=>by simp[eE]at h
 | .unit,_::_,_,h=>by simp[eE]at h
 | .int _,_,_,h=>by simp[eE]at h
 | .bool,_,_,h=>by simp[eE]at h
 | .str,_,_,h=>by simp[eE]at h
 | .list _,_,_,h=>by simp[eE]at h
 | .fn _ _,_,_,h=>by simp[eE]at h
 | .ptr _,_,_,h=>by simp[eE]at h
 | .own _ _,_,_,h=>by simp[eE]at h
 | .box _,_,_,h=>by simp[eE]at h
 | .nptr _,_,_,h=>by simp[eE]at h
 | .nil,_,_,h=>by simp[eE]at h
theorem abc {id:TypeId}{t:Ty}{z:t.T}(h:AK P id t=true)(hz:t.zero=some z):
  ∃v,(∀w:World,(zeroValue id).run P w= .ok v w)∧v.cells.toList=zc t:=by
 obtain⟨i,v,hi,hv,hc,ha⟩:=nM h hz
 exact⟨v,fun w=>by simp[zeroValue,typeInfo,hi,hv],hc⟩
theorem SI(hT:cH P Γ E=true){ok:Nat→Prop}{id:TypeId}{parts:List (Nat×AV)}{vals:Array (Nat×Value)}{K:AV→Option R}{r:R}(hl:parts.length=vals.size)
  (hp:∀(i:Nat) f v,parts[i]? =some (f,v)→∃u,vals[i]? =some (f,u)∧VA P μ ok w v u∧∀cs,af.cellsOf v=some cs→bE P μ ok w cs u.cells.toList∧∀x ∈ u.cells.toList,x.oneCell'=true)
  (h:UF Γ af id parts K=some r):∃z,K z=some r∧cO P μ ok w (Instr.build id vals) z:=by
 unfold UF at h
 split at h
 ·cases h
 ·rename_i t ht
  split at h
  ·cases h
  ·rename_i z hz
   split at h
   ·rename_i hag
    obtain⟨cs,hcs,hk⟩:=bA h
    have hc:=cN hT ht
    obtain⟨zv,hrun,hzc⟩:=abc (Oh hc) hz
    have hcr:=mR (P:=P) t (ok:=ok) (w:=w) hz
    rw[←hzc]at hcr
    have hd:=d7 hc
    have hfs:∃fs,P.underlying id=some (.struct fs)∧eE P t fs.toList 0=true:=by
     cases t<;>simp[Ty.isAgg]at hag
     ·simp only[lr]at hd
      split at hd
      ·rename_i fs hu;exact⟨fs,hu,hd⟩
      ·cases hd
     ·simp only[lr]at hd
      split at hd
      ·rename_i fs hu;exact⟨fs,hu,hd⟩
      ·cases hd
    obtain⟨fs,hu,hfb⟩:=hfs
    obtain⟨g,hg⟩:=Gn t hfb
    have hpl:∀w':World,(fs.mapM (m:=Sem) (fun f=>do pure (f.offset,←sizeOf f.type))).run P w'= .ok (fs.map fun f=>(f.offset,g f)) w':=fun w'=>by
     have:=LI (P:=P) w' fs.toList g hg
     rw[Array.mapM_eq_mapM_toList,Sem.run_map,this]
     simp only[Result.andThen_ok]
     congr 1
     apply Array.toList_inj.1
     simp
    have hplace:∀f o ft,t.field f=some (o,ft)→(fs.map fun f=>(f.offset,g f))[f]? =some (o,ft.size):=by
     intro f o ft hf
     obtain⟨fd,h1,h2,h3,_⟩:=wK t hfb f hf
     have h4:=hg fd (List.mem_of_getElem? h1)
     obtain⟨i1,e1,e2⟩:=qc h3
     obtain⟨i2,e3,e4⟩:=qc h4
     rw[e1]at e3
     simp at e3;subst e3
     have h5:fs[f]? =some fd:=by simpa using h1
     simp[h5,h2];omega
    obtain⟨cells',hfill,hva,hone⟩:=SH (af:=af) (vals:=vals.toList) hplace hcs (show bE P μ ok w _ _ by rw[hzc];exact KB (μ:=μ) t hz) (CR.one t z _ hcr) (by simpa using hl)
     (fun i f v hi=>by simpa using hp i f v hi)
    refine⟨_,hk,.agg cells',fun w'=> ?_,cells'.toList,by simp,hva,hone⟩
    simp only[Instr.build,Sem.run_bind,hrun,Result.andThen_ok,run_underlying hu,hpl,hfill,Sem.run_pure]
   ·cases h
end
end Go.Proofs.YtnambbcafhnhpaaGreatDoor
