import Derived.Test.YthfgmmmeplanbaaGreatDoorGet
namespace Go.Proofs.YthfgmmmeplanbaaGreatDoor
open Go.RowKit
set_option linter.unusedVariables false
set_option linter.unusedSimpArgs false
def zc:Ty→List Value
 | .int k=>[.int k 0]
 | .bool=>[.bool false]
 | .str=>[.string .empty]
 | .list _=>[.slice none 0 0]
 | .unit=>[]
 | .pair a b=>zc a++zc b
 | .ptr _=>[undef]
 | .fn _ _=>[undef]
 | .own _ _=>[.slice none 0 0]
 | .box _=>[undef]
 | .nptr _=>[.pointer none]
 | .nil=>[.slice none 0 0]
def WZ:Value→Value→Bool
 | .int k n,.int k' n'=>decide (k=k')&&decide (n=n')
 | .bool b,.bool b'=>b==b'
 | .string s,.string t=>decide (s.data.toList= [])&&decide (t.data.toList= [])
 | .slice none 0 0,.slice none 0 0=>true
 | .pointer none,.pointer none=>true
 |_,_=>false
def JH:List Value→List Value→Bool
 | [],[]=>true
 |a::x,b::y=>WZ a b&&JH x y
 |_,_=>false
theorem W0 {a b:Value}(h:WZ a b=true):a=b:=by
 unfold WZ at h
 split at h
 ·simp at h;obtain⟨rfl,rfl⟩:=h;rfl
 ·simp at h;subst h;rfl
 ·rename_i s t
  simp at h
  obtain⟨h1,h2⟩:=h
  cases s;cases t;simp_all
 ·rfl
 ·rfl
 ·cases h
theorem Q8:∀ {a b:List Value},JH a b=true→a=b
 | [],[],_=>rfl
 |a::x,b::y,h=>by
  simp only[JH,Bool.and_eq_true]at h
  rw[W0 h.1,Q8 h.2]
 | [],_::_,h=>by simp[JH]at h
 |_::_,[],h=>by simp[JH]at h
def UK:TypeDesc→Bool
 | .struct _=>true
 | .array _ _=>true
 |_=>false
section
variable (P:Program)
def gJ(id:TypeId)(n:Nat):Bool:=match P.info? id with|some i=>decide (i.size=n)|none=>false
def nI(id:TypeId)(b:Bool):Bool:=match P.underlying id with|some d=>UK d==b|none=>false
def xV(id:TypeId)(t:Ty):Bool:=match t.zero with
 |none=>true
 |some _=>match P.info? id with
  |some i=>match i.zero with
   |some v=>JH v.cells.toList (zc t)&&(if t.isAgg then(match v with| .agg _=>true|_=>false)else(match v with| .agg _=>false| .tuple _=>false|_=>true))
   |none=>false
  |none=>false
def dd:Ty→List Field→Nat→Bool
 | .pair a b,f::fs,off=>decide (f.offset=off)&&gJ P f.type a.size&&nI P f.type a.isAgg&&dd b fs (off+a.size)
 | .unit,[],_=>true
 |_,_,_=>false
def il(id:TypeId)(t:Ty):Bool:=match t with
 | .pair _ _| .unit=>(match P.underlying id with|some (.struct fs)=>dd P t fs.toList 0|_=>false)
 | .int k=>(match P.underlying id with|some (.int k')=>decide (k=k')|_=>false)
 | .bool=>(match P.underlying id with|some .bool=>true|_=>false)
 | .str=>(match P.underlying id with|some .string=>true|_=>false)
 | .list _| .own _ _=>(match P.underlying id with|some (.slice _)=>true|_=>false)
 | .ptr _| .nptr _| .box _=>(match P.underlying id with|some (.pointer _)=>true|_=>false)
 |_=>true
def gd:Ty→(TypeId→Bool)×(List Field→Nat→Bool)
 | .int _=>(fun id=>match P.underlying id with|some (.int _)=>true|_=>false,fun _ _=>false)
 | .bool=>(fun id=>match P.underlying id with|some .bool=>true|_=>false,fun _ _=>false)
 | .str=>(fun id=>match P.underlying id with|some .string=>true|_=>false,fun _ _=>false)
 | .unit=>(fun id=>match P.underlying id with|some (.struct fs)=> !P.stoodInHeld id&&fs.isEmpty|_=>false,fun fs _=>fs.isEmpty)
 | .pair a b=>(fun id=>match P.underlying id with
    |some (.struct fs)=> !P.stoodInHeld id&&match fs.toList with
     |f::r=> !(f.name=="_")&&decide (f.offset=0)&&gJ P f.type a.size&&nI P f.type a.isAgg&&(gd a).1 f.type&&(gd b).2 r a.size
     | []=>false
    |_=>false,
   fun fs off=>match fs with
    |f::r=> !(f.name=="_")&&decide (f.offset=off)&&gJ P f.type a.size&&nI P f.type a.isAgg&&(gd a).1 f.type&&(gd b).2 r (off+a.size)
    | []=>false)
 |_=>(fun _=>false,fun _ _=>false)
def Ty.nest:Ty→Nat
 | .pair a b=>max (a.nest+1) b.nest
 |_=>0
def R3(id:TypeId)(t:Ty):Bool:= !(t.isAgg&&t.flat)||((gd P t).1 id&& !P.eqGuardType P.depth id&&decide (t.nest≤100))
def ja(id:TypeId)(t:Ty):Bool:=gJ P id t.size&&nI P id t.isAgg&&xV P id t&&(il P id t&&R3 P id t)
def C4(id e:TypeId)(t:Ty):Bool:=(match P.underlying id with|some (.slice e')=>decide (e'=e)|_=>false)&&
 gJ P e t.size&&nI P e t.isAgg&&xV P e t&&decide (0<t.size)&&(match P.info? e with|some i=>decide (i.bytes≤128)|none=>false)
def bZ(Γ:co)(E:bA):Bool:=P.follows .mixedOrders&&(Γ.all (fun p=>ja P p.1 p.2)&&E.all fun p=>match Γ.at p.1 with|some (.list t)=>C4 P p.1 p.2 t|_=>false)
end
theorem co.at_mem:∀ {Γ:co} {id:TypeId} {t:Ty},Γ.at id=some t→(id,t) ∈ Γ
 |(i,u)::r,id,t,h=>by
  simp only[co.at]at h
  split at h
  ·rename_i e;subst e;simp at h;subst h;simp
  ·exact List.mem_cons_of_mem _ (co.at_mem h)
theorem bA.at_mem:∀ {E:bA} {id e:TypeId},E.at id=some e→(id,e) ∈ E
 |(i,u)::r,id,t,h=>by
  simp only[bA.at]at h
  split at h
  ·rename_i e;subst e;simp at h;subst h;simp
  ·exact List.mem_cons_of_mem _ (bA.at_mem h)
section
variable {P:Program} {Γ:co} {E:bA}
theorem b7(h:bZ P Γ E=true){id:TypeId}{t:Ty}(hi:Γ.at id=some t):ja P id t=true:=by
 simp only[bZ,Bool.and_eq_true,List.all_eq_true]at h
 exact h.2.1 _ (co.at_mem hi)
theorem AS(h:bZ P Γ E=true):P.follows .mixedOrders=true:=by
 simp only[bZ,Bool.and_eq_true]at h
 exact h.1
theorem jG(h:bZ P Γ E=true){id e:TypeId}{t:Ty}(hi:Γ.at id=some (.list t))(he:E.at id=some e):C4 P id e t=true:=by
 simp only[bZ,Bool.and_eq_true,List.all_eq_true]at h
 have:=h.2.2 _ (bA.at_mem he)
 simpa only[hi]using this
theorem lv {id:TypeId}{n:Nat}(h:gJ P id n=true):∃i,P.info? id=some i∧i.size=n:=by
 unfold gJ at h
 split at h
 ·rename_i i hi;exact⟨i,hi,by simpa using h⟩
 ·cases h
theorem La {id:TypeId}{b:Bool}(h:nI P id b=true):∃d,P.underlying id=some d∧UK d=b:=by
 unfold nI at h
 split at h
 ·rename_i d hd;exact⟨d,hd,by simpa using h⟩
 ·cases h
theorem nJ {id:TypeId}{b:Bool}(h:nI P id b=true)(w:World):(isAgg id).run P w= .ok b w:=by
 obtain⟨d,hd,e⟩:=La h
 unfold isAgg
 rw[Sem.run_bind,run_underlying hd w]
 cases d<;>simp_all [UK]
theorem eJ {id:TypeId}{n:Nat}(h:gJ P id n=true)(w:World):(sizeOf id).run P w= .ok n w:=by
 obtain⟨i,hi,e⟩:=lv h
 simp[sizeOf,typeInfo,hi,e]
theorem rx {id:TypeId}{t:Ty}(h:ja P id t=true):gJ P id t.size=true:=by
 simp only[ja,Bool.and_eq_true]at h;exact h.1.1.1
theorem Lb {id:TypeId}{t:Ty}(h:ja P id t=true):nI P id t.isAgg=true:=by
 simp only[ja,Bool.and_eq_true]at h;exact h.1.1.2
theorem GM {id:TypeId}{t:Ty}(h:ja P id t=true):xV P id t=true:=by
 simp only[ja,Bool.and_eq_true]at h;exact h.1.2
theorem cT {id:TypeId}{t:Ty}(h:ja P id t=true):il P id t=true:=by
 simp only[ja,Bool.and_eq_true]at h;exact h.2.1
theorem R4 {id:TypeId}{t:Ty}(h:ja P id t=true):R3 P id t=true:=by
 simp only[ja,Bool.and_eq_true]at h;exact h.2.2
theorem nK {id:TypeId}{t:Ty}{z:t.T}(h:xV P id t=true)(hz:t.zero=some z):
  ∃i v,P.info? id=some i∧i.zero=some v∧v.cells.toList=zc t∧(if t.isAgg then ∃cs,v= .agg cs else v.oneCell'=true):=by
 unfold xV at h
 rw[hz]at h
 simp only at h
 split at h
 ·rename_i i hi
  split at h
  ·rename_i v hv
   simp only[Bool.and_eq_true]at h
   refine⟨i,v,hi,hv,Q8 h.1, ?_⟩
   have h2:=h.2
   split
   ·rename_i ht;rw[if_pos ht]at h2;cases v<;>simp_all
   ·rename_i ht;rw[if_neg ht]at h2;cases v<;>simp_all [Value.oneCell']
  ·cases h
 ·cases h
theorem Lc {id:TypeId}{t:Ty}{z:t.T}(h:xV P id t=true)(hz:t.zero=some z)(w:World):
  ∃v,(zeroValue id).run P w= .ok v w∧v.cells.toList=zc t∧(if t.isAgg then ∃cs,v= .agg cs else v.oneCell'=true):=by
 obtain⟨i,v,hi,hv,hc,ha⟩:=nK h hz
 exact⟨v,by simp[zeroValue,typeInfo,hi,hv],hc,ha⟩
theorem jb:∀(t:Ty) {z:t.T} {ok:Nat→Prop} {w:World},t.zero=some z→CR P ok w t z (zc t)
 | .int k,z,_,_,h=>by simp[Ty.zero]at h;subst h;rfl
 | .bool,z,_,_,h=>by simp[Ty.zero]at h;subst h;rfl
 | .str,z,_,_,h=>by simp[Ty.zero]at h;subst h;rfl
 | .list t,z,_,_,h=>by simp[Ty.zero]at h;subst h;exact⟨_,rfl,.inl ⟨rfl,none,0,rfl⟩⟩
 | .unit,z,_,_,_=>rfl
 | .pair a b,z,_,_,h=>by
   simp only[Ty.zero]at h
   split at h
   ·rename_i x y hx hy
    simp at h;subst h
    exact⟨_,_,rfl,jb a hx,jb b hy⟩
   ·cases h
 | .ptr t,z,_,_,h=>by simp[Ty.zero]at h
 | .fn a r,z,_,_,h=>by simp[Ty.zero]at h
 | .own e t,z,_,_,h=>by simp[Ty.zero]at h;subst h;exact⟨_,rfl,.inl ⟨rfl,none,0,rfl⟩⟩
 | .box t,z,_,_,h=>by simp[Ty.zero]at h
 | .nptr t,z,_,_,h=>by simp[Ty.zero]at h;subst h;exact .inl ⟨rfl,rfl⟩
 | .nil,z,_,_,h=>by simp[Ty.zero]at h
theorem C5 {μ:Nm}:∀(t:Ty) {z:t.T} {ok:Nat→Prop} {w:World},t.zero=some z→aY P μ ok w (Tc t) (zc t)
 | .int k,z,_,_,h=>⟨_,_,rfl,show aB _ _ _ by simp[aB,Ty.isAgg,CR,cg],rfl⟩
 | .bool,z,_,_,h=>⟨_,_,rfl,show aB _ _ _ by simp[aB,Ty.isAgg,CR,cg],rfl⟩
 | .str,z,_,_,h=>⟨_,_,rfl,show aB _ _ _ by simp only[aB,Ty.isAgg,CR,cg];rfl,rfl⟩
 | .list t,z,_,_,h=>⟨_,_,rfl,rfl,rfl⟩
 | .unit,z,_,_,_=>rfl
 | .pair a b,z,_,_,h=>by
   simp only[Ty.zero]at h
   split at h
   ·rename_i x y hx hy
    exact aY.app (C5 a hx) (C5 b hy)
   ·cases h
 | .ptr t,z,_,_,h=>by simp[Ty.zero]at h
 | .fn a r,z,_,_,h=>by simp[Ty.zero]at h
 | .own e t,z,_,_,h=>⟨_,_,rfl,rfl,rfl⟩
 | .box t,z,_,_,h=>by simp[Ty.zero]at h
 | .nptr t,z,_,_,h=>⟨_,_,rfl,rfl,rfl⟩
 | .nil,z,_,_,h=>by simp[Ty.zero]at h
theorem W2 {P:Program}:∀(t:Ty) {z:t.T},t.zero=some z→∀u ∈ zc t,u.oneCell'=true:=fun t z h=>CR.one t z (zc t) (jb (P:=P) (ok:=fun _=>False) (w:=default) t h)
theorem qs:∀(t:Ty) {fs:List Field} {off:Nat},dd P t fs off=true→∀(f:Nat) {o:Nat} {ft:Ty},t.field f=some (o,ft)→
  ∃fd,fs[f]? =some fd∧fd.offset=off+o∧gJ P fd.type ft.size=true∧nI P fd.type ft.isAgg=true
 | .pair a b,fd::fs,off,h,0,o,ft,hf=>by
   simp only[dd,Bool.and_eq_true,decide_eq_true_eq]at h
   simp[Ty.field]at hf
   obtain⟨rfl,rfl⟩:=hf
   exact⟨fd,rfl,h.1.1.1,h.1.1.2,h.1.2⟩
 | .pair a b,fd::fs,off,h,f+1,o,ft,hf=>by
   simp only[dd,Bool.and_eq_true]at h
   simp only[Ty.field,Option.map_eq_some_iff]at hf
   obtain⟨⟨o',ft'⟩,hf,e⟩:=hf
   simp at e
   obtain⟨rfl,rfl⟩:=e
   obtain⟨fd',h1,h2,h3,h4⟩:=qs b h.2 f hf
   exact⟨fd',by simpa using h1,by rw[h2];omega,h3,h4⟩
 | .pair a b,[],_,h,_,_,_,_=>by simp[dd]at h
 | .unit,_,_,_,_,_,_,hf=>by simp[Ty.field]at hf
 | .int _,_,_,_,_,_,_,hf=>by simp[Ty.field]at hf
 | .bool,_,_,_,_,_,_,hf=>by simp[Ty.field]at hf
 | .str,_,_,_,_,_,_,hf=>by simp[Ty.field]at hf
 | .list _,_,_,_,_,_,_,hf=>by simp[Ty.field]at hf
 | .ptr _,_,_,_,_,_,_,hf=>by simp[Ty.field]at hf
 | .fn _ _,_,_,_,_,_,_,hf=>by simp[Ty.field]at hf
 | .own _ _,_,_,_,_,_,_,hf=>by simp[Ty.field]at hf
 | .box _,_,_,_,_,_,_,hf=>by simp[Ty.field]at hf
 | .nptr _,_,_,_,_,_,_,hf=>by simp[Ty.field]at hf
 | .nil,_,_,_,_,_,_,hf=>by simp[Ty.field]at hf
theorem GN {id:TypeId}{t:Ty}(h:ja P id t=true){f o:Nat}{ft:Ty}(hf:t.field f=some (o,ft)):
  ∃fs fd,P.underlying id=some (.struct fs)∧fs[f]? =some fd∧fd.offset=o∧gJ P fd.type ft.size=true∧nI P fd.type ft.isAgg=true:=by
 have hd:=cT h
 obtain⟨a,b,rfl⟩:∃a b,t= .pair a b:=by
  cases t with
  |pair a b=>exact⟨a,b,rfl⟩
  |_=>simp[Ty.field]at hf
 simp only[il]at hd
 split at hd
 ·rename_i fs hu
  obtain⟨fd,h1,h2,h3,h4⟩:=qs _ hd f hf
  exact⟨fs,fd,hu,by simpa using h1,by rw[h2];omega,h3,h4⟩
 ·cases hd
theorem R5:∀(t:Ty) {f o:Nat} {ft:Ty},t.field f=some (o,ft)→o+ft.size≤t.size
 | .pair a b,0,o,ft,h=>by simp[Ty.field]at h;obtain⟨rfl,rfl⟩:=h;simp[Ty.size]
 | .pair a b,f+1,o,ft,h=>by
   simp only[Ty.field,Option.map_eq_some_iff]at h
   obtain⟨⟨o',ft'⟩,hf,e⟩:=h
   simp at e
   obtain⟨rfl,rfl⟩:=e
   have:=R5 b hf
   simp only[Ty.size];omega
 | .unit,_,_,_,hf=>by simp[Ty.field]at hf
 | .int _,_,_,_,hf=>by simp[Ty.field]at hf
 | .bool,_,_,_,hf=>by simp[Ty.field]at hf
 | .str,_,_,_,hf=>by simp[Ty.field]at hf
 | .list _,_,_,_,hf=>by simp[Ty.field]at hf
 | .ptr _,_,_,_,hf=>by simp[Ty.field]at hf
 | .fn _ _,_,_,_,hf=>by simp[Ty.field]at hf
 | .own _ _,_,_,_,hf=>by simp[Ty.field]at hf
 | .box _,_,_,_,hf=>by simp[Ty.field]at hf
 | .nptr _,_,_,_,hf=>by simp[Ty.field]at hf
 | .nil,_,_,_,hf=>by simp[Ty.field]at hf
def kv(agg:Bool)(us:List Value):Value:=if agg then .agg us.toArray else us.headD undef
theorem Nf {id:TypeId}{n:Nat}{g:Bool}(hs:gJ P id n=true)(ha:nI P id g=true){w:World}{b o:Nat}{us:List Value}(hm:MR w b o us)(hl:us.length=n)(h1:g=false→n=1):
  (loadVar id ⟨b,o,none⟩).run P w= .ok (kv g us) w:=by
 have hld:(loadCells ⟨b,o,none⟩ us.length).run P w= .ok us.toArray w:=
  run_loadCells_list (P:=P) w ⟨b,o,none⟩ us (fun j v hv=>by rw[Addr.add_lit];exact hm j v hv)
 rw[hl]at hld
 cases g with
 |true=>simp[loadVar,Sem.run_bind,nJ ha,eJ hs,hld,kv]
 |false=>
  have hn:=h1 rfl
  subst hn
  obtain⟨u,rfl⟩:∃u,us= [u]:=List.length_eq_one_iff.1 hl
  have:=hm 0 u rfl
  simp only[Nat.add_zero]at this
  simp[loadVar,Sem.run_bind,nJ ha,kv,this]
theorem qt {id:TypeId}{n:Nat}(hs:gJ P id n=true){w:World}{b o:Nat}{cur:Array Value}{e:TypeId}(hg:w.heap[b]? =some (.cells cur e (0,0))){v:Value}(hl:v.cells.size=n)
  (h1:∀u ∈ v.cells.toList,u.oneCell'=true) (hfit:o+n≤cur.size):
  (storeVar id ⟨b,o,none⟩ v).run P w= .ok () (w.setRow b (cur.toList.take o++v.cells.toList++cur.toList.drop (o+n)).toArray):=by
 have:=run_storeCells_at P b o e v.cells.toList 0 cur w hg (by simpa [hl]using hfit) h1
 simp only[Nat.add_zero,Array.length_toList,hl]at this
 simp[storeVar,Sem.run_bind,eJ hs,hl,this]
theorem kK {id:TypeId}{t:Ty}(h:ja P id t=true){f o:Nat}{ft:Ty}(hf:t.field f=some (o,ft))(hp:ft.size≠0)(b off:Nat)(w:World):
  (Instr.fieldAt id (.pointer (some ⟨b,off,none⟩)) f).run P w= .ok (.pointer (some ⟨b,off+o,none⟩)) w:=by
 obtain⟨fs,fd,hu,hfd,rfl,hs,_⟩:=GN h hf
 simp[Instr.fieldAt,Sem.run_bind,run_underlying hu,hfd,Instr.sureAddr,fieldPlace,eJ hs,hp,Addr.add_lit]
end
end Go.Proofs.YthfgmmmeplanbaaGreatDoor
