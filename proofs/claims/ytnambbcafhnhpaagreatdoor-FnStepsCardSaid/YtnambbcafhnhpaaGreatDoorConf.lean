import Derived.Test.YtnambbcafhnhpaaGreatDoorGet
namespace Go.Proofs.YtnambbcafhnhpaaGreatDoor
open Go.RowKit
set_option linter.unusedVariables false
set_option linter.unusedSimpArgs false
def zc:Ty→List Value
 | .int k=>[.int k 0]
 | .bool=>[.bool false]
 | .str=>[.string .empty]
 | .list _=>[.slice none 0 0]
 | .unit=>[]
 | .pair a b=>zc a++zc b
 | .ptr _=>[undef]
 | .fn _ _=>[undef]
 | .own _ _=>[.slice none 0 0]
 | .box _=>[undef]
 | .nptr _=>[.pointer none]
 | .nil=>[.slice none 0 0]
def zeq:Value→Value→Bool
 | .int k n,.int k' n'=>decide (k=k')&&decide (n=n')
 | .bool b,.bool b'=>b==b'
 | .string s,.string t=>decide (s.data.toList= [])&&decide (t.data.toList= [])
 | .slice none 0 0,.slice none 0 0=>true
 | .pointer none,.pointer none=>true
 |_,_=>false
def QU:List Value→List Value→Bool
 | [],[]=>true
 |a::x,b::y=>zeq a b&&QU x y
 |_,_=>false
theorem afK {a b:Value}(h:zeq a b=true):a=b:=by
 unfold zeq at h
 split at h
 ·simp at h;obtain⟨rfl,rfl⟩:=h;rfl
 ·simp at h;subst h;rfl
 ·rename_i s t
  simp at h
  obtain⟨h1,h2⟩:=h
  cases s;cases t;simp_all
 ·rfl
 ·rfl
 ·cases h
theorem Yu:∀ {a b:List Value},QU a b=true→a=b
 | [],[],_=>rfl
 |a::x,b::y,h=>by
  simp only[QU,Bool.and_eq_true]at h
  rw[afK h.1,Yu h.2]
 | [],_::_,h=>by simp[QU]at h
 |_::_,[],h=>by simp[QU]at h
def acQ:TypeDesc→Bool
 | .struct _=>true
 | .array _ _=>true
 |_=>false
section
variable (P:Program)
def kx(id:TypeId)(n:Nat):Bool:=match P.info? id with|some i=>decide (i.size=n)|none=>false
def ti(id:TypeId)(b:Bool):Bool:=match P.underlying id with|some d=>acQ d==b|none=>false
def AK(id:TypeId)(t:Ty):Bool:=match t.zero with
 |none=>true
 |some _=>match P.info? id with
  |some i=>match i.zero with
   |some v=>QU v.cells.toList (zc t)&&(if t.isAgg then(match v with| .agg _=>true|_=>false)else(match v with| .agg _=>false| .tuple _=>false|_=>true))
   |none=>false
  |none=>false
def eE:Ty→List Field→Nat→Bool
 | .pair a b,f::fs,off=>decide (f.offset=off)&&kx P f.type a.size&&ti P f.type a.isAgg&&eE b fs (off+a.size)
 | .unit,[],_=>true
 |_,_,_=>false
def lr(id:TypeId)(t:Ty):Bool:=match t with
 | .pair _ _| .unit=>(match P.underlying id with|some (.struct fs)=>eE P t fs.toList 0|_=>false)
 | .int k=>(match P.underlying id with|some (.int k')=>decide (k=k')|_=>false)
 | .bool=>(match P.underlying id with|some .bool=>true|_=>false)
 | .str=>(match P.underlying id with|some .string=>true|_=>false)
 | .list _| .own _ _=>(match P.underlying id with|some (.slice _)=>true|_=>false)
 | .ptr _| .nptr _| .box _=>(match P.underlying id with|some (.pointer _)=>true|_=>false)
 |_=>true
def jE:Ty→(TypeId→Bool)×(List Field→Nat→Bool)
 | .int _=>(fun id=>match P.underlying id with|some (.int _)=>true|_=>false,fun _ _=>false)
 | .bool=>(fun id=>match P.underlying id with|some .bool=>true|_=>false,fun _ _=>false)
 | .str=>(fun id=>match P.underlying id with|some .string=>true|_=>false,fun _ _=>false)
 | .unit=>(fun id=>match P.underlying id with|some (.struct fs)=> !P.stoodInHeld id&&fs.isEmpty|_=>false,fun fs _=>fs.isEmpty)
 | .pair a b=>(fun id=>match P.underlying id with
    |some (.struct fs)=> !P.stoodInHeld id&&match fs.toList with
     |f::r=> !(f.name=="_")&&decide (f.offset=0)&&kx P f.type a.size&&ti P f.type a.isAgg&&(jE a).1 f.type&&(jE b).2 r a.size
     | []=>false
    |_=>false,
   fun fs off=>match fs with
    |f::r=> !(f.name=="_")&&decide (f.offset=off)&&kx P f.type a.size&&ti P f.type a.isAgg&&(jE a).1 f.type&&(jE b).2 r (off+a.size)
    | []=>false)
 |_=>(fun _=>false,fun _ _=>false)
def Ty.nest:Ty→Nat
 | .pair a b=>max (a.nest+1) b.nest
 |_=>0
def ZA(id:TypeId)(t:Ty):Bool:= !(t.isAgg&&t.flat)||((jE P t).1 id&& !P.eqGuardType P.depth id&&decide (t.nest≤100))
def mQ(id:TypeId)(t:Ty):Bool:=kx P id t.size&&ti P id t.isAgg&&AK P id t&&(lr P id t&&ZA P id t)
def KA(id e:TypeId)(t:Ty):Bool:=(match P.underlying id with|some (.slice e')=>decide (e'=e)|_=>false)&&
 kx P e t.size&&ti P e t.isAgg&&AK P e t&&decide (0<t.size)&&(match P.info? e with|some i=>decide (i.bytes≤128)|none=>false)
def cH(Γ:cD)(E:bR):Bool:=P.follows .mixedOrders&&(Γ.all (fun p=>mQ P p.1 p.2)&&E.all fun p=>match Γ.at p.1 with|some (.list t)=>KA P p.1 p.2 t|_=>false)
end
theorem cD.at_mem:∀ {Γ:cD} {id:TypeId} {t:Ty},Γ.at id=some t→(id,t) ∈ Γ
 |(i,u)::r,id,t,h=>by
  simp only[cD.at]at h
  split at h
  ·rename_i e;subst e;simp at h;subst h;simp
  ·exact List.mem_cons_of_mem _ (cD.at_mem h)
theorem bR.at_mem:∀ {E:bR} {id e:TypeId},E.at id=some e→(id,e) ∈ E
 |(i,u)::r,id,t,h=>by
  simp only[bR.at]at h
  split at h
  ·rename_i e;subst e;simp at h;subst h;simp
  ·exact List.mem_cons_of_mem _ (bR.at_mem h)
section
variable {P:Program} {Γ:cD} {E:bR}
theorem cN(h:cH P Γ E=true){id:TypeId}{t:Ty}(hi:Γ.at id=some t):mQ P id t=true:=by
 simp only[cH,Bool.and_eq_true,List.all_eq_true]at h
 exact h.2.1 _ (cD.at_mem hi)
theorem AL(h:cH P Γ E=true):P.follows .mixedOrders=true:=by
 simp only[cH,Bool.and_eq_true]at h
 exact h.1
theorem ma(h:cH P Γ E=true){id e:TypeId}{t:Ty}(hi:Γ.at id=some (.list t))(he:E.at id=some e):KA P id e t=true:=by
 simp only[cH,Bool.and_eq_true,List.all_eq_true]at h
 have:=h.2.2 _ (bR.at_mem he)
 simpa only[hi]using this
theorem qc {id:TypeId}{n:Nat}(h:kx P id n=true):∃i,P.info? id=some i∧i.size=n:=by
 unfold kx at h
 split at h
 ·rename_i i hi;exact⟨i,hi,by simpa using h⟩
 ·cases h
theorem SB {id:TypeId}{b:Bool}(h:ti P id b=true):∃d,P.underlying id=some d∧acQ d=b:=by
 unfold ti at h
 split at h
 ·rename_i d hd;exact⟨d,hd,by simpa using h⟩
 ·cases h
theorem tj {id:TypeId}{b:Bool}(h:ti P id b=true)(w:World):(isAgg id).run P w= .ok b w:=by
 obtain⟨d,hd,e⟩:=SB h
 unfold isAgg
 rw[Sem.run_bind,run_underlying hd w]
 cases d<;>simp_all [acQ]
theorem gQ {id:TypeId}{n:Nat}(h:kx P id n=true)(w:World):(sizeOf id).run P w= .ok n w:=by
 obtain⟨i,hi,e⟩:=qc h
 simp[sizeOf,typeInfo,hi,e]
theorem tk {id:TypeId}{t:Ty}(h:mQ P id t=true):kx P id t.size=true:=by
 simp only[mQ,Bool.and_eq_true]at h;exact h.1.1.1
theorem SC {id:TypeId}{t:Ty}(h:mQ P id t=true):ti P id t.isAgg=true:=by
 simp only[mQ,Bool.and_eq_true]at h;exact h.1.1.2
theorem Oh {id:TypeId}{t:Ty}(h:mQ P id t=true):AK P id t=true:=by
 simp only[mQ,Bool.and_eq_true]at h;exact h.1.2
theorem d7 {id:TypeId}{t:Ty}(h:mQ P id t=true):lr P id t=true:=by
 simp only[mQ,Bool.and_eq_true]at h;exact h.2.1
theorem ZB {id:TypeId}{t:Ty}(h:mQ P id t=true):ZA P id t=true:=by
 simp only[mQ,Bool.and_eq_true]at h;exact h.2.2
theorem nM {id:TypeId}{t:Ty}{z:t.T}(h:AK P id t=true)(hz:t.zero=some z):
  ∃i v,P.info? id=some i∧i.zero=some v∧v.cells.toList=zc t∧(if t.isAgg then ∃cs,v= .agg cs else v.oneCell'=true):=by
 unfold AK at h
 rw[hz]at h
 simp only at h
 split at h
 ·rename_i i hi
  split at h
  ·rename_i v hv
   simp only[Bool.and_eq_true]at h
   refine⟨i,v,hi,hv,Yu h.1, ?_⟩
   have h2:=h.2
   split
   ·rename_i ht;rw[if_pos ht]at h2;cases v<;>simp_all
   ·rename_i ht;rw[if_neg ht]at h2;cases v<;>simp_all [Value.oneCell']
  ·cases h
 ·cases h
theorem aa0 {id:TypeId}{t:Ty}{z:t.T}(h:AK P id t=true)(hz:t.zero=some z)(w:World):
  ∃v,(zeroValue id).run P w= .ok v w∧v.cells.toList=zc t∧(if t.isAgg then ∃cs,v= .agg cs else v.oneCell'=true):=by
 obtain⟨i,v,hi,hv,hc,ha⟩:=nM h hz
 exact⟨v,by simp[zeroValue,typeInfo,hi,hv],hc,ha⟩
theorem mR:∀(t:Ty) {z:t.T} {ok:Nat→Prop} {w:World},t.zero=some z→CR P ok w t z (zc t)
 | .int k,z,_,_,h=>by simp[Ty.zero]at h;subst h;rfl
 | .bool,z,_,_,h=>by simp[Ty.zero]at h;subst h;rfl
 | .str,z,_,_,h=>by simp[Ty.zero]at h;subst h;rfl
 | .list t,z,_,_,h=>by simp[Ty.zero]at h;subst h;exact⟨_,rfl,.inl ⟨rfl,none,0,rfl⟩⟩
 | .unit,z,_,_,_=>rfl
 | .pair a b,z,_,_,h=>by
   simp only[Ty.zero]at h
   split at h
   ·rename_i x y hx hy
    simp at h;subst h
    exact⟨_,_,rfl,mR a hx,mR b hy⟩
   ·cases h
 | .ptr t,z,_,_,h=>by simp[Ty.zero]at h
 | .fn a r,z,_,_,h=>by simp[Ty.zero]at h
 | .own e t,z,_,_,h=>by simp[Ty.zero]at h;subst h;exact⟨_,rfl,.inl ⟨rfl,none,0,rfl⟩⟩
 | .box t,z,_,_,h=>by simp[Ty.zero]at h
 | .nptr t,z,_,_,h=>by simp[Ty.zero]at h;subst h;exact .inl ⟨rfl,rfl⟩
 | .nil,z,_,_,h=>by simp[Ty.zero]at h
theorem KB {μ:Nm}:∀(t:Ty) {z:t.T} {ok:Nat→Prop} {w:World},t.zero=some z→bE P μ ok w (zAV t) (zc t)
 | .int k,z,_,_,h=>⟨_,_,rfl,show aY _ _ _ by simp[aY,Ty.isAgg,CR,de],rfl⟩
 | .bool,z,_,_,h=>⟨_,_,rfl,show aY _ _ _ by simp[aY,Ty.isAgg,CR,de],rfl⟩
 | .str,z,_,_,h=>⟨_,_,rfl,show aY _ _ _ by simp only[aY,Ty.isAgg,CR,de];rfl,rfl⟩
 | .list t,z,_,_,h=>⟨_,_,rfl,rfl,rfl⟩
 | .unit,z,_,_,_=>rfl
 | .pair a b,z,_,_,h=>by
   simp only[Ty.zero]at h
   split at h
   ·rename_i x y hx hy
    exact bE.app (KB a hx) (KB b hy)
   ·cases h
 | .ptr t,z,_,_,h=>by simp[Ty.zero]at h
 | .fn a r,z,_,_,h=>by simp[Ty.zero]at h
 | .own e t,z,_,_,h=>⟨_,_,rfl,rfl,rfl⟩
 | .box t,z,_,_,h=>by simp[Ty.zero]at h
 | .nptr t,z,_,_,h=>⟨_,_,rfl,rfl,rfl⟩
 | .nil,z,_,_,h=>by simp[Ty.zero]at h
theorem afL {P:Program}:∀(t:Ty) {z:t.T},t.zero=some z→∀u ∈ zc t,u.oneCell'=true:=fun t z h=>CR.one t z (zc t) (mR (P:=P) (ok:=fun _=>False) (w:=default) t h)
theorem wK:∀(t:Ty) {fs:List Field} {off:Nat},eE P t fs off=true→∀(f:Nat) {o:Nat} {ft:Ty},t.field f=some (o,ft)→
  ∃fd,fs[f]? =some fd∧fd.offset=off+o∧kx P fd.type ft.size=true∧ti P fd.type ft.isAgg=true
 | .pair a b,fd::fs,off,h,0,o,ft,hf=>by
   simp only[eE,Bool.and_eq_true,decide_eq_true_eq]at h
   simp[Ty.field]at hf
   obtain⟨rfl,rfl⟩:=hf
   exact⟨fd,rfl,h.1.1.1,h.1.1.2,h.1.2⟩
 | .pair a b,fd::fs,off,h,f+1,o,ft,hf=>by
   simp only[eE,Bool.and_eq_true]at h
   simp only[Ty.field,Option.map_eq_some_iff]at hf
   obtain⟨⟨o',ft'⟩,hf,e⟩:=hf
   simp at e
   obtain⟨rfl,rfl⟩:=e
   obtain⟨fd',h1,h2,h3,h4⟩:=wK b h.2 f hf
   exact⟨fd',by simpa using h1,by rw[h2];omega,h3,h4⟩
 | .pair a b,[],_,h,_,_,_,_=>by simp[eE]at h
 | .unit,_,_,_,_,_,_,hf=>by simp[Ty.field]at hf
 | .int _,_,_,_,_,_,_,hf=>by simp[Ty.field]at hf
 | .bool,_,_,_,_,_,_,hf=>by simp[Ty.field]at hf
 | .str,_,_,_,_,_,_,hf=>by simp[Ty.field]at hf
 | .list _,_,_,_,_,_,_,hf=>by simp[Ty.field]at hf
 | .ptr _,_,_,_,_,_,_,hf=>by simp[Ty.field]at hf
 | .fn _ _,_,_,_,_,_,_,hf=>by simp[Ty.field]at hf
 | .own _ _,_,_,_,_,_,_,hf=>by simp[Ty.field]at hf
 | .box _,_,_,_,_,_,_,hf=>by simp[Ty.field]at hf
 | .nptr _,_,_,_,_,_,_,hf=>by simp[Ty.field]at hf
 | .nil,_,_,_,_,_,_,hf=>by simp[Ty.field]at hf
theorem Oi {id:TypeId}{t:Ty}(h:mQ P id t=true){f o:Nat}{ft:Ty}(hf:t.field f=some (o,ft)):
  ∃fs fd,P.underlying id=some (.struct fs)∧fs[f]? =some fd∧fd.offset=o∧kx P fd.type ft.size=true∧ti P fd.type ft.isAgg=true:=by
 have hd:=d7 h
 obtain⟨a,b,rfl⟩:∃a b,t= .pair a b:=by
  cases t with
  |pair a b=>exact⟨a,b,rfl⟩
  |_=>simp[Ty.field]at hf
 simp only[lr]at hd
 split at hd
 ·rename_i fs hu
  obtain⟨fd,h1,h2,h3,h4⟩:=wK _ hd f hf
  exact⟨fs,fd,hu,by simpa using h1,by rw[h2];omega,h3,h4⟩
 ·cases hd
def oX(agg:Bool)(us:List Value):Value:=if agg then .agg us.toArray else us.headD undef
theorem UM {id:TypeId}{n:Nat}{g:Bool}(hs:kx P id n=true)(ha:ti P id g=true){w:World}{b o:Nat}{us:List Value}(hm:MR w b o us)(hl:us.length=n)(h1:g=false→n=1):
  (loadVar id ⟨b,o,none⟩).run P w= .ok (oX g us) w:=by
 have hld:(loadCells ⟨b,o,none⟩ us.length).run P w= .ok us.toArray w:=
  run_loadCells_list (P:=P) w ⟨b,o,none⟩ us (fun j v hv=>by rw[Addr.add_lit];exact hm j v hv)
 rw[hl]at hld
 cases g with
 |true=>simp[loadVar,Sem.run_bind,tj ha,gQ hs,hld,oX]
 |false=>
  have hn:=h1 rfl
  subst hn
  obtain⟨u,rfl⟩:∃u,us= [u]:=List.length_eq_one_iff.1 hl
  have:=hm 0 u rfl
  simp only[Nat.add_zero]at this
  simp[loadVar,Sem.run_bind,tj ha,oX,this]
theorem rF {id:TypeId}{n:Nat}(hs:kx P id n=true){w:World}{b o:Nat}{cur:Array Value}{e:TypeId}(hg:w.heap[b]? =some (.cells cur e (0,0))){v:Value}(hl:v.cells.size=n)
  (h1:∀u ∈ v.cells.toList,u.oneCell'=true) (hfit:o+n≤cur.size):
  (storeVar id ⟨b,o,none⟩ v).run P w= .ok () (w.setRow b (cur.toList.take o++v.cells.toList++cur.toList.drop (o+n)).toArray):=by
 have:=run_storeCells_at P b o e v.cells.toList 0 cur w hg (by simpa [hl]using hfit) h1
 simp only[Nat.add_zero,Array.length_toList,hl]at this
 simp[storeVar,Sem.run_bind,gQ hs,hl,this]
theorem pf {id:TypeId}{t:Ty}(h:mQ P id t=true){f o:Nat}{ft:Ty}(hf:t.field f=some (o,ft))(hp:ft.size≠0)(b off:Nat)(w:World):
  (Instr.fieldAt id (.pointer (some ⟨b,off,none⟩)) f).run P w= .ok (.pointer (some ⟨b,off+o,none⟩)) w:=by
 obtain⟨fs,fd,hu,hfd,rfl,hs,_⟩:=Oi h hf
 simp[Instr.fieldAt,Sem.run_bind,run_underlying hu,hfd,Instr.sureAddr,fieldPlace,gQ hs,hp,Addr.add_lit]
end
end Go.Proofs.YtnambbcafhnhpaaGreatDoor
