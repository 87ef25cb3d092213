import Derived.Test.YtnambbcafhnhpaaGreatDoorTbW
namespace Go.Proofs.YtnambbcafhnhpaaGreatDoor
open Go.RowKit Go.Shelf
set_option linter.unusedVariables false
set_option linter.unusedSimpArgs false
attribute [local go_sem] Oper.semAt_some
def cA(l:List Int)(k:Nat):List Int:=(l.drop (8*k)).take 8
theorem rG(l:List Int)(k:Nat):(cA l k).length=min 8 (l.length-8*k):=by simp[cA]
def me(g:List Int×Unit→Option (Int×Unit))(l:List Int):Option (List Int):=
 if l.length≤1099511627776 then(List.finRange (dQ l.length)).mapM (fun k=>match g (cA l k.1,())with
  |some y=>some y.1
  |none=>none)else none
theorem MI {T U:Type}{f:T→Option U}:∀ {l:List T} {r:List U},l.mapM f=some r→r.length=l.length∧∀i (h:i<l.length) (h':i<r.length),f l[i]=some r[i]
 | [],r,h=>by simp at h;subst h;simp
 |x::l,r,h=>by
  rw[List.mapM_cons]at h
  cases hx:f x with
  |none=>rw[hx]at h;cases h
  |some y=>
   cases hr:l.mapM f with
   |none=>rw[hx,hr]at h;cases h
   |some r'=>
    rw[hx,hr]at h
    obtain rfl:y::r'=r:=Option.some.inj h
    obtain⟨h1,h2⟩:=MI hr
    refine⟨by simp[h1],fun i hi hi'=> ?_⟩
    cases i with
    |zero=>exact hx
    |succ i=>exact h2 i (by simpa using hi) (by simpa using hi')
theorem FnOK.gives_int {G:Gl}{P:Program}{f:FuncId}{k:IntKind}{a:Ty}{g:a.T→Option (Ty.pair (.int k) .unit).T}(h:FnOK G P f ⟨a,.pair (.int k) .unit,.unit,rfl,g⟩)(ho:a.owned=false){w:World}{ok:Nat→Prop}{args:List Value}{x:a.T}{y:Int×Unit}(hg:GW G ok w)(ha:AR P ok w a x args)(hy:g x=some y):
  Calls P f args.toArray w fun e w'=>e= .returned (.int k y.1)∧Below w.heap.size w w':=by
 refine(h.2 w ok args x y [] hg (Iq a ho ha) List.nodup_nil (fun b hb=>by cases hb) hy).mono ?_
 rintro e w' ⟨v,rs,b1,b2,rfl,hk,rfl,_,_,hr,_⟩
 refine⟨?_,aG.below (hk.mono fun _ _ h=>by cases h)⟩
 obtain⟨v,vs,_,_,rfl,_,h1,h2⟩:=hr
 have h2:vs= []:=h2.1
 subst h2
 have h1:bm P _ w' (.int k) y.1 [v] _:=h1
 have h3: [v]= [Value.int k y.1]:=h1.1
 simp at h3
 subst h3
 rfl
theorem xr.base {n₀ Bs Bn:Nat}{w:World}(hn:n₀≤w.heap.size)(hs:Bs<w.heap.size)(hb:Bn<w.heap.size)(W:World)(l:Nat)(o o':Obj)(hl:w.heap.size≤l)(h:W.heap[l]? =some o)(h1:o.isCells=false)(h2:o.isWalk=false):xr n₀ Bs Bn W (W.putObj l o'):=
 ⟨belowK_b hn W l o o' hl h h1 h2,World.putObj_heap_other (by omega),World.putObj_heap_other (by omega)⟩
theorem Xo(F:Fence)(n:Nat)(h7:F.fn 248)(hro:F.round=none)(hn:1≤n)(Bs Bn n₀ b off len cap:Nat)(hreach:len≤1099511627776)(hcap:len≤cap)(w:World)(hBs:Bs<w.heap.size)(hBn:Bn<w.heap.size)
  (hc:w.cell? ⟨Bs,0,none⟩=some (.slice (some ⟨b,off,none⟩) len cap)) (hc2:w.cell? ⟨Bn,0,none⟩=some (.int .i64 8)):
  SeqStopsK F n Tryz.prog 248 #[.pointer (some ⟨Bs,0,none⟩),.pointer (some ⟨Bn,0,none⟩)] (fun k:Fin (dQ len)=> #[tu b off len k]) (xr n₀ Bs Bn) (fun ys=>ys=List.finRange (dQ len)) (fun _=>True) (dQ len) w:=fun l J Jx W hW hJ _ hY h0=>by
 have hc':=(hW.cell (p:=⟨Bs,0,none⟩) hBs).trans hc
 have hc2':=(hW.cell (p:=⟨Bn,0,none⟩) hBn).trans hc2
 exact abt F n h7 hro hn l Bs Bn n₀ b off len cap hreach hcap J Jx (fun s A B hs hg=>hJ s A B none hs hg (fun r e=>by cases e)) hY W hc' hc2' h0
end Go.Proofs.YtnambbcafhnhpaaGreatDoor
