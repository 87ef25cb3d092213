import Derived.Test.YtnambbcafhnhpaaGreatDoorSho
import Derived.Test.YtnambbcafhnhpaaGreatDoorGB
namespace Go.Proofs.YtnambbcafhnhpaaGreatDoor
open Go.RowKit
set_option linter.unusedVariables false
set_option linter.unusedSimpArgs false
section
variable {Γ:cD} {E:bR} {R:Type} {σ:FuncId→Option ai} {Λ:Nat→Option aM}
def ahh(n:Nat)(l:List (Nat×AV)):List AV:=l.foldl (fun t p=>t.set p.1 p.2) (List.replicate n .junk)
def ahi:Code→Array Oper
 | .seq (.region _ ops _) _=>ops
 | .region _ ops _=>ops
 |_=> #[]
def aK(k n:Nat):Array Bool:=(tf k n).toArray
theorem ji {α:Type}{o:Option α}{v:α}{K:α→Option R}{r:R}(h:o=some v)(hk:K v=some r):ac o K=some r:=by
 subst h
 exact hk
theorem aP {x y:Option R}{r:R}(h1:x=some r)(h2:y=some r):aD x y=some r:=by
 subst h1
 subst h2
 exact if_pos rfl
theorem aQ {all:Array Oper}{k:Nat}{fresh:Bool}{listed:Array Bool}{af:AF}{K:AF→Option R}{y:Option R}{r:R}(h:Us Γ E σ all fresh listed af K (fun fr l af'=>nK Γ E σ all k fr l af' K)=y)(hy:y=some r):nK Γ E σ all (k+1) fresh listed af K=some r:=h.trans hy
theorem abH {all:Array Oper}{fresh:Bool}{listed:Array Bool}{af:AF}{K:AF→Option R}(h:Region.ready .any all listed= []):nK Γ E σ all 0 fresh listed af K=K af:=by
 unfold nK
 rw[h]
noncomputable def aan(Γ:cD)(E:bR)(σ:FuncId→Option ai)(Λ:Nat→Option aM)(n:Nat)(b:Code)(K:Ex→AF→Option R)(af':AF):Option R:=match Λ (rf b)with
 |none=>d6 Γ E σ Λ n b af' K
 |some ls=>match Gk σ n af' ls.ss ls.t with
  |none=>none
  |some x=>match ls.L x with
   |none=>none
   |some (.inl y)=>K (.exit ls.brk) (eS n ls.bs ls.bt y)
   |some (.inr z)=>K .ret (eS n ls.rs ls.rt z)
theorem aao {n id:Nat}{ops:Array Oper}{b:Code}{af:AF}{K:Ex→AF→Option R}(h1:(Region.noSelect ops&& !(ops.all (UK σ)))=true)(h2:af.lock=false)(h4:Γ.noQ=true):
  d6 Γ E σ Λ n (.seq (.region id ops true) b) af K=nK Γ E σ ops ops.size true (Array.replicate ops.size false) (iC ops.toList ops.toList af) (aan Γ E σ Λ n b K):=by
 simp only[Bool.and_eq_true,Bool.not_eq_true']at h1
 obtain⟨h1,h5⟩:=h1
 have hr:(fun af'=>match Λ (rf b)with
  |none=>d6 Γ E σ Λ n b af' K
  |some ls=>match Gk σ n af' ls.ss ls.t with
   |none=>none
   |some x=>match ls.L x with
    |none=>none
    |some (.inl y)=>K (.exit ls.brk) (eS n ls.bs ls.bt y)
    |some (.inr z)=>K .ret (eS n ls.rs ls.rt z))=aan Γ E σ Λ n b K:=rfl
 rw[←hr]
 simp only[d6,h1,h2,h4,h5,Bool.not_true,Bool.and_false]
 rfl
end
end Go.Proofs.YtnambbcafhnhpaaGreatDoor
namespace Go.Proofs.YtnambbcafhnhpaaGreatDoor
open Go.RowKit
set_option linter.unusedVariables false
noncomputable def nX(x:Ty.T aev):Option (Ty.T Z7):=
match(x.1.1==(3:Int))with
|true=>
 match(x.2.1.1==(3:Int))with
 |true=>
  match wA ((x.1.2.1.1,x.1.2.1.2.1,(x.1.2.1.2.2.1.1,x.1.2.1.2.2.1.2.1,x.1.2.1.2.2.1.2.2.1,x.1.2.1.2.2.1.2.2.2.1,x.1.2.1.2.2.1.2.2.2.2.1,()),x.1.2.1.2.2.2.1,()),(x.2.1.2.1.1,x.2.1.2.1.2.1,(x.2.1.2.1.2.2.1.1,x.2.1.2.1.2.2.1.2.1,x.2.1.2.1.2.2.1.2.2.1,x.2.1.2.1.2.2.1.2.2.2.1,x.2.1.2.1.2.2.1.2.2.2.2.1,()),x.2.1.2.1.2.2.2.1,()),())with
  |none=>none
  |some v1=>
  match v1.1 with
  |true=>
   some ((x.1.1,(x.1.2.1.1,x.1.2.1.2.1,(x.1.2.1.2.2.1.1,x.1.2.1.2.2.1.2.1,x.1.2.1.2.2.1.2.2.1,x.1.2.1.2.2.1.2.2.2.1,x.1.2.1.2.2.1.2.2.2.2.1,()),x.1.2.1.2.2.2.1,()),()),())
  |false=>
   match(x.1.1==(3:Int))with
   |true=>
    match(x.2.1.1==(3:Int))with
    |true=>
     some (((4:Int),((0:Int),(0:Int),((0:Int),(0:Int),(0:Int),(0:Int),(0:Int),()),[],()),()),())
    |false=>
     match(x.1.1==(4:Int))with
     |true=>
      some (((4:Int),((0:Int),(0:Int),((0:Int),(0:Int),(0:Int),(0:Int),(0:Int),()),[],()),()),())
     |false=>
      match(x.2.1.1==(4:Int))with
      |true=>
       some (((4:Int),((0:Int),(0:Int),((0:Int),(0:Int),(0:Int),(0:Int),(0:Int),()),[],()),()),())
      |false=>
       match(x.1.1==(3:Int))with
       |true=>
        some ((x.1.1,(x.1.2.1.1,x.1.2.1.2.1,(x.1.2.1.2.2.1.1,x.1.2.1.2.2.1.2.1,x.1.2.1.2.2.1.2.2.1,x.1.2.1.2.2.1.2.2.2.1,x.1.2.1.2.2.1.2.2.2.2.1,()),x.1.2.1.2.2.2.1,()),()),())
       |false=>
        match(x.2.1.1==(3:Int))with
        |true=>
         some ((x.2.1.1,(x.2.1.2.1.1,x.2.1.2.1.2.1,(x.2.1.2.1.2.2.1.1,x.2.1.2.1.2.2.1.2.1,x.2.1.2.1.2.2.1.2.2.1,x.2.1.2.1.2.2.1.2.2.2.1,x.2.1.2.1.2.2.1.2.2.2.2.1,()),x.2.1.2.1.2.2.2.1,()),()),())
        |false=>
         some (((if x.2.1.1>x.1.1 then x.2.1.1 else x.1.1),((0:Int),(0:Int),((0:Int),(0:Int),(0:Int),(0:Int),(0:Int),()),[],()),()),())
   |false=>
    match(x.1.1==(4:Int))with
    |true=>
     some (((4:Int),((0:Int),(0:Int),((0:Int),(0:Int),(0:Int),(0:Int),(0:Int),()),[],()),()),())
    |false=>
     match(x.2.1.1==(4:Int))with
     |true=>
      some (((4:Int),((0:Int),(0:Int),((0:Int),(0:Int),(0:Int),(0:Int),(0:Int),()),[],()),()),())
     |false=>
      match(x.1.1==(3:Int))with
      |true=>
       some ((x.1.1,(x.1.2.1.1,x.1.2.1.2.1,(x.1.2.1.2.2.1.1,x.1.2.1.2.2.1.2.1,x.1.2.1.2.2.1.2.2.1,x.1.2.1.2.2.1.2.2.2.1,x.1.2.1.2.2.1.2.2.2.2.1,()),x.1.2.1.2.2.2.1,()),()),())
      |false=>
       match(x.2.1.1==(3:Int))with
       |true=>
        some ((x.2.1.1,(x.2.1.2.1.1,x.2.1.2.1.2.1,(x.2.1.2.1.2.2.1.1,x.2.1.2.1.2.2.1.2.1,x.2.1.2.1.2.2.1.2.2.1,x.2.1.2.1.2.2.1.2.2.2.1,x.2.1.2.1.2.2.1.2.2.2.2.1,()),x.2.1.2.1.2.2.2.1,()),()),())
       |false=>
        some (((if x.2.1.1>x.1.1 then x.2.1.1 else x.1.1),((0:Int),(0:Int),((0:Int),(0:Int),(0:Int),(0:Int),(0:Int),()),[],()),()),())
 |false=>
  match(x.1.1==(3:Int))with
  |true=>
   match(x.2.1.1==(3:Int))with
   |true=>
    some (((4:Int),((0:Int),(0:Int),((0:Int),(0:Int),(0:Int),(0:Int),(0:Int),()),[],()),()),())
   |false=>
    match(x.1.1==(4:Int))with
    |true=>
     some (((4:Int),((0:Int),(0:Int),((0:Int),(0:Int),(0:Int),(0:Int),(0:Int),()),[],()),()),())
    |false=>
     match(x.2.1.1==(4:Int))with
     |true=>
      some (((4:Int),((0:Int),(0:Int),((0:Int),(0:Int),(0:Int),(0:Int),(0:Int),()),[],()),()),())
     |false=>
      match(x.1.1==(3:Int))with
      |true=>
       some ((x.1.1,(x.1.2.1.1,x.1.2.1.2.1,(x.1.2.1.2.2.1.1,x.1.2.1.2.2.1.2.1,x.1.2.1.2.2.1.2.2.1,x.1.2.1.2.2.1.2.2.2.1,x.1.2.1.2.2.1.2.2.2.2.1,()),x.1.2.1.2.2.2.1,()),()),())
      |false=>
       match(x.2.1.1==(3:Int))with
       |true=>
        some ((x.2.1.1,(x.2.1.2.1.1,x.2.1.2.1.2.1,(x.2.1.2.1.2.2.1.1,x.2.1.2.1.2.2.1.2.1,x.2.1.2.1.2.2.1.2.2.1,x.2.1.2.1.2.2.1.2.2.2.1,x.2.1.2.1.2.2.1.2.2.2.2.1,()),x.2.1.2.1.2.2.2.1,()),()),())
       |false=>
        some (((if x.2.1.1>x.1.1 then x.2.1.1 else x.1.1),((0:Int),(0:Int),((0:Int),(0:Int),(0:Int),(0:Int),(0:Int),()),[],()),()),())
  |false=>
   match(x.1.1==(4:Int))with
   |true=>
    some (((4:Int),((0:Int),(0:Int),((0:Int),(0:Int),(0:Int),(0:Int),(0:Int),()),[],()),()),())
   |false=>
    match(x.2.1.1==(4:Int))with
    |true=>
     some (((4:Int),((0:Int),(0:Int),((0:Int),(0:Int),(0:Int),(0:Int),(0:Int),()),[],()),()),())
    |false=>
     match(x.1.1==(3:Int))with
     |true=>
      some ((x.1.1,(x.1.2.1.1,x.1.2.1.2.1,(x.1.2.1.2.2.1.1,x.1.2.1.2.2.1.2.1,x.1.2.1.2.2.1.2.2.1,x.1.2.1.2.2.1.2.2.2.1,x.1.2.1.2.2.1.2.2.2.2.1,()),x.1.2.1.2.2.2.1,()),()),())
     |false=>
      match(x.2.1.1==(3:Int))with
      |true=>
       some ((x.2.1.1,(x.2.1.2.1.1,x.2.1.2.1.2.1,(x.2.1.2.1.2.2.1.1,x.2.1.2.1.2.2.1.2.1,x.2.1.2.1.2.2.1.2.2.1,x.2.1.2.1.2.2.1.2.2.2.1,x.2.1.2.1.2.2.1.2.2.2.2.1,()),x.2.1.2.1.2.2.2.1,()),()),())
      |false=>
       some (((if x.2.1.1>x.1.1 then x.2.1.1 else x.1.1),((0:Int),(0:Int),((0:Int),(0:Int),(0:Int),(0:Int),(0:Int),()),[],()),()),())
|false=>
 match(x.1.1==(3:Int))with
 |true=>
  match(x.2.1.1==(3:Int))with
  |true=>
   some (((4:Int),((0:Int),(0:Int),((0:Int),(0:Int),(0:Int),(0:Int),(0:Int),()),[],()),()),())
  |false=>
   match(x.1.1==(4:Int))with
   |true=>
    some (((4:Int),((0:Int),(0:Int),((0:Int),(0:Int),(0:Int),(0:Int),(0:Int),()),[],()),()),())
   |false=>
    match(x.2.1.1==(4:Int))with
    |true=>
     some (((4:Int),((0:Int),(0:Int),((0:Int),(0:Int),(0:Int),(0:Int),(0:Int),()),[],()),()),())
    |false=>
     match(x.1.1==(3:Int))with
     |true=>
      some ((x.1.1,(x.1.2.1.1,x.1.2.1.2.1,(x.1.2.1.2.2.1.1,x.1.2.1.2.2.1.2.1,x.1.2.1.2.2.1.2.2.1,x.1.2.1.2.2.1.2.2.2.1,x.1.2.1.2.2.1.2.2.2.2.1,()),x.1.2.1.2.2.2.1,()),()),())
     |false=>
      match(x.2.1.1==(3:Int))with
      |true=>
       some ((x.2.1.1,(x.2.1.2.1.1,x.2.1.2.1.2.1,(x.2.1.2.1.2.2.1.1,x.2.1.2.1.2.2.1.2.1,x.2.1.2.1.2.2.1.2.2.1,x.2.1.2.1.2.2.1.2.2.2.1,x.2.1.2.1.2.2.1.2.2.2.2.1,()),x.2.1.2.1.2.2.2.1,()),()),())
      |false=>
       some (((if x.2.1.1>x.1.1 then x.2.1.1 else x.1.1),((0:Int),(0:Int),((0:Int),(0:Int),(0:Int),(0:Int),(0:Int),()),[],()),()),())
 |false=>
  match(x.1.1==(4:Int))with
  |true=>
   some (((4:Int),((0:Int),(0:Int),((0:Int),(0:Int),(0:Int),(0:Int),(0:Int),()),[],()),()),())
  |false=>
   match(x.2.1.1==(4:Int))with
   |true=>
    some (((4:Int),((0:Int),(0:Int),((0:Int),(0:Int),(0:Int),(0:Int),(0:Int),()),[],()),()),())
   |false=>
    match(x.1.1==(3:Int))with
    |true=>
     some ((x.1.1,(x.1.2.1.1,x.1.2.1.2.1,(x.1.2.1.2.2.1.1,x.1.2.1.2.2.1.2.1,x.1.2.1.2.2.1.2.2.1,x.1.2.1.2.2.1.2.2.2.1,x.1.2.1.2.2.1.2.2.2.2.1,()),x.1.2.1.2.2.2.1,()),()),())
    |false=>
     match(x.2.1.1==(3:Int))with
     |true=>
      some ((x.2.1.1,(x.2.1.2.1.1,x.2.1.2.1.2.1,(x.2.1.2.1.2.2.1.1,x.2.1.2.1.2.2.1.2.1,x.2.1.2.1.2.2.1.2.2.1,x.2.1.2.1.2.2.1.2.2.2.1,x.2.1.2.1.2.2.1.2.2.2.2.1,()),x.2.1.2.1.2.2.2.1,()),()),())
     |false=>
      some (((if x.2.1.1>x.1.1 then x.2.1.1 else x.1.1),((0:Int),(0:Int),((0:Int),(0:Int),(0:Int),(0:Int),(0:Int),()),[],()),()),())
noncomputable def Wq:ai:=⟨_,Z7,.unit,rfl,nX⟩
theorem Uj:FnOK G0 Tryz.prog 59 Wq:=au av (sg Wp (ba)) Tryz.func59
noncomputable def pR(x:Ty.T aej):Option (Ty.T xt):=
match((IntKind.i64.wrap (x.1.2.2.2.1+(1:Int)))==x.2.2.1)with
|true=>
 if x.2.2.2.1=0 then none else
 some (((Int.tmod (IntKind.i64.wrap (x.1.1+x.2.1)) (65536:Int)),x.1.2.1,(Int.tmod (IntKind.i64.wrap (x.1.2.2.1+(1:Int))) x.2.2.2.1),(0:Int),x.1.2.2.2.2.1,()),())
|false=>
 some (((Int.tmod (IntKind.i64.wrap (x.1.1+x.2.1)) (65536:Int)),x.1.2.1,x.1.2.2.1,(IntKind.i64.wrap (x.1.2.2.2.1+(1:Int))),x.1.2.2.2.2.1,()),())
noncomputable def R8:ai:=⟨_,xt,.unit,rfl,pR⟩
theorem Qe:FnOK G0 Tryz.prog 108 R8:=au av ba Tryz.func108
noncomputable def nI(x:Ty.T wM):Option (Ty.T xt):=
ac (aI x.1.2.2.1 x.2.1.2.1) fun v1=>
ac (aI x.1.2.2.1 x.2.1.2.1) fun v2=>
match dJ ((x.1.1,x.1.2.1,x.1.2.2.1,x.1.2.2.2.1,()),(x.2.1.1,x.2.1.2.1,x.2.1.2.2.1,x.2.1.2.2.2.1,x.2.1.2.2.2.2.1,()),())with
|none=>none
|some v3=>
match pR ((x.2.1.1,x.2.1.2.1,x.2.1.2.2.1,x.2.1.2.2.2.1,x.2.1.2.2.2.2.1,()),v3.1.2.2.2.1,v1.2.1,v2.1,())with
|none=>none
|some v4=>
some ((v4.1.1,v4.1.2.1,v4.1.2.2.1,v4.1.2.2.2.1,v4.1.2.2.2.2.1,()),())
noncomputable def X9:ai:=⟨_,xt,.unit,rfl,nI⟩
theorem Ws:FnOK G0 Tryz.prog 62 X9:=au av (sg li (sg Qe (ba))) Tryz.func62
noncomputable def Bv(x:Ty.T II):Option (Ty.T Z8):=
match ui x with
|none=>none
|some v1=>
aD (
 match kC (v1.1,x.2.2.1.2.2.1,())with
 |none=>none
 |some v2=>
 be (
  match ip (x.1,x.2.1,v2.1,())with
  |none=>none
  |some v3=>
  aD (
   match kC (v1.1,x.2.2.1.2.2.2.1,())with
   |none=>none
   |some v4=>
   be (
    match ip (x.1,x.2.1,v4.1,())with
    |none=>none
    |some v5=>
    match nX (v3.1,v5.1,())with
    |none=>none
    |some v6=>
    be (
     match dJ (x.1,x.2.1,())with
     |none=>none
     |some v7=>
     match kY (x.2.1.2.2.2.2.1,v7.1.1,(v6.1.1==(3:Int)),())with
     |none=>none
     |some v8=>
     be (
      match nI (x.1,(x.2.1.1,x.2.1.2.1,x.2.1.2.2.1,x.2.1.2.2.2.1,v8.1,()),())with
      |none=>none
      |some v9=>
      some (v6.1,v9.1,()))))) (
   match kC (v1.1,x.2.2.1.2.2.2.1,())with
   |none=>none
   |some v4=>
   match ip (x.1,x.2.1,v4.1,())with
   |none=>none
   |some v5=>
   match nX (v3.1,v5.1,())with
   |none=>none
   |some v6=>
   be (
    match dJ (x.1,x.2.1,())with
    |none=>none
    |some v7=>
    match kY (x.2.1.2.2.2.2.1,v7.1.1,(v6.1.1==(3:Int)),())with
    |none=>none
    |some v8=>
    be (
     match nI (x.1,(x.2.1.1,x.2.1.2.1,x.2.1.2.2.1,x.2.1.2.2.2.1,v8.1,()),())with
     |none=>none
     |some v9=>
     some (v6.1,v9.1,())))))) (
 match kC (v1.1,x.2.2.1.2.2.1,())with
 |none=>none
 |some v2=>
 match ip (x.1,x.2.1,v2.1,())with
 |none=>none
 |some v3=>
 aD (
  match kC (v1.1,x.2.2.1.2.2.2.1,())with
  |none=>none
  |some v4=>
  be (
   match ip (x.1,x.2.1,v4.1,())with
   |none=>none
   |some v5=>
   match nX (v3.1,v5.1,())with
   |none=>none
   |some v6=>
   be (
    match dJ (x.1,x.2.1,())with
    |none=>none
    |some v7=>
    match kY (x.2.1.2.2.2.2.1,v7.1.1,(v6.1.1==(3:Int)),())with
    |none=>none
    |some v8=>
    be (
     match nI (x.1,(x.2.1.1,x.2.1.2.1,x.2.1.2.2.1,x.2.1.2.2.2.1,v8.1,()),())with
     |none=>none
     |some v9=>
     some (v6.1,v9.1,()))))) (
  match kC (v1.1,x.2.2.1.2.2.2.1,())with
  |none=>none
  |some v4=>
  match ip (x.1,x.2.1,v4.1,())with
  |none=>none
  |some v5=>
  match nX (v3.1,v5.1,())with
  |none=>none
  |some v6=>
  be (
   match dJ (x.1,x.2.1,())with
   |none=>none
   |some v7=>
   match kY (x.2.1.2.2.2.2.1,v7.1.1,(v6.1.1==(3:Int)),())with
   |none=>none
   |some v8=>
   be (
    match nI (x.1,(x.2.1.1,x.2.1.2.1,x.2.1.2.2.1,x.2.1.2.2.2.1,v8.1,()),())with
    |none=>none
    |some v9=>
    some (v6.1,v9.1,())))))
noncomputable def Ya:ai:=⟨_,Z8,.unit,rfl,Bv⟩
theorem Wt:FnOK G0 Tryz.prog 25 Ya:=au av (sg P1 (sg Qb (sg Ui (sg Uj (sg BO (sg li (sg Ws (ba)))))))) Tryz.func25
noncomputable def un(x:Ty.T II):Option (Ty.T Vu):=
match Bi (x.1,x.2.1,[x.2.2.1],())with
|none=>none
|some v1=>
match(v1.1 != (0:Int))with
|true=>
 some (((0:Int),((0:Int),(0:Int),((0:Int),(0:Int),(0:Int),(0:Int),(0:Int),()),[],()),()),((0:Int),(0:Int),(0:Int),(0:Int),(0:Int),()),v1.1,())
|false=>
 match Bv x with
 |none=>none
 |some v2=>
 some (v2.1,v2.2.1,(0:Int),())
noncomputable def J6:ai:=⟨_,Vu,.unit,rfl,un⟩
theorem Uk:FnOK G0 Tryz.prog 7 J6:=au av (sg V7 (sg Wt (ba))) Tryz.func7
abbrev vh:Ty:=aer
noncomputable def jd(x:(Ty.T vh)):Option ((Ty.T vh) ⊕ ((Ty.T .unit) ⊕ (Ty.T aE))):=
match(decide (x.2.2.1<(x.1.length:Int)))with
|true=>
 ac (aI x.1 x.2.2.1) fun v1=>
 ac (aI x.2.1 x.2.2.1) fun v2=>
 match(v1 != v2)with
 |true=>
  some (.inr (.inr (false,())))
 |false=>
  some (.inl (x.1,x.2.1,(IntKind.i64.wrap (x.2.2.1+(1:Int))),()))
|false=>
 some (.inr (.inl (())))
noncomputable def yA(x:Ty.T Vq):Option (Ty.T aE):=
match((x.1.length:Int) != (x.2.1.length:Int))with
|true=>
 some (false,())
|false=>
 match ak jd (x.1,x.2.1,(0:Int),())with
 |none=>none
 |some (.inl v3)=>
  some (true,())
 |some (.inr v4)=>
  some (v4.1,())
noncomputable def Wu:ai:=⟨_,aE,.unit,rfl,yA⟩
noncomputable def Hx:FuncId→Option ai:=ca []
theorem Qf:∀f s,Hx f=some s→FnOK G0 Tryz.prog f s:=aX trivial
def Eo:bg:=⟨[0,1,5],vh,0,[],.unit,[4],aE⟩
noncomputable def Hy:List aM:=[Eo.spec jd]
theorem NQ:bJ bL E0 Hx (bF Tryz.f41 Hy) Tryz.f41 0 Eo jd:=fun x=>by kernel_rfl
theorem Ul:FnOK G0 Tryz.prog 41 Wu:=bb av Qf Tryz.func41 Hy (by kernel_rfl) (by exact⟨(NQ).lok,trivial⟩) fun x=>by kernel_rfl
noncomputable def nk(x:Ty.T ac9):Option (Ty.T aE):=
match(x.1.1==x.2.1.1)with
|true=>
 match(x.1.2.1==x.2.1.2.1)with
 |true=>
  match(et ao x.1.2.2.1 x.2.1.2.2.1)with
  |true=>
   match yA (x.1.2.2.2.1,x.2.1.2.2.2.1,())with
   |none=>none
   |some v1=>
   some (v1.1,())
  |false=>
   some (false,())
 |false=>
  some (false,())
|false=>
 some (false,())
noncomputable def Ep:ai:=⟨_,aE,.unit,rfl,nk⟩
theorem Bw:FnOK G0 Tryz.prog 18 Ep:=au av (sg Ul (ba)) Tryz.func18
noncomputable def nl(x:Ty.T aei):Option (Ty.T aE):=
match(x.1.1==x.2.1.1)with
|true=>
 match nk (x.1.2.1,x.2.1.2.1,())with
 |none=>none
 |some v1=>
 some (v1.1,())
|false=>
 some (false,())
noncomputable def Ae:ai:=⟨_,aE,.unit,rfl,nl⟩
theorem Lw:FnOK G0 Tryz.prog 8 Ae:=au av (sg Bw (ba)) Tryz.func8
noncomputable def lY(x:Ty.T wM):Option (Ty.T aem):=
match ej ((x.1.1,x.1.2.1,x.1.2.2.1,x.1.2.2.2.1,()),(x.2.1.1,x.2.1.2.1,x.2.1.2.2.1,x.2.1.2.2.2.1,x.2.1.2.2.2.2.1,()),())with
|none=>none
|some v1=>
match(v1.1 != (0:Int))with
|true=>
 some (((0:Int),(0:Int),(0:Int),(0:Int),false,()),v1.1,())
|false=>
 match aN ((x.1.1,x.1.2.1,x.1.2.2.1,x.1.2.2.2.1,()),(x.2.1.1,x.2.1.2.1,x.2.1.2.2.1,x.2.1.2.2.2.1,x.2.1.2.2.2.2.1,()),())with
 |none=>none
 |some v2=>
 some ((v2.1.1,v2.1.2.1,v2.1.2.2.1,v2.1.2.2.2.1,v2.1.2.2.2.2.1,()),(0:Int),())
noncomputable def ya:ai:=⟨_,aem,.unit,rfl,lY⟩
theorem J7:FnOK G0 Tryz.prog 11 ya:=au av (sg lN (sg dZ (ba))) Tryz.func11
noncomputable def oK(x:Ty.T wM):Option (Ty.T aE):=
match la ((x.1.1,x.1.2.1,x.1.2.2.1,x.1.2.2.2.1,()),())with
|none=>none
|some v1=>
match v1.1 with
|true=>
 match lX ((x.1.1,x.1.2.1,x.1.2.2.1,x.1.2.2.2.1,()),(x.2.1.1,x.2.1.2.1,x.2.1.2.2.1,x.2.1.2.2.2.1,x.2.1.2.2.2.2.1,()),())with
 |none=>none
 |some v2=>
 some (v2.1,())
|false=>
 some (false,())
noncomputable def Hz:ai:=⟨_,aE,.unit,rfl,oK⟩
theorem R9:FnOK G0 Tryz.prog 12 Hz:=au av (sg LY (sg Jk (ba))) Tryz.func12
noncomputable def kL(x:Ty.T bM):Option (Ty.T aE):=
match nU (x.1,())with
|none=>none
|some v1=>
match v1.1 with
|true=>
 match nT (x.2.1,())with
 |none=>none
 |some v2=>
 match v2.1 with
 |true=>
  match O3 (x.1,x.2.1,())with
  |none=>none
  |some v3=>
  some (v3.1,())
 |false=>
  some (false,())
|false=>
 some (false,())
noncomputable def HA:ai:=⟨_,aE,.unit,rfl,kL⟩
theorem Sa:FnOK G0 Tryz.prog 13 HA:=au av (sg wY (sg vy (sg VH (ba)))) Tryz.func13
abbrev FU:Ty:=(.pair (.list (.int .u8)) (.pair (.box Fy) (.pair (.int .i64) .unit)))
noncomputable def nY(x:(Ty.T FU)):Option ((Ty.T FU) ⊕ ((Ty.T Ra) ⊕ (Ty.T .unit))):=
match(decide (x.2.2.1<(x.1.length:Int)))with
|true=>
 ac (aI x.1 x.2.2.1) fun v1=>
 some (.inl (x.1,(x.2.1.1,x.2.1.2.1,(IntKind.u64.wrap ((IntKind.u64.wrap ((IntKind.u64.wrap (x.2.1.2.2.1*(1099511628211:Int)))+(IntKind.u64.wrap v1)))+(3:Int))),()),(IntKind.i64.wrap (x.2.2.1+(1:Int))),()))
|false=>
 some (.inr (.inl (x.2.1,())))
noncomputable def fM(x:Ty.T (.pair (.list (.int .u8)) (.pair (.int .u64) .unit))):Option (Ty.T Ra):=
match ak nY (x.1,(x.1,(0:Int),(IntKind.u64.wrap ((IntKind.u64.wrap (x.2.1*(7919:Int)))+(IntKind.u64.wrap (x.1.length:Int)))),()),(0:Int),())with
|none=>none
|some (.inl v2)=>
 some (v2.1,())
|some (.inr v4)=>
 none
noncomputable def Wv:ai:=⟨_,Ra,.unit,rfl,fM⟩
noncomputable def S5:FuncId→Option ai:=ca []
theorem Yb:∀f s,S5 f=some s→FnOK G0 Tryz.prog f s:=aX trivial
def Qg:bg:=⟨[0,5,6],FU,0,[5],Ra,[],.unit⟩
noncomputable def S6:List aM:=[Qg.spec nY]
theorem Ww:bJ bL E0 S5 (bF Tryz.f16 S6) Tryz.f16 0 Qg nY:=fun x=>by kernel_rfl
theorem abI:FnOK G0 Tryz.prog 16 Wv:=bb av Yb Tryz.func16 S6 (by kernel_rfl) (by exact⟨(Ww).lok,trivial⟩) fun x=>by kernel_rfl
noncomputable def cd(x:Ty.T (.pair (.box Fy) (.pair (.int .i64) .unit))):Option (Ty.T aen):=
match(decide (x.1.2.1<(x.1.1.length:Int)))with
|true=>
 ac (aI x.1.1 x.1.2.1) fun v1=>
 if x.2.1=0 then none else
 some ((Int.tmod (IntKind.i64.wrap ((IntKind.i64.wrap (bits BinOp.and .u64 (Int.fdiv (IntKind.u64.wrap ((IntKind.u64.wrap (x.1.2.2.1*(6364136223846793005:Int)))+(1442695040888963407:Int))) (2^min (33:Int).toNat IntKind.u64.bits)) (16777215:Int)))+(IntKind.i64.wrap v1))) x.2.1),(x.1.1,(IntKind.i64.wrap (x.1.2.1+(1:Int))),(IntKind.u64.wrap ((IntKind.u64.wrap (x.1.2.2.1*(6364136223846793005:Int)))+(1442695040888963407:Int))),()),())
|false=>
 if x.2.1=0 then none else
 some ((Int.tmod (IntKind.i64.wrap (bits BinOp.and .u64 (Int.fdiv (IntKind.u64.wrap ((IntKind.u64.wrap (x.1.2.2.1*(6364136223846793005:Int)))+(1442695040888963407:Int))) (2^min (33:Int).toNat IntKind.u64.bits)) (16777215:Int))) x.2.1),(x.1.1,x.1.2.1,(IntKind.u64.wrap ((IntKind.u64.wrap (x.1.2.2.1*(6364136223846793005:Int)))+(1442695040888963407:Int))),()),())
noncomputable def Er:ai:=⟨_,aV,Ra,rfl,cd⟩
theorem Qh:FnOK G0 Tryz.prog 17 Er:=au av ba Tryz.func17
noncomputable def kR(x:Ty.T adp):Option (Unit ⊕ (Ty.T aE)):=
match(x.2.2.2.1==(0:Int))with
|true=>
 match(decide ((x.2.2.1.length:Int)>(0:Int)))with
 |true=>
  match(x.2.2.2.2.2.2.1==(0:Int))with
  |true=>
   match(x.2.2.2.2.1.1==(3:Int))with
   |true=>
    match nk (x.2.2.2.2.1.2.1,x.2.1,())with
    |none=>none
    |some v12=>
    match v12.1 with
    |true=>
     match kL (x.2.2.2.2.2.1.2.2.2.2.1,x.1.1,())with
     |none=>none
     |some v13=>
     some (.inr (v13.1,()))
    |false=>
     some (.inr (false,()))
   |false=>
    some (.inr (false,()))
  |false=>
   some (.inr (false,()))
 |false=>
  some (.inr (false,()))
|false=>
 some (.inr (false,()))
noncomputable def je(x:Ty.T Vv):Option (Unit ⊕ (Ty.T aE)):=
ac (fM (x.1,(3201:Int),())) fun v1010=>
ac (cd (v1010.1,(2000:Int),())) fun v1011=>
ac (gE (x.2.1,x.2.2.1,(x.2.2.2.1.1,x.2.2.2.1.2.1,[((5:Int),(0:Int),(0:Int),(0:Int),())],[((1:Int),v1011.1,(0:Int),(0:Int),())],()),())) fun v1015=>
match kR (x.2.2.2.2.1,(x.2.2.2.2.2.1.1,x.2.2.2.2.2.1.2.1,x.2.2.2.2.2.1.2.2.1,x.2.2.2.2.2.1.2.2.2.1,()),x.2.2.2.2.2.2.1,x.2.2.2.2.2.2.2.1,v1015.1,v1015.2.1,v1015.2.2.1,())with
|none=>none
|some (.inl v1021)=>none
|some (.inr v1022)=>
 some (.inr (v1022.1,()))
noncomputable def nJ(x:Ty.T Z0):Option (Ty.T aE):=
match KI (x.1,())with
|none=>none
|some v1=>
match v1.1 with
|true=>
 some (true,())
|false=>
 match m6 (x.1,())with
 |none=>none
 |some v2=>
 match gE v2 with
 |none=>none
 |some v3=>
 match un v2 with
 |none=>none
 |some v4=>
 match(v3.2.2.1 != v4.2.2.1)with
 |true=>
  some (false,())
 |false=>
  match nl (v3.1,v4.1,())with
  |none=>none
  |some v5=>
  match(!v5.1)with
  |true=>
   some (false,())
  |false=>
   match(!(et ao v3.2.1 v4.2.1))with
   |true=>
    some (false,())
   |false=>
    match r7 (v2.2.2.1,())with
    |none=>none
    |some v6=>
    match uZ (v2.2.2.1,())with
    |none=>none
    |some v7=>
    match(v6.1 != v7.1)with
    |true=>
     some (false,())
    |false=>
     match(v3.2.2.1 != (0:Int))with
     |true=>
      some (true,())
     |false=>
      match lY (v2.1,v2.2.1,())with
      |none=>none
      |some v8=>
      match(v8.2.1 != (0:Int))with
      |true=>
       some (false,())
      |false=>
       match oK (v2.1,v3.2.1,())with
       |none=>none
       |some v9=>
       match(!v9.1)with
       |true=>
        some (false,())
       |false=>
        match kL (v3.2.1.2.2.2.2.1,v8.1.1,())with
        |none=>none
        |some v10=>
        match(v10.1 != (v3.1.1==(3:Int)))with
        |true=>
         some (false,())
        |false=>
         match ql (v2.1,v2.2.1,v2.2.2.1.1,v2.2.2.1.2.1,())with
         |none=>none
         |some v11=>
         match(v11.2.1 != (0:Int))with
         |true=>
          some ((v11.2.1==(5:Int)),())
         |false=>
          match kp (v2.1,v2.2.1,v11.1,())with
          |none=>none
          |some v1023=>
          match je (x.1,v2.1,v2.2.1,v2.2.2.1,v8.1,v11.1,v1023.1,v1023.2.1,())with
          |none=>none
          |some (.inl v1025)=>none
          |some (.inr v1024)=>
           some (v1024.1,())
noncomputable def Mk:ai:=⟨_,aE,.unit,rfl,nJ⟩
noncomputable def fw:FuncId→Option ai:=ca [(4,YM),(5,zl),(6,JE),(7,J6),(8,Ae),(9,Pl),(10,FR),(11,ya),(12,Hz),(13,HA),(14,zI),(15,t8),(16,Wv),(17,Er),(18,Ep)]
theorem Sb:∀f s,fw f=some s→FnOK G0 Tryz.prog f s:=aX ⟨adq,Lc,T2,Uk,Lw,LZ,Ma,J7,R9,Sa,G1,zN,abI,Qh,Bw,trivial⟩
noncomputable def Es:List (Nat×aM):=[(17,⟨[0,3,4,5,12,14,16,17],Vv,1000017,[],.unit,[2],aE,je⟩),(18,⟨[12,14,16,17,18,19,20],adp,1000018,[],.unit,[2],aE,kR⟩)]
noncomputable def pS:Nat→Option aM:=Q5 (cF (fe Tryz.f3)) [] Es
abbrev aa:Type:=Ty.T Vv
abbrev ab:Type:=(Ty.T Ra)
abbrev ae:Type:=(Ty.T aen)
abbrev ax:Type:=(Ty.T Vu)
noncomputable def fJ:Array Oper:=ahi (vO Tryz.f3 21)
noncomputable def gY(x:aa)(l:List (Nat×AV))(o:List (Nat×AO)):AF:=⟨ahh 162 ([(0,.dat (.list (.int .u8)) x.1),(3,.rptr aA x.2.1 0),(4,.bptr 4 0),(5,.rptr bI x.2.2.2.1 0),(12,.bptr 12 0),(14,.bptr 14 0),(16,.own 16),(17,.dat (.int .i64) x.2.2.2.2.2.2.2.1)]++l),[(4,.box [.dat (.int .i64) x.2.2.1.1,.dat (.int .i64) x.2.2.1.2.1,.dat (.int .i64) x.2.2.1.2.2.1,.dat (.int .i64) x.2.2.1.2.2.2.1,.dat (.int .i64) x.2.2.1.2.2.2.2.1]),(12,.box [.dat (.int .i64) x.2.2.2.2.1.1,.dat (.int .i64) x.2.2.2.2.1.2.1,.dat (.int .i64) x.2.2.2.2.1.2.2.1,.dat (.int .i64) x.2.2.2.2.1.2.2.2.1,.dat .bool x.2.2.2.2.1.2.2.2.2.1]),(14,.box [.dat (.int .i64) x.2.2.2.2.2.1.1,.dat (.int .i64) x.2.2.2.2.2.1.2.1,.dat (.int .i64) x.2.2.2.2.2.1.2.2.1.1,.dat (.int .i64) x.2.2.2.2.2.1.2.2.1.2.1,.dat (.int .i64) x.2.2.2.2.2.1.2.2.1.2.2.1,.dat (.int .i64) x.2.2.2.2.2.1.2.2.1.2.2.2.1,.dat (.int .i64) x.2.2.2.2.2.1.2.2.1.2.2.2.2.1,.dat (.list (.int .i64)) x.2.2.2.2.2.1.2.2.2.1]),(16,.arr 2 (.int .i64) x.2.2.2.2.2.2.1)]++o,false⟩
noncomputable def aj(x:aa)(l:List (Nat×AV))(o:List (Nat×AO)):AF:=gY x ([(115,.dat aA x.2.1),(117,.rptr bI x.2.2.2.1 0),(118,.dat (.int .i64) x.2.2.2.1.1),(119,.rptr bI x.2.2.2.1 1),(120,.dat (.int .i64) x.2.2.2.1.2.1),(121,.agg [.dat (.int .i64) (5:Int),.dat (.int .i64) (0:Int),.dat (.int .i64) (0:Int),.dat (.int .i64) (0:Int)]),(123,.dat (.list (.int .u8)) x.1)]++l) o
noncomputable def jf(x:aa):Nat×AV:=(115,.dat aA x.2.1)
noncomputable def lj(x:aa):Nat×AV:=(117,.rptr bI x.2.2.2.1 0)
noncomputable def nZ(x:aa):Nat×AV:=(118,.dat (.int .i64) x.2.2.2.1.1)
noncomputable def sn(x:aa):Nat×AV:=(119,.rptr bI x.2.2.2.1 1)
noncomputable def Af(x:aa):Nat×AV:=(120,.dat (.int .i64) x.2.2.2.1.2.1)
noncomputable def NR:Nat×AV:=(121,.agg [.dat (.int .i64) (5:Int),.dat (.int .i64) (0:Int),.dat (.int .i64) (0:Int),.dat (.int .i64) (0:Int)])
noncomputable def aq(x:aa):Nat×AV:=(116,.agg [.dat (.int .i64) x.2.2.1.1,.dat (.int .i64) x.2.2.1.2.1,.dat (.int .i64) x.2.2.1.2.2.1,.dat (.int .i64) x.2.2.1.2.2.2.1,.dat (.int .i64) x.2.2.1.2.2.2.2.1])
noncomputable def ap:Nat×AO:=(122,.arr 56 bk ([((5:Int),(0:Int),(0:Int),(0:Int),())]:List (Ty.T bk)))
noncomputable def ch(v1010:ab):Nat×AO:=(124,.box [.dat (.list (.int .u8)) v1010.1.1,.dat (.int .i64) v1010.1.2.1,.dat (.int .u64) v1010.1.2.2.1])
noncomputable def aB:Nat×AO:=(18,.box [.dat (.int .i64) (0:Int),.dat (.int .i64) (0:Int),.dat (.int .i64) (0:Int),.dat (.int .i64) (0:Int),.dat (.int .i64) (0:Int),.dat (.int .i64) (0:Int),.dat (.int .i64) (0:Int),.dat (.int .i64) (0:Int),.nils])
noncomputable def ay:Nat×AO:=(19,.box [.dat (.int .i64) (0:Int),.dat (.int .i64) (0:Int),.dat (.int .i64) (0:Int),.dat (.int .i64) (0:Int),.dat (.int .i64) (0:Int)])
noncomputable def am(v1011:ae):Nat×AV:=(125,.dat (.int .i64) v1011.1)
noncomputable def an(v1011:ae):Nat×AO:=(124,.box [.dat (.list (.int .u8)) v1011.2.1.1,.dat (.int .i64) v1011.2.1.2.1,.dat (.int .u64) v1011.2.1.2.2.1])
noncomputable def ar(v1011:ae):Nat×AV:=(126,.agg [.dat (.int .i64) (1:Int),.dat (.int .i64) v1011.1,.dat (.int .i64) (0:Int),.dat (.int .i64) (0:Int)])
noncomputable def aC(v1011:ae):Nat×AO:=(127,.arr 56 bk ([((1:Int),v1011.1,(0:Int),(0:Int),())]:List (Ty.T bk)))
noncomputable def aS(x:aa):Nat×AV:=(128,.agg [.dat (.int .i64) x.2.2.2.1.1,.dat (.int .i64) x.2.2.2.1.2.1,.own 122,.own 127])
noncomputable def bi(v1015:ax):Nat×AV:=(129,.tup [.agg [.dat (.int .i64) v1015.1.1,.dat (.int .i64) v1015.1.2.1.1,.dat (.int .i64) v1015.1.2.1.2.1,.dat (.int .i64) v1015.1.2.1.2.2.1.1,.dat (.int .i64) v1015.1.2.1.2.2.1.2.1,.dat (.int .i64) v1015.1.2.1.2.2.1.2.2.1,.dat (.int .i64) v1015.1.2.1.2.2.1.2.2.2.1,.dat (.int .i64) v1015.1.2.1.2.2.1.2.2.2.2.1,.own 129],.dat ao v1015.2.1,.dat (.int .i64) v1015.2.2.1])
noncomputable def bj(v1015:ax):Nat×AO:=(129,.arr 2 (.int .i64) v1015.1.2.1.2.2.2.1)
noncomputable def bB(v1015:ax):Nat×AV:=(114,.tup [.agg [.dat (.int .i64) v1015.1.1,.dat (.int .i64) v1015.1.2.1.1,.dat (.int .i64) v1015.1.2.1.2.1,.dat (.int .i64) v1015.1.2.1.2.2.1.1,.dat (.int .i64) v1015.1.2.1.2.2.1.2.1,.dat (.int .i64) v1015.1.2.1.2.2.1.2.2.1,.dat (.int .i64) v1015.1.2.1.2.2.1.2.2.2.1,.dat (.int .i64) v1015.1.2.1.2.2.1.2.2.2.2.1,.own 129],.dat ao v1015.2.1,.dat (.int .i64) v1015.2.2.1])
noncomputable def ci(v1015:ax):Nat×AV:=(130,.agg [.dat (.int .i64) v1015.1.1,.dat (.int .i64) v1015.1.2.1.1,.dat (.int .i64) v1015.1.2.1.2.1,.dat (.int .i64) v1015.1.2.1.2.2.1.1,.dat (.int .i64) v1015.1.2.1.2.2.1.2.1,.dat (.int .i64) v1015.1.2.1.2.2.1.2.2.1,.dat (.int .i64) v1015.1.2.1.2.2.1.2.2.2.1,.dat (.int .i64) v1015.1.2.1.2.2.1.2.2.2.2.1,.own 129])
noncomputable def c9(v1015:ax):Nat×AV:=(131,.dat ao v1015.2.1)
noncomputable def fY(v1015:ax):Nat×AV:=(132,.dat (.int .i64) v1015.2.2.1)
noncomputable def qZ(v1015:ax):Nat×AO:=(18,.box [.dat (.int .i64) v1015.1.1,.dat (.int .i64) v1015.1.2.1.1,.dat (.int .i64) v1015.1.2.1.2.1,.dat (.int .i64) v1015.1.2.1.2.2.1.1,.dat (.int .i64) v1015.1.2.1.2.2.1.2.1,.dat (.int .i64) v1015.1.2.1.2.2.1.2.2.1,.dat (.int .i64) v1015.1.2.1.2.2.1.2.2.2.1,.dat (.int .i64) v1015.1.2.1.2.2.1.2.2.2.2.1,.own 129])
noncomputable def yb(v1015:ax):Nat×AO:=(19,.box [.dat (.int .i64) v1015.2.1.1,.dat (.int .i64) v1015.2.1.2.1,.dat (.int .i64) v1015.2.1.2.2.1,.dat (.int .i64) v1015.2.1.2.2.2.1,.dat (.int .i64) v1015.2.1.2.2.2.2.1])
noncomputable def n6(x:aa):AF:=gY x [] []
noncomputable def so(x:aa):AF:=gY x [jf x] []
noncomputable def sp(x:aa):AF:=gY x [jf x,lj x] []
noncomputable def q6(x:aa):AF:=gY x [jf x,lj x,nZ x] []
noncomputable def q9(x:aa):AF:=gY x [jf x,lj x,nZ x,sn x] []
noncomputable def rc(x:aa):AF:=gY x [jf x,lj x,nZ x,sn x,Af x] []
noncomputable def pT(x:aa):AF:=gY x [jf x,lj x,nZ x,sn x,Af x,NR] []
noncomputable def pU(x:aa):AF:=aj x [] []
noncomputable def pV(x:aa):AF:=aj x [aq x] []
noncomputable def pW(x:aa):AF:=aj x [(122,.own 122)] [ap]
noncomputable def pX(x:aa)(v1010:ab):AF:=aj x [(124,.bptr 124 0)] [ch v1010]
noncomputable def nm(x:aa):AF:=aj x [(18,.bptr 18 0)] [aB]
noncomputable def mp(x:aa):AF:=aj x [(19,.bptr 19 0)] [ay]
noncomputable def lZ(x:aa):AF:=aj x [aq x,(122,.own 122)] [ap]
noncomputable def l0(x:aa)(v1010:ab):AF:=aj x [aq x,(124,.bptr 124 0)] [ch v1010]
noncomputable def lx(x:aa)(v1010:ab):AF:=aj x [(122,.own 122),(124,.bptr 124 0)] [ap,ch v1010]
noncomputable def oO(x:aa)(v1010:ab)(v1011:ae):AF:=aj x [(124,.bptr 124 0),am v1011] [an v1011]
noncomputable def jS(x:aa):AF:=aj x [(18,.bptr 18 0),aq x] [aB]
noncomputable def jT(x:aa):AF:=aj x [(18,.bptr 18 0),(122,.own 122)] [aB,ap]
noncomputable def jU(x:aa)(v1010:ab):AF:=aj x [(18,.bptr 18 0),(124,.bptr 124 0)] [aB,ch v1010]
noncomputable def jm(x:aa):AF:=aj x [(19,.bptr 19 0),aq x] [ay]
noncomputable def jn(x:aa):AF:=aj x [(19,.bptr 19 0),(122,.own 122)] [ay,ap]
noncomputable def jo(x:aa)(v1010:ab):AF:=aj x [(19,.bptr 19 0),(124,.bptr 124 0)] [ay,ch v1010]
noncomputable def jp(x:aa):AF:=aj x [(18,.bptr 18 0),(19,.bptr 19 0)] [aB,ay]
noncomputable def iQ(x:aa)(v1010:ab):AF:=aj x [aq x,(122,.own 122),(124,.bptr 124 0)] [ap,ch v1010]
noncomputable def oP(x:aa)(v1010:ab)(v1011:ae):AF:=aj x [aq x,(124,.bptr 124 0),am v1011] [an v1011]
noncomputable def oQ(x:aa)(v1010:ab)(v1011:ae):AF:=aj x [(122,.own 122),(124,.bptr 124 0),am v1011] [ap,an v1011]
noncomputable def oS(x:aa)(v1010:ab)(v1011:ae):AF:=aj x [(124,.bptr 124 0),am v1011,ar v1011] [an v1011]
noncomputable def gZ(x:aa):AF:=aj x [(18,.bptr 18 0),aq x,(122,.own 122)] [aB,ap]
noncomputable def g6(x:aa)(v1010:ab):AF:=aj x [(18,.bptr 18 0),aq x,(124,.bptr 124 0)] [aB,ch v1010]
noncomputable def g7(x:aa)(v1010:ab):AF:=aj x [(18,.bptr 18 0),(122,.own 122),(124,.bptr 124 0)] [aB,ap,ch v1010]
noncomputable def nn(x:aa)(v1010:ab)(v1011:ae):AF:=aj x [(18,.bptr 18 0),(124,.bptr 124 0),am v1011] [aB,an v1011]
noncomputable def gg(x:aa):AF:=aj x [(19,.bptr 19 0),aq x,(122,.own 122)] [ay,ap]
noncomputable def gh(x:aa)(v1010:ab):AF:=aj x [(19,.bptr 19 0),aq x,(124,.bptr 124 0)] [ay,ch v1010]
noncomputable def gi(x:aa)(v1010:ab):AF:=aj x [(19,.bptr 19 0),(122,.own 122),(124,.bptr 124 0)] [ay,ap,ch v1010]
noncomputable def mq(x:aa)(v1010:ab)(v1011:ae):AF:=aj x [(19,.bptr 19 0),(124,.bptr 124 0),am v1011] [ay,an v1011]
noncomputable def gj(x:aa):AF:=aj x [(18,.bptr 18 0),(19,.bptr 19 0),aq x] [aB,ay]
noncomputable def gk(x:aa):AF:=aj x [(18,.bptr 18 0),(19,.bptr 19 0),(122,.own 122)] [aB,ay,ap]
noncomputable def gl(x:aa)(v1010:ab):AF:=aj x [(18,.bptr 18 0),(19,.bptr 19 0),(124,.bptr 124 0)] [aB,ay,ch v1010]
noncomputable def oT(x:aa)(v1010:ab)(v1011:ae):AF:=aj x [aq x,(122,.own 122),(124,.bptr 124 0),am v1011] [ap,an v1011]
noncomputable def ly(x:aa)(v1010:ab)(v1011:ae):AF:=aj x [aq x,(124,.bptr 124 0),am v1011,ar v1011] [an v1011]
noncomputable def lz(x:aa)(v1010:ab)(v1011:ae):AF:=aj x [(122,.own 122),(124,.bptr 124 0),am v1011,ar v1011] [ap,an v1011]
noncomputable def oU(x:aa)(v1010:ab)(v1011:ae):AF:=aj x [(124,.bptr 124 0),am v1011,ar v1011,(127,.own 127)] [an v1011,aC v1011]
noncomputable def fb(x:aa)(v1010:ab):AF:=aj x [(18,.bptr 18 0),aq x,(122,.own 122),(124,.bptr 124 0)] [aB,ap,ch v1010]
noncomputable def np(x:aa)(v1010:ab)(v1011:ae):AF:=aj x [(18,.bptr 18 0),aq x,(124,.bptr 124 0),am v1011] [aB,an v1011]
noncomputable def nq(x:aa)(v1010:ab)(v1011:ae):AF:=aj x [(18,.bptr 18 0),(122,.own 122),(124,.bptr 124 0),am v1011] [aB,ap,an v1011]
noncomputable def jV(x:aa)(v1010:ab)(v1011:ae):AF:=aj x [(18,.bptr 18 0),(124,.bptr 124 0),am v1011,ar v1011] [aB,an v1011]
noncomputable def eH(x:aa)(v1010:ab):AF:=aj x [(19,.bptr 19 0),aq x,(122,.own 122),(124,.bptr 124 0)] [ay,ap,ch v1010]
noncomputable def mr(x:aa)(v1010:ab)(v1011:ae):AF:=aj x [(19,.bptr 19 0),aq x,(124,.bptr 124 0),am v1011] [ay,an v1011]
noncomputable def mu(x:aa)(v1010:ab)(v1011:ae):AF:=aj x [(19,.bptr 19 0),(122,.own 122),(124,.bptr 124 0),am v1011] [ay,ap,an v1011]
noncomputable def jq(x:aa)(v1010:ab)(v1011:ae):AF:=aj x [(19,.bptr 19 0),(124,.bptr 124 0),am v1011,ar v1011] [ay,an v1011]
noncomputable def eI(x:aa):AF:=aj x [(18,.bptr 18 0),(19,.bptr 19 0),aq x,(122,.own 122)] [aB,ay,ap]
noncomputable def eJ(x:aa)(v1010:ab):AF:=aj x [(18,.bptr 18 0),(19,.bptr 19 0),aq x,(124,.bptr 124 0)] [aB,ay,ch v1010]
noncomputable def eK(x:aa)(v1010:ab):AF:=aj x [(18,.bptr 18 0),(19,.bptr 19 0),(122,.own 122),(124,.bptr 124 0)] [aB,ay,ap,ch v1010]
noncomputable def mv(x:aa)(v1010:ab)(v1011:ae):AF:=aj x [(18,.bptr 18 0),(19,.bptr 19 0),(124,.bptr 124 0),am v1011] [aB,ay,an v1011]
noncomputable def iR(x:aa)(v1010:ab)(v1011:ae):AF:=aj x [aq x,(122,.own 122),(124,.bptr 124 0),am v1011,ar v1011] [ap,an v1011]
noncomputable def lA(x:aa)(v1010:ab)(v1011:ae):AF:=aj x [aq x,(124,.bptr 124 0),am v1011,ar v1011,(127,.own 127)] [an v1011,aC v1011]
noncomputable def lB(x:aa)(v1010:ab)(v1011:ae):AF:=aj x [(122,.own 122),(124,.bptr 124 0),am v1011,ar v1011,(127,.own 127)] [ap,an v1011,aC v1011]
noncomputable def nr(x:aa)(v1010:ab)(v1011:ae):AF:=aj x [(18,.bptr 18 0),aq x,(122,.own 122),(124,.bptr 124 0),am v1011] [aB,ap,an v1011]
noncomputable def g8(x:aa)(v1010:ab)(v1011:ae):AF:=aj x [(18,.bptr 18 0),aq x,(124,.bptr 124 0),am v1011,ar v1011] [aB,an v1011]
noncomputable def g9(x:aa)(v1010:ab)(v1011:ae):AF:=aj x [(18,.bptr 18 0),(122,.own 122),(124,.bptr 124 0),am v1011,ar v1011] [aB,ap,an v1011]
noncomputable def jW(x:aa)(v1010:ab)(v1011:ae):AF:=aj x [(18,.bptr 18 0),(124,.bptr 124 0),am v1011,ar v1011,(127,.own 127)] [aB,an v1011,aC v1011]
noncomputable def mw(x:aa)(v1010:ab)(v1011:ae):AF:=aj x [(19,.bptr 19 0),aq x,(122,.own 122),(124,.bptr 124 0),am v1011] [ay,ap,an v1011]
noncomputable def gm(x:aa)(v1010:ab)(v1011:ae):AF:=aj x [(19,.bptr 19 0),aq x,(124,.bptr 124 0),am v1011,ar v1011] [ay,an v1011]
noncomputable def gn(x:aa)(v1010:ab)(v1011:ae):AF:=aj x [(19,.bptr 19 0),(122,.own 122),(124,.bptr 124 0),am v1011,ar v1011] [ay,ap,an v1011]
noncomputable def jr(x:aa)(v1010:ab)(v1011:ae):AF:=aj x [(19,.bptr 19 0),(124,.bptr 124 0),am v1011,ar v1011,(127,.own 127)] [ay,an v1011,aC v1011]
noncomputable def dD(x:aa)(v1010:ab):AF:=aj x [(18,.bptr 18 0),(19,.bptr 19 0),aq x,(122,.own 122),(124,.bptr 124 0)] [aB,ay,ap,ch v1010]
noncomputable def my(x:aa)(v1010:ab)(v1011:ae):AF:=aj x [(18,.bptr 18 0),(19,.bptr 19 0),aq x,(124,.bptr 124 0),am v1011] [aB,ay,an v1011]
noncomputable def mz(x:aa)(v1010:ab)(v1011:ae):AF:=aj x [(18,.bptr 18 0),(19,.bptr 19 0),(122,.own 122),(124,.bptr 124 0),am v1011] [aB,ay,ap,an v1011]
noncomputable def gp(x:aa)(v1010:ab)(v1011:ae):AF:=aj x [(18,.bptr 18 0),(19,.bptr 19 0),(124,.bptr 124 0),am v1011,ar v1011] [aB,ay,an v1011]
noncomputable def lC(x:aa)(v1010:ab)(v1011:ae):AF:=aj x [aq x,(122,.own 122),(124,.bptr 124 0),am v1011,ar v1011,(127,.own 127)] [ap,an v1011,aC v1011]
noncomputable def n7(x:aa)(v1010:ab)(v1011:ae):AF:=aj x [(122,.own 122),(124,.bptr 124 0),am v1011,ar v1011,(127,.own 127),aS x] [ap,an v1011,aC v1011]
noncomputable def fc(x:aa)(v1010:ab)(v1011:ae):AF:=aj x [(18,.bptr 18 0),aq x,(122,.own 122),(124,.bptr 124 0),am v1011,ar v1011] [aB,ap,an v1011]
noncomputable def hZ(x:aa)(v1010:ab)(v1011:ae):AF:=aj x [(18,.bptr 18 0),aq x,(124,.bptr 124 0),am v1011,ar v1011,(127,.own 127)] [aB,an v1011,aC v1011]
noncomputable def jX(x:aa)(v1010:ab)(v1011:ae):AF:=aj x [(18,.bptr 18 0),(122,.own 122),(124,.bptr 124 0),am v1011,ar v1011,(127,.own 127)] [aB,ap,an v1011,aC v1011]
noncomputable def eL(x:aa)(v1010:ab)(v1011:ae):AF:=aj x [(19,.bptr 19 0),aq x,(122,.own 122),(124,.bptr 124 0),am v1011,ar v1011] [ay,ap,an v1011]
noncomputable def gq(x:aa)(v1010:ab)(v1011:ae):AF:=aj x [(19,.bptr 19 0),aq x,(124,.bptr 124 0),am v1011,ar v1011,(127,.own 127)] [ay,an v1011,aC v1011]
noncomputable def js(x:aa)(v1010:ab)(v1011:ae):AF:=aj x [(19,.bptr 19 0),(122,.own 122),(124,.bptr 124 0),am v1011,ar v1011,(127,.own 127)] [ay,ap,an v1011,aC v1011]
noncomputable def mA(x:aa)(v1010:ab)(v1011:ae):AF:=aj x [(18,.bptr 18 0),(19,.bptr 19 0),aq x,(122,.own 122),(124,.bptr 124 0),am v1011] [aB,ay,ap,an v1011]
noncomputable def eM(x:aa)(v1010:ab)(v1011:ae):AF:=aj x [(18,.bptr 18 0),(19,.bptr 19 0),aq x,(124,.bptr 124 0),am v1011,ar v1011] [aB,ay,an v1011]
noncomputable def eN(x:aa)(v1010:ab)(v1011:ae):AF:=aj x [(18,.bptr 18 0),(19,.bptr 19 0),(122,.own 122),(124,.bptr 124 0),am v1011,ar v1011] [aB,ay,ap,an v1011]
noncomputable def gr(x:aa)(v1010:ab)(v1011:ae):AF:=aj x [(18,.bptr 18 0),(19,.bptr 19 0),(124,.bptr 124 0),am v1011,ar v1011,(127,.own 127)] [aB,ay,an v1011,aC v1011]
noncomputable def kD(x:aa)(v1010:ab)(v1011:ae):AF:=aj x [aq x,(122,.own 122),(124,.bptr 124 0),am v1011,ar v1011,(127,.own 127),aS x] [ap,an v1011,aC v1011]
noncomputable def jY(x:aa)(v1010:ab)(v1011:ae):AF:=aj x [(18,.bptr 18 0),aq x,(122,.own 122),(124,.bptr 124 0),am v1011,ar v1011,(127,.own 127)] [aB,ap,an v1011,aC v1011]
noncomputable def jZ(x:aa)(v1010:ab)(v1011:ae):AF:=aj x [(18,.bptr 18 0),(122,.own 122),(124,.bptr 124 0),am v1011,ar v1011,(127,.own 127),aS x] [aB,ap,an v1011,aC v1011]
noncomputable def jt(x:aa)(v1010:ab)(v1011:ae):AF:=aj x [(19,.bptr 19 0),aq x,(122,.own 122),(124,.bptr 124 0),am v1011,ar v1011,(127,.own 127)] [ay,ap,an v1011,aC v1011]
noncomputable def ju(x:aa)(v1010:ab)(v1011:ae):AF:=aj x [(19,.bptr 19 0),(122,.own 122),(124,.bptr 124 0),am v1011,ar v1011,(127,.own 127),aS x] [ay,ap,an v1011,aC v1011]
noncomputable def dE(x:aa)(v1010:ab)(v1011:ae):AF:=aj x [(18,.bptr 18 0),(19,.bptr 19 0),aq x,(122,.own 122),(124,.bptr 124 0),am v1011,ar v1011] [aB,ay,ap,an v1011]
noncomputable def eO(x:aa)(v1010:ab)(v1011:ae):AF:=aj x [(18,.bptr 18 0),(19,.bptr 19 0),aq x,(124,.bptr 124 0),am v1011,ar v1011,(127,.own 127)] [aB,ay,an v1011,aC v1011]
noncomputable def jv(x:aa)(v1010:ab)(v1011:ae):AF:=aj x [(18,.bptr 18 0),(19,.bptr 19 0),(122,.own 122),(124,.bptr 124 0),am v1011,ar v1011,(127,.own 127)] [aB,ay,ap,an v1011,aC v1011]
noncomputable def oa(x:aa)(v1010:ab)(v1011:ae)(v1015:ax):AF:=aj x [aq x,(122,.own 122),(124,.bptr 124 0),am v1011,ar v1011,(127,.own 127),aS x,bi v1015] [ap,an v1011,aC v1011,bj v1015]
noncomputable def ia(x:aa)(v1010:ab)(v1011:ae):AF:=aj x [(18,.bptr 18 0),aq x,(122,.own 122),(124,.bptr 124 0),am v1011,ar v1011,(127,.own 127),aS x] [aB,ap,an v1011,aC v1011]
noncomputable def gt(x:aa)(v1010:ab)(v1011:ae):AF:=aj x [(19,.bptr 19 0),aq x,(122,.own 122),(124,.bptr 124 0),am v1011,ar v1011,(127,.own 127),aS x] [ay,ap,an v1011,aC v1011]
noncomputable def jw(x:aa)(v1010:ab)(v1011:ae):AF:=aj x [(18,.bptr 18 0),(19,.bptr 19 0),aq x,(122,.own 122),(124,.bptr 124 0),am v1011,ar v1011,(127,.own 127)] [aB,ay,ap,an v1011,aC v1011]
noncomputable def gu(x:aa)(v1010:ab)(v1011:ae):AF:=aj x [(18,.bptr 18 0),(19,.bptr 19 0),(122,.own 122),(124,.bptr 124 0),am v1011,ar v1011,(127,.own 127),aS x] [aB,ay,ap,an v1011,aC v1011]
noncomputable def ob(x:aa)(v1010:ab)(v1011:ae)(v1015:ax):AF:=aj x [bB v1015,aq x,(122,.own 122),(124,.bptr 124 0),am v1011,ar v1011,(127,.own 127),aS x,bi v1015] [ap,an v1011,aC v1011,bj v1015]
noncomputable def ns(x:aa)(v1010:ab)(v1011:ae)(v1015:ax):AF:=aj x [(18,.bptr 18 0),aq x,(122,.own 122),(124,.bptr 124 0),am v1011,ar v1011,(127,.own 127),aS x,bi v1015] [aB,ap,an v1011,aC v1011,bj v1015]
noncomputable def mB(x:aa)(v1010:ab)(v1011:ae)(v1015:ax):AF:=aj x [(19,.bptr 19 0),aq x,(122,.own 122),(124,.bptr 124 0),am v1011,ar v1011,(127,.own 127),aS x,bi v1015] [ay,ap,an v1011,aC v1011,bj v1015]
noncomputable def eP(x:aa)(v1010:ab)(v1011:ae):AF:=aj x [(18,.bptr 18 0),(19,.bptr 19 0),aq x,(122,.own 122),(124,.bptr 124 0),am v1011,ar v1011,(127,.own 127),aS x] [aB,ay,ap,an v1011,aC v1011]
noncomputable def nt(x:aa)(v1010:ab)(v1011:ae)(v1015:ax):AF:=aj x [bB v1015,aq x,(122,.own 122),(124,.bptr 124 0),am v1011,ar v1011,(127,.own 127),aS x,bi v1015,ci v1015] [ap,an v1011,aC v1011,bj v1015]
noncomputable def nu(x:aa)(v1010:ab)(v1011:ae)(v1015:ax):AF:=aj x [(18,.bptr 18 0),bB v1015,aq x,(122,.own 122),(124,.bptr 124 0),am v1011,ar v1011,(127,.own 127),aS x,bi v1015] [aB,ap,an v1011,aC v1011,bj v1015]
noncomputable def mC(x:aa)(v1010:ab)(v1011:ae)(v1015:ax):AF:=aj x [(19,.bptr 19 0),bB v1015,aq x,(122,.own 122),(124,.bptr 124 0),am v1011,ar v1011,(127,.own 127),aS x,bi v1015] [ay,ap,an v1011,aC v1011,bj v1015]
noncomputable def mD(x:aa)(v1010:ab)(v1011:ae)(v1015:ax):AF:=aj x [(18,.bptr 18 0),(19,.bptr 19 0),aq x,(122,.own 122),(124,.bptr 124 0),am v1011,ar v1011,(127,.own 127),aS x,bi v1015] [aB,ay,ap,an v1011,aC v1011,bj v1015]
noncomputable def nv(x:aa)(v1010:ab)(v1011:ae)(v1015:ax):AF:=aj x [bB v1015,aq x,(122,.own 122),(124,.bptr 124 0),am v1011,ar v1011,(127,.own 127),aS x,bi v1015,ci v1015,c9 v1015] [ap,an v1011,aC v1011,bj v1015]
noncomputable def nw(x:aa)(v1010:ab)(v1011:ae)(v1015:ax):AF:=aj x [(18,.bptr 18 0),bB v1015,aq x,(122,.own 122),(124,.bptr 124 0),am v1011,ar v1011,(127,.own 127),aS x,bi v1015,ci v1015] [aB,ap,an v1011,aC v1011,bj v1015]
noncomputable def mE(x:aa)(v1010:ab)(v1011:ae)(v1015:ax):AF:=aj x [(19,.bptr 19 0),bB v1015,aq x,(122,.own 122),(124,.bptr 124 0),am v1011,ar v1011,(127,.own 127),aS x,bi v1015,ci v1015] [ay,ap,an v1011,aC v1011,bj v1015]
noncomputable def mF(x:aa)(v1010:ab)(v1011:ae)(v1015:ax):AF:=aj x [(18,.bptr 18 0),(19,.bptr 19 0),bB v1015,aq x,(122,.own 122),(124,.bptr 124 0),am v1011,ar v1011,(127,.own 127),aS x,bi v1015] [aB,ay,ap,an v1011,aC v1011,bj v1015]
noncomputable def nA(x:aa)(v1010:ab)(v1011:ae)(v1015:ax):AF:=aj x [bB v1015,aq x,(122,.own 122),(124,.bptr 124 0),am v1011,ar v1011,(127,.own 127),aS x,bi v1015,ci v1015,c9 v1015,fY v1015] [ap,an v1011,aC v1011,bj v1015]
noncomputable def nB(x:aa)(v1010:ab)(v1011:ae)(v1015:ax):AF:=aj x [(18,.bptr 18 0),bB v1015,aq x,(122,.own 122),(124,.bptr 124 0),am v1011,ar v1011,(127,.own 127),aS x,bi v1015,ci v1015,c9 v1015] [aB,ap,an v1011,aC v1011,bj v1015]
noncomputable def mG(x:aa)(v1010:ab)(v1011:ae)(v1015:ax):AF:=aj x [(19,.bptr 19 0),bB v1015,aq x,(122,.own 122),(124,.bptr 124 0),am v1011,ar v1011,(127,.own 127),aS x,bi v1015,ci v1015,c9 v1015] [ay,ap,an v1011,aC v1011,bj v1015]
noncomputable def mH(x:aa)(v1010:ab)(v1011:ae)(v1015:ax):AF:=aj x [(18,.bptr 18 0),(19,.bptr 19 0),bB v1015,aq x,(122,.own 122),(124,.bptr 124 0),am v1011,ar v1011,(127,.own 127),aS x,bi v1015,ci v1015] [aB,ay,ap,an v1011,aC v1011,bj v1015]
noncomputable def jx(x:aa)(v1010:ab)(v1011:ae)(v1015:ax):AF:=aj x [(18,.bptr 18 0),bB v1015,aq x,(122,.own 122),(124,.bptr 124 0),am v1011,ar v1011,(127,.own 127),aS x,bi v1015,ci v1015,c9 v1015,fY v1015] [aB,ap,an v1011,aC v1011,bj v1015]
noncomputable def jy(x:aa)(v1010:ab)(v1011:ae)(v1015:ax):AF:=aj x [(19,.bptr 19 0),bB v1015,aq x,(122,.own 122),(124,.bptr 124 0),am v1011,ar v1011,(127,.own 127),aS x,bi v1015,ci v1015,c9 v1015,fY v1015] [ay,ap,an v1011,aC v1011,bj v1015]
noncomputable def mI(x:aa)(v1010:ab)(v1011:ae)(v1015:ax):AF:=aj x [(18,.bptr 18 0),(19,.bptr 19 0),bB v1015,aq x,(122,.own 122),(124,.bptr 124 0),am v1011,ar v1011,(127,.own 127),aS x,bi v1015,ci v1015,c9 v1015] [aB,ay,ap,an v1011,aC v1011,bj v1015]
noncomputable def gx(x:aa)(v1010:ab)(v1011:ae)(v1015:ax):AF:=aj x [(18,.bptr 18 0),(19,.bptr 19 0),bB v1015,aq x,(122,.own 122),(124,.bptr 124 0),am v1011,ar v1011,(127,.own 127),aS x,bi v1015,ci v1015,c9 v1015,fY v1015] [aB,ay,ap,an v1011,aC v1011,bj v1015]
noncomputable def mJ(x:aa)(v1010:ab)(v1011:ae)(v1015:ax):AF:=aj x [(18,.bptr 18 0),(19,.bptr 19 0),bB v1015,aq x,(122,.own 122),(124,.bptr 124 0),am v1011,ar v1011,(127,.own 127),aS x,bi v1015,ci v1015,c9 v1015,fY v1015] [qZ v1015,ay,ap,an v1011,aC v1011,bj v1015]
noncomputable def mK(x:aa)(v1010:ab)(v1011:ae)(v1015:ax):AF:=aj x [(18,.bptr 18 0),(19,.bptr 19 0),bB v1015,aq x,(122,.own 122),(124,.bptr 124 0),am v1011,ar v1011,(127,.own 127),aS x,bi v1015,ci v1015,c9 v1015,fY v1015] [qZ v1015,yb v1015,ap,an v1011,aC v1011,bj v1015]
noncomputable def iM(x:aa)(v1010:ab)(v1011:ae)(v1015:ax):AF:=aj x [(18,.bptr 18 0),(19,.bptr 19 0),(20,.dat (.int .i64) v1015.2.2.1),bB v1015,aq x,(122,.own 122),(124,.bptr 124 0),am v1011,ar v1011,(127,.own 127),aS x,bi v1015,ci v1015,c9 v1015,fY v1015] [qZ v1015,yb v1015,ap,an v1011,aC v1011,bj v1015]
noncomputable abbrev ah {R:Type}(f:Bool)(m:Nat)(a:AF)(N:AF→Option R)(D:Bool→Array Bool→AF→Option R):Option R:=Us OE E3 fw fJ f (aK 24 m) a N D
noncomputable abbrev ag {R:Type}(N:AF→Option R)(k:Nat)(f:Bool)(m:Nat)(a:AF):Option R:=nK OE E3 fw fJ k f (aK 24 m) a N
theorem NS {R:Type}(x:aa)(N:AF→Option R)(D:Bool→Array Bool→AF→Option R):ah true 0 (n6 x) N D=D true (aK 24 1) (so x):=by kernel_rfl
theorem NT {R:Type}(x:aa)(N:AF→Option R)(D:Bool→Array Bool→AF→Option R):ah true 1 (so x) N D=D true (aK 24 5) (sp x):=by kernel_rfl
theorem NU {R:Type}(x:aa)(N:AF→Option R)(D:Bool→Array Bool→AF→Option R):ah true 5 (sp x) N D=D true (aK 24 13) (q6 x):=by kernel_rfl
theorem Lx {R:Type}(x:aa)(N:AF→Option R)(D:Bool→Array Bool→AF→Option R):ah true 13 (q6 x) N D=D true (aK 24 29) (q9 x):=by kernel_rfl
theorem Ly {R:Type}(x:aa)(N:AF→Option R)(D:Bool→Array Bool→AF→Option R):ah true 29 (q9 x) N D=D true (aK 24 61) (rc x):=by kernel_rfl
theorem Lz {R:Type}(x:aa)(N:AF→Option R)(D:Bool→Array Bool→AF→Option R):ah true 61 (rc x) N D=D true (aK 24 125) (pT x):=by kernel_rfl
theorem J8 {R:Type}(x:aa)(N:AF→Option R)(D:Bool→Array Bool→AF→Option R):ah true 125 (pT x) N D=D true (aK 24 381) (pU x):=by kernel_rfl
theorem J9 {R:Type}(x:aa)(N:AF→Option R)(D:Bool→Array Bool→AF→Option R):ah true 381 (pU x) N D=aD (D false (aK 24 383) (pV x)) (aD (D false (aK 24 509) (pW x)) (aD (ac (fM (x.1,(3201:Int),())) fun v1010=>D false (aK 24 893) (pX x v1010)) (aD (D false (aK 24 524669) (nm x)) (D false (aK 24 1048957) (mp x))))):=by kernel_rfl
theorem Ka {R:Type}(x:aa)(N:AF→Option R)(D:Bool→Array Bool→AF→Option R):ah false 383 (pV x) N D=aD (D false (aK 24 511) (lZ x)) (aD (ac (fM (x.1,(3201:Int),())) fun v1010=>D false (aK 24 895) (l0 x v1010)) (aD (D false (aK 24 524671) (jS x)) (D false (aK 24 1048959) (jm x)))):=by kernel_rfl
theorem Kb {R:Type}(x:aa)(N:AF→Option R)(D:Bool→Array Bool→AF→Option R):ah false 509 (pW x) N D=aD (D false (aK 24 511) (lZ x)) (aD (ac (fM (x.1,(3201:Int),())) fun v1010=>D false (aK 24 1021) (lx x v1010)) (aD (D false (aK 24 524797) (jT x)) (D false (aK 24 1049085) (jn x)))):=by kernel_rfl
theorem Kc {R:Type}(x:aa)(v1010:ab)(N:AF→Option R)(D:Bool→Array Bool→AF→Option R):ah false 893 (pX x v1010) N D=aD (D false (aK 24 895) (l0 x v1010)) (aD (D false (aK 24 1021) (lx x v1010)) (aD (ac (cd (v1010.1,(2000:Int),())) fun v1011=>D false (aK 24 1917) (oO x v1010 v1011)) (aD (D false (aK 24 525181) (jU x v1010)) (D false (aK 24 1049469) (jo x v1010))))):=by kernel_rfl
theorem Et {R:Type}(x:aa)(N:AF→Option R)(D:Bool→Array Bool→AF→Option R):ah false 524669 (nm x) N D=aD (D false (aK 24 524671) (jS x)) (aD (D false (aK 24 524797) (jT x)) (aD (ac (fM (x.1,(3201:Int),())) fun v1010=>D false (aK 24 525181) (jU x v1010)) (D false (aK 24 1573245) (jp x)))):=by kernel_rfl
theorem BZ {R:Type}(x:aa)(N:AF→Option R)(D:Bool→Array Bool→AF→Option R):ah false 1048957 (mp x) N D=aD (D false (aK 24 1048959) (jm x)) (aD (D false (aK 24 1049085) (jn x)) (aD (ac (fM (x.1,(3201:Int),())) fun v1010=>D false (aK 24 1049469) (jo x v1010)) (D false (aK 24 1573245) (jp x)))):=by kernel_rfl
theorem Kd {R:Type}(x:aa)(N:AF→Option R)(D:Bool→Array Bool→AF→Option R):ah false 511 (lZ x) N D=aD (ac (fM (x.1,(3201:Int),())) fun v1010=>D false (aK 24 1023) (iQ x v1010)) (aD (D false (aK 24 524799) (gZ x)) (D false (aK 24 1049087) (gg x))):=by kernel_rfl
theorem Ke {R:Type}(x:aa)(v1010:ab)(N:AF→Option R)(D:Bool→Array Bool→AF→Option R):ah false 895 (l0 x v1010) N D=aD (D false (aK 24 1023) (iQ x v1010)) (aD (ac (cd (v1010.1,(2000:Int),())) fun v1011=>D false (aK 24 1919) (oP x v1010 v1011)) (aD (D false (aK 24 525183) (g6 x v1010)) (D false (aK 24 1049471) (gh x v1010)))):=by kernel_rfl
theorem H4 {R:Type}(x:aa)(v1010:ab)(N:AF→Option R)(D:Bool→Array Bool→AF→Option R):ah false 1021 (lx x v1010) N D=aD (D false (aK 24 1023) (iQ x v1010)) (aD (ac (cd (v1010.1,(2000:Int),())) fun v1011=>D false (aK 24 2045) (oQ x v1010 v1011)) (aD (D false (aK 24 525309) (g7 x v1010)) (D false (aK 24 1049597) (gi x v1010)))):=by kernel_rfl
theorem H5 {R:Type}(x:aa)(v1010:ab)(v1011:ae)(N:AF→Option R)(D:Bool→Array Bool→AF→Option R):ah false 1917 (oO x v1010 v1011) N D=D false (aK 24 3965) (oS x v1010 v1011):=by kernel_rfl
theorem Eu {R:Type}(x:aa)(N:AF→Option R)(D:Bool→Array Bool→AF→Option R):ah false 524671 (jS x) N D=aD (D false (aK 24 524799) (gZ x)) (aD (ac (fM (x.1,(3201:Int),())) fun v1010=>D false (aK 24 525183) (g6 x v1010)) (D false (aK 24 1573247) (gj x))):=by kernel_rfl
theorem Ev {R:Type}(x:aa)(N:AF→Option R)(D:Bool→Array Bool→AF→Option R):ah false 524797 (jT x) N D=aD (D false (aK 24 524799) (gZ x)) (aD (ac (fM (x.1,(3201:Int),())) fun v1010=>D false (aK 24 525309) (g7 x v1010)) (D false (aK 24 1573373) (gk x))):=by kernel_rfl
theorem Ew {R:Type}(x:aa)(v1010:ab)(N:AF→Option R)(D:Bool→Array Bool→AF→Option R):ah false 525181 (jU x v1010) N D=aD (D false (aK 24 525183) (g6 x v1010)) (aD (D false (aK 24 525309) (g7 x v1010)) (aD (ac (cd (v1010.1,(2000:Int),())) fun v1011=>D false (aK 24 526205) (nn x v1010 v1011)) (D false (aK 24 1573757) (gl x v1010)))):=by kernel_rfl
theorem B0 {R:Type}(x:aa)(N:AF→Option R)(D:Bool→Array Bool→AF→Option R):ah false 1048959 (jm x) N D=aD (D false (aK 24 1049087) (gg x)) (aD (ac (fM (x.1,(3201:Int),())) fun v1010=>D false (aK 24 1049471) (gh x v1010)) (D false (aK 24 1573247) (gj x))):=by kernel_rfl
theorem B1 {R:Type}(x:aa)(N:AF→Option R)(D:Bool→Array Bool→AF→Option R):ah false 1049085 (jn x) N D=aD (D false (aK 24 1049087) (gg x)) (aD (ac (fM (x.1,(3201:Int),())) fun v1010=>D false (aK 24 1049597) (gi x v1010)) (D false (aK 24 1573373) (gk x))):=by kernel_rfl
theorem B2 {R:Type}(x:aa)(v1010:ab)(N:AF→Option R)(D:Bool→Array Bool→AF→Option R):ah false 1049469 (jo x v1010) N D=aD (D false (aK 24 1049471) (gh x v1010)) (aD (D false (aK 24 1049597) (gi x v1010)) (aD (ac (cd (v1010.1,(2000:Int),())) fun v1011=>D false (aK 24 1050493) (mq x v1010 v1011)) (D false (aK 24 1573757) (gl x v1010)))):=by kernel_rfl
theorem B3 {R:Type}(x:aa)(N:AF→Option R)(D:Bool→Array Bool→AF→Option R):ah false 1573245 (jp x) N D=aD (D false (aK 24 1573247) (gj x)) (aD (D false (aK 24 1573373) (gk x)) (ac (fM (x.1,(3201:Int),())) fun v1010=>D false (aK 24 1573757) (gl x v1010))):=by kernel_rfl
theorem H6 {R:Type}(x:aa)(v1010:ab)(N:AF→Option R)(D:Bool→Array Bool→AF→Option R):ah false 1023 (iQ x v1010) N D=aD (ac (cd (v1010.1,(2000:Int),())) fun v1011=>D false (aK 24 2047) (oT x v1010 v1011)) (aD (D false (aK 24 525311) (fb x v1010)) (D false (aK 24 1049599) (eH x v1010))):=by kernel_rfl
theorem H7 {R:Type}(x:aa)(v1010:ab)(v1011:ae)(N:AF→Option R)(D:Bool→Array Bool→AF→Option R):ah false 1919 (oP x v1010 v1011) N D=D false (aK 24 3967) (ly x v1010 v1011):=by kernel_rfl
theorem H8 {R:Type}(x:aa)(v1010:ab)(v1011:ae)(N:AF→Option R)(D:Bool→Array Bool→AF→Option R):ah false 2045 (oQ x v1010 v1011) N D=D false (aK 24 4093) (lz x v1010 v1011):=by kernel_rfl
theorem H9 {R:Type}(x:aa)(v1010:ab)(v1011:ae)(N:AF→Option R)(D:Bool→Array Bool→AF→Option R):ah false 3965 (oS x v1010 v1011) N D=aD (D false (aK 24 3967) (ly x v1010 v1011)) (aD (D false (aK 24 4093) (lz x v1010 v1011)) (aD (D false (aK 24 8061) (oU x v1010 v1011)) (aD (D false (aK 24 528253) (jV x v1010 v1011)) (D false (aK 24 1052541) (jq x v1010 v1011))))):=by kernel_rfl
theorem Ey {R:Type}(x:aa)(N:AF→Option R)(D:Bool→Array Bool→AF→Option R):ah false 524799 (gZ x) N D=aD (ac (fM (x.1,(3201:Int),())) fun v1010=>D false (aK 24 525311) (fb x v1010)) (D false (aK 24 1573375) (eI x)):=by kernel_rfl
theorem Ez {R:Type}(x:aa)(v1010:ab)(N:AF→Option R)(D:Bool→Array Bool→AF→Option R):ah false 525183 (g6 x v1010) N D=aD (D false (aK 24 525311) (fb x v1010)) (aD (ac (cd (v1010.1,(2000:Int),())) fun v1011=>D false (aK 24 526207) (np x v1010 v1011)) (D false (aK 24 1573759) (eJ x v1010))):=by kernel_rfl
theorem EA {R:Type}(x:aa)(v1010:ab)(N:AF→Option R)(D:Bool→Array Bool→AF→Option R):ah false 525309 (g7 x v1010) N D=aD (D false (aK 24 525311) (fb x v1010)) (aD (ac (cd (v1010.1,(2000:Int),())) fun v1011=>D false (aK 24 526333) (nq x v1010 v1011)) (D false (aK 24 1573885) (eK x v1010))):=by kernel_rfl
theorem EB {R:Type}(x:aa)(v1010:ab)(v1011:ae)(N:AF→Option R)(D:Bool→Array Bool→AF→Option R):ah false 526205 (nn x v1010 v1011) N D=D false (aK 24 528253) (jV x v1010 v1011):=by kernel_rfl
theorem B4 {R:Type}(x:aa)(N:AF→Option R)(D:Bool→Array Bool→AF→Option R):ah false 1049087 (gg x) N D=aD (ac (fM (x.1,(3201:Int),())) fun v1010=>D false (aK 24 1049599) (eH x v1010)) (D false (aK 24 1573375) (eI x)):=by kernel_rfl
theorem B5 {R:Type}(x:aa)(v1010:ab)(N:AF→Option R)(D:Bool→Array Bool→AF→Option R):ah false 1049471 (gh x v1010) N D=aD (D false (aK 24 1049599) (eH x v1010)) (aD (ac (cd (v1010.1,(2000:Int),())) fun v1011=>D false (aK 24 1050495) (mr x v1010 v1011)) (D false (aK 24 1573759) (eJ x v1010))):=by kernel_rfl
theorem B6 {R:Type}(x:aa)(v1010:ab)(N:AF→Option R)(D:Bool→Array Bool→AF→Option R):ah false 1049597 (gi x v1010) N D=aD (D false (aK 24 1049599) (eH x v1010)) (aD (ac (cd (v1010.1,(2000:Int),())) fun v1011=>D false (aK 24 1050621) (mu x v1010 v1011)) (D false (aK 24 1573885) (eK x v1010))):=by kernel_rfl
theorem B7 {R:Type}(x:aa)(v1010:ab)(v1011:ae)(N:AF→Option R)(D:Bool→Array Bool→AF→Option R):ah false 1050493 (mq x v1010 v1011) N D=D false (aK 24 1052541) (jq x v1010 v1011):=by kernel_rfl
theorem B8 {R:Type}(x:aa)(N:AF→Option R)(D:Bool→Array Bool→AF→Option R):ah false 1573247 (gj x) N D=aD (D false (aK 24 1573375) (eI x)) (ac (fM (x.1,(3201:Int),())) fun v1010=>D false (aK 24 1573759) (eJ x v1010)):=by kernel_rfl
theorem B9 {R:Type}(x:aa)(N:AF→Option R)(D:Bool→Array Bool→AF→Option R):ah false 1573373 (gk x) N D=aD (D false (aK 24 1573375) (eI x)) (ac (fM (x.1,(3201:Int),())) fun v1010=>D false (aK 24 1573885) (eK x v1010)):=by kernel_rfl
theorem Ca {R:Type}(x:aa)(v1010:ab)(N:AF→Option R)(D:Bool→Array Bool→AF→Option R):ah false 1573757 (gl x v1010) N D=aD (D false (aK 24 1573759) (eJ x v1010)) (aD (D false (aK 24 1573885) (eK x v1010)) (ac (cd (v1010.1,(2000:Int),())) fun v1011=>D false (aK 24 1574781) (mv x v1010 v1011))):=by kernel_rfl
theorem Ia {R:Type}(x:aa)(v1010:ab)(v1011:ae)(N:AF→Option R)(D:Bool→Array Bool→AF→Option R):ah false 2047 (oT x v1010 v1011) N D=D false (aK 24 4095) (iR x v1010 v1011):=by kernel_rfl
theorem Ib {R:Type}(x:aa)(v1010:ab)(v1011:ae)(N:AF→Option R)(D:Bool→Array Bool→AF→Option R):ah false 3967 (ly x v1010 v1011) N D=aD (D false (aK 24 4095) (iR x v1010 v1011)) (aD (D false (aK 24 8063) (lA x v1010 v1011)) (aD (D false (aK 24 528255) (g8 x v1010 v1011)) (D false (aK 24 1052543) (gm x v1010 v1011)))):=by kernel_rfl
theorem Ic {R:Type}(x:aa)(v1010:ab)(v1011:ae)(N:AF→Option R)(D:Bool→Array Bool→AF→Option R):ah false 4093 (lz x v1010 v1011) N D=aD (D false (aK 24 4095) (iR x v1010 v1011)) (aD (D false (aK 24 8189) (lB x v1010 v1011)) (aD (D false (aK 24 528381) (g9 x v1010 v1011)) (D false (aK 24 1052669) (gn x v1010 v1011)))):=by kernel_rfl
theorem Ie {R:Type}(x:aa)(v1010:ab)(v1011:ae)(N:AF→Option R)(D:Bool→Array Bool→AF→Option R):ah false 8061 (oU x v1010 v1011) N D=aD (D false (aK 24 8063) (lA x v1010 v1011)) (aD (D false (aK 24 8189) (lB x v1010 v1011)) (aD (D false (aK 24 532349) (jW x v1010 v1011)) (D false (aK 24 1056637) (jr x v1010 v1011)))):=by kernel_rfl
theorem EC {R:Type}(x:aa)(v1010:ab)(N:AF→Option R)(D:Bool→Array Bool→AF→Option R):ah false 525311 (fb x v1010) N D=aD (ac (cd (v1010.1,(2000:Int),())) fun v1011=>D false (aK 24 526335) (nr x v1010 v1011)) (D false (aK 24 1573887) (dD x v1010)):=by kernel_rfl
theorem ED {R:Type}(x:aa)(v1010:ab)(v1011:ae)(N:AF→Option R)(D:Bool→Array Bool→AF→Option R):ah false 526207 (np x v1010 v1011) N D=D false (aK 24 528255) (g8 x v1010 v1011):=by kernel_rfl
theorem EE {R:Type}(x:aa)(v1010:ab)(v1011:ae)(N:AF→Option R)(D:Bool→Array Bool→AF→Option R):ah false 526333 (nq x v1010 v1011) N D=D false (aK 24 528381) (g9 x v1010 v1011):=by kernel_rfl
theorem EF {R:Type}(x:aa)(v1010:ab)(v1011:ae)(N:AF→Option R)(D:Bool→Array Bool→AF→Option R):ah false 528253 (jV x v1010 v1011) N D=aD (D false (aK 24 528255) (g8 x v1010 v1011)) (aD (D false (aK 24 528381) (g9 x v1010 v1011)) (aD (D false (aK 24 532349) (jW x v1010 v1011)) (D false (aK 24 1576829) (gp x v1010 v1011)))):=by kernel_rfl
theorem Cb {R:Type}(x:aa)(v1010:ab)(N:AF→Option R)(D:Bool→Array Bool→AF→Option R):ah false 1049599 (eH x v1010) N D=aD (ac (cd (v1010.1,(2000:Int),())) fun v1011=>D false (aK 24 1050623) (mw x v1010 v1011)) (D false (aK 24 1573887) (dD x v1010)):=by kernel_rfl
theorem Cc {R:Type}(x:aa)(v1010:ab)(v1011:ae)(N:AF→Option R)(D:Bool→Array Bool→AF→Option R):ah false 1050495 (mr x v1010 v1011) N D=D false (aK 24 1052543) (gm x v1010 v1011):=by kernel_rfl
theorem Cd {R:Type}(x:aa)(v1010:ab)(v1011:ae)(N:AF→Option R)(D:Bool→Array Bool→AF→Option R):ah false 1050621 (mu x v1010 v1011) N D=D false (aK 24 1052669) (gn x v1010 v1011):=by kernel_rfl
theorem Ce {R:Type}(x:aa)(v1010:ab)(v1011:ae)(N:AF→Option R)(D:Bool→Array Bool→AF→Option R):ah false 1052541 (jq x v1010 v1011) N D=aD (D false (aK 24 1052543) (gm x v1010 v1011)) (aD (D false (aK 24 1052669) (gn x v1010 v1011)) (aD (D false (aK 24 1056637) (jr x v1010 v1011)) (D false (aK 24 1576829) (gp x v1010 v1011)))):=by kernel_rfl
theorem Cf {R:Type}(x:aa)(N:AF→Option R)(D:Bool→Array Bool→AF→Option R):ah false 1573375 (eI x) N D=ac (fM (x.1,(3201:Int),())) fun v1010=>D false (aK 24 1573887) (dD x v1010):=by kernel_rfl
theorem Cg {R:Type}(x:aa)(v1010:ab)(N:AF→Option R)(D:Bool→Array Bool→AF→Option R):ah false 1573759 (eJ x v1010) N D=aD (D false (aK 24 1573887) (dD x v1010)) (ac (cd (v1010.1,(2000:Int),())) fun v1011=>D false (aK 24 1574783) (my x v1010 v1011)):=by kernel_rfl
theorem Ci {R:Type}(x:aa)(v1010:ab)(N:AF→Option R)(D:Bool→Array Bool→AF→Option R):ah false 1573885 (eK x v1010) N D=aD (D false (aK 24 1573887) (dD x v1010)) (ac (cd (v1010.1,(2000:Int),())) fun v1011=>D false (aK 24 1574909) (mz x v1010 v1011)):=by kernel_rfl
theorem Cj {R:Type}(x:aa)(v1010:ab)(v1011:ae)(N:AF→Option R)(D:Bool→Array Bool→AF→Option R):ah false 1574781 (mv x v1010 v1011) N D=D false (aK 24 1576829) (gp x v1010 v1011):=by kernel_rfl
theorem Ig {R:Type}(x:aa)(v1010:ab)(v1011:ae)(N:AF→Option R)(D:Bool→Array Bool→AF→Option R):ah false 4095 (iR x v1010 v1011) N D=aD (D false (aK 24 8191) (lC x v1010 v1011)) (aD (D false (aK 24 528383) (fc x v1010 v1011)) (D false (aK 24 1052671) (eL x v1010 v1011))):=by kernel_rfl
theorem Ih {R:Type}(x:aa)(v1010:ab)(v1011:ae)(N:AF→Option R)(D:Bool→Array Bool→AF→Option R):ah false 8063 (lA x v1010 v1011) N D=aD (D false (aK 24 8191) (lC x v1010 v1011)) (aD (D false (aK 24 532351) (hZ x v1010 v1011)) (D false (aK 24 1056639) (gq x v1010 v1011))):=by kernel_rfl
theorem Ii {R:Type}(x:aa)(v1010:ab)(v1011:ae)(N:AF→Option R)(D:Bool→Array Bool→AF→Option R):ah false 8189 (lB x v1010 v1011) N D=D false (aK 24 16381) (n7 x v1010 v1011):=by kernel_rfl
theorem EG {R:Type}(x:aa)(v1010:ab)(v1011:ae)(N:AF→Option R)(D:Bool→Array Bool→AF→Option R):ah false 526335 (nr x v1010 v1011) N D=D false (aK 24 528383) (fc x v1010 v1011):=by kernel_rfl
theorem EH {R:Type}(x:aa)(v1010:ab)(v1011:ae)(N:AF→Option R)(D:Bool→Array Bool→AF→Option R):ah false 528255 (g8 x v1010 v1011) N D=aD (D false (aK 24 528383) (fc x v1010 v1011)) (aD (D false (aK 24 532351) (hZ x v1010 v1011)) (D false (aK 24 1576831) (eM x v1010 v1011))):=by kernel_rfl
theorem EI {R:Type}(x:aa)(v1010:ab)(v1011:ae)(N:AF→Option R)(D:Bool→Array Bool→AF→Option R):ah false 528381 (g9 x v1010 v1011) N D=aD (D false (aK 24 528383) (fc x v1010 v1011)) (aD (D false (aK 24 532477) (jX x v1010 v1011)) (D false (aK 24 1576957) (eN x v1010 v1011))):=by kernel_rfl
theorem EJ {R:Type}(x:aa)(v1010:ab)(v1011:ae)(N:AF→Option R)(D:Bool→Array Bool→AF→Option R):ah false 532349 (jW x v1010 v1011) N D=aD (D false (aK 24 532351) (hZ x v1010 v1011)) (aD (D false (aK 24 532477) (jX x v1010 v1011)) (D false (aK 24 1580925) (gr x v1010 v1011))):=by kernel_rfl
theorem Ck {R:Type}(x:aa)(v1010:ab)(v1011:ae)(N:AF→Option R)(D:Bool→Array Bool→AF→Option R):ah false 1050623 (mw x v1010 v1011) N D=D false (aK 24 1052671) (eL x v1010 v1011):=by kernel_rfl
theorem Cl {R:Type}(x:aa)(v1010:ab)(v1011:ae)(N:AF→Option R)(D:Bool→Array Bool→AF→Option R):ah false 1052543 (gm x v1010 v1011) N D=aD (D false (aK 24 1052671) (eL x v1010 v1011)) (aD (D false (aK 24 1056639) (gq x v1010 v1011)) (D false (aK 24 1576831) (eM x v1010 v1011))):=by kernel_rfl
theorem Cm {R:Type}(x:aa)(v1010:ab)(v1011:ae)(N:AF→Option R)(D:Bool→Array Bool→AF→Option R):ah false 1052669 (gn x v1010 v1011) N D=aD (D false (aK 24 1052671) (eL x v1010 v1011)) (aD (D false (aK 24 1056765) (js x v1010 v1011)) (D false (aK 24 1576957) (eN x v1010 v1011))):=by kernel_rfl
theorem Cn {R:Type}(x:aa)(v1010:ab)(v1011:ae)(N:AF→Option R)(D:Bool→Array Bool→AF→Option R):ah false 1056637 (jr x v1010 v1011) N D=aD (D false (aK 24 1056639) (gq x v1010 v1011)) (aD (D false (aK 24 1056765) (js x v1010 v1011)) (D false (aK 24 1580925) (gr x v1010 v1011))):=by kernel_rfl
theorem Co {R:Type}(x:aa)(v1010:ab)(N:AF→Option R)(D:Bool→Array Bool→AF→Option R):ah false 1573887 (dD x v1010) N D=ac (cd (v1010.1,(2000:Int),())) fun v1011=>D false (aK 24 1574911) (mA x v1010 v1011):=by kernel_rfl
theorem Cp {R:Type}(x:aa)(v1010:ab)(v1011:ae)(N:AF→Option R)(D:Bool→Array Bool→AF→Option R):ah false 1574783 (my x v1010 v1011) N D=D false (aK 24 1576831) (eM x v1010 v1011):=by kernel_rfl
theorem Cq {R:Type}(x:aa)(v1010:ab)(v1011:ae)(N:AF→Option R)(D:Bool→Array Bool→AF→Option R):ah false 1574909 (mz x v1010 v1011) N D=D false (aK 24 1576957) (eN x v1010 v1011):=by kernel_rfl
theorem Cr {R:Type}(x:aa)(v1010:ab)(v1011:ae)(N:AF→Option R)(D:Bool→Array Bool→AF→Option R):ah false 1576829 (gp x v1010 v1011) N D=aD (D false (aK 24 1576831) (eM x v1010 v1011)) (aD (D false (aK 24 1576957) (eN x v1010 v1011)) (D false (aK 24 1580925) (gr x v1010 v1011))):=by kernel_rfl
theorem Ij {R:Type}(x:aa)(v1010:ab)(v1011:ae)(N:AF→Option R)(D:Bool→Array Bool→AF→Option R):ah false 8191 (lC x v1010 v1011) N D=D false (aK 24 16383) (kD x v1010 v1011):=by kernel_rfl
theorem FV {R:Type}(x:aa)(v1010:ab)(v1011:ae)(N:AF→Option R)(D:Bool→Array Bool→AF→Option R):ah false 16381 (n7 x v1010 v1011) N D=aD (D false (aK 24 16383) (kD x v1010 v1011)) (aD (D false (aK 24 540669) (jZ x v1010 v1011)) (D false (aK 24 1064957) (ju x v1010 v1011))):=by kernel_rfl
theorem EK {R:Type}(x:aa)(v1010:ab)(v1011:ae)(N:AF→Option R)(D:Bool→Array Bool→AF→Option R):ah false 528383 (fc x v1010 v1011) N D=aD (D false (aK 24 532479) (jY x v1010 v1011)) (D false (aK 24 1576959) (dE x v1010 v1011)):=by kernel_rfl
theorem EL {R:Type}(x:aa)(v1010:ab)(v1011:ae)(N:AF→Option R)(D:Bool→Array Bool→AF→Option R):ah false 532351 (hZ x v1010 v1011) N D=aD (D false (aK 24 532479) (jY x v1010 v1011)) (D false (aK 24 1580927) (eO x v1010 v1011)):=by kernel_rfl
theorem EM {R:Type}(x:aa)(v1010:ab)(v1011:ae)(N:AF→Option R)(D:Bool→Array Bool→AF→Option R):ah false 532477 (jX x v1010 v1011) N D=D false (aK 24 540669) (jZ x v1010 v1011):=by kernel_rfl
theorem Cs {R:Type}(x:aa)(v1010:ab)(v1011:ae)(N:AF→Option R)(D:Bool→Array Bool→AF→Option R):ah false 1052671 (eL x v1010 v1011) N D=aD (D false (aK 24 1056767) (jt x v1010 v1011)) (D false (aK 24 1576959) (dE x v1010 v1011)):=by kernel_rfl
theorem Ct {R:Type}(x:aa)(v1010:ab)(v1011:ae)(N:AF→Option R)(D:Bool→Array Bool→AF→Option R):ah false 1056639 (gq x v1010 v1011) N D=aD (D false (aK 24 1056767) (jt x v1010 v1011)) (D false (aK 24 1580927) (eO x v1010 v1011)):=by kernel_rfl
theorem Cu {R:Type}(x:aa)(v1010:ab)(v1011:ae)(N:AF→Option R)(D:Bool→Array Bool→AF→Option R):ah false 1056765 (js x v1010 v1011) N D=D false (aK 24 1064957) (ju x v1010 v1011):=by kernel_rfl
theorem Cv {R:Type}(x:aa)(v1010:ab)(v1011:ae)(N:AF→Option R)(D:Bool→Array Bool→AF→Option R):ah false 1574911 (mA x v1010 v1011) N D=D false (aK 24 1576959) (dE x v1010 v1011):=by kernel_rfl
theorem Cw {R:Type}(x:aa)(v1010:ab)(v1011:ae)(N:AF→Option R)(D:Bool→Array Bool→AF→Option R):ah false 1576831 (eM x v1010 v1011) N D=aD (D false (aK 24 1576959) (dE x v1010 v1011)) (D false (aK 24 1580927) (eO x v1010 v1011)):=by kernel_rfl
theorem Cy {R:Type}(x:aa)(v1010:ab)(v1011:ae)(N:AF→Option R)(D:Bool→Array Bool→AF→Option R):ah false 1576957 (eN x v1010 v1011) N D=aD (D false (aK 24 1576959) (dE x v1010 v1011)) (D false (aK 24 1581053) (jv x v1010 v1011)):=by kernel_rfl
theorem Cz {R:Type}(x:aa)(v1010:ab)(v1011:ae)(N:AF→Option R)(D:Bool→Array Bool→AF→Option R):ah false 1580925 (gr x v1010 v1011) N D=aD (D false (aK 24 1580927) (eO x v1010 v1011)) (D false (aK 24 1581053) (jv x v1010 v1011)):=by kernel_rfl
theorem FW {R:Type}(x:aa)(v1010:ab)(v1011:ae)(N:AF→Option R)(D:Bool→Array Bool→AF→Option R):ah false 16383 (kD x v1010 v1011) N D=aD (ac (gE (x.2.1,x.2.2.1,(x.2.2.2.1.1,x.2.2.2.1.2.1,[((5:Int),(0:Int),(0:Int),(0:Int),())],[((1:Int),v1011.1,(0:Int),(0:Int),())],()),())) fun v1015=>D false (aK 24 32767) (oa x v1010 v1011 v1015)) (aD (D false (aK 24 540671) (ia x v1010 v1011)) (D false (aK 24 1064959) (gt x v1010 v1011))):=by kernel_rfl
theorem EN {R:Type}(x:aa)(v1010:ab)(v1011:ae)(N:AF→Option R)(D:Bool→Array Bool→AF→Option R):ah false 532479 (jY x v1010 v1011) N D=D false (aK 24 540671) (ia x v1010 v1011):=by kernel_rfl
theorem EO {R:Type}(x:aa)(v1010:ab)(v1011:ae)(N:AF→Option R)(D:Bool→Array Bool→AF→Option R):ah false 540669 (jZ x v1010 v1011) N D=aD (D false (aK 24 540671) (ia x v1010 v1011)) (D false (aK 24 1589245) (gu x v1010 v1011)):=by kernel_rfl
theorem CA {R:Type}(x:aa)(v1010:ab)(v1011:ae)(N:AF→Option R)(D:Bool→Array Bool→AF→Option R):ah false 1056767 (jt x v1010 v1011) N D=D false (aK 24 1064959) (gt x v1010 v1011):=by kernel_rfl
theorem CB {R:Type}(x:aa)(v1010:ab)(v1011:ae)(N:AF→Option R)(D:Bool→Array Bool→AF→Option R):ah false 1064957 (ju x v1010 v1011) N D=aD (D false (aK 24 1064959) (gt x v1010 v1011)) (D false (aK 24 1589245) (gu x v1010 v1011)):=by kernel_rfl
theorem CC {R:Type}(x:aa)(v1010:ab)(v1011:ae)(N:AF→Option R)(D:Bool→Array Bool→AF→Option R):ah false 1576959 (dE x v1010 v1011) N D=D false (aK 24 1581055) (jw x v1010 v1011):=by kernel_rfl
theorem CD {R:Type}(x:aa)(v1010:ab)(v1011:ae)(N:AF→Option R)(D:Bool→Array Bool→AF→Option R):ah false 1580927 (eO x v1010 v1011) N D=D false (aK 24 1581055) (jw x v1010 v1011):=by kernel_rfl
theorem CE {R:Type}(x:aa)(v1010:ab)(v1011:ae)(N:AF→Option R)(D:Bool→Array Bool→AF→Option R):ah false 1581053 (jv x v1010 v1011) N D=D false (aK 24 1589245) (gu x v1010 v1011):=by kernel_rfl
theorem FX {R:Type}(x:aa)(v1010:ab)(v1011:ae)(v1015:ax)(N:AF→Option R)(D:Bool→Array Bool→AF→Option R):ah false 32767 (oa x v1010 v1011 v1015) N D=D false (aK 24 65535) (ob x v1010 v1011 v1015):=by kernel_rfl
theorem EP {R:Type}(x:aa)(v1010:ab)(v1011:ae)(N:AF→Option R)(D:Bool→Array Bool→AF→Option R):ah false 540671 (ia x v1010 v1011) N D=aD (ac (gE (x.2.1,x.2.2.1,(x.2.2.2.1.1,x.2.2.2.1.2.1,[((5:Int),(0:Int),(0:Int),(0:Int),())],[((1:Int),v1011.1,(0:Int),(0:Int),())],()),())) fun v1015=>D false (aK 24 557055) (ns x v1010 v1011 v1015)) (D false (aK 24 1589247) (eP x v1010 v1011)):=by kernel_rfl
theorem CF {R:Type}(x:aa)(v1010:ab)(v1011:ae)(N:AF→Option R)(D:Bool→Array Bool→AF→Option R):ah false 1064959 (gt x v1010 v1011) N D=aD (ac (gE (x.2.1,x.2.2.1,(x.2.2.2.1.1,x.2.2.2.1.2.1,[((5:Int),(0:Int),(0:Int),(0:Int),())],[((1:Int),v1011.1,(0:Int),(0:Int),())],()),())) fun v1015=>D false (aK 24 1081343) (mB x v1010 v1011 v1015)) (D false (aK 24 1589247) (eP x v1010 v1011)):=by kernel_rfl
theorem CG {R:Type}(x:aa)(v1010:ab)(v1011:ae)(N:AF→Option R)(D:Bool→Array Bool→AF→Option R):ah false 1581055 (jw x v1010 v1011) N D=D false (aK 24 1589247) (eP x v1010 v1011):=by kernel_rfl
theorem CH {R:Type}(x:aa)(v1010:ab)(v1011:ae)(N:AF→Option R)(D:Bool→Array Bool→AF→Option R):ah false 1589245 (gu x v1010 v1011) N D=D false (aK 24 1589247) (eP x v1010 v1011):=by kernel_rfl
theorem FY {R:Type}(x:aa)(v1010:ab)(v1011:ae)(v1015:ax)(N:AF→Option R)(D:Bool→Array Bool→AF→Option R):ah false 65535 (ob x v1010 v1011 v1015) N D=D false (aK 24 131071) (nt x v1010 v1011 v1015):=by kernel_rfl
theorem ER {R:Type}(x:aa)(v1010:ab)(v1011:ae)(v1015:ax)(N:AF→Option R)(D:Bool→Array Bool→AF→Option R):ah false 557055 (ns x v1010 v1011 v1015) N D=D false (aK 24 589823) (nu x v1010 v1011 v1015):=by kernel_rfl
theorem CI {R:Type}(x:aa)(v1010:ab)(v1011:ae)(v1015:ax)(N:AF→Option R)(D:Bool→Array Bool→AF→Option R):ah false 1081343 (mB x v1010 v1011 v1015) N D=D false (aK 24 1114111) (mC x v1010 v1011 v1015):=by kernel_rfl
theorem CJ {R:Type}(x:aa)(v1010:ab)(v1011:ae)(N:AF→Option R)(D:Bool→Array Bool→AF→Option R):ah false 1589247 (eP x v1010 v1011) N D=ac (gE (x.2.1,x.2.2.1,(x.2.2.2.1.1,x.2.2.2.1.2.1,[((5:Int),(0:Int),(0:Int),(0:Int),())],[((1:Int),v1011.1,(0:Int),(0:Int),())],()),())) fun v1015=>D false (aK 24 1605631) (mD x v1010 v1011 v1015):=by kernel_rfl
theorem ES {R:Type}(x:aa)(v1010:ab)(v1011:ae)(v1015:ax)(N:AF→Option R)(D:Bool→Array Bool→AF→Option R):ah false 131071 (nt x v1010 v1011 v1015) N D=D false (aK 24 262143) (nv x v1010 v1011 v1015):=by kernel_rfl
theorem ET {R:Type}(x:aa)(v1010:ab)(v1011:ae)(v1015:ax)(N:AF→Option R)(D:Bool→Array Bool→AF→Option R):ah false 589823 (nu x v1010 v1011 v1015) N D=D false (aK 24 655359) (nw x v1010 v1011 v1015):=by kernel_rfl
theorem CK {R:Type}(x:aa)(v1010:ab)(v1011:ae)(v1015:ax)(N:AF→Option R)(D:Bool→Array Bool→AF→Option R):ah false 1114111 (mC x v1010 v1011 v1015) N D=D false (aK 24 1179647) (mE x v1010 v1011 v1015):=by kernel_rfl
theorem CL {R:Type}(x:aa)(v1010:ab)(v1011:ae)(v1015:ax)(N:AF→Option R)(D:Bool→Array Bool→AF→Option R):ah false 1605631 (mD x v1010 v1011 v1015) N D=D false (aK 24 1638399) (mF x v1010 v1011 v1015):=by kernel_rfl
theorem EU {R:Type}(x:aa)(v1010:ab)(v1011:ae)(v1015:ax)(N:AF→Option R)(D:Bool→Array Bool→AF→Option R):ah false 262143 (nv x v1010 v1011 v1015) N D=D false (aK 24 524287) (nA x v1010 v1011 v1015):=by kernel_rfl
theorem EV {R:Type}(x:aa)(v1010:ab)(v1011:ae)(v1015:ax)(N:AF→Option R)(D:Bool→Array Bool→AF→Option R):ah false 655359 (nw x v1010 v1011 v1015) N D=D false (aK 24 786431) (nB x v1010 v1011 v1015):=by kernel_rfl
theorem CM {R:Type}(x:aa)(v1010:ab)(v1011:ae)(v1015:ax)(N:AF→Option R)(D:Bool→Array Bool→AF→Option R):ah false 1179647 (mE x v1010 v1011 v1015) N D=D false (aK 24 1310719) (mG x v1010 v1011 v1015):=by kernel_rfl
theorem CN {R:Type}(x:aa)(v1010:ab)(v1011:ae)(v1015:ax)(N:AF→Option R)(D:Bool→Array Bool→AF→Option R):ah false 1638399 (mF x v1010 v1011 v1015) N D=D false (aK 24 1703935) (mH x v1010 v1011 v1015):=by kernel_rfl
theorem EW {R:Type}(x:aa)(v1010:ab)(v1011:ae)(v1015:ax)(N:AF→Option R)(D:Bool→Array Bool→AF→Option R):ah false 524287 (nA x v1010 v1011 v1015) N D=aD (D false (aK 24 1048575) (jx x v1010 v1011 v1015)) (D false (aK 24 1572863) (jy x v1010 v1011 v1015)):=by kernel_rfl
theorem EX {R:Type}(x:aa)(v1010:ab)(v1011:ae)(v1015:ax)(N:AF→Option R)(D:Bool→Array Bool→AF→Option R):ah false 786431 (nB x v1010 v1011 v1015) N D=D false (aK 24 1048575) (jx x v1010 v1011 v1015):=by kernel_rfl
theorem CO {R:Type}(x:aa)(v1010:ab)(v1011:ae)(v1015:ax)(N:AF→Option R)(D:Bool→Array Bool→AF→Option R):ah false 1310719 (mG x v1010 v1011 v1015) N D=D false (aK 24 1572863) (jy x v1010 v1011 v1015):=by kernel_rfl
theorem CP {R:Type}(x:aa)(v1010:ab)(v1011:ae)(v1015:ax)(N:AF→Option R)(D:Bool→Array Bool→AF→Option R):ah false 1703935 (mH x v1010 v1011 v1015) N D=D false (aK 24 1835007) (mI x v1010 v1011 v1015):=by kernel_rfl
theorem CQ {R:Type}(x:aa)(v1010:ab)(v1011:ae)(v1015:ax)(N:AF→Option R)(D:Bool→Array Bool→AF→Option R):ah false 1048575 (jx x v1010 v1011 v1015) N D=D false (aK 24 2097151) (gx x v1010 v1011 v1015):=by kernel_rfl
theorem CS {R:Type}(x:aa)(v1010:ab)(v1011:ae)(v1015:ax)(N:AF→Option R)(D:Bool→Array Bool→AF→Option R):ah false 1572863 (jy x v1010 v1011 v1015) N D=D false (aK 24 2097151) (gx x v1010 v1011 v1015):=by kernel_rfl
theorem CT {R:Type}(x:aa)(v1010:ab)(v1011:ae)(v1015:ax)(N:AF→Option R)(D:Bool→Array Bool→AF→Option R):ah false 1835007 (mI x v1010 v1011 v1015) N D=D false (aK 24 2097151) (gx x v1010 v1011 v1015):=by kernel_rfl
theorem CU {R:Type}(x:aa)(v1010:ab)(v1011:ae)(v1015:ax)(N:AF→Option R)(D:Bool→Array Bool→AF→Option R):ah false 2097151 (gx x v1010 v1011 v1015) N D=D false (aK 24 4194303) (mJ x v1010 v1011 v1015):=by kernel_rfl
theorem CV {R:Type}(x:aa)(v1010:ab)(v1011:ae)(v1015:ax)(N:AF→Option R)(D:Bool→Array Bool→AF→Option R):ah false 4194303 (mJ x v1010 v1011 v1015) N D=D false (aK 24 8388607) (mK x v1010 v1011 v1015):=by kernel_rfl
theorem CW {R:Type}(x:aa)(v1010:ab)(v1011:ae)(v1015:ax)(N:AF→Option R)(D:Bool→Array Bool→AF→Option R):ah false 8388607 (mK x v1010 v1011 v1015) N D=D false (aK 24 16777215) (iM x v1010 v1011 v1015):=by kernel_rfl
theorem Sc {R:Type}(x:aa)(v1010:ab)(v1011:ae)(v1015:ax)(hv1010:fM (x.1,(3201:Int),())=some v1010)(hv1011:cd (v1010.1,(2000:Int),())=some v1011)(hv1015:gE (x.2.1,x.2.2.1,(x.2.2.2.1.1,x.2.2.2.1.2.1,[((5:Int),(0:Int),(0:Int),(0:Int),())],[((1:Int),v1011.1,(0:Int),(0:Int),())],()),())=some v1015)(N:AF→Option R)(r:R)(hN:N (iM x v1010 v1011 v1015)=some r):nK OE E3 fw fJ 24 true (aK 24 0) (n6 x) N=some r:=by
 have p16777215:ag N 0 false 16777215 (iM x v1010 v1011 v1015)=some r:=(abH (by kernel_rfl)).trans hN
 have p8388607:ag N 1 false 8388607 (mK x v1010 v1011 v1015)=some r:=aQ (CW x v1010 v1011 v1015 _ _) p16777215
 have p4194303:ag N 2 false 4194303 (mJ x v1010 v1011 v1015)=some r:=aQ (CV x v1010 v1011 v1015 _ _) p8388607
 have p2097151:ag N 3 false 2097151 (gx x v1010 v1011 v1015)=some r:=aQ (CU x v1010 v1011 v1015 _ _) p4194303
 have p1835007:ag N 4 false 1835007 (mI x v1010 v1011 v1015)=some r:=aQ (CT x v1010 v1011 v1015 _ _) p2097151
 have p1572863:ag N 4 false 1572863 (jy x v1010 v1011 v1015)=some r:=aQ (CS x v1010 v1011 v1015 _ _) p2097151
 have p1048575:ag N 4 false 1048575 (jx x v1010 v1011 v1015)=some r:=aQ (CQ x v1010 v1011 v1015 _ _) p2097151
 have p1703935:ag N 5 false 1703935 (mH x v1010 v1011 v1015)=some r:=aQ (CP x v1010 v1011 v1015 _ _) p1835007
 have p1310719:ag N 5 false 1310719 (mG x v1010 v1011 v1015)=some r:=aQ (CO x v1010 v1011 v1015 _ _) p1572863
 have p786431:ag N 5 false 786431 (nB x v1010 v1011 v1015)=some r:=aQ (EX x v1010 v1011 v1015 _ _) p1048575
 have p524287:ag N 5 false 524287 (nA x v1010 v1011 v1015)=some r:=aQ (EW x v1010 v1011 v1015 _ _) (aP p1048575 p1572863)
 have p1638399:ag N 6 false 1638399 (mF x v1010 v1011 v1015)=some r:=aQ (CN x v1010 v1011 v1015 _ _) p1703935
 have p1179647:ag N 6 false 1179647 (mE x v1010 v1011 v1015)=some r:=aQ (CM x v1010 v1011 v1015 _ _) p1310719
 have p655359:ag N 6 false 655359 (nw x v1010 v1011 v1015)=some r:=aQ (EV x v1010 v1011 v1015 _ _) p786431
 have p262143:ag N 6 false 262143 (nv x v1010 v1011 v1015)=some r:=aQ (EU x v1010 v1011 v1015 _ _) p524287
 have p1605631:ag N 7 false 1605631 (mD x v1010 v1011 v1015)=some r:=aQ (CL x v1010 v1011 v1015 _ _) p1638399
 have p1114111:ag N 7 false 1114111 (mC x v1010 v1011 v1015)=some r:=aQ (CK x v1010 v1011 v1015 _ _) p1179647
 have p589823:ag N 7 false 589823 (nu x v1010 v1011 v1015)=some r:=aQ (ET x v1010 v1011 v1015 _ _) p655359
 have p131071:ag N 7 false 131071 (nt x v1010 v1011 v1015)=some r:=aQ (ES x v1010 v1011 v1015 _ _) p262143
 have p1589247:ag N 8 false 1589247 (eP x v1010 v1011)=some r:=aQ (CJ x v1010 v1011 _ _) (ji hv1015 p1605631)
 have p1081343:ag N 8 false 1081343 (mB x v1010 v1011 v1015)=some r:=aQ (CI x v1010 v1011 v1015 _ _) p1114111
 have p557055:ag N 8 false 557055 (ns x v1010 v1011 v1015)=some r:=aQ (ER x v1010 v1011 v1015 _ _) p589823
 have p65535:ag N 8 false 65535 (ob x v1010 v1011 v1015)=some r:=aQ (FY x v1010 v1011 v1015 _ _) p131071
 have p1589245:ag N 9 false 1589245 (gu x v1010 v1011)=some r:=aQ (CH x v1010 v1011 _ _) p1589247
 have p1581055:ag N 9 false 1581055 (jw x v1010 v1011)=some r:=aQ (CG x v1010 v1011 _ _) p1589247
 have p1064959:ag N 9 false 1064959 (gt x v1010 v1011)=some r:=aQ (CF x v1010 v1011 _ _) (aP (ji hv1015 p1081343) p1589247)
 have p540671:ag N 9 false 540671 (ia x v1010 v1011)=some r:=aQ (EP x v1010 v1011 _ _) (aP (ji hv1015 p557055) p1589247)
 have p32767:ag N 9 false 32767 (oa x v1010 v1011 v1015)=some r:=aQ (FX x v1010 v1011 v1015 _ _) p65535
 have p1581053:ag N 10 false 1581053 (jv x v1010 v1011)=some r:=aQ (CE x v1010 v1011 _ _) p1589245
 have p1580927:ag N 10 false 1580927 (eO x v1010 v1011)=some r:=aQ (CD x v1010 v1011 _ _) p1581055
 have p1576959:ag N 10 false 1576959 (dE x v1010 v1011)=some r:=aQ (CC x v1010 v1011 _ _) p1581055
 have p1064957:ag N 10 false 1064957 (ju x v1010 v1011)=some r:=aQ (CB x v1010 v1011 _ _) (aP p1064959 p1589245)
 have p1056767:ag N 10 false 1056767 (jt x v1010 v1011)=some r:=aQ (CA x v1010 v1011 _ _) p1064959
 have p540669:ag N 10 false 540669 (jZ x v1010 v1011)=some r:=aQ (EO x v1010 v1011 _ _) (aP p540671 p1589245)
 have p532479:ag N 10 false 532479 (jY x v1010 v1011)=some r:=aQ (EN x v1010 v1011 _ _) p540671
 have p16383:ag N 10 false 16383 (kD x v1010 v1011)=some r:=aQ (FW x v1010 v1011 _ _) (aP (ji hv1015 p32767) (aP p540671 p1064959))
 have p1580925:ag N 11 false 1580925 (gr x v1010 v1011)=some r:=aQ (Cz x v1010 v1011 _ _) (aP p1580927 p1581053)
 have p1576957:ag N 11 false 1576957 (eN x v1010 v1011)=some r:=aQ (Cy x v1010 v1011 _ _) (aP p1576959 p1581053)
 have p1576831:ag N 11 false 1576831 (eM x v1010 v1011)=some r:=aQ (Cw x v1010 v1011 _ _) (aP p1576959 p1580927)
 have p1574911:ag N 11 false 1574911 (mA x v1010 v1011)=some r:=aQ (Cv x v1010 v1011 _ _) p1576959
 have p1056765:ag N 11 false 1056765 (js x v1010 v1011)=some r:=aQ (Cu x v1010 v1011 _ _) p1064957
 have p1056639:ag N 11 false 1056639 (gq x v1010 v1011)=some r:=aQ (Ct x v1010 v1011 _ _) (aP p1056767 p1580927)
 have p1052671:ag N 11 false 1052671 (eL x v1010 v1011)=some r:=aQ (Cs x v1010 v1011 _ _) (aP p1056767 p1576959)
 have p532477:ag N 11 false 532477 (jX x v1010 v1011)=some r:=aQ (EM x v1010 v1011 _ _) p540669
 have p532351:ag N 11 false 532351 (hZ x v1010 v1011)=some r:=aQ (EL x v1010 v1011 _ _) (aP p532479 p1580927)
 have p528383:ag N 11 false 528383 (fc x v1010 v1011)=some r:=aQ (EK x v1010 v1011 _ _) (aP p532479 p1576959)
 have p16381:ag N 11 false 16381 (n7 x v1010 v1011)=some r:=aQ (FV x v1010 v1011 _ _) (aP p16383 (aP p540669 p1064957))
 have p8191:ag N 11 false 8191 (lC x v1010 v1011)=some r:=aQ (Ij x v1010 v1011 _ _) p16383
 have p1576829:ag N 12 false 1576829 (gp x v1010 v1011)=some r:=aQ (Cr x v1010 v1011 _ _) (aP p1576831 (aP p1576957 p1580925))
 have p1574909:ag N 12 false 1574909 (mz x v1010 v1011)=some r:=aQ (Cq x v1010 v1011 _ _) p1576957
 have p1574783:ag N 12 false 1574783 (my x v1010 v1011)=some r:=aQ (Cp x v1010 v1011 _ _) p1576831
 have p1573887:ag N 12 false 1573887 (dD x v1010)=some r:=aQ (Co x v1010 _ _) (ji hv1011 p1574911)
 have p1056637:ag N 12 false 1056637 (jr x v1010 v1011)=some r:=aQ (Cn x v1010 v1011 _ _) (aP p1056639 (aP p1056765 p1580925))
 have p1052669:ag N 12 false 1052669 (gn x v1010 v1011)=some r:=aQ (Cm x v1010 v1011 _ _) (aP p1052671 (aP p1056765 p1576957))
 have p1052543:ag N 12 false 1052543 (gm x v1010 v1011)=some r:=aQ (Cl x v1010 v1011 _ _) (aP p1052671 (aP p1056639 p1576831))
 have p1050623:ag N 12 false 1050623 (mw x v1010 v1011)=some r:=aQ (Ck x v1010 v1011 _ _) p1052671
 have p532349:ag N 12 false 532349 (jW x v1010 v1011)=some r:=aQ (EJ x v1010 v1011 _ _) (aP p532351 (aP p532477 p1580925))
 have p528381:ag N 12 false 528381 (g9 x v1010 v1011)=some r:=aQ (EI x v1010 v1011 _ _) (aP p528383 (aP p532477 p1576957))
 have p528255:ag N 12 false 528255 (g8 x v1010 v1011)=some r:=aQ (EH x v1010 v1011 _ _) (aP p528383 (aP p532351 p1576831))
 have p526335:ag N 12 false 526335 (nr x v1010 v1011)=some r:=aQ (EG x v1010 v1011 _ _) p528383
 have p8189:ag N 12 false 8189 (lB x v1010 v1011)=some r:=aQ (Ii x v1010 v1011 _ _) p16381
 have p8063:ag N 12 false 8063 (lA x v1010 v1011)=some r:=aQ (Ih x v1010 v1011 _ _) (aP p8191 (aP p532351 p1056639))
 have p4095:ag N 12 false 4095 (iR x v1010 v1011)=some r:=aQ (Ig x v1010 v1011 _ _) (aP p8191 (aP p528383 p1052671))
 have p1574781:ag N 13 false 1574781 (mv x v1010 v1011)=some r:=aQ (Cj x v1010 v1011 _ _) p1576829
 have p1573885:ag N 13 false 1573885 (eK x v1010)=some r:=aQ (Ci x v1010 _ _) (aP p1573887 (ji hv1011 p1574909))
 have p1573759:ag N 13 false 1573759 (eJ x v1010)=some r:=aQ (Cg x v1010 _ _) (aP p1573887 (ji hv1011 p1574783))
 have p1573375:ag N 13 false 1573375 (eI x)=some r:=aQ (Cf x _ _) (ji hv1010 p1573887)
 have p1052541:ag N 13 false 1052541 (jq x v1010 v1011)=some r:=aQ (Ce x v1010 v1011 _ _) (aP p1052543 (aP p1052669 (aP p1056637 p1576829)))
 have p1050621:ag N 13 false 1050621 (mu x v1010 v1011)=some r:=aQ (Cd x v1010 v1011 _ _) p1052669
 have p1050495:ag N 13 false 1050495 (mr x v1010 v1011)=some r:=aQ (Cc x v1010 v1011 _ _) p1052543
 have p1049599:ag N 13 false 1049599 (eH x v1010)=some r:=aQ (Cb x v1010 _ _) (aP (ji hv1011 p1050623) p1573887)
 have p528253:ag N 13 false 528253 (jV x v1010 v1011)=some r:=aQ (EF x v1010 v1011 _ _) (aP p528255 (aP p528381 (aP p532349 p1576829)))
 have p526333:ag N 13 false 526333 (nq x v1010 v1011)=some r:=aQ (EE x v1010 v1011 _ _) p528381
 have p526207:ag N 13 false 526207 (np x v1010 v1011)=some r:=aQ (ED x v1010 v1011 _ _) p528255
 have p525311:ag N 13 false 525311 (fb x v1010)=some r:=aQ (EC x v1010 _ _) (aP (ji hv1011 p526335) p1573887)
 have p8061:ag N 13 false 8061 (oU x v1010 v1011)=some r:=aQ (Ie x v1010 v1011 _ _) (aP p8063 (aP p8189 (aP p532349 p1056637)))
 have p4093:ag N 13 false 4093 (lz x v1010 v1011)=some r:=aQ (Ic x v1010 v1011 _ _) (aP p4095 (aP p8189 (aP p528381 p1052669)))
 have p3967:ag N 13 false 3967 (ly x v1010 v1011)=some r:=aQ (Ib x v1010 v1011 _ _) (aP p4095 (aP p8063 (aP p528255 p1052543)))
 have p2047:ag N 13 false 2047 (oT x v1010 v1011)=some r:=aQ (Ia x v1010 v1011 _ _) p4095
 have p1573757:ag N 14 false 1573757 (gl x v1010)=some r:=aQ (Ca x v1010 _ _) (aP p1573759 (aP p1573885 (ji hv1011 p1574781)))
 have p1573373:ag N 14 false 1573373 (gk x)=some r:=aQ (B9 x _ _) (aP p1573375 (ji hv1010 p1573885))
 have p1573247:ag N 14 false 1573247 (gj x)=some r:=aQ (B8 x _ _) (aP p1573375 (ji hv1010 p1573759))
 have p1050493:ag N 14 false 1050493 (mq x v1010 v1011)=some r:=aQ (B7 x v1010 v1011 _ _) p1052541
 have p1049597:ag N 14 false 1049597 (gi x v1010)=some r:=aQ (B6 x v1010 _ _) (aP p1049599 (aP (ji hv1011 p1050621) p1573885))
 have p1049471:ag N 14 false 1049471 (gh x v1010)=some r:=aQ (B5 x v1010 _ _) (aP p1049599 (aP (ji hv1011 p1050495) p1573759))
 have p1049087:ag N 14 false 1049087 (gg x)=some r:=aQ (B4 x _ _) (aP (ji hv1010 p1049599) p1573375)
 have p526205:ag N 14 false 526205 (nn x v1010 v1011)=some r:=aQ (EB x v1010 v1011 _ _) p528253
 have p525309:ag N 14 false 525309 (g7 x v1010)=some r:=aQ (EA x v1010 _ _) (aP p525311 (aP (ji hv1011 p526333) p1573885))
 have p525183:ag N 14 false 525183 (g6 x v1010)=some r:=aQ (Ez x v1010 _ _) (aP p525311 (aP (ji hv1011 p526207) p1573759))
 have p524799:ag N 14 false 524799 (gZ x)=some r:=aQ (Ey x _ _) (aP (ji hv1010 p525311) p1573375)
 have p3965:ag N 14 false 3965 (oS x v1010 v1011)=some r:=aQ (H9 x v1010 v1011 _ _) (aP p3967 (aP p4093 (aP p8061 (aP p528253 p1052541))))
 have p2045:ag N 14 false 2045 (oQ x v1010 v1011)=some r:=aQ (H8 x v1010 v1011 _ _) p4093
 have p1919:ag N 14 false 1919 (oP x v1010 v1011)=some r:=aQ (H7 x v1010 v1011 _ _) p3967
 have p1023:ag N 14 false 1023 (iQ x v1010)=some r:=aQ (H6 x v1010 _ _) (aP (ji hv1011 p2047) (aP p525311 p1049599))
 have p1573245:ag N 15 false 1573245 (jp x)=some r:=aQ (B3 x _ _) (aP p1573247 (aP p1573373 (ji hv1010 p1573757)))
 have p1049469:ag N 15 false 1049469 (jo x v1010)=some r:=aQ (B2 x v1010 _ _) (aP p1049471 (aP p1049597 (aP (ji hv1011 p1050493) p1573757)))
 have p1049085:ag N 15 false 1049085 (jn x)=some r:=aQ (B1 x _ _) (aP p1049087 (aP (ji hv1010 p1049597) p1573373))
 have p1048959:ag N 15 false 1048959 (jm x)=some r:=aQ (B0 x _ _) (aP p1049087 (aP (ji hv1010 p1049471) p1573247))
 have p525181:ag N 15 false 525181 (jU x v1010)=some r:=aQ (Ew x v1010 _ _) (aP p525183 (aP p525309 (aP (ji hv1011 p526205) p1573757)))
 have p524797:ag N 15 false 524797 (jT x)=some r:=aQ (Ev x _ _) (aP p524799 (aP (ji hv1010 p525309) p1573373))
 have p524671:ag N 15 false 524671 (jS x)=some r:=aQ (Eu x _ _) (aP p524799 (aP (ji hv1010 p525183) p1573247))
 have p1917:ag N 15 false 1917 (oO x v1010 v1011)=some r:=aQ (H5 x v1010 v1011 _ _) p3965
 have p1021:ag N 15 false 1021 (lx x v1010)=some r:=aQ (H4 x v1010 _ _) (aP p1023 (aP (ji hv1011 p2045) (aP p525309 p1049597)))
 have p895:ag N 15 false 895 (l0 x v1010)=some r:=aQ (Ke x v1010 _ _) (aP p1023 (aP (ji hv1011 p1919) (aP p525183 p1049471)))
 have p511:ag N 15 false 511 (lZ x)=some r:=aQ (Kd x _ _) (aP (ji hv1010 p1023) (aP p524799 p1049087))
 have p1048957:ag N 16 false 1048957 (mp x)=some r:=aQ (BZ x _ _) (aP p1048959 (aP p1049085 (aP (ji hv1010 p1049469) p1573245)))
 have p524669:ag N 16 false 524669 (nm x)=some r:=aQ (Et x _ _) (aP p524671 (aP p524797 (aP (ji hv1010 p525181) p1573245)))
 have p893:ag N 16 false 893 (pX x v1010)=some r:=aQ (Kc x v1010 _ _) (aP p895 (aP p1021 (aP (ji hv1011 p1917) (aP p525181 p1049469))))
 have p509:ag N 16 false 509 (pW x)=some r:=aQ (Kb x _ _) (aP p511 (aP (ji hv1010 p1021) (aP p524797 p1049085)))
 have p383:ag N 16 false 383 (pV x)=some r:=aQ (Ka x _ _) (aP p511 (aP (ji hv1010 p895) (aP p524671 p1048959)))
 have p381:ag N 17 true 381 (pU x)=some r:=aQ (J9 x _ _) (aP p383 (aP p509 (aP (ji hv1010 p893) (aP p524669 p1048957))))
 have p125:ag N 18 true 125 (pT x)=some r:=aQ (J8 x _ _) p381
 have p61:ag N 19 true 61 (rc x)=some r:=aQ (Lz x _ _) p125
 have p29:ag N 20 true 29 (q9 x)=some r:=aQ (Ly x _ _) p61
 have p13:ag N 21 true 13 (q6 x)=some r:=aQ (Lx x _ _) p29
 have p5:ag N 22 true 5 (sp x)=some r:=aQ (NU x _ _) p13
 have p1:ag N 23 true 1 (so x)=some r:=aQ (NT x _ _) p5
 have p0:ag N 24 true 0 (n6 x)=some r:=aQ (NS x _ _) p1
 exact p0
theorem LA(x:aa)(v1010:ab)(v1011:ae)(v1015:ax):aan OE E3 fw pS Tryz.f3.ntmps (vO Tryz.f3 22) (yi fw Tryz.f3.ntmps 1000017 [] .unit [2] aE) (iM x v1010 v1011 v1015)=(match kR (x.2.2.2.2.1,(x.2.2.2.2.2.1.1,x.2.2.2.2.2.1.2.1,x.2.2.2.2.2.1.2.2.1,x.2.2.2.2.2.1.2.2.2.1,()),x.2.2.2.2.2.2.1,x.2.2.2.2.2.2.2.1,v1015.1,v1015.2.1,v1015.2.2.1,())with
|none=>none
|some (.inl v1021)=>none
|some (.inr v1022)=>
 some (.inr (v1022.1,()))):=by kernel_rfl
theorem NV(x:aa):iC fJ.toList fJ.toList (eS Tryz.f3.ntmps [0,3,4,5,12,14,16,17] Vv x)=n6 x:=by kernel_rfl
theorem NW:vO Tryz.f3 21= .seq (.region 17 fJ true) (vO Tryz.f3 22):=by kernel_rfl
theorem NX:U8 OE E3 fw pS Tryz.f3.ntmps ⟨[0,3,4,5,12,14,16,17],Vv,1000017,[],.unit,[2],aE,je⟩ (vO Tryz.f3 21):=by
 intro x out h
 have h:je x=some out:=h
 unfold je at h
 obtain⟨v1010,hv1010,h⟩:=bA h
 obtain⟨v1011,hv1011,h⟩:=bA h
 obtain⟨v1015,hv1015,h⟩:=bA h
 rw[NW]
 refine(aao (by kernel_rfl) (by kernel_rfl) (by kernel_rfl)).trans ?_
 refine(congrArg (fun af=>nK OE E3 fw fJ fJ.size true (Array.replicate fJ.size false) af _) (NV x)).trans ?_
 exact Sc x v1010 v1011 v1015 hv1010 hv1011 hv1015 _ _ ((LA x v1010 v1011 v1015).trans h)
theorem NY(x):d6 OE E3 fw pS Tryz.f3.ntmps (vO Tryz.f3 22) (eS Tryz.f3.ntmps [12,14,16,17,18,19,20] adp x) (yi fw Tryz.f3.ntmps 1000018 [] .unit [2] aE)=kR x:=by kernel_rfl
theorem Wx:FnOK G0 Tryz.prog 3 Mk:=abp (Λ:=pS) ahD Sb Tryz.func3 (by kernel_rfl) (show Tryz.f3.body=some (fe Tryz.f3) by kernel_rfl) [] Es rfl (by kernel_rfl) (by exact trivial) (by exact⟨trivial,trivial,trivial,trivial,trivial,trivial,trivial,trivial,trivial,trivial,trivial,trivial,trivial,trivial,trivial,trivial,trivial,trivial,trivial,trivial,trivial,NX,Q6 NY,trivial,trivial⟩) (by kernel_rfl)
 fun x y h=>(show th OE E3 fw pS Tryz.f3 Mk x=nJ x by kernel_rfl).trans h
end Go.Proofs.YtnambbcafhnhpaaGreatDoor
