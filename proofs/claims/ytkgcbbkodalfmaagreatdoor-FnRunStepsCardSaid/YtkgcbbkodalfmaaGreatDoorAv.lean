import Derived.Test.YtkgcbbkodalfmaaGreatDoorTy
import Derived.OrdersHeld
namespace Go.Proofs.YtkgcbbkodalfmaaGreatDoor
open Go.RowKit
set_option linter.unusedVariables false
set_option linter.unusedSimpArgs false
inductive AV where
 |junk
 |nils
 |nilp
 |dat (t:Ty) (x:t.T)
 |agg (cs:List AV)
 |tup (vs:List AV)
 |bptr (l off:Nat)
 |own (l:Nat)
 |eptr (l i k off:Nat)
 |rptr (t:Ty) (x:t.T) (off:Nat)
 |clo (f:FuncId) (caps:List AV)
inductive AO where
 |box (cs:List AV)
 |arr (e:TypeId) (t:Ty) (l:List t.T)
 |hol (e:TypeId) (t:Ty) (l:List t.T) (i:Nat) (x:t.T) (off d:Nat)
structure AF where
 tmps:List AV
 objs:List (Nat×AO)
 lock:Bool:=false
def eW(t t':Ty)(x:t.T):Option t'.T:=if h:t=t' then some (h▸x)else none
def Ty.ownAt:Ty→Nat→Option (TypeId×Ty)
 | .own e t,0=>some (e,t)
 | .pair a b,off=>if off<a.size then a.ownAt off else b.ownAt (off-a.size)
 |_,_=>none
def Hi:(t:Ty)→t.T→Nat→(t':Ty)→Option (List t'.T)
 | .own _ t,l,0,t'=>eW (.list t) (.list t') l
 | .pair a b,x,off,t'=>if off<a.size then Hi a x.1 off t' else Hi b x.2 (off-a.size) t'
 |_,_,_,_=>none
def Hj:(t:Ty)→t.T→Nat→(t':Ty)→List t'.T→Option t.T
 | .own _ t,_,0,t',l=>eW (.list t') (.list t) l
 | .pair a b,x,off,t',l=>if off<a.size then(match Hj a x.1 off t' l with
    |some y=>some (y,x.2)
    |none=>none)else(match Hj b x.2 (off-a.size) t' l with
    |some y=>some (x.1,y)
    |none=>none)
 |_,_,_,_,_=>none
def lk:List (Nat×AO)→Nat→Option AO
 | [],_=>none
 |(m,o)::r,l=>if m=l then some o else lk r l
def CN:List (Nat×AO)→Nat→List (Nat×AO)
 | [],_=>[]
 |(m,o)::r,l=>if m=l then CN r l else(m,o)::CN r l
def fP:(t:Ty)→t.T→List AV
 | .unit,_=>[]
 | .pair a b,x=>fP a x.1++fP b x.2
 | .int k,n=>[.dat (.int k) n]
 | .bool,b=>[.dat .bool b]
 | .nil,x=>[.dat .nil x]
 | .str,s=>[.dat .str s]
 | .list t,l=>[.dat (.list t) l]
 | .ptr t,x=>[.dat (.ptr t) x]
 | .fn a r,g=>[.dat (.fn a r) g]
 | .own e t,l=>[.dat (.own e t) l]
 | .box t,x=>[.dat (.box t) x]
 | .nptr t,x=>[.dat (.nptr t) x]
def AV.cells:AV→Option (List AV)
 | .dat t x=>some (fP t x)
 | .agg cs=>some cs
 | .junk=>none
 | .tup _=>none
 |v=>some [v]
def AF.get(af:AF)(t:Nat):AV:=af.tmps.getD t .junk
def AF.obj(af:AF)(l:Nat):Option AO:=lk af.objs l
def AF.cellsOf(af:AF):AV→Option (List AV)
 | .own l=>match af.obj l with
   |some (.arr _ _ _)=>some [.own l]
   |_=>none
 |v=>v.cells
def AF.put(af:AF)(d:Option Tmp)(v:AV):AF:=match d with|some d=>{af with tmps:=af.tmps.set d v}|none=>af
def AF.putObj(af:AF)(l:Nat)(o:Option AO):AF:=match o with
 |some o=>{af with objs:=(l,o)::CN af.objs l}
 |none=>{af with objs:=CN af.objs l}
def Ty.plain:Ty→Ty
 | .own _ t=>.list t.plain
 | .pair a b=>.pair a.plain b.plain
 |t=>t
theorem iI:∀t:Ty,t.plain.T=t.T
 | .own _ t=>by show List t.plain.T=List t.T;rw[iI t]
 | .pair a b=>by show(a.plain.T×b.plain.T)=(a.T×b.T);rw[iI a,iI b]
 | .int _=>rfl
 | .bool=>rfl
 | .str=>rfl
 | .unit=>rfl
 | .list _=>rfl
 | .ptr _=>rfl
 | .fn _ _=>rfl
 | .box _=>rfl
 | .nptr _=>rfl
 | .nil=>rfl
theorem zE:∀t:Ty,t.plain.size=t.size
 | .own _ t=>rfl
 | .pair a b=>by simp[Ty.plain,Ty.size,zE a,zE b]
 | .int _=>rfl
 | .bool=>rfl
 | .str=>rfl
 | .unit=>rfl
 | .list _=>rfl
 | .ptr _=>rfl
 | .fn _ _=>rfl
 | .box _=>rfl
 | .nptr _=>rfl
 | .nil=>rfl
def Ty.nobox:Ty→Bool
 | .own _ t=>t.nobox
 | .pair a b=>a.nobox&&b.nobox
 | .box _=>false
 |_=>true
def Vl(t:Ty)(xs:List t.T):List t.plain.T:=cast (congrArg List (iI t).symm) xs
def sc(objs:List (Nat×AO))(t:Ty):AV→Option t.T
 | .dat t' x=>eW t' t x
 | .nils=>match t with| .list _=>some []| .nil=>some ()|_=>none
 | .own l=>match lk objs l with|some (.arr _ t' xs)=>if t'.owned then(if t'.nobox then eW (.list t'.plain) t (Vl t' xs)else none)else eW (.list t') t xs|_=>none
 | .rptr t' x off=>if off=0 then eW (.ptr t') t x else none
 |_=>none
def IW(objs:List (Nat×AO))(t:Ty)(c:AV)(r:List AV):Option (t.T×List AV):=match sc objs t c with
 |some x=>some (x,r)
 |none=>none
def imp(objs:List (Nat×AO)):(t:Ty)→List AV→Option (t.T×List AV)
 | .unit,cs=>some ((),cs)
 | .pair a b,cs=>match imp objs a cs with
   |some (x,r)=>match imp objs b r with
    |some (y,r')=>some ((x,y),r')
    |none=>none
   |none=>none
 | .ptr t,c::r=>match c with
   | .bptr l off=>match lk objs l with
     |some (.box cs)=>match imp objs t (cs.drop off)with
      |some (x,_)=>some (x,r)
      |none=>none
     |_=>none
   |c=>IW objs (.ptr t) c r
 | .nptr t,c::r=>match c with
   | .nilp=>some (none,r)
   | .bptr l off=>match lk objs l with
     |some (.box cs)=>match imp objs t (cs.drop off)with
      |some (x,_)=>some (some x,r)
      |none=>none
     |_=>none
   | .rptr t' x off=>if off=0 then match eW t' t x with|some x=>some (some x,r)|none=>none else none
   | .dat t' x=>match eW t' (.nptr t) x with
     |some x=>some (x,r)
     |none=>match eW t' (.ptr t) x with
      |some x=>some (some x,r)
      |none=>none
   |_=>none
 | .int k,c::r=>IW objs (.int k) c r
 | .bool,c::r=>IW objs .bool c r
 | .nil,c::r=>IW objs .nil c r
 | .str,c::r=>IW objs .str c r
 | .list t,c::r=>IW objs (.list t) c r
 | .fn a b,c::r=>IW objs (.fn a b) c r
 | .own _ _,_::_=>none
 | .box _,_::_=>none
 |_,[]=>none
def AV.get0(objs:List (Nat×AO))(t:Ty):AV→Option t.T
 | .dat t' x=>eW t' t x
 | .agg cs=>if t.isAgg then match imp objs t cs with|some (x,[])=>some x|_=>none else none
 |v=>if t.isAgg then none else match imp objs t [v]with|some (x,[])=>some x|_=>none
def eI(objs:List (Nat×AO)):(a:Ty)→List AV→Option a.T
 | .pair t r,v::vs=>match v.get0 objs t with
   |some x=>match eI objs r vs with
    |some y=>some (x,y)
    |none=>none
   |none=>none
 | .unit,[]=>some ()
 |_,_=>none
def Ty.app:Ty→Ty→Ty
 | .pair a r,c=>.pair a (r.app c)
 | .unit,c=>c
 |t,_=>t
def Ty.row:Ty→Bool
 | .pair _ r=>r.row
 | .unit=>true
 |_=>false
def zF:(a:Ty)→(c:Ty)→a.T→c.T→(a.app c).T
 | .pair _ r,c,x,y=>(x.1,zF r c x.2 y)
 | .unit,_,_,y=>y
 | .int _,_,x,_=>x
 | .bool,_,x,_=>x
 | .str,_,x,_=>x
 | .list _,_,x,_=>x
 | .ptr _,_,x,_=>x
 | .fn _ _,_,x,_=>x
 | .own _ _,_,x,_=>x
 | .box _,_,x,_=>x
 | .nptr _,_,x,_=>x
 | .nil,_,x,_=>x
def xv:(r m:Ty)→(r.app m).T→r.T
 | .pair _ r,m,y=>(y.1,xv r m y.2)
 | .unit,_,_=>()
 | .int _,_,x=>x
 | .bool,_,x=>x
 | .str,_,x=>x
 | .list _,_,x=>x
 | .ptr _,_,x=>x
 | .fn _ _,_,x=>x
 | .own _ _,_,x=>x
 | .box _,_,x=>x
 | .nptr _,_,x=>x
 | .nil,_,x=>x
def Pf:(r m:Ty)→r.row=true→(r.app m).T→m.T
 | .pair _ r,m,h,y=>Pf r m h y.2
 | .unit,_,_,y=>y
 | .int _,_,h,_=>by cases h
 | .bool,_,h,_=>by cases h
 | .str,_,h,_=>by cases h
 | .list _,_,h,_=>by cases h
 | .ptr _,_,h,_=>by cases h
 | .fn _ _,_,h,_=>by cases h
 | .own _ _,_,h,_=>by cases h
 | .box _,_,h,_=>by cases h
 | .nptr _,_,h,_=>by cases h
 | .nil,_,h,_=>by cases h
def Ty.behind:Ty→Ty→Option Ty
 | .unit,t=>some t
 | .pair a r,.pair a' r'=>if a=a' then r.behind r' else none
 |_,_=>none
structure Spec where
 a:Ty
 r:Ty
 m:Ty
 row:r.row=true
 fn:a.T→Option (r.app m).T
def AV.get1(σ:FuncId→Option Spec)(objs:List (Nat×AO))(t:Ty)(v:AV):Option t.T:=
 match v with
 | .clo f caps=>match t with
   | .fn a r=>match σ f with
     |some s=>match a.behind s.a with
      |some c=>match eI objs c caps with
       |some y=>if h:a.app c=s.a∧s.r.app s.m=r∧s.m= .unit∧s.r=r∧s.a.owned=false∧s.r.owned=false∧a.row=true then some (fun x=>h.2.1▸s.fn (h.1▸zF a c x y))else none
       |none=>none
      |none=>none
     |none=>none
   |_=>none
 |v=>v.get0 objs t
def gd(σ:FuncId→Option Spec)(objs:List (Nat×AO)):(a:Ty)→List AV→Option a.T
 | .pair t r,v::vs=>match v.get1 σ objs t with
   |some x=>match gd σ objs r vs with
    |some y=>some (x,y)
    |none=>none
   |none=>none
 | .unit,[]=>some ()
 |_,_=>none
def AV.owns:AV→Bool
 | .own _| .bptr _ _| .eptr _ _ _ _| .clo _ _=>true
 | .agg cs=>cs.any fun| .own _| .bptr _ _| .eptr _ _ _ _| .clo _ _| .agg _| .tup _=>true|_=>false
 | .tup _=>true
 |_=>false
def Ty.zero:(t:Ty)→Option t.T
 | .int _=>some (0:Int)
 | .bool=>some false
 | .str=>some []
 | .list _=>some []
 | .unit=>some ()
 | .pair a b=>match a.zero,b.zero with
   |some x,some y=>some (x,y)
   |_,_=>none
 | .own _ _=>some []
 | .nptr _=>some none
 |_=>none
def Vm:Ty→List AV
 | .int k=>[.dat (.int k) (0:Int)]
 | .bool=>[.dat .bool false]
 | .str=>[.dat .str []]
 | .list _=>[.nils]
 | .unit=>[]
 | .pair a b=>Vm a++Vm b
 | .ptr _=>[.junk]
 | .fn _ _=>[.junk]
 | .own _ _=>[.nils]
 | .box _=>[.junk]
 | .nptr _=>[.nilp]
 | .nil=>[.nils]
def Ty.field:Ty→Nat→Option (Nat×Ty)
 | .pair a _,0=>some (0,a)
 | .pair a b,f+1=>(b.field f).map fun p=>(a.size+p.1,p.2)
 |_,_=>none
abbrev cf:=List (TypeId×Ty)
def cf.at(Γ:cf)(id:TypeId):Option Ty:=match Γ with
 | []=>none
 |(i,t)::r=>if i=id then some t else cf.at r id
abbrev bB:=List (TypeId×TypeId)
def bB.at(E:bB)(id:TypeId):Option TypeId:=match E with
 | []=>none
 |(i,t)::r=>if i=id then some t else bB.at r id
def Lp:Value→AV
 | .int k n=>.dat (.int k) n
 | .bool b=>.dat .bool b
 | .string s=>.dat .str s.data.toList
 | .slice none 0 0=>.nils
 | .pointer none=>.nilp
 |_=>.junk
def AF.ev(af:AF):Operand→AV
 | .tmp t=>af.get t
 | .const v=>Lp v
 | .func f=>.clo f []
 | .global _=>.junk
def AV.norm:AV→AV
 | .dat .nil _=>.nils
 |v=>v
def AF.mine(any:Bool)(af:AF):Operand→Option Nat
 | .tmp m=>match af.get m with
   | .own l=>if any||l==m then some l else none
   |_=>none
 |_=>none
def cf.cutAny:cf→Bool
 |(i,_)::(j,_)::_=>i==j
 |_=>false
def AF.cuts(any:Bool)(af:AF)(x:Operand):Option Operand→Option Operand→Option (Operand×Nat)
 |none,some hi=>match af.mine any x with
  |some l=>some (hi,l)
  |none=>none
 |_,_=>none
def aq {α:Type}(l:List α)(i:Int):Option α:=if 0≤i then l[i.toNat]? else none
section
variable {R:Type}
def aa {α:Type}(o:Option α)(K:α→Option R):Option R:=match o with
 |some v=>K v
 |none=>none
def aA(n:Nat)(x:Option R):Option R:=if n≤1099511627776 then x else none
def x5(op:BinOp)(k:IntKind)(m n:Int)(K:AV→Option R):Option R:=
 match op with
 | .add=>K (.dat (.int k) (k.wrap (m+n)))
 | .sub=>K (.dat (.int k) (k.wrap (m-n)))
 | .mul=>K (.dat (.int k) (k.wrap (m*n)))
 | .quo=>if n=0 then none else K (.dat (.int k) (k.wrap (m.tdiv n)))
 | .rem=>if n=0 then none else K (.dat (.int k) (m.tmod n))
 | .and| .or| .xor| .andNot=>K (.dat (.int k) (bits op k m n))
 | .eql=>K (.dat .bool (m==n))
 | .neq=>K (.dat .bool (m != n))
 | .lss=>K (.dat .bool (decide (m<n)))
 | .leq=>K (.dat .bool (decide (m≤n)))
 | .gtr=>K (.dat .bool (decide (m>n)))
 | .geq=>K (.dat .bool (decide (m≥n)))
 |_=>none
def Hk(op:BinOp)(k:IntKind)(m n:Int)(K:AV→Option R):Option R:=
 if n<0 then none else
 match op with
 | .shl=>K (.dat (.int k) (k.wrap (m*2^min n.toNat k.bits)))
 | .shr=>K (.dat (.int k) (m.fdiv (2^min n.toNat k.bits)))
 |_=>none
def Pg(op:BinOp)(s t:List UInt8)(K:AV→Option R):Option R:=
 match op with
 | .add=>aA (s.length+t.length) (K (.dat .str (s++t)))
 | .eql=>K (.dat .bool (s==t))
 | .neq=>K (.dat .bool (!(s==t)))
 |_=>none
def W8(op:BinOp)(x y:AV)(K:AV→Option R):Option R:=
 match x,y with
 | .dat (.int k) m,.dat (.int k') n=>
   match op with
   | .shl| .shr=>Hk op k m n K
   |_=>if k=k' then x5 op k m n K else none
 | .dat .str s,.dat .str t=>Pg op s t K
 |_,_=>none
def dy:(t:Ty)→t.T→t.T→Bool
 | .int _,x,y=>x==y
 | .bool,x,y=>x==y
 | .str,x,y=>x==y
 | .unit,_,_=>true
 | .pair a b,x,y=>dy a x.1 y.1&&dy b x.2 y.2
 | .list _,_,_=>false
 | .ptr _,_,_=>false
 | .fn _ _,_,_=>false
 | .own _ _,_,_=>false
 | .box _,_,_=>false
 | .nptr _,_,_=>false
 | .nil,_,_=>false
def Ph(t:Ty):List AV→Option (t.T×List AV)
 | .dat t' x::r=>match eW t' t x with
   |some x=>some (x,r)
   |none=>none
 |_=>none
def iv:(t:Ty)→List AV→Option (t.T×List AV)
 | .unit,cs=>some ((),cs)
 | .pair a b,cs=>match iv a cs with
   |some (x,r)=>match iv b r with
    |some (y,r')=>some ((x,y),r')
    |none=>none
   |none=>none
 | .int k,cs=>Ph (.int k) cs
 | .bool,cs=>Ph .bool cs
 | .str,cs=>Ph .str cs
 |_,_=>none
def AV.flatV(t:Ty):AV→Option t.T
 | .dat t' x=>eW t' t x
 | .agg cs=>match iv t cs with
   |some (x,[])=>some x
   |_=>none
 |_=>none
open Classical in
noncomputable def aQ(x y:Option R):Option R:=if x=y then x else none
noncomputable def IX:List Nat→(Nat→Option R)→Option R
 | [],_=>none
 | [i],f=>f i
 |i::j::r,f=>aQ (f i) (IX (j::r) f)
noncomputable def aI(x:Option R):Option R:=aQ x x
noncomputable def Hl {α:Type}(l:List α)(K:Bool→Option R):Option R:=match l with
 | []=>aQ (K true) (K false)
 |_::_=>K false
def EX(Γ:cf)(op:BinOp)(t:TypeId)(x y:AV)(K:AV→Option R):Option R:=
 match Γ.at t with
 |some ty=>if ty.isAgg=true∧ty.flat=true then match x.flatV ty,y.flatV ty with
   |some a,some b=>match op with
    | .eql=>K (.dat .bool (dy ty a b))
    | .neq=>K (.dat .bool (!dy ty a b))
    |_=>none
   |_,_=>none
  else none
 |none=>none
def qB(op:BinOp)(K:AV→Option R)(b:Bool):Option R:=match op with
 | .eql=>K (.dat .bool b)
 | .neq=>K (.dat .bool (!b))
 |_=>none
noncomputable def T8(Γ:cf)(af:AF)(op:BinOp)(t:TypeId)(x:AV)(K:AV→Option R):Option R:=
 match Γ.at t with
 |some (.list _)=>match x with
  | .nils=>qB op K true
  | .dat (.list _) l=>Hl l (qB op K)
  | .own m=>match af.obj m with
    |some (.arr _ _ xs)=>Hl xs (qB op K)
    |_=>none
  |_=>none
 |_=>none
def T9(Γ:cf)(op:BinOp)(t:TypeId)(x:AV)(K:AV→Option R):Option R:=
 match Γ.at t with
 |some (.ptr _)=>match x with
  | .nilp=>qB op K true
  | .bptr _ _=>qB op K false
  | .rptr _ _ _=>qB op K false
  | .dat (.ptr _) _=>qB op K false
  | .dat (.nptr _) x=>qB op K x.isNone
  |_=>none
 |_=>none
noncomputable def W9(Γ:cf)(af:AF)(op:BinOp)(t:TypeId)(x y:AV)(K:AV→Option R):Option R:=
 match x,y with
 |x,.nils=>T8 Γ af op t x K
 |x,.nilp=>T9 Γ op t x K
 | .agg cs,y=>EX Γ op t (.agg cs) y K
 | .dat (.pair a b) x,y=>EX Γ op t (.dat (.pair a b) x) y K
 | .dat .bool a,.dat .bool b=>match Γ.at t with
   |some .bool=>match op with
    | .eql=>K (.dat .bool (a==b))
    | .neq=>K (.dat .bool (a != b))
    |_=>none
   |_=>none
 |x,y=>W8 op x y K
def Zl(op:UnOp)(x:AV)(K:AV→Option R):Option R:=
 match op,x with
 | .not,.dat .bool b=>K (.dat .bool (!b))
 | .neg,.dat (.int k) n=>K (.dat (.int k) (k.wrap (0-n)))
 |_,_=>none
def Ua(Γ:cf)(src dst:TypeId)(x:AV)(K:AV→Option R):Option R:=
 match x,Γ.at src,Γ.at dst with
 | .dat (.int _) n,some _,some (.int k)=>K (.dat (.int k) (k.wrap n))
 |_,_,_=>none
def su(t:Ty)(cs:List AV):Option AV:=
 if cs.length=t.size then(if t.isAgg then some (.agg cs)else cs.head?)else none
def qV(Γ:cf)(af:AF)(id:TypeId)(p:AV)(K:AV→Option R):Option R:=
 match Γ.at id with
 |none=>none
 |some t=>match p with
  | .bptr l off=>match af.obj l with
    |some (.box cs)=>aa (su t ((cs.drop off).take t.size)) K
    |_=>none
  | .rptr t' x off=>if off=0∧t'=t then K (.dat t' x)else aa (su t (((fP t' x).drop off).take t.size)) K
  | .dat (.ptr t') x=>if t'=t then K (.dat t' x)else aa (su t (((fP t' x).drop 0).take t.size)) K
  | .dat (.nptr t') x=>aa x fun x=>if t'=t then K (.dat t' x)else aa (su t (((fP t' x).drop 0).take t.size)) K
  | .eptr l i k off=>match af.obj l with
    |some (.arr _ t' xs)=>match xs[i]? with
     |some x=>if k=t'.size∧t'.owned=false then(if off=0∧t'=t then K (.dat t' x)else aa (su t (((fP t' x).drop off).take t.size)) K)else none
     |none=>none
    |_=>none
  |_=>none
def we(cs vs:List AV)(off:Nat):List AV:=cs.take off++vs++cs.drop (off+vs.length)
def IY(Γ:cf)(af:AF)(id:TypeId)(p v:AV)(K:AF→Option R):Option R:=
 match Γ.at id,af.cellsOf v with
 |some t,some vs=>if vs.length=t.size∧af.lock=false then
   match p with
   | .bptr l off=>match af.obj l with
     |some (.box cs)=>if off+vs.length≤cs.length then K (af.putObj l (some (.box (we cs vs off))))else none
     |_=>none
   | .eptr l i k off=>match af.obj l with
     |some (.arr e t' xs)=>match xs[i]? with
      |some x=>match imp af.objs t' (we (fP t' x) vs off)with
       |some (y,[])=>if k=t'.size∧off+vs.length≤t'.size∧v.owns=false∧t'.owned=false then K (af.putObj l (some (.arr e t' (xs.set i y))))else none
       |_=>none
      |none=>none
     |_=>none
   |_=>none
  else none
 |_,_=>none
def Pi(Γ:cf)(id:TypeId)(p:AV)(f:Nat)(K:AV→Option R):Option R:=
 match Γ.at id with
 |none=>none
 |some t=>match t.field f with
  |none=>none
  |some (o,ft)=>if ft.size=0 then none else match p with
   | .bptr l off=>K (.bptr l (off+o))
   | .rptr t' x off=>K (.rptr t' x (off+o))
   | .dat (.ptr t') x=>K (.rptr t' x o)
   | .dat (.nptr t') x=>aa x fun x=>K (.rptr t' x o)
   | .eptr l i k off=>K (.eptr l i k (off+o))
   |_=>none
def Hm:AV→Option (List AV)
 | .agg cs=>some cs
 | .dat t x=>if t.isAgg then some (fP t x)else none
 |_=>none
def Ub(Γ:cf)(id:TypeId)(v:AV)(f:Nat)(K:AV→Option R):Option R:=
 match Γ.at id with
 |none=>none
 |some t=>match t.field f,Hm v with
  |some (o,ft),some cs=>if cs.length=t.size∧0<ft.size then aa (su ft ((cs.drop o).take ft.size)) K else none
  |_,_=>none
def tI(Γ:cf)(E:bB)(af:AF)(id:TypeId)(x i:AV)(K:AV→Option R):Option R:=
 match Γ.at id,E.at id,i with
 |some (.list t),some _,.dat (.int _) n=>match x with
  | .dat (.list t') l=>if t'=t then aa (aq l n) fun y=>K (.rptr t' y 0)else none
  | .own l=>match af.obj l with
    |some (.arr _ t' xs)=>if t'=t then aa (aq xs n) fun _=>K (.eptr l n.toNat t.size 0)else none
    |some (.hol _ t' xs _ _ _ _)=>if t'=t then aa (aq xs n) fun _=>K (.eptr l n.toNat t.size 0)else none
    |_=>none
  |_=>none
 |_,_,_=>none
def Pj(Γ:cf)(id:TypeId)(x i:AV)(K:AV→Option R):Option R:=
 match Γ.at id,x,i with
 |some .str,.dat .str s,.dat (.int _) n=>aa (aq s n) fun b=>K (.dat (.int .u8) (b.toNat:Int))
 |_,_,_=>none
def Xa(Γ:cf)(af:AF)(id:TypeId)(x:AV)(K:AV→Option R):Option R:=
 match Γ.at id with
 |some (.list _)=>match x with
  | .dat (.list _) l=>K (.dat (.int .i64) (l.length:Int))
  | .nils=>K (.dat (.int .i64) 0)
  | .own l=>match af.obj l with
    |some (.arr _ _ xs)=>K (.dat (.int .i64) (xs.length:Int))
    |some (.hol _ _ xs _ _ _ _)=>K (.dat (.int .i64) (xs.length:Int))
    |_=>none
  |_=>none
 |some .str=>match x with
  | .dat .str s=>K (.dat (.int .i64) (s.length:Int))
  |_=>none
 |_=>none
def CO(af:AF)(t:Ty)(cs:List AV):List (Nat×AV)→Option (List AV)
 | []=>some cs
 |(f,v)::rest=>match t.field f,af.cellsOf v with
  |some (o,ft),some vs=>if vs.length=ft.size∧o+vs.length≤cs.length then CO af t (we cs vs o) rest else none
  |_,_=>none
def Pk(Γ:cf)(af:AF)(id:TypeId)(parts:List (Nat×AV))(K:AV→Option R):Option R:=
 match Γ.at id with
 |none=>none
 |some t=>match t.zero with
  |none=>none
  |some _=>if t.isAgg then aa (CO af t (Vm t) parts) fun cs=>K (.agg cs)else none
def iQ:AV→Option Int
 | .dat (.int _) n=>some n
 |_=>none
def Hn(x:AV)(i:Nat)(K:AV→Option R):Option R:=
 match x with
 | .tup vs=>aa vs[i]? K
 |_=>none
def AV.ref0(l:Nat):AV→Bool
 | .own m=>m==l
 | .bptr m _=>m==l
 | .eptr m _ _ _=>m==l
 | .clo _ _=>true
 | .agg _=>true
 | .tup _=>true
 |_=>false
def AV.ref1(l:Nat):AV→Bool
 | .agg cs=>cs.any (AV.ref0 l)
 |v=>v.ref0 l
def AV.refs(l:Nat):AV→Bool
 | .clo _ cs=>cs.any (AV.ref0 l)
 | .agg cs=>cs.any (AV.ref0 l)
 | .tup cs=>cs.any (AV.ref1 l)
 |v=>v.ref0 l
def AO.refs(l:Nat):AO→Bool
 | .box cs=>cs.any (AV.refs l)
 | .arr _ _ _=>false
 | .hol _ _ _ _ _ _ d=>d==l
def AF.noref(af:AF)(l:Nat):Bool:=af.tmps.all (fun v=> !v.refs l)&&af.objs.all fun p=> !p.2.refs l
def ol(af:AF)(d:Option Tmp)(o:AO)(v:Nat→AV)(K:AF→Option R):Option R:=
 match d with
 |some d=>match af.obj d with
  |none=>if af.noref d=true∧o.refs d=false then K ((af.putObj d (some o)).put (some d) (v d))else none
  |some _=>none
 |none=>none
def oK(objs:List (Nat×AO))(t:Ty):Nat→List (Nat×AV)→Option (List t.T)
 |_,[]=>some []
 |n,(i,v)::rest=>if i=n∧v.owns=false then match v.get0 objs t with
  |some x=>match oK objs t (n+1) rest with
   |some xs=>some (x::xs)
   |none=>none
  |none=>none
  else none
def AV.scrub(l:Nat)(v:AV):AV:=if v.refs l then .junk else v
def AO.scrub(l:Nat):AO→AO
 | .box cs=>.box (cs.map (AV.scrub l))
 |o=>o
def Lq(f:AO→AO):List (Nat×AO)→List (Nat×AO)
 | []=>[]
 |(m,o)::r=>(m,f o)::Lq f r
def AF.drop(af:AF)(l:Nat):AF:={af with tmps:=af.tmps.map (AV.scrub l),objs:=Lq (AO.scrub l) (CN af.objs l)}
def AV.frz0(l:Nat)(d:AV):AV→AV
 | .own m=>if m=l then d else .own m
 |v=>v.scrub l
def AV.frz(l:Nat)(d:AV):AV→AV
 | .own m=>if m=l then d else .own m
 | .agg cs=>.agg (cs.map (AV.frz0 l d))
 |v=>v.scrub l
def AO.frz(l:Nat)(d:AV):AO→AO
 | .box cs=>.box (cs.map (AV.frz l d))
 |o=>o
def AF.freeze(af:AF)(l:Nat)(d:AV):AF:={af with tmps:=af.tmps.map (AV.frz l d),objs:=Lq (AO.frz l d) (CN af.objs l)}
def AF.frzL(af:AF)(l:Nat):AF:=match af.obj l with
 |some (.arr _ t xs)=>if t.owned then af else af.freeze l (.dat (.list t) xs)
 |_=>af
def AF.frzC(af:AF):List AV→AF
 | []=>af
 | .own l::r=>(af.frzL l).frzC r
 |_::r=>af.frzC r
def AF.frzV(af:AF):AV→AF
 | .own l=>af.frzL l
 | .agg cs=>af.frzC cs
 |_=>af
def AF.frzOps(af:AF):List Operand→AF
 | []=>af
 |x::r=>(af.frzV (af.ev x)).frzOps r
def AV.frzB(l:Nat)(t:Ty)(x:t.T):AV→AV
 | .bptr m off=>if m=l then .rptr t x off else .bptr m off
 |v=>v.scrub l
def AO.frzB(l:Nat)(t:Ty)(x:t.T):AO→AO
 | .box cs=>.box (cs.map (AV.frzB l t x))
 |o=>o
def AF.freezeB(af:AF)(l:Nat)(t:Ty)(x:t.T):AF:={af with tmps:=af.tmps.map (AV.frzB l t x),objs:=Lq (AO.frzB l t x) (CN af.objs l)}
def Td:List AV→Option Ty
 | []=>some .unit
 | .dat t _::r=>if t.isAgg then none else match Td r with
   |some u=>some (.pair t u)
   |none=>none
 |_=>none
def AF.freezeBox(af:AF)(l:Nat):AF:=match af.obj l with
 |some (.box cs)=>match Td cs with
  |some t=>match imp af.objs t cs with
   |some (x,[])=>if cs.any AV.owns then af else af.freezeB l t x
   |_=>af
  |none=>af
 |_=>af
def O5(af:AF)(o:Oper):Option Nat:=match o.op with
 | .load _ (.tmp p)=>match af.get p with
   | .bptr l _=>some l
   |_=>none
 | .fieldAddr _ (.tmp p) _=>match af.get p with
   | .bptr l _=>some l
   |_=>none
 |_=>none
def Xb(all:List Oper)(af:AF)(l:Nat)(o:Oper):Bool:=match o.op with
 | .store _ (.tmp p) _=>(match af.get p with
   | .bptr m _=>m==l
   |_=>false)||all.any fun q=>q.dst==some p&&match q.op with
    | .fieldAddr _ _ _=>O5 af q==some l
    |_=>false
 |_=>false
def Yi(all:List Oper)(af:AF)(l:Nat):Bool:=
 (match af.obj l with
   |some (.box cs)=>cs.length==5&&cs.all fun c=>match c with| .dat (.int _) _=>true|_=>false
   |_=>false)&&(all.filter fun o=>O5 af o==some l).length==1&&
 all.all fun o=>match O5 af o with
  |some m=>match af.obj m with
   |some (.box cs)=>cs.all fun c=> !c.owns
   |_=>true
  |none=>true
def lP(all:List Oper):List Oper→AF→AF
 | [],af=>af
 |o::r,af=>match O5 af o with
  |some l=>match all.any (Xb all af l)||Yi all af l with
   |true=>lP all r af
   |false=>lP all r (af.freezeBox l)
  |none=>lP all r af
def jy(d:Int):Option AV→Option Int
 |none=>some d
 |some v=>iQ v
def aL(n:Nat)(lo hi:Option AV):Option (Nat×Nat):=
 match jy 0 lo,jy n hi with
 |some a,some b=>if 0≤a∧a≤b∧b≤(n:Int)then some (a.toNat,b.toNat)else none
 |_,_=>none
def CP(Γ:cf)(E:bB)(af:AF)(id:TypeId)(x:AV)(lo hi:Option AV)(K:AF→AV→Option R):Option R:=
 match Γ.at id with
 |some (.list t)=>match E.at id with
  |none=>none
  |some _=>match x with
   | .dat (.list t') l=>if t'=t then aa (aL l.length lo hi) fun p=>K af (.dat (.list t') ((l.take p.2).drop p.1))else none
   | .own m=>match af.obj m with
     |some (.arr _ t' l)=>if t'=t∧t.owned=false then aa (aL l.length lo hi) fun p=>K (af.freeze m (.dat (.list t') l)) (.dat (.list t') ((l.take p.2).drop p.1))else none
     |_=>none
   | .nils=>aa (aL 0 lo hi) fun _=>K af .nils
   |_=>none
 |some .str=>match x with
  | .dat .str s=>aa (aL s.length lo hi) fun p=>K af (.dat .str ((s.take p.2).drop p.1))
  |_=>none
 |_=>none
def IZ(objs:List (Nat×AO))(t:Ty):AV→Option (List t.T)
 | .own l=>match lk objs l with|some (.arr _ t' ys)=>eW (.list t') (.list t) ys|_=>none
 | .nils=>some []
 | .dat t' ys=>eW t' (.list t) ys
 |_=>none
def I0(Γ:cf)(E:bB)(af:AF)(src dst:TypeId)(v:AV)(K:AV→Option R):Option R:=
 match Γ.at src,Γ.at dst,E.at src with
 |some (.list (.int .u8)),some .str,some e=>match Γ.at e with
  |some (.int .u8)=>match IZ af.objs (.int .u8) v with
   |some xs=>K (.dat .str ((xs:List Int).map fun n=>UInt8.ofNat n.toNat))
   |none=>none
  |_=>none
 |_,_,_=>none
def Lr(Γ:cf)(E:bB)(af:AF)(d:Option Tmp)(id:TypeId)(x y:AV)(K:AF→Option R):Option R:=
 match Γ.at id,E.at id with
 |some (.list t),some e=>match IZ af.objs t y with
  |none=>none
  |some ys=>if t.zero.isSome=false∨t.owned=true then none else match x with
   | .own l=>match af.obj l with
     |some (.arr e' t' xs)=>if e'=e∧y.refs l=false∧af.lock=false then match eW (.list t') (.list t) xs with
       |some xs=>aA (xs.length+ys.length) (ol (af.drop l) d (.arr e t (xs++ys)) .own K)
       |none=>none
       else none
     |_=>none
   | .nils=>aA ys.length (ol af d (.arr e t ys) .own K)
   |_=>none
 |_,_=>none
def Xc(Γ:cf)(E:bB)(af:AF)(d:Option Tmp)(id:TypeId)(l:Nat)(hi:AV)(K:AF→Option R):Option R:=
 match Γ.at id,E.at id,af.obj l with
 |some (.list t),some e,some (.arr e' t' xs)=>if e'=e∧t.owned=false then match eW (.list t') (.list t) xs with
   |some xs=>aa (aL xs.length none (some hi)) fun p=>ol (af.drop l) d (.arr e t (xs.take p.2)) .own K
   |none=>none
  else none
 |_,_,_=>none
def Pl(Γ:cf)(E:bB)(af:AF)(d:Option Tmp)(id id':TypeId)(x n:AV)(K:AF→Option R):Option R:=
 match Γ.at id,E.at id,Γ.at id',x,n with
 |some (.list t),some e,some (.int _),.nils,.dat (.int _) n=>match t.zero with
  |some z=>if t.owned then none else if 0≤n then aA n.toNat (ol af d (.arr e t (List.replicate n.toNat z)) .own K)else none
  |none=>none
 |_,_,_,_,_=>none
def Xd(Γ:cf)(id:TypeId)(x:AV)(K:AV→Option R):Option R:=
 match Γ.at id,x with
 |some (.list _),.nils=>K (.dat (.int .i64) 0)
 |_,_=>none
def zG(Γ:cf)(E:bB)(af:AF)(d:Option Tmp)(id:TypeId)(n c:AV)(K:AF→Option R):Option R:=
 match Γ.at id,E.at id,n,c with
 |some (.list t),some e,.dat (.int _) n,.dat (.int _) c=>match t.zero with
  |some z=>if 0≤n∧n≤c then aA c.toNat (ol af d (.arr e t (List.replicate n.toNat z)) .own K)else none
  |none=>none
 |_,_,_,_=>none
def xw(Γ:cf)(E:bB)(af:AF)(d:Option Tmp)(id:TypeId)(len:Nat)(parts:List (Nat×AV))(K:AF→Option R):Option R:=
 match Γ.at id,E.at id with
 |some (.list t),some e=>match oK af.objs t 0 parts with
  |some xs=>if parts.length=len∧len*t.size≤1000∧t.zero.isSome=true∧t.owned=false then ol af d (.arr e t xs) .own K else none
  |none=>none
 |_,_=>none
def Ty.flatO:Ty→Bool
 | .int _| .bool| .str| .unit=>true
 | .pair a b=>a.flatO&&b.flatO
 | .own _ t=>t.flatO
 | .box t=>t.flatO
 |_=>false
def Spec.lends(s:Spec):Bool:=s.r.flatO&&s.m.flatO
def Ty.labs:Ty→Nat
 | .own _ _=>1
 | .box t=>t.labs+1
 | .pair a b=>a.labs+b.labs
 |_=>0
def zH(d n:Nat):(t:Ty)→t.T→Nat→List AV
 | .own _ _,_,c=>[.own (d+n*c)]
 | .box _,_,c=>[.bptr (d+n*c) 0]
 | .pair a b,x,c=>zH d n a x.1 c++zH d n b x.2 (c+a.labs)
 | .unit,_,_=>[]
 | .int k,x,_=>[.dat (.int k) x]
 | .bool,x,_=>[.dat .bool x]
 | .nil,x,_=>[.dat .nil x]
 | .str,x,_=>[.dat .str x]
 | .list t,x,_=>[.dat (.list t) x]
 | .ptr t,x,_=>[.dat (.ptr t) x]
 | .fn a r,x,_=>[.dat (.fn a r) x]
 | .nptr t,x,_=>[.dat (.nptr t) x]
def eo(d n:Nat):(t:Ty)→t.T→Nat→List (Nat×AO)
 | .own e t,x,c=>[(d+n*c,.arr e t x)]
 | .box t,x,c=>(d+n*c,.box (zH d n t x (c+1)))::eo d n t x (c+1)
 | .pair a b,x,c=>eo d n a x.1 c++eo d n b x.2 (c+a.labs)
 |_,_,_=>[]
def X9(t:Ty)(cs:List AV):AV:=if t.isAgg then .agg cs else cs.headD .junk
def Ls(d n:Nat)(t:Ty)(x:t.T)(c:Nat):AV:=if t.owned then X9 t (zH d n t x c)else .dat t x
def Lt(d n:Nat):(r:Ty)→r.T→Nat→List AV
 | .pair t r,x,c=>Ls d n t x.1 c::Lt d n r x.2 (c+t.labs)
 |_,_,_=>[]
def Lu(d n:Nat):(r:Ty)→r.T→Nat→List (Nat×AO)
 | .pair t r,x,c=>(if t.owned then eo d n t x.1 c else [])++Lu d n r x.2 (c+t.labs)
 |_,_,_=>[]
def zI(d n:Nat)(r:Ty)(y:r.T):AV:=if lA r then(Lt d n r y 0).headD .junk else .tup (Lt d n r y 0)
def uw(d n:Nat):Ty→Nat→List Nat
 | .own _ _,c=>[d+n*c]
 | .box t,c=>(d+n*c)::uw d n t (c+1)
 | .pair a b,c=>uw d n a c++uw d n b (c+a.labs)
 |_,_=>[]
def x6(n:Nat):List Nat→Ty→List Nat
 |s::ss,.pair t r=>(if t.owned then uw s n t 0 else [])++x6 n ss r
 |_,_=>[]
def F4(objs:List (Nat×AO))(t:Ty)(c:AV)(r:List AV):Option (t.T×List AV×List Nat):=if c.owns then none else match imp objs t [c]with
 |some (x,[])=>some (x,r,[])
 |_=>none
def iR(objs:List (Nat×AO)):(t:Ty)→List AV→Option (t.T×List AV×List Nat)
 | .own e t,c::r=>match c with
   | .own l=>match lk objs l with
     |some (.arr e' t' xs)=>if e'=e then match eW (.list t') (.list t) xs with
       |some x=>some (x,r,[l])
       |none=>none
      else none
     |some (.hol e' t' xs i x off d)=>match lk objs d,t'.ownAt off with
      |some (.arr e2 t2 ys),some (e3,t3)=>if e'=e∧e3=e2∧t3=t2 then match Hj t' x off t2 ys with
        |some x'=>match eW (.list t') (.list t) (xs.set i x')with
         |some z=>some (z,r,[l,d])
         |none=>none
        |none=>none
       else none
      |_,_=>none
     |_=>none
   | .nils=>some ([],r,[])
   |_=>none
 | .box t,c::r=>match c with
   | .bptr l off=>if off=0 then match lk objs l with
      |some (.box cs)=>match iR objs t cs with
       |some (x,[],ls)=>some (x,r,l::ls)
       |_=>none
      |_=>none
     else none
   |_=>none
 | .pair a b,cs=>match iR objs a cs with
   |some (x,r,l1)=>match iR objs b r with
    |some (y,r',l2)=>some ((x,y),r',l1++l2)
    |none=>none
   |none=>none
 | .unit,cs=>some ((),cs,[])
 | .int k,c::r=>F4 objs (.int k) c r
 | .bool,c::r=>F4 objs .bool c r
 | .nil,c::r=>F4 objs .nil c r
 | .str,c::r=>F4 objs .str c r
 | .list t,c::r=>F4 objs (.list t) c r
 | .ptr t,c::r=>F4 objs (.ptr t) c r
 | .fn p q,c::r=>F4 objs (.fn p q) c r
 | .nptr t,c::r=>F4 objs (.nptr t) c r
 |_,[]=>none
def Ya(σ:FuncId→Option Spec)(objs:List (Nat×AO))(t:Ty)(v:AV):Option (t.T×List Nat):=
 match t.owned with
 |true=>match t.isAgg with
  |true=>match v with
   | .agg cs=>match iR objs t cs with
     |some (x,[],ls)=>some (x,ls)
     |_=>none
   |_=>none
  |false=>match iR objs t [v]with
   |some (x,[],ls)=>some (x,ls)
   |_=>none
 |false=>match v.get1 σ objs t with
  |some x=>some (x,[])
  |none=>none
def gH(σ:FuncId→Option Spec)(objs:List (Nat×AO)):(r:Ty)→List AV→Option (r.T×List Nat)
 | .pair t r,v::vs=>match Ya σ objs t v with
   |some (x,l1)=>match gH σ objs r vs with
    |some (y,l2)=>some ((x,y),l1++l2)
    |none=>none
   |none=>none
 | .unit,[]=>some ((),[])
 |_,_=>none
def fe:List Nat→Bool
 | []=>true
 |a::r=> !r.contains a&&fe r
def AV.apartC(objs:List (Nat×AO))(L:List Nat):AV→Bool
 | .own l=> !L.contains l
 | .bptr l _=> !L.contains l&&match lk objs l with
   |some (.box cs)=>cs.all fun c=> !c.owns
   |_=>false
 |c=> !c.owns
def AV.apart0(objs:List (Nat×AO))(L:List Nat):AV→Bool
 | .agg cs=>cs.all fun c=>c.apartC objs L
 |v=>v.apartC objs L
def AV.apart(objs:List (Nat×AO))(L:List Nat):AV→Bool
 | .clo _ caps=>caps.all fun c=>c.apart0 objs L
 |v=>v.apart0 objs L
def ux(objs:List (Nat×AO))(L:List Nat):Ty→List AV→Bool
 | .pair t r,v::vs=>(t.owned||L.isEmpty||v.apart objs L)&&ux objs L r vs
 |_,_=>true
def I1:Ty→List AV→Bool
 | .pair t r,v::vs=>(!t.owned&&v.owns)||I1 r vs
 |_,_=>false
def om:List AV→List Nat
 | []=>[]
 | .own l::r=>l::om r
 | .bptr l _::r=>l::om r
 |_::r=>om r
def AV.top:AV→List Nat
 | .agg cs=>om cs
 |v=>om [v]
def zJ:Ty→List AV→List Nat
 | .pair t r,v::vs=>(if t.owned then v.top else [])++zJ r vs
 |_,_=>[]
def gM(d n:Nat):(t:Ty)→t.T→List AV→Nat→Option (List (Nat×AO)×List AV)
 | .own e t,x,c::r,_=>match c with
   | .own l=>some ([(l,.arr e t x)],r)
   | .nils=>some ([],r)
   |_=>none
 | .box t,x,c::r,k=>match c with
   | .bptr l _=>some ((l,.box (zH d n t x k))::eo d n t x k,r)
   |_=>none
 | .pair a b,x,cs,k=>match gM d n a x.1 cs k with
   |some (o1,r)=>match gM d n b x.2 r (k+a.labs)with
    |some (o2,r')=>some (o1++o2,r')
    |none=>none
   |none=>none
 | .unit,_,cs,_=>some ([],cs)
 |_,_,c::r,_=>if c.owns then none else some ([],r)
 |_,_,[],_=>none
def dA(d n:Nat):(a m:Ty)→m.T→List AV→Nat→Option (List (Nat×AO))
 | .unit,.unit,_,[],_=>some []
 | .pair t r,m,y,v::vs,k=>match t.owned with
   |false=>dA d n r m y vs k
   |true=>match m,y with
    | .pair t' m',y=>match(match t'.isAgg with|true=>(match v with| .agg cs=>some cs|_=>none)|false=>some [v])with
      |some cs=>match gM d n t' y.1 cs k with
       |some (o1,[])=>match dA d n r m' y.2 vs (k+t'.labs)with
        |some o2=>some (o1++o2)
        |none=>none
       |_=>none
      |none=>none
    |_,_=>none
 |_,_,_,_,_=>none
def AF.drops(af:AF):List Nat→AF
 | []=>af
 |l::r=>(af.drop l).drops r
def zK(objs:List (Nat×AO)):List Nat→List (Nat×AO)
 | []=>objs
 |l::r=>zK (CN objs l) r
def aK:List (Nat×AO)→List Nat
 | []=>[]
 |(l,_)::r=>l::aK r
def AF.frzRow(af:AF):Ty→List AV→AF
 | .pair t r,v::vs=>(if t.owned then af else af.frzV v).frzRow r vs
 |_,_=>af
def O6(σ:FuncId→Option Spec)(af:AF)(d:Option Tmp)(s:Spec)(args:List AV)(K:AF→Option R):Option R:=
 match gH σ af.objs s.a args with
 |none=>none
 |some (x,L)=>if(af.lock&& !L.isEmpty)|| !fe L|| !ux af.objs L s.a args||(I1 s.a args&& !s.lends)then none else
  match s.fn x with
  |none=>none
  |some y=>
   let yr:=xv s.r s.m y
   let ym:=Pf s.r s.m s.row y
   let n:=af.tmps.length
   let e:=d.getD 0
   match decide (s.m= .unit)with
   |true=>
    let af1:=af.drops L
    let news:=Lu e n s.r yr 0
    if fe (aK news)&&(d.isSome||news.isEmpty)&&(aK news).all (fun l=>af1.noref l&&(af1.obj l).isNone)then
     K (AF.put {af1 with objs:=news++af1.objs} d (zI e n s.r yr))
    else none
   |false=>
    let T:=zJ s.a args
    let af1:=af.drops (L.filter fun l=> !T.contains l)
    let objs1:=zK af1.objs T
    match dA e n s.a s.m ym args s.r.labs with
    |none=>none
    |some back=>
     let news:=Lu e n s.r yr 0++back
     if fe (aK news)&&T.all (fun l=>(aK news).contains l)&&(aK news).all (fun l=>T.contains l||(d.isSome&&af1.noref l&&(lk objs1 l).isNone))then
      K (AF.put {af1 with objs:=news++objs1} d (zI e n s.r yr))
     else none
def Pm(objs:List (Nat×AO))(t:Ty)(off:Nat)(c:AV):Option t.T:=if off=0 then(match imp objs t [c]with|some (y,[])=>some y|_=>none)else none
def nl(objs:List (Nat×AO)):(t:Ty)→t.T→Nat→AV→Option t.T
 | .pair a b,x,off,c=>if off<a.size then(match nl objs a x.1 off c with
    |some y=>some (y,x.2)
    |none=>none)else(match nl objs b x.2 (off-a.size) c with
    |some y=>some (x.1,y)
    |none=>none)
 | .own _ _,_,_,_=>none
 | .box _,_,_,_=>none
 | .unit,_,_,_=>none
 | .int k,_,off,c=>Pm objs (.int k) off c
 | .bool,_,off,c=>Pm objs .bool off c
 | .str,_,off,c=>Pm objs .str off c
 |_,_,_,_=>none
def AF.deep(af:AF)(l:Nat):Bool:=match af.obj l with
 |some (.arr _ t _)=>t.owned
 |_=>false
def AF.holeB(af:AF):AV→Bool
 | .eptr l _ _ off=>match af.obj l with
   |some (.arr _ t _)=>t.owned&&(t.ownAt off).isSome
   |_=>false
 |_=>false
def Xe(Γ:cf)(af:AF)(d:Option Tmp)(id:TypeId)(p:AV)(K:AF→Option R):Option R:=match p,d with
 | .eptr l i k off,some d=>match af.obj l,Γ.at id with
   |some (.arr e t xs),some t1=>match t.ownAt off with
    |some (e2,t2)=>match xs[i]? with
     |some x=>match Hi t x off t2 with
      |some ys=>if k=t.size∧t1.size=1∧t1.isAgg=false∧af.lock=false∧d≠l∧t.owned=true then
        (if(af.obj d).isNone=true∧af.noref d=true then K (((af.putObj l (some (.hol e t xs i x off d))).putObj d (some (.arr e2 t2 ys))).put (some d) (.own d))else none)
       else none
      |none=>none
     |none=>none
    |none=>none
   |_,_=>none
 |_,_=>none
def AF.holed(af:AF):AV→Bool
 | .own l=>match af.obj l with
   |some (.hol _ _ _ _ _ _ _)=>true
   |_=>false
 |_=>false
def AF.fill(af:AF)(l:Nat):AF:=match af.obj l with
 |some (.hol e t _ _ _ _ _)=>match iR af.objs (.own e t) [.own l]with
  |some (z,[],[l',d])=>if l'=l∧d≠l then(af.drop d).putObj l (some (.arr e t z))else af
  |_=>af
 |_=>af
def AF.fillV(af:AF):AV→AF
 | .own l=>af.fill l
 |_=>af
def Pn(Γ:cf)(af:AF)(id:TypeId)(l i k off:Nat)(v:AV)(K:AF→Option R):Option R:=
 match Γ.at id,af.obj l,af.cellsOf v with
 |some t,some (.arr e t' xs),some vs=>match xs[i]? with
  |some x=>if vs.length=t.size∧k=t'.size∧off+vs.length≤t'.size∧af.lock=false then
    (if vs.length=t'.size then match iR af.objs t' vs with
      |some (y,[],ls)=>if fe (l::ls)then K ((af.drops ls).putObj l (some (.arr e t' (xs.set i y))))else none
      |_=>none
    else if v.owns then none else match vs with
     | [c]=>match nl af.objs t' x off c with
       |some y=>K (af.putObj l (some (.arr e t' (xs.set i y))))
       |none=>none
     |_=>none)
   else none
  |none=>none
 |_,_,_=>none
def Po(Γ:cf)(af:AF)(id:TypeId)(l i k off:Nat)(v:AV)(K:AF→Option R):Option R:=
 match Γ.at id,af.obj l,v with
 |some t1,some (.hol e t xs i0 x off0 _),.own m=>match af.obj m with
  |some (.arr _ _ _)=>if i=i0 then(if k=t.size∧off=off0∧t1.size=1∧af.lock=false then K (af.putObj l (some (.hol e t xs i0 x off0 m)))else none)else none
  |_=>none
 |_,_,_=>none
def Vn(Γ:cf)(id:TypeId):Bool:=match Γ.at id with
 |some (.list t)=>t.owned
 |_=>false
def zL(Γ:cf)(E:bB)(af:AF)(d:Option Tmp)(id:TypeId)(len:Nat)(parts:List (Nat×AV))(K:AF→Option R):Option R:=
 match Γ.at id,E.at id with
 |some (.list t),some e=>if t.zero.isSome=true∧t.owned=true then(match parts with
  | []=>if len=0 then ol (af.drops []) d (.arr e t []) .own K else none
  | [(i,v)]=>if i=0∧len=1∧t.size≤1000 then(match af.cellsOf v with
    |some vs=>if vs.length=t.size then(match iR af.objs t vs with
     |some (y,[],ls)=>if fe ls=true then ol (af.drops ls) d (.arr e t [y]) .own K else none
     |_=>none)else none
    |none=>none)else none
  |_=>none)else none
 |_,_=>none
def xx(Γ:cf)(E:bB)(af:AF)(d:Option Tmp)(id:TypeId)(x y:AV)(K:AF→Option R):Option R:=
 match Γ.at id,E.at id,x,y with
 |some (.list t),some e,.own l,.own m=>if t.zero.isSome=true∧t.owned=true∧l≠m∧af.lock=false then(match af.obj l,af.obj m with
  |some (.arr e' t' xs),some (.arr _ t2 ys)=>if e'=e then(match eW (.list t') (.list t) xs,eW (.list t2) (.list t) ys with
   |some xs,some ys=>aA (xs.length+ys.length) (ol ((af.drop l).drop m) d (.arr e t (xs++ys)) .own K)
   |_,_=>none)else none
  |_,_=>none)else none
 |_,_,_,_=>none
noncomputable def jm(Γ:cf)(E:bB)(σ:FuncId→Option Spec)(o:Oper)(af:AF)(K:AF→Option R):Option R:=
 match o.op with
 | .move x=>K (af.put o.dst (af.ev x).norm)
 | .assign x=>K (af.put o.dst (af.ev x))
 | .pick c a b=>match af.ev c with
   | .dat .bool t=>match t with
     |true=>K (af.put o.dst (af.ev a))
     |false=>K (af.put o.dst (af.ev b))
   |_=>none
 | .alloc id=>match Γ.at id with
   |some t=>match t.zero with
    |some _=>ol af o.dst (.box (Vm t)) (.bptr · 0) K
    |none=>none
   |none=>none
 | .box _ x=>match af.cellsOf (af.ev x)with
   |some cs=>ol af o.dst (.box cs) (.bptr · 0) K
   |none=>none
 | .load id p=>match af.holeB (af.ev p)with
   |true=>Xe Γ af o.dst id (af.ev p) K
   |false=>qV Γ af id (af.ev p) fun v=>K (af.put o.dst v)
 | .store id p v=>match o.dst with
   |none=>match af.ev p with
    | .eptr l i k off=>match af.deep l with
      |true=>Pn Γ af id l i k off (af.ev v) K
      |false=>match af.holed (.own l)with
       |true=>Po Γ af id l i k off (af.ev v) K
       |false=>let af1:=af.frzV (af.ev v);IY Γ af1 id (af1.ev p) (af1.ev v) K
    |_=>IY Γ af id (af.ev p) (af.ev v) K
   |some _=>none
 | .nilCheck x=>match af.ev x with
   | .bptr l off=>K (af.put o.dst (.bptr l off))
   | .rptr t x off=>K (af.put o.dst (.rptr t x off))
   | .dat (.ptr t) x=>K (af.put o.dst (.dat (.ptr t) x))
   | .dat (.nptr t) x=>aa x fun x=>K (af.put o.dst (.dat (.ptr t) x))
   | .dat (.fn a r) g=>K (af.put o.dst (.dat (.fn a r) g))
   | .clo f caps=>K (af.put o.dst (.clo f caps))
   |_=>none
 | .binOp op t x y _=>W9 Γ af op t (af.ev x) (af.ev y) fun v=>K (af.put o.dst v)
 | .unOp op _ x=>Zl op (af.ev x) fun v=>K (af.put o.dst v)
 | .convert s t x=>match Γ.at s with
   |some (.list _)=>I0 Γ E af s t (af.ev x) fun v=>K (af.put o.dst v)
   |_=>Ua Γ s t (af.ev x) fun v=>K (af.put o.dst v)
 | .makeFunc fn first caps=>match fn with
   | .func f=>if first.size=0 then K (af.put o.dst (.clo f (caps.toList.map af.ev)))else none
   |_=>none
 | .makeSlice id n c=>zG Γ E af o.dst id (af.ev n) (af.ev c) K
 | .buildSlice id len parts=>match Vn Γ id with
   |true=>zL Γ E af o.dst id len (parts.toList.map fun p=>(p.1,af.ev p.2)) K
   |false=>let af1:=af.frzOps (parts.toList.map (·.2));xw Γ E af1 o.dst id len (parts.toList.map fun p=>(p.1,af1.ev p.2)) K
 | .build id parts=>Pk Γ af id (parts.toList.map fun p=>(p.1,af.ev p.2)) fun v=>K (af.put o.dst v)
 | .slice id x lo hi mx=>match mx with
   |none=>match af.cuts Γ.cutAny x lo hi with
    |some (hi,l)=>Xc Γ E af o.dst id l (af.ev hi) K
    |none=>CP Γ E af id (af.ev x) (lo.map af.ev) (hi.map af.ev) fun af' v=>K (af'.put o.dst v)
   |some _=>none
 | .fieldAddr id p f=>Pi Γ id (af.ev p) f fun v=>K (af.put o.dst v)
 | .field id x f=>Ub Γ id (af.ev x) f fun v=>K (af.put o.dst v)
 | .indexAddr id x i=>match af.holed (af.ev x)with
   |true=>let af1:=af.fillV (af.ev x);tI Γ E af1 id (af1.ev x) (af1.ev i) fun v=>K (af1.put o.dst v)
   |false=>tI Γ E af id (af.ev x) (af.ev i) fun v=>K (af.put o.dst v)
 | .index id x i=>Pj Γ id (af.ev x) (af.ev i) fun v=>K (af.put o.dst v)
 | .extract x i=>Hn (af.ev x) i fun v=>K (af.put o.dst v)
 | .call c=>match c.callee with
   | .builtin b=>match b,c.args.toList with
     | .len,[x]=>match c.argTypes.toList with
       | [t]=>Xa Γ af t (af.ev x) fun v=>K (af.put o.dst v)
       |_=>none
     | .cap,[x]=>match c.argTypes.toList with
       | [t]=>Xd Γ t (af.ev x) fun v=>K (af.put o.dst v)
       |_=>none
     | .append,[x,y]=>match c.argTypes.toList with
       | [t,t']=>if t=t' then(match Vn Γ t with
         |true=>xx Γ E af o.dst t (af.ev x) (af.ev y) K
         |false=>Lr Γ E af o.dst t (af.ev x) (af.ev y) K)else Pl Γ E af o.dst t t' (af.ev x) (af.ev y) K
       |_=>none
     | .max,[x,y]=>match af.ev x,af.ev y with
       | .dat (.int k) m,.dat (.int k') n=>if k=k' then K (af.put o.dst (.dat (.int k) (if n>m then n else m)))else none
       |_,_=>none
     | .min,[x,y]=>match af.ev x,af.ev y with
       | .dat (.int k) m,.dat (.int k') n=>if k=k' then K (af.put o.dst (.dat (.int k) (if n<m then n else m)))else none
       |_,_=>none
     |_,_=>none
   | .value f=>match af.ev f with
     | .clo g caps=>match σ g with
       |some s=>match caps.isEmpty&&(I1 s.a (c.args.toList.map af.ev)&& !s.lends)with
        |true=>let af1:=af.frzRow s.a (c.args.toList.map af.ev);O6 σ af1 o.dst s (c.args.toList.map af1.ev) K
        |false=>O6 σ af o.dst s (c.args.toList.map af.ev++caps) K
       |none=>none
     | .dat (.fn a r) g=>match gd σ af.objs a (c.args.toList.map af.ev)with
       |some x=>if(c.args.toList.map af.ev).any AV.owns&& !r.flat||r.owned then none else match g x with
        |some y=>K (af.put o.dst (zI 0 0 r y))
        |none=>none
       |none=>none
     |_=>none
   | .invoke _ _=>none
 |_=>none
def AF.know(af:AF)(d:Tmp)(t:Bool):AF:=af.put (some d) (.dat .bool t)
noncomputable def uy(Γ:cf)(E:bB)(σ:FuncId→Option Spec)(all:Array Oper):List Oper→AF→(AF→Option R)→Option R
 | [],af,K=>K af
 |o::rest,af,K=>match o.guard with
  |none=>jm Γ E σ o af fun af'=>uy Γ E σ all rest af' K
  |some (j,want)=>match(all[j]?).bind (·.dst)with
   |none=>none
   |some d=>match af.get d with
    | .tup []=>uy Γ E σ all rest (af.put o.dst (.tup [])) K
    | .dat .bool t=>match t with
      |true=>if want then jm Γ E σ o (af.know d true) fun af'=>uy Γ E σ all rest af' K else uy Γ E σ all rest ((af.know d true).put o.dst (.tup [])) K
      |false=>if want then uy Γ E σ all rest ((af.know d false).put o.dst (.tup [])) K else jm Γ E σ o (af.know d false) fun af'=>uy Γ E σ all rest af' K
    |_=>none
noncomputable def zM(Γ:cf)(E:bB)(σ:FuncId→Option Spec)(all:Array Oper)(o:Oper)(af:AF)(K:AF→Option R):Option R:=
 match o.guard with
 |none=>jm Γ E σ o af K
 |some (j,want)=>match(all[j]?).bind (·.dst)with
  |none=>none
  |some d=>match af.get d with
   | .tup []=>K (af.put o.dst (.tup []))
   | .dat .bool t=>match t with
     |true=>if want then jm Γ E σ o (af.know d true) K else K ((af.know d true).put o.dst (.tup []))
     |false=>if want then K ((af.know d false).put o.dst (.tup []))else jm Γ E σ o (af.know d false) K
   |_=>none
def eG(lk:Bool)(af:AF)(fresh:Bool)(o:Oper):Bool:=match o.op with
 | .move _| .assign _| .nilCheck _| .pick _ _ _| .binOp _ _ _ _ _| .unOp _ _ _| .fieldAddr _ _ _| .field _ _ _| .extract _ _=>true
 | .indexAddr _ x _=> !af.holed (af.ev x)
 | .convert _ _ x=>match af.ev x with
   | .dat (.int _) _=>true
   |_=>false
 | .load _ p=>fresh&&match af.ev p with
   | .tup []=>true
   | .bptr _ _=>lk
   | .eptr l i k off=>lk&& !af.holeB (.eptr l i k off)
   | .rptr _ _ _=>true
   | .dat (.ptr _) _=>true
   | .dat (.nptr _) _=>true
   |_=>false
 | .slice _ x _ _ mx=>mx.isNone&&match af.ev x with
   | .dat _ _=>true
   | .nils=>true
   |_=>false
 |_=>false
def oL(lk:Bool)(all:Array Oper)(af:AF)(fresh:Bool)(j:Nat):Bool:=match all[j]? with
 |some o=>eG lk af fresh o
 |none=>false
def Vo(σ:FuncId→Option Spec)(o:Oper):Bool:=match o.op with
 | .store _ _ _=>false
 | .call c=>match c.callee with
   | .builtin b=>match b with
     | .append=>false
     |_=>true
   | .value f=>match f with
     | .func g=>match σ g with
       |some s=> !s.a.owned
       |none=>true
     |_=>true
   | .invoke _ _=>false
 |_=>true
noncomputable def qW(Γ:cf)(E:bB)(σ:FuncId→Option Spec)(all:Array Oper):Nat→Bool→Array Bool→AF→(AF→Option R)→Option R
 |0,_,listed,af,K=>match Region.ready .any all listed with
  | []=>K af
  |_::_=>none
 |fuel+1,fresh,listed,af,K=>match Region.ready .any all listed with
  | []=>K af
  |i::r=>match(i::r).find? (fun j=>oL false all af fresh j&&Region.free .any all listed j)with
   |some j=>match all[j]? with
    |some o=>zM Γ E σ all o af fun af'=>qW Γ E σ all fuel fresh (listed.setIfInBounds j true) af' K
    |none=>none
   |none=>IX (i::r) fun j=>match all[j]? with
    |some o=>zM Γ E σ all o af fun af'=>qW Γ E σ all fuel false (listed.setIfInBounds j true) af' K
    |none=>none
noncomputable def wg(Γ:cf)(E:bB)(σ:FuncId→Option Spec)(all:Array Oper):Nat→Array Bool→AF→(AF→Option R)→Option R
 |0,listed,af,K=>match Region.ready .any all listed with
  | []=>K af
  |_::_=>none
 |fuel+1,listed,af,K=>match Region.ready .any all listed with
  | []=>K af
  |i::r=>match(i::r).find? (fun j=>oL true all af true j&&Region.free .any all listed j)with
   |some j=>match all[j]? with
    |some o=>zM Γ E σ all o af fun af'=>wg Γ E σ all fuel (listed.setIfInBounds j true) {af' with lock:=true} K
    |none=>none
   |none=>IX (i::r) fun j=>match all[j]? with
    |some o=>zM Γ E σ all o af fun af'=>wg Γ E σ all fuel (listed.setIfInBounds j true) {af' with lock:=true} K
    |none=>none
def pm(all:Array Oper)(listed:Array Bool):Nat→Nat→Nat→Bool
 |0,_,_=>false
 |n+1,k,i=>match all[k]? with
  |none=>false
  |some o=>o.after.any fun e=>Region.binds .any e&&(e.on==i||(!listed.getD e.on true&&pm all listed n e.on i))
def kX(σ:FuncId→Option Spec)(all:Array Oper)(j:Nat):Bool:=match all[j]? with
 |some o=> !Vo σ o
 |none=>false
def Te(σ:FuncId→Option Spec)(all:Array Oper)(listed:Array Bool)(i:Nat):Bool:=
 (List.range all.size).all fun k=>listed.getD k true||k==i|| !kX σ all k||pm all listed 8 k i
def aaI(all:Array Oper):Bool:=all.any (fun o=>match o.op with| .alloc _=>true|_=>false)&&all.any (fun o=>match o.op with| .call c=>(match c.callee with| .value _=>true|_=>false)|_=>false)||
 decide (2≤(all.toList.filter fun o=>match o.op with| .call c=>(match c.callee with| .builtin b=>(match b with| .append=>true|_=>false)|_=>false)|_=>false).length)&&decide (2≤(all.toList.filter fun o=>match o.op with| .buildSlice _ _ _=>true|_=>false).length)
noncomputable def wh(Γ:cf)(E:bB)(σ:FuncId→Option Spec)(all:Array Oper):Nat→Array Bool→AF→(AF→Option R)→Option R
 |0,listed,af,K=>match Region.ready .any all listed with
  | []=>K {af with lock:=false}
  |_::_=>none
 |fuel+1,listed,af,K=>match Region.ready .any all listed with
  | []=>K {af with lock:=false}
  |i::r=>match(i::r).find? (fun j=> !kX σ all j&&Region.free .any all listed j&&(oL false all af false j||oL true all af true j&&Te σ all listed j))with
   |some j=>match all[j]? with
    |some o=>zM Γ E σ all o af fun af'=>wh Γ E σ all fuel (listed.setIfInBounds j true) {af' with lock:=true} K
    |none=>none
   |none=>IX (i::r) fun j=>match all[j]? with
    |some o=>match kX σ all j with
     |false=>zM Γ E σ all o af fun af'=>wh Γ E σ all fuel (listed.setIfInBounds j true) {af' with lock:=true} K
     |true=>zM Γ E σ all o {af with lock:=false} fun af'=>qW Γ E σ all fuel false (listed.setIfInBounds j true) af' K
    |none=>none
inductive Ex where
 |normal
 |exit (id:Nat)
 |ret
def AF.blank(n:Nat):AF:=⟨List.replicate n .junk,[],false⟩
def eX(n:Nat):List Nat→(t:Ty)→t.T→AF
 |s::ss,.pair t r,x=>⟨(eX n ss r x.2).tmps.set s (Ls s n t x.1 0),(if t.owned then eo s n t x.1 0 else [])++(eX n ss r x.2).objs,false⟩
 |_,_,_=>AF.blank n
def F5(σ:FuncId→Option Spec)(n:Nat)(af:AF)(ss:List Nat)(t:Ty):Option t.T:=
 if !af.lock&&decide (af.tmps.length=n)&&fe ss&&ss.all (fun s=>decide (s<n))&&fe (x6 n ss t)then
  match gH σ af.objs t (ss.map af.get)with
  |some (x,L)=>if fe L&&ux af.objs L t (ss.map af.get)then some x else none
  |none=>none
 else none
structure ay where
 ss:List Nat
 t:Ty
 brk:Nat
 bs:List Nat
 bt:Ty
 rs:List Nat
 rt:Ty
 L:t.T→Option (bt.T ⊕ rt.T)
def cV:Code→Nat
 | .region id _ _=>id
 | .seq a _=>cV a
 | .block _ c=>cV c
 | .scope c=>cV c
 | .loop c=>cV c+1000
 |_=>0
def rm(c:Code):Nat:=cV c+1000000
noncomputable def eY(Γ:cf)(E:bB)(σ:FuncId→Option Spec)(Λ:Nat→Option ay)(n:Nat):Code→AF→(Ex→AF→Option R)→Option R
 | .skip,af,K=>K .normal af
 | .label _,af,K=>K .normal af
 | .region _ ops draw,af,K=>match draw with
   |true=>match Region.noSelect ops with
    |true=>match ops.all (Vo σ)with
     |true=>wg Γ E σ ops ops.size (Array.replicate ops.size false) {af with lock:=true} fun af'=>K .normal {af' with lock:=af.lock}
     |false=>match af.lock with
      |true=>none
      |false=>match aaI ops with
       |true=>wh Γ E σ ops ops.size (Array.replicate ops.size false) {af with lock:=true} (K .normal)
       |false=>qW Γ E σ ops ops.size true (Array.replicate ops.size false) (lP ops.toList ops.toList af) (K .normal)
    |false=>none
   |false=>uy Γ E σ ops ops.toList af (K .normal)
 | .seq a b,af,K=>eY Γ E σ Λ n a af fun e af'=>match e with
   | .normal=>match Λ (rm b)with
     |none=>eY Γ E σ Λ n b af' K
     |some ls=>match F5 σ n af' ls.ss ls.t with
      |none=>none
      |some x=>match ls.L x with
       |none=>none
       |some (.inl y)=>K (.exit ls.brk) (eX n ls.bs ls.bt y)
       |some (.inr z)=>K .ret (eX n ls.rs ls.rt z)
   |e=>K e af'
 | .cond c x y,af,K=>match c with
   | .tmp d=>match af.get d with
     | .dat .bool t=>match t with
       |true=>eY Γ E σ Λ n x (af.know d true) K
       |false=>eY Γ E σ Λ n y (af.know d false) K
     |_=>none
   | .const (.bool t)=>match t with
     |true=>eY Γ E σ Λ n x af K
     |false=>eY Γ E σ Λ n y af K
   |_=>none
 | .block id c,af,K=>eY Γ E σ Λ n c af fun e af'=>match e with
   | .exit i=>if i=id then K .normal af' else K (.exit i) af'
   |e=>K e af'
 | .loop c,af,K=>match Λ (cV c)with
   |none=>none
   |some ls=>match F5 σ n af ls.ss ls.t with
    |none=>none
    |some x=>match ls.L x with
     |none=>none
     |some (.inl y)=>K (.exit ls.brk) (eX n ls.bs ls.bt y)
     |some (.inr z)=>K .ret (eX n ls.rs ls.rt z)
 | .exit id,af,K=>K (.exit id) af
 | .ret,af,K=>K .ret af
 |_,_,_=>none
end
def lQ:Ty→Nat
 | .pair _ r=>lQ r+1
 |_=>0
def Zm(n:Nat)(a:Ty)(x:a.T):AF:=eX n (List.range (lQ a)) a x
def oM(Γ:cf)(af:AF):List ResultVar→Option (List AV)
 | []=>some []
 | .tmp t::r=>match oM Γ af r with
   |some vs=>some (af.get t::vs)
   |none=>none
 | .cell a id::r=>match qV Γ af id (af.get a) some,oM Γ af r with
   |some v,some vs=>some (v::vs)
   |_,_=>none
def c9(af:AF):(a m:Ty)→Nat→Option (m.T×List Nat)
 | .unit,.unit,_=>some ((),[])
 | .pair t r,m,i=>match t.owned with
   |false=>c9 af r m (i+1)
   |true=>match m with
    | .pair t' m'=>match decide (t'=t),Ya (fun _=>none) af.objs t' (af.get i)with
      |true,some (x,l1)=>match c9 af r m' (i+1)with
       |some (y,l2)=>some ((x,y),l1++l2)
       |none=>none
      |_,_=>none
    |_=>none
 |_,_,_=>none
def I2(af:AF)(a m:Ty):Option (m.T×List Nat):=match m with
 | .unit=>some ((),[])
 |m=>c9 af a m 0
def jF:Ty→Nat→List Nat
 | .pair t r,i=>if t.owned then i::jF r (i+1)else jF r (i+1)
 |_,_=>[]
def kG(k:List Nat):Code→Bool
 | .region _ ops _=>k.isEmpty||ops.all fun o=>match o.dst with|some d=> !k.contains d|none=>true
 | .seq a b=>kG k a&&kG k b
 | .cond _ a b=>kG k a&&kG k b
 | .block _ c=>kG k c
 | .loop c=>kG k c
 |_=>true
noncomputable def rn(Γ:cf)(E:bB)(σ:FuncId→Option Spec)(Λ:Nat→Option ay)(fn:Func)(s:Spec)(x:s.a.T):Option (s.r.app s.m).T:=
 match fn.body with
 |none=>none
 |some c=>if !(fe (x6 fn.ntmps (List.range (lQ s.a)) s.a)&&decide (lQ s.a≤fn.ntmps))then none else eY Γ E σ Λ fn.ntmps c (Zm fn.ntmps s.a x) fun e af=>match e with
  | .exit _=>none
  |_=>match oM Γ af fn.results.toList with
   |none=>none
   |some vs=>match gH σ af.objs s.r vs,I2 af s.a s.m with
    |some (y,l1),some (z,l2)=>if !af.lock&&fe (l1++l2)&&ux af.objs (l1++l2) s.r vs then some (zF s.r s.m y z)else none
    |_,_=>none
end Go.Proofs.YtkgcbbkodalfmaaGreatDoor
