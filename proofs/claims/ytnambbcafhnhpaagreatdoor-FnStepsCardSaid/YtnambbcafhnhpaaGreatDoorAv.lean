import Derived.Test.YtnambbcafhnhpaaGreatDoorTy
import Derived.OrdersHeld
namespace Go.Proofs.YtnambbcafhnhpaaGreatDoor
open Go.RowKit
set_option linter.unusedVariables false
set_option linter.unusedSimpArgs false
inductive AV where
 |junk
 |nils
 |nilp
 |dat (t:Ty) (x:t.T)
 |agg (cs:List AV)
 |tup (vs:List AV)
 |bptr (l off:Nat)
 |own (l:Nat)
 |eptr (l i k off:Nat)
 |rptr (t:Ty) (x:t.T) (off:Nat)
 |clo (f:FuncId) (caps:List AV)
inductive AO where
 |box (cs:List AV)
 |arr (e:TypeId) (t:Ty) (l:List t.T)
 |hol (e:TypeId) (t:Ty) (l:List t.T) (i:Nat) (x:t.T) (off d:Nat)
structure AF where
 tmps:List AV
 objs:List (Nat×AO)
 lock:Bool:=false
def fZ(t t':Ty)(x:t.T):Option t'.T:=if h:t=t' then some (h▸x)else none
def Ty.ownAt:Ty→Nat→Option (TypeId×Ty)
 | .own e t,0=>some (e,t)
 | .pair a b,off=>if off<a.size then a.ownAt off else b.ownAt (off-a.size)
 |_,_=>none
def Mv:(t:Ty)→t.T→Nat→(t':Ty)→Option (List t'.T)
 | .own _ t,l,0,t'=>fZ (.list t) (.list t') l
 | .pair a b,x,off,t'=>if off<a.size then Mv a x.1 off t' else Mv b x.2 (off-a.size) t'
 |_,_,_,_=>none
def Mw:(t:Ty)→t.T→Nat→(t':Ty)→List t'.T→Option t.T
 | .own _ t,_,0,t',l=>fZ (.list t') (.list t) l
 | .pair a b,x,off,t',l=>if off<a.size then(match Mw a x.1 off t' l with
    |some y=>some (y,x.2)
    |none=>none)else(match Mw b x.2 (off-a.size) t' l with
    |some y=>some (x.1,y)
    |none=>none)
 |_,_,_,_,_=>none
def lk:List (Nat×AO)→Nat→Option AO
 | [],_=>none
 |(m,o)::r,l=>if m=l then some o else lk r l
def Ik:List (Nat×AO)→Nat→List (Nat×AO)
 | [],_=>[]
 |(m,o)::r,l=>if m=l then Ik r l else(m,o)::Ik r l
def ie:(t:Ty)→t.T→List AV
 | .unit,_=>[]
 | .pair a b,x=>ie a x.1++ie b x.2
 | .int k,n=>[.dat (.int k) n]
 | .bool,b=>[.dat .bool b]
 | .nil,x=>[.dat .nil x]
 | .str,s=>[.dat .str s]
 | .list t,l=>[.dat (.list t) l]
 | .ptr t,x=>[.dat (.ptr t) x]
 | .fn a r,g=>[.dat (.fn a r) g]
 | .own e t,l=>[.dat (.own e t) l]
 | .box t,x=>[.dat (.box t) x]
 | .nptr t,x=>[.dat (.nptr t) x]
def AV.cells:AV→Option (List AV)
 | .dat t x=>some (ie t x)
 | .agg cs=>some cs
 | .junk=>none
 | .tup _=>none
 |v=>some [v]
def AF.get(af:AF)(t:Nat):AV:=af.tmps.getD t .junk
def AF.obj(af:AF)(l:Nat):Option AO:=lk af.objs l
def AF.cellsOf(af:AF):AV→Option (List AV)
 | .own l=>match af.obj l with
   |some (.arr _ _ _)=>some [.own l]
   |_=>none
 |v=>v.cells
def AF.put(af:AF)(d:Option Tmp)(v:AV):AF:=match d with|some d=>{af with tmps:=af.tmps.set d v}|none=>af
def AF.putObj(af:AF)(l:Nat)(o:Option AO):AF:=match o with
 |some o=>{af with objs:=(l,o)::Ik af.objs l}
 |none=>{af with objs:=Ik af.objs l}
def Ty.plain:Ty→Ty
 | .own _ t=>.list t.plain
 | .pair a b=>.pair a.plain b.plain
 |t=>t
theorem kM:∀t:Ty,t.plain.T=t.T
 | .own _ t=>by show List t.plain.T=List t.T;rw[kM t]
 | .pair a b=>by show(a.plain.T×b.plain.T)=(a.T×b.T);rw[kM a,kM b]
 | .int _=>rfl
 | .bool=>rfl
 | .str=>rfl
 | .unit=>rfl
 | .list _=>rfl
 | .ptr _=>rfl
 | .fn _ _=>rfl
 | .box _=>rfl
 | .nptr _=>rfl
 | .nil=>rfl
theorem Fa:∀t:Ty,t.plain.size=t.size
 | .own _ t=>rfl
 | .pair a b=>by simp[Ty.plain,Ty.size,Fa a,Fa b]
 | .int _=>rfl
 | .bool=>rfl
 | .str=>rfl
 | .unit=>rfl
 | .list _=>rfl
 | .ptr _=>rfl
 | .fn _ _=>rfl
 | .box _=>rfl
 | .nptr _=>rfl
 | .nil=>rfl
def Ty.nobox:Ty→Bool
 | .own _ t=>t.nobox
 | .pair a b=>a.nobox&&b.nobox
 | .box _=>false
 |_=>true
def aaU(t:Ty)(xs:List t.T):List t.plain.T:=cast (congrArg List (kM t).symm) xs
def sc(objs:List (Nat×AO))(t:Ty):AV→Option t.T
 | .dat t' x=>fZ t' t x
 | .nils=>match t with| .list _=>some []| .nil=>some ()|_=>none
 | .own l=>match lk objs l with|some (.arr _ t' xs)=>if t'.owned then(if t'.nobox then fZ (.list t'.plain) t (aaU t' xs)else none)else fZ (.list t') t xs|_=>none
 | .rptr t' x off=>if off=0 then fZ (.ptr t') t x else none
 |_=>none
def N9(objs:List (Nat×AO))(t:Ty)(c:AV)(r:List AV):Option (t.T×List AV):=match sc objs t c with
 |some x=>some (x,r)
 |none=>none
def imp(objs:List (Nat×AO)):(t:Ty)→List AV→Option (t.T×List AV)
 | .unit,cs=>some ((),cs)
 | .pair a b,cs=>match imp objs a cs with
   |some (x,r)=>match imp objs b r with
    |some (y,r')=>some ((x,y),r')
    |none=>none
   |none=>none
 | .ptr t,c::r=>match c with
   | .bptr l off=>match lk objs l with
     |some (.box cs)=>match imp objs t (cs.drop off)with
      |some (x,_)=>some (x,r)
      |none=>none
     |_=>none
   |c=>N9 objs (.ptr t) c r
 | .nptr t,c::r=>match c with
   | .nilp=>some (none,r)
   | .bptr l off=>match lk objs l with
     |some (.box cs)=>match imp objs t (cs.drop off)with
      |some (x,_)=>some (some x,r)
      |none=>none
     |_=>none
   | .rptr t' x off=>if off=0 then match fZ t' t x with|some x=>some (some x,r)|none=>none else none
   | .dat t' x=>match fZ t' (.nptr t) x with
     |some x=>some (x,r)
     |none=>match fZ t' (.ptr t) x with
      |some x=>some (some x,r)
      |none=>none
   |_=>none
 | .int k,c::r=>N9 objs (.int k) c r
 | .bool,c::r=>N9 objs .bool c r
 | .nil,c::r=>N9 objs .nil c r
 | .str,c::r=>N9 objs .str c r
 | .list t,c::r=>N9 objs (.list t) c r
 | .fn a b,c::r=>N9 objs (.fn a b) c r
 | .own _ _,_::_=>none
 | .box _,_::_=>none
 |_,[]=>none
def AV.get0(objs:List (Nat×AO))(t:Ty):AV→Option t.T
 | .dat t' x=>fZ t' t x
 | .agg cs=>if t.isAgg then match imp objs t cs with|some (x,[])=>some x|_=>none else none
 |v=>if t.isAgg then none else match imp objs t [v]with|some (x,[])=>some x|_=>none
def fN(objs:List (Nat×AO)):(a:Ty)→List AV→Option a.T
 | .pair t r,v::vs=>match v.get0 objs t with
   |some x=>match fN objs r vs with
    |some y=>some (x,y)
    |none=>none
   |none=>none
 | .unit,[]=>some ()
 |_,_=>none
def Ty.app:Ty→Ty→Ty
 | .pair a r,c=>.pair a (r.app c)
 | .unit,c=>c
 |t,_=>t
def Ty.row:Ty→Bool
 | .pair _ r=>r.row
 | .unit=>true
 |_=>false
def Fb:(a:Ty)→(c:Ty)→a.T→c.T→(a.app c).T
 | .pair _ r,c,x,y=>(x.1,Fb r c x.2 y)
 | .unit,_,_,y=>y
 | .int _,_,x,_=>x
 | .bool,_,x,_=>x
 | .str,_,x,_=>x
 | .list _,_,x,_=>x
 | .ptr _,_,x,_=>x
 | .fn _ _,_,x,_=>x
 | .own _ _,_,x,_=>x
 | .box _,_,x,_=>x
 | .nptr _,_,x,_=>x
 | .nil,_,x,_=>x
def BF:(r m:Ty)→(r.app m).T→r.T
 | .pair _ r,m,y=>(y.1,BF r m y.2)
 | .unit,_,_=>()
 | .int _,_,x=>x
 | .bool,_,x=>x
 | .str,_,x=>x
 | .list _,_,x=>x
 | .ptr _,_,x=>x
 | .fn _ _,_,x=>x
 | .own _ _,_,x=>x
 | .box _,_,x=>x
 | .nptr _,_,x=>x
 | .nil,_,x=>x
def UA:(r m:Ty)→r.row=true→(r.app m).T→m.T
 | .pair _ r,m,h,y=>UA r m h y.2
 | .unit,_,_,y=>y
 | .int _,_,h,_=>by cases h
 | .bool,_,h,_=>by cases h
 | .str,_,h,_=>by cases h
 | .list _,_,h,_=>by cases h
 | .ptr _,_,h,_=>by cases h
 | .fn _ _,_,h,_=>by cases h
 | .own _ _,_,h,_=>by cases h
 | .box _,_,h,_=>by cases h
 | .nptr _,_,h,_=>by cases h
 | .nil,_,h,_=>by cases h
def Ty.behind:Ty→Ty→Option Ty
 | .unit,t=>some t
 | .pair a r,.pair a' r'=>if a=a' then r.behind r' else none
 |_,_=>none
structure ai where
 a:Ty
 r:Ty
 m:Ty
 row:r.row=true
 fn:a.T→Option (r.app m).T
def AV.get1(σ:FuncId→Option ai)(objs:List (Nat×AO))(t:Ty)(v:AV):Option t.T:=
 match v with
 | .clo f caps=>match t with
   | .fn a r=>match σ f with
     |some s=>match a.behind s.a with
      |some c=>match fN objs c caps with
       |some y=>if h:a.app c=s.a∧s.r.app s.m=r∧s.m= .unit∧s.r=r∧s.a.owned=false∧s.r.owned=false∧a.row=true then some (fun x=>h.2.1▸s.fn (h.1▸Fb a c x y))else none
       |none=>none
      |none=>none
     |none=>none
   |_=>none
 |v=>v.get0 objs t
def iy(σ:FuncId→Option ai)(objs:List (Nat×AO)):(a:Ty)→List AV→Option a.T
 | .pair t r,v::vs=>match v.get1 σ objs t with
   |some x=>match iy σ objs r vs with
    |some y=>some (x,y)
    |none=>none
   |none=>none
 | .unit,[]=>some ()
 |_,_=>none
def AV.owns:AV→Bool
 | .own _| .bptr _ _| .eptr _ _ _ _| .clo _ _=>true
 | .agg cs=>cs.any fun| .own _| .bptr _ _| .eptr _ _ _ _| .clo _ _| .agg _| .tup _=>true|_=>false
 | .tup _=>true
 |_=>false
def Ty.zero:(t:Ty)→Option t.T
 | .int _=>some (0:Int)
 | .bool=>some false
 | .str=>some []
 | .list _=>some []
 | .unit=>some ()
 | .pair a b=>match a.zero,b.zero with
   |some x,some y=>some (x,y)
   |_,_=>none
 | .own _ _=>some []
 | .nptr _=>some none
 |_=>none
def zAV:Ty→List AV
 | .int k=>[.dat (.int k) (0:Int)]
 | .bool=>[.dat .bool false]
 | .str=>[.dat .str []]
 | .list _=>[.nils]
 | .unit=>[]
 | .pair a b=>zAV a++zAV b
 | .ptr _=>[.junk]
 | .fn _ _=>[.junk]
 | .own _ _=>[.nils]
 | .box _=>[.junk]
 | .nptr _=>[.nilp]
 | .nil=>[.nils]
def Ty.field:Ty→Nat→Option (Nat×Ty)
 | .pair a _,0=>some (0,a)
 | .pair a b,f+1=>(b.field f).map fun p=>(a.size+p.1,p.2)
 |_,_=>none
abbrev cD:=List (TypeId×Ty)
def cD.at(Γ:cD)(id:TypeId):Option Ty:=match Γ with
 | []=>none
 |(i,t)::r=>if i=id then some t else cD.at r id
abbrev bR:=List (TypeId×TypeId)
def bR.at(E:bR)(id:TypeId):Option TypeId:=match E with
 | []=>none
 |(i,t)::r=>if i=id then some t else bR.at r id
def QN:Value→AV
 | .int k n=>.dat (.int k) n
 | .bool b=>.dat .bool b
 | .string s=>.dat .str s.data.toList
 | .slice none 0 0=>.nils
 | .pointer none=>.nilp
 |_=>.junk
def AF.ev(af:AF):Operand→AV
 | .tmp t=>af.get t
 | .const v=>QN v
 | .func f=>.clo f []
 | .global _=>.junk
def AV.norm:AV→AV
 | .dat .nil _=>.nils
 |v=>v
def AF.mine(any:Bool)(af:AF):Operand→Option Nat
 | .tmp m=>match af.get m with
   | .own l=>if any||l==m then some l else none
   |_=>none
 |_=>none
def cD.noQ:cD→Bool
 |_::(i,_)::(j,_)::_=>i==j
 |_=>false
def cD.cutAny:cD→Bool
 |(i,_)::(j,_)::_=>i==j
 |_=>false
def AF.cuts(any:Bool)(af:AF)(x:Operand):Option Operand→Option Operand→Option (Operand×Nat)
 |none,some hi=>match af.mine any x with
  |some l=>some (hi,l)
  |none=>none
 |_,_=>none
def aI {α:Type}(l:List α)(i:Int):Option α:=if 0≤i then l[i.toNat]? else none
section
variable {R:Type}
def ac {α:Type}(o:Option α)(K:α→Option R):Option R:=match o with
 |some v=>K v
 |none=>none
def bd(n:Nat)(x:Option R):Option R:=if n≤1099511627776 then x else none
def C7(op:BinOp)(k:IntKind)(m n:Int)(K:AV→Option R):Option R:=
 match op with
 | .add=>K (.dat (.int k) (k.wrap (m+n)))
 | .sub=>K (.dat (.int k) (k.wrap (m-n)))
 | .mul=>K (.dat (.int k) (k.wrap (m*n)))
 | .quo=>if n=0 then none else K (.dat (.int k) (k.wrap (m.tdiv n)))
 | .rem=>if n=0 then none else K (.dat (.int k) (m.tmod n))
 | .and| .or| .xor| .andNot=>K (.dat (.int k) (bits op k m n))
 | .eql=>K (.dat .bool (m==n))
 | .neq=>K (.dat .bool (m != n))
 | .lss=>K (.dat .bool (decide (m<n)))
 | .leq=>K (.dat .bool (decide (m≤n)))
 | .gtr=>K (.dat .bool (decide (m>n)))
 | .geq=>K (.dat .bool (decide (m≥n)))
 |_=>none
def Mx(op:BinOp)(k:IntKind)(m n:Int)(K:AV→Option R):Option R:=
 if n<0 then none else
 match op with
 | .shl=>K (.dat (.int k) (k.wrap (m*2^min n.toNat k.bits)))
 | .shr=>K (.dat (.int k) (m.fdiv (2^min n.toNat k.bits)))
 |_=>none
def UB(op:BinOp)(s t:List UInt8)(K:AV→Option R):Option R:=
 match op with
 | .add=>bd (s.length+t.length) (K (.dat .str (s++t)))
 | .eql=>K (.dat .bool (s==t))
 | .neq=>K (.dat .bool (!(s==t)))
 |_=>none
def acJ(op:BinOp)(x y:AV)(K:AV→Option R):Option R:=
 match x,y with
 | .dat (.int k) m,.dat (.int k') n=>
   match op with
   | .shl| .shr=>Mx op k m n K
   |_=>if k=k' then C7 op k m n K else none
 | .dat .str s,.dat .str t=>UB op s t K
 |_,_=>none
def et:(t:Ty)→t.T→t.T→Bool
 | .int _,x,y=>x==y
 | .bool,x,y=>x==y
 | .str,x,y=>x==y
 | .unit,_,_=>true
 | .pair a b,x,y=>et a x.1 y.1&&et b x.2 y.2
 | .list _,_,_=>false
 | .ptr _,_,_=>false
 | .fn _ _,_,_=>false
 | .own _ _,_,_=>false
 | .box _,_,_=>false
 | .nptr _,_,_=>false
 | .nil,_,_=>false
def UC(t:Ty):List AV→Option (t.T×List AV)
 | .dat t' x::r=>match fZ t' t x with
   |some x=>some (x,r)
   |none=>none
 |_=>none
def ku:(t:Ty)→List AV→Option (t.T×List AV)
 | .unit,cs=>some ((),cs)
 | .pair a b,cs=>match ku a cs with
   |some (x,r)=>match ku b r with
    |some (y,r')=>some ((x,y),r')
    |none=>none
   |none=>none
 | .int k,cs=>UC (.int k) cs
 | .bool,cs=>UC .bool cs
 | .str,cs=>UC .str cs
 |_,_=>none
def AV.flatV(t:Ty):AV→Option t.T
 | .dat t' x=>fZ t' t x
 | .agg cs=>match ku t cs with
   |some (x,[])=>some x
   |_=>none
 |_=>none
open Classical in
noncomputable def aD(x y:Option R):Option R:=if x=y then x else none
noncomputable def Fc:List Nat→(Nat→Option R)→Option R
 | [],_=>none
 | [i],f=>f i
 |i::j::r,f=>aD (f i) (Fc (j::r) f)
noncomputable def be(x:Option R):Option R:=aD x x
noncomputable def My {α:Type}(l:List α)(K:Bool→Option R):Option R:=match l with
 | []=>aD (K true) (K false)
 |_::_=>K false
def Ky(Γ:cD)(op:BinOp)(t:TypeId)(x y:AV)(K:AV→Option R):Option R:=
 match Γ.at t with
 |some ty=>if ty.isAgg=true∧ty.flat=true then match x.flatV ty,y.flatV ty with
   |some a,some b=>match op with
    | .eql=>K (.dat .bool (et ty a b))
    | .neq=>K (.dat .bool (!et ty a b))
    |_=>none
   |_,_=>none
  else none
 |none=>none
def uD(op:BinOp)(K:AV→Option R)(b:Bool):Option R:=match op with
 | .eql=>K (.dat .bool b)
 | .neq=>K (.dat .bool (!b))
 |_=>none
noncomputable def Zt(Γ:cD)(af:AF)(op:BinOp)(t:TypeId)(x:AV)(K:AV→Option R):Option R:=
 match Γ.at t with
 |some (.list _)=>match x with
  | .nils=>uD op K true
  | .dat (.list _) l=>My l (uD op K)
  | .own m=>match af.obj m with
    |some (.arr _ _ xs)=>My xs (uD op K)
    |_=>none
  |_=>none
 |_=>none
def Zu(Γ:cD)(op:BinOp)(t:TypeId)(x:AV)(K:AV→Option R):Option R:=
 match Γ.at t with
 |some (.ptr _)=>match x with
  | .nilp=>uD op K true
  | .bptr _ _=>uD op K false
  | .rptr _ _ _=>uD op K false
  | .dat (.ptr _) _=>uD op K false
  | .dat (.nptr _) x=>uD op K x.isNone
  |_=>none
 |_=>none
noncomputable def acK(Γ:cD)(af:AF)(op:BinOp)(t:TypeId)(x y:AV)(K:AV→Option R):Option R:=
 match x,y with
 |x,.nils=>Zt Γ af op t x K
 |x,.nilp=>Zu Γ op t x K
 | .agg cs,y=>Ky Γ op t (.agg cs) y K
 | .dat (.pair a b) x,y=>Ky Γ op t (.dat (.pair a b) x) y K
 | .dat .bool a,.dat .bool b=>match Γ.at t with
   |some .bool=>match op with
    | .eql=>K (.dat .bool (a==b))
    | .neq=>K (.dat .bool (a != b))
    |_=>none
   |_=>none
 |x,y=>acJ op x y K
def unK(op:UnOp)(x:AV)(K:AV→Option R):Option R:=
 match op,x with
 | .not,.dat .bool b=>K (.dat .bool (!b))
 | .neg,.dat (.int k) n=>K (.dat (.int k) (k.wrap (0-n)))
 |_,_=>none
def Zv(Γ:cD)(src dst:TypeId)(x:AV)(K:AV→Option R):Option R:=
 match x,Γ.at src,Γ.at dst with
 | .dat (.int _) n,some _,some (.int k)=>K (.dat (.int k) (k.wrap n))
 |_,_,_=>none
def wI(t:Ty)(cs:List AV):Option AV:=
 if cs.length=t.size then(if t.isAgg then some (.agg cs)else cs.head?)else none
def vt(Γ:cD)(af:AF)(id:TypeId)(p:AV)(K:AV→Option R):Option R:=
 match Γ.at id with
 |none=>none
 |some t=>match p with
  | .bptr l off=>match af.obj l with
    |some (.box cs)=>ac (wI t ((cs.drop off).take t.size)) K
    |_=>none
  | .rptr t' x off=>if off=0∧t'=t then K (.dat t' x)else ac (wI t (((ie t' x).drop off).take t.size)) K
  | .dat (.ptr t') x=>if t'=t then K (.dat t' x)else ac (wI t (((ie t' x).drop 0).take t.size)) K
  | .dat (.nptr t') x=>ac x fun x=>if t'=t then K (.dat t' x)else ac (wI t (((ie t' x).drop 0).take t.size)) K
  | .eptr l i k off=>match af.obj l with
    |some (.arr _ t' xs)=>match xs[i]? with
     |some x=>if k=t'.size∧t'.owned=false then(if off=0∧t'=t then K (.dat t' x)else ac (wI t (((ie t' x).drop off).take t.size)) K)else none
     |none=>none
    |_=>none
  |_=>none
def AD(cs vs:List AV)(off:Nat):List AV:=cs.take off++vs++cs.drop (off+vs.length)
def Oa(Γ:cD)(af:AF)(id:TypeId)(p v:AV)(K:AF→Option R):Option R:=
 match Γ.at id,af.cellsOf v with
 |some t,some vs=>if vs.length=t.size∧af.lock=false then
   match p with
   | .bptr l off=>match af.obj l with
     |some (.box cs)=>if off+vs.length≤cs.length then K (af.putObj l (some (.box (AD cs vs off))))else none
     |_=>none
   | .eptr l i k off=>match af.obj l with
     |some (.arr e t' xs)=>match xs[i]? with
      |some x=>match imp af.objs t' (AD (ie t' x) vs off)with
       |some (y,[])=>if k=t'.size∧off+vs.length≤t'.size∧v.owns=false∧t'.owned=false then K (af.putObj l (some (.arr e t' (xs.set i y))))else none
       |_=>none
      |none=>none
     |_=>none
   |_=>none
  else none
 |_,_=>none
def UD(Γ:cD)(id:TypeId)(p:AV)(f:Nat)(K:AV→Option R):Option R:=
 match Γ.at id with
 |none=>none
 |some t=>match t.field f with
  |none=>none
  |some (o,ft)=>if ft.size=0 then none else match p with
   | .bptr l off=>K (.bptr l (off+o))
   | .rptr t' x off=>K (.rptr t' x (off+o))
   | .dat (.ptr t') x=>K (.rptr t' x o)
   | .dat (.nptr t') x=>ac x fun x=>K (.rptr t' x o)
   | .eptr l i k off=>K (.eptr l i k (off+o))
   |_=>none
def Mz:AV→Option (List AV)
 | .agg cs=>some cs
 | .dat t x=>if t.isAgg then some (ie t x)else none
 |_=>none
def Zw(Γ:cD)(id:TypeId)(v:AV)(f:Nat)(K:AV→Option R):Option R:=
 match Γ.at id with
 |none=>none
 |some t=>match t.field f,Mz v with
  |some (o,ft),some cs=>if cs.length=t.size∧0<ft.size then ac (wI ft ((cs.drop o).take ft.size)) K else none
  |_,_=>none
def ye(Γ:cD)(E:bR)(af:AF)(id:TypeId)(x i:AV)(K:AV→Option R):Option R:=
 match Γ.at id,E.at id,i with
 |some (.list t),some _,.dat (.int _) n=>match x with
  | .dat (.list t') l=>if t'=t then ac (aI l n) fun y=>K (.rptr t' y 0)else none
  | .own l=>match af.obj l with
    |some (.arr _ t' xs)=>if t'=t then ac (aI xs n) fun _=>K (.eptr l n.toNat t.size 0)else none
    |some (.hol _ t' xs _ _ _ _)=>if t'=t then ac (aI xs n) fun _=>K (.eptr l n.toNat t.size 0)else none
    |_=>none
  |_=>none
 |_,_,_=>none
def UE(Γ:cD)(id:TypeId)(x i:AV)(K:AV→Option R):Option R:=
 match Γ.at id,x,i with
 |some .str,.dat .str s,.dat (.int _) n=>ac (aI s n) fun b=>K (.dat (.int .u8) (b.toNat:Int))
 |_,_,_=>none
def acL(Γ:cD)(af:AF)(id:TypeId)(x:AV)(K:AV→Option R):Option R:=
 match Γ.at id with
 |some (.list _)=>match x with
  | .dat (.list _) l=>K (.dat (.int .i64) (l.length:Int))
  | .nils=>K (.dat (.int .i64) 0)
  | .own l=>match af.obj l with
    |some (.arr _ _ xs)=>K (.dat (.int .i64) (xs.length:Int))
    |some (.hol _ _ xs _ _ _ _)=>K (.dat (.int .i64) (xs.length:Int))
    |_=>none
  |_=>none
 |some .str=>match x with
  | .dat .str s=>K (.dat (.int .i64) (s.length:Int))
  |_=>none
 |_=>none
def Il(af:AF)(t:Ty)(cs:List AV):List (Nat×AV)→Option (List AV)
 | []=>some cs
 |(f,v)::rest=>match t.field f,af.cellsOf v with
  |some (o,ft),some vs=>if vs.length=ft.size∧o+vs.length≤cs.length then Il af t (AD cs vs o) rest else none
  |_,_=>none
def UF(Γ:cD)(af:AF)(id:TypeId)(parts:List (Nat×AV))(K:AV→Option R):Option R:=
 match Γ.at id with
 |none=>none
 |some t=>match t.zero with
  |none=>none
  |some _=>if t.isAgg then ac (Il af t (zAV t) parts) fun cs=>K (.agg cs)else none
def kT:AV→Option Int
 | .dat (.int _) n=>some n
 |_=>none
def MA(x:AV)(i:Nat)(K:AV→Option R):Option R:=
 match x with
 | .tup vs=>ac vs[i]? K
 |_=>none
def AV.ref0(l:Nat):AV→Bool
 | .own m=>m==l
 | .bptr m _=>m==l
 | .eptr m _ _ _=>m==l
 | .clo _ _=>true
 | .agg _=>true
 | .tup _=>true
 |_=>false
def AV.ref1(l:Nat):AV→Bool
 | .agg cs=>cs.any (AV.ref0 l)
 |v=>v.ref0 l
def AV.refs(l:Nat):AV→Bool
 | .clo _ cs=>cs.any (AV.ref0 l)
 | .agg cs=>cs.any (AV.ref0 l)
 | .tup cs=>cs.any (AV.ref1 l)
 |v=>v.ref0 l
def AO.refs(l:Nat):AO→Bool
 | .box cs=>cs.any (AV.refs l)
 | .arr _ _ _=>false
 | .hol _ _ _ _ _ _ d=>d==l
def AF.noref(af:AF)(l:Nat):Bool:=af.tmps.all (fun v=> !v.refs l)&&af.objs.all fun p=> !p.2.refs l
def rT(af:AF)(d:Option Tmp)(o:AO)(v:Nat→AV)(K:AF→Option R):Option R:=
 match d with
 |some d=>match af.obj d with
  |none=>if af.noref d=true∧o.refs d=false then K ((af.putObj d (some o)).put (some d) (v d))else none
  |some _=>none
 |none=>none
def sD(objs:List (Nat×AO))(t:Ty):Nat→List (Nat×AV)→Option (List t.T)
 |_,[]=>some []
 |n,(i,v)::rest=>if i=n∧v.owns=false then match v.get0 objs t with
  |some x=>match sD objs t (n+1) rest with
   |some xs=>some (x::xs)
   |none=>none
  |none=>none
  else none
def AV.scrub(l:Nat)(v:AV):AV:=if v.refs l then .junk else v
def AO.scrub(l:Nat):AO→AO
 | .box cs=>.box (cs.map (AV.scrub l))
 |o=>o
def QO(f:AO→AO):List (Nat×AO)→List (Nat×AO)
 | []=>[]
 |(m,o)::r=>(m,f o)::QO f r
def AF.drop(af:AF)(l:Nat):AF:={af with tmps:=af.tmps.map (AV.scrub l),objs:=QO (AO.scrub l) (Ik af.objs l)}
def AV.frz0(l:Nat)(d:AV):AV→AV
 | .own m=>if m=l then d else .own m
 |v=>v.scrub l
def AV.frz(l:Nat)(d:AV):AV→AV
 | .own m=>if m=l then d else .own m
 | .agg cs=>.agg (cs.map (AV.frz0 l d))
 |v=>v.scrub l
def AO.frz(l:Nat)(d:AV):AO→AO
 | .box cs=>.box (cs.map (AV.frz l d))
 |o=>o
def AF.freeze(af:AF)(l:Nat)(d:AV):AF:={af with tmps:=af.tmps.map (AV.frz l d),objs:=QO (AO.frz l d) (Ik af.objs l)}
def AF.frzL(af:AF)(l:Nat):AF:=match af.obj l with
 |some (.arr _ t xs)=>if t.owned then af else af.freeze l (.dat (.list t) xs)
 |_=>af
def AF.frzC(af:AF):List AV→AF
 | []=>af
 | .own l::r=>(af.frzL l).frzC r
 |_::r=>af.frzC r
def AF.frzV(af:AF):AV→AF
 | .own l=>af.frzL l
 | .agg cs=>af.frzC cs
 |_=>af
def AF.frzOps(af:AF):List Operand→AF
 | []=>af
 |x::r=>(af.frzV (af.ev x)).frzOps r
def AV.frzB(l:Nat)(t:Ty)(x:t.T):AV→AV
 | .bptr m off=>if m=l then .rptr t x off else .bptr m off
 |v=>v.scrub l
def AO.frzB(l:Nat)(t:Ty)(x:t.T):AO→AO
 | .box cs=>.box (cs.map (AV.frzB l t x))
 |o=>o
def AF.freezeB(af:AF)(l:Nat)(t:Ty)(x:t.T):AF:={af with tmps:=af.tmps.map (AV.frzB l t x),objs:=QO (AO.frzB l t x) (Ik af.objs l)}
def Yq:List AV→Option Ty
 | []=>some .unit
 | .dat t _::r=>if t.isAgg then none else match Yq r with
   |some u=>some (.pair t u)
   |none=>none
 |_=>none
def AF.freezeBox(af:AF)(l:Nat):AF:=match af.obj l with
 |some (.box cs)=>match Yq cs with
  |some t=>match imp af.objs t cs with
   |some (x,[])=>if cs.any AV.owns then af else af.freezeB l t x
   |_=>af
  |none=>af
 |_=>af
def Up(af:AF)(o:Oper):Option Nat:=match o.op with
 | .load _ (.tmp p)=>match af.get p with
   | .bptr l _=>some l
   |_=>none
 | .fieldAddr _ (.tmp p) _=>match af.get p with
   | .bptr l _=>some l
   |_=>none
 |_=>none
def acM(all:List Oper)(af:AF)(l:Nat)(o:Oper):Bool:=match o.op with
 | .store _ (.tmp p) _=>(match af.get p with
   | .bptr m _=>m==l
   |_=>false)||all.any fun q=>q.dst==some p&&match q.op with
    | .fieldAddr _ _ _=>Up af q==some l
    |_=>false
 |_=>false
def aeA(all:List Oper)(af:AF)(l:Nat):Bool:=
 (match af.obj l with
   |some (.box cs)=>cs.length==5&&cs.all fun c=>match c with| .dat (.int _) _=>true|_=>false
   |_=>false)&&(all.filter fun o=>Up af o==some l).length==1&&
 all.all fun o=>match Up af o with
  |some m=>match af.obj m with
   |some (.box cs)=>cs.all fun c=> !c.owns
   |_=>true
  |none=>true
def iC(all:List Oper):List Oper→AF→AF
 | [],af=>af
 |o::r,af=>match Up af o with
  |some l=>match all.any (acM all af l)||aeA all af l with
   |true=>iC all r af
   |false=>iC all r (af.freezeBox l)
  |none=>iC all r af
def lQ(d:Int):Option AV→Option Int
 |none=>some d
 |some v=>kT v
def aZ(n:Nat)(lo hi:Option AV):Option (Nat×Nat):=
 match lQ 0 lo,lQ n hi with
 |some a,some b=>if 0≤a∧a≤b∧b≤(n:Int)then some (a.toNat,b.toNat)else none
 |_,_=>none
def Im(Γ:cD)(E:bR)(af:AF)(id:TypeId)(x:AV)(lo hi:Option AV)(K:AF→AV→Option R):Option R:=
 match Γ.at id with
 |some (.list t)=>match E.at id with
  |none=>none
  |some _=>match x with
   | .dat (.list t') l=>if t'=t then ac (aZ l.length lo hi) fun p=>K af (.dat (.list t') ((l.take p.2).drop p.1))else none
   | .own m=>match af.obj m with
     |some (.arr _ t' l)=>if t'=t∧t.owned=false then ac (aZ l.length lo hi) fun p=>K (af.freeze m (.dat (.list t') l)) (.dat (.list t') ((l.take p.2).drop p.1))else none
     |_=>none
   | .nils=>ac (aZ 0 lo hi) fun _=>K af .nils
   |_=>none
 |some .str=>match x with
  | .dat .str s=>ac (aZ s.length lo hi) fun p=>K af (.dat .str ((s.take p.2).drop p.1))
  |_=>none
 |_=>none
def Ob(objs:List (Nat×AO))(t:Ty):AV→Option (List t.T)
 | .own l=>match lk objs l with|some (.arr _ t' ys)=>fZ (.list t') (.list t) ys|_=>none
 | .nils=>some []
 | .dat t' ys=>fZ t' (.list t) ys
 |_=>none
def Oc(Γ:cD)(E:bR)(af:AF)(src dst:TypeId)(v:AV)(K:AV→Option R):Option R:=
 match Γ.at src,Γ.at dst,E.at src with
 |some (.list (.int .u8)),some .str,some e=>match Γ.at e with
  |some (.int .u8)=>match Ob af.objs (.int .u8) v with
   |some xs=>K (.dat .str ((xs:List Int).map fun n=>UInt8.ofNat n.toNat))
   |none=>none
  |_=>none
 |_,_,_=>none
def QP(Γ:cD)(E:bR)(af:AF)(d:Option Tmp)(id:TypeId)(x y:AV)(K:AF→Option R):Option R:=
 match Γ.at id,E.at id with
 |some (.list t),some e=>match Ob af.objs t y with
  |none=>none
  |some ys=>if t.zero.isSome=false∨t.owned=true then none else match x with
   | .own l=>match af.obj l with
     |some (.arr e' t' xs)=>if e'=e∧y.refs l=false∧af.lock=false then match fZ (.list t') (.list t) xs with
       |some xs=>bd (xs.length+ys.length) (rT (af.drop l) d (.arr e t (xs++ys)) .own K)
       |none=>none
       else none
     |_=>none
   | .nils=>bd ys.length (rT af d (.arr e t ys) .own K)
   |_=>none
 |_,_=>none
def acN(Γ:cD)(E:bR)(af:AF)(d:Option Tmp)(id:TypeId)(l:Nat)(hi:AV)(K:AF→Option R):Option R:=
 match Γ.at id,E.at id,af.obj l with
 |some (.list t),some e,some (.arr e' t' xs)=>if e'=e∧t.owned=false then match fZ (.list t') (.list t) xs with
   |some xs=>ac (aZ xs.length none (some hi)) fun p=>rT (af.drop l) d (.arr e t (xs.take p.2)) .own K
   |none=>none
  else none
 |_,_,_=>none
def UG(Γ:cD)(E:bR)(af:AF)(d:Option Tmp)(id id':TypeId)(x n:AV)(K:AF→Option R):Option R:=
 match Γ.at id,E.at id,Γ.at id',x,n with
 |some (.list t),some e,some (.int _),.nils,.dat (.int _) n=>match t.zero with
  |some z=>if t.owned then none else if 0≤n then bd n.toNat (rT af d (.arr e t (List.replicate n.toNat z)) .own K)else none
  |none=>none
 |_,_,_,_,_=>none
def acO(Γ:cD)(id:TypeId)(x:AV)(K:AV→Option R):Option R:=
 match Γ.at id,x with
 |some (.list _),.nils=>K (.dat (.int .i64) 0)
 |_,_=>none
def Fd(Γ:cD)(E:bR)(af:AF)(d:Option Tmp)(id:TypeId)(n c:AV)(K:AF→Option R):Option R:=
 match Γ.at id,E.at id,n,c with
 |some (.list t),some e,.dat (.int _) n,.dat (.int _) c=>match t.zero with
  |some z=>if 0≤n∧n≤c then bd c.toNat (rT af d (.arr e t (List.replicate n.toNat z)) .own K)else none
  |none=>none
 |_,_,_,_=>none
def BG(Γ:cD)(E:bR)(af:AF)(d:Option Tmp)(id:TypeId)(len:Nat)(parts:List (Nat×AV))(K:AF→Option R):Option R:=
 match Γ.at id,E.at id with
 |some (.list t),some e=>match sD af.objs t 0 parts with
  |some xs=>if parts.length=len∧len*t.size≤1000∧t.zero.isSome=true∧t.owned=false then rT af d (.arr e t xs) .own K else none
  |none=>none
 |_,_=>none
def Ty.flatO:Ty→Bool
 | .int _| .bool| .str| .unit=>true
 | .pair a b=>a.flatO&&b.flatO
 | .own _ t=>t.flatO
 | .box t=>t.flatO
 |_=>false
def ai.lends(s:ai):Bool:=s.r.flatO&&s.m.flatO
def Ty.labs:Ty→Nat
 | .own _ _=>1
 | .box t=>t.labs+1
 | .pair a b=>a.labs+b.labs
 |_=>0
def Fe(d n:Nat):(t:Ty)→t.T→Nat→List AV
 | .own _ _,_,c=>[.own (d+n*c)]
 | .box _,_,c=>[.bptr (d+n*c) 0]
 | .pair a b,x,c=>Fe d n a x.1 c++Fe d n b x.2 (c+a.labs)
 | .unit,_,_=>[]
 | .int k,x,_=>[.dat (.int k) x]
 | .bool,x,_=>[.dat .bool x]
 | .nil,x,_=>[.dat .nil x]
 | .str,x,_=>[.dat .str x]
 | .list t,x,_=>[.dat (.list t) x]
 | .ptr t,x,_=>[.dat (.ptr t) x]
 | .fn a r,x,_=>[.dat (.fn a r) x]
 | .nptr t,x,_=>[.dat (.nptr t) x]
def fB(d n:Nat):(t:Ty)→t.T→Nat→List (Nat×AO)
 | .own e t,x,c=>[(d+n*c,.arr e t x)]
 | .box t,x,c=>(d+n*c,.box (Fe d n t x (c+1)))::fB d n t x (c+1)
 | .pair a b,x,c=>fB d n a x.1 c++fB d n b x.2 (c+a.labs)
 |_,_,_=>[]
def aec(t:Ty)(cs:List AV):AV:=if t.isAgg then .agg cs else cs.headD .junk
def QQ(d n:Nat)(t:Ty)(x:t.T)(c:Nat):AV:=if t.owned then aec t (Fe d n t x c)else .dat t x
def QR(d n:Nat):(r:Ty)→r.T→Nat→List AV
 | .pair t r,x,c=>QQ d n t x.1 c::QR d n r x.2 (c+t.labs)
 |_,_,_=>[]
def QS(d n:Nat):(r:Ty)→r.T→Nat→List (Nat×AO)
 | .pair t r,x,c=>(if t.owned then fB d n t x.1 c else [])++QS d n r x.2 (c+t.labs)
 |_,_,_=>[]
def Ff(d n:Nat)(r:Ty)(y:r.T):AV:=if oW r then(QR d n r y 0).headD .junk else .tup (QR d n r y 0)
def yW(d n:Nat):Ty→Nat→List Nat
 | .own _ _,c=>[d+n*c]
 | .box t,c=>(d+n*c)::yW d n t (c+1)
 | .pair a b,c=>yW d n a c++yW d n b (c+a.labs)
 |_,_=>[]
def C8(n:Nat):List Nat→Ty→List Nat
 |s::ss,.pair t r=>(if t.owned then yW s n t 0 else [])++C8 n ss r
 |_,_=>[]
def LC(objs:List (Nat×AO))(t:Ty)(c:AV)(r:List AV):Option (t.T×List AV×List Nat):=if c.owns then none else match imp objs t [c]with
 |some (x,[])=>some (x,r,[])
 |_=>none
def kU(objs:List (Nat×AO)):(t:Ty)→List AV→Option (t.T×List AV×List Nat)
 | .own e t,c::r=>match c with
   | .own l=>match lk objs l with
     |some (.arr e' t' xs)=>if e'=e then match fZ (.list t') (.list t) xs with
       |some x=>some (x,r,[l])
       |none=>none
      else none
     |some (.hol e' t' xs i x off d)=>match lk objs d,t'.ownAt off with
      |some (.arr e2 t2 ys),some (e3,t3)=>if e'=e∧e3=e2∧t3=t2 then match Mw t' x off t2 ys with
        |some x'=>match fZ (.list t') (.list t) (xs.set i x')with
         |some z=>some (z,r,[l,d])
         |none=>none
        |none=>none
       else none
      |_,_=>none
     |_=>none
   | .nils=>some ([],r,[])
   |_=>none
 | .box t,c::r=>match c with
   | .bptr l off=>if off=0 then match lk objs l with
      |some (.box cs)=>match kU objs t cs with
       |some (x,[],ls)=>some (x,r,l::ls)
       |_=>none
      |_=>none
     else none
   |_=>none
 | .pair a b,cs=>match kU objs a cs with
   |some (x,r,l1)=>match kU objs b r with
    |some (y,r',l2)=>some ((x,y),r',l1++l2)
    |none=>none
   |none=>none
 | .unit,cs=>some ((),cs,[])
 | .int k,c::r=>LC objs (.int k) c r
 | .bool,c::r=>LC objs .bool c r
 | .nil,c::r=>LC objs .nil c r
 | .str,c::r=>LC objs .str c r
 | .list t,c::r=>LC objs (.list t) c r
 | .ptr t,c::r=>LC objs (.ptr t) c r
 | .fn p q,c::r=>LC objs (.fn p q) c r
 | .nptr t,c::r=>LC objs (.nptr t) c r
 |_,[]=>none
def rdV(σ:FuncId→Option ai)(objs:List (Nat×AO))(t:Ty)(v:AV):Option (t.T×List Nat):=
 match t.owned with
 |true=>match t.isAgg with
  |true=>match v with
   | .agg cs=>match kU objs t cs with
     |some (x,[],ls)=>some (x,ls)
     |_=>none
   |_=>none
  |false=>match kU objs t [v]with
   |some (x,[],ls)=>some (x,ls)
   |_=>none
 |false=>match v.get1 σ objs t with
  |some x=>some (x,[])
  |none=>none
def jk(σ:FuncId→Option ai)(objs:List (Nat×AO)):(r:Ty)→List AV→Option (r.T×List Nat)
 | .pair t r,v::vs=>match rdV σ objs t v with
   |some (x,l1)=>match jk σ objs r vs with
    |some (y,l2)=>some ((x,y),l1++l2)
    |none=>none
   |none=>none
 | .unit,[]=>some ((),[])
 |_,_=>none
def gd:List Nat→Bool
 | []=>true
 |a::r=> !r.contains a&&gd r
def AV.apartC(objs:List (Nat×AO))(L:List Nat):AV→Bool
 | .own l=> !L.contains l
 | .bptr l _=> !L.contains l&&match lk objs l with
   |some (.box cs)=>cs.all fun c=> !c.owns
   |_=>false
 |c=> !c.owns
def AV.apart0(objs:List (Nat×AO))(L:List Nat):AV→Bool
 | .agg cs=>cs.all fun c=>c.apartC objs L
 |v=>v.apartC objs L
def AV.apart(objs:List (Nat×AO))(L:List Nat):AV→Bool
 | .clo _ caps=>caps.all fun c=>c.apart0 objs L
 |v=>v.apart0 objs L
def yX(objs:List (Nat×AO))(L:List Nat):Ty→List AV→Bool
 | .pair t r,v::vs=>(t.owned||L.isEmpty||v.apart objs L)&&yX objs L r vs
 |_,_=>true
def Od:Ty→List AV→Bool
 | .pair t r,v::vs=>(!t.owned&&v.owns)||Od r vs
 |_,_=>false
def rU:List AV→List Nat
 | []=>[]
 | .own l::r=>l::rU r
 | .bptr l _::r=>l::rU r
 |_::r=>rU r
def AV.top:AV→List Nat
 | .agg cs=>rU cs
 |v=>rU [v]
def Fg:Ty→List AV→List Nat
 | .pair t r,v::vs=>(if t.owned then v.top else [])++Fg r vs
 |_,_=>[]
def jC(d n:Nat):(t:Ty)→t.T→List AV→Nat→Option (List (Nat×AO)×List AV)
 | .own e t,x,c::r,_=>match c with
   | .own l=>some ([(l,.arr e t x)],r)
   | .nils=>some ([],r)
   |_=>none
 | .box t,x,c::r,k=>match c with
   | .bptr l _=>some ((l,.box (Fe d n t x k))::fB d n t x k,r)
   |_=>none
 | .pair a b,x,cs,k=>match jC d n a x.1 cs k with
   |some (o1,r)=>match jC d n b x.2 r (k+a.labs)with
    |some (o2,r')=>some (o1++o2,r')
    |none=>none
   |none=>none
 | .unit,_,cs,_=>some ([],cs)
 |_,_,c::r,_=>if c.owns then none else some ([],r)
 |_,_,[],_=>none
def eA(d n:Nat):(a m:Ty)→m.T→List AV→Nat→Option (List (Nat×AO))
 | .unit,.unit,_,[],_=>some []
 | .pair t r,m,y,v::vs,k=>match t.owned with
   |false=>eA d n r m y vs k
   |true=>match m,y with
    | .pair t' m',y=>match(match t'.isAgg with|true=>(match v with| .agg cs=>some cs|_=>none)|false=>some [v])with
      |some cs=>match jC d n t' y.1 cs k with
       |some (o1,[])=>match eA d n r m' y.2 vs (k+t'.labs)with
        |some o2=>some (o1++o2)
        |none=>none
       |_=>none
      |none=>none
    |_,_=>none
 |_,_,_,_,_=>none
def AF.drops(af:AF):List Nat→AF
 | []=>af
 |l::r=>(af.drop l).drops r
def Fh(objs:List (Nat×AO)):List Nat→List (Nat×AO)
 | []=>objs
 |l::r=>Fh (Ik objs l) r
def aW:List (Nat×AO)→List Nat
 | []=>[]
 |(l,_)::r=>l::aW r
def AF.frzRow(af:AF):Ty→List AV→AF
 | .pair t r,v::vs=>(if t.owned then af else af.frzV v).frzRow r vs
 |_,_=>af
def Uq(σ:FuncId→Option ai)(af:AF)(d:Option Tmp)(s:ai)(args:List AV)(K:AF→Option R):Option R:=
 match jk σ af.objs s.a args with
 |none=>none
 |some (x,L)=>if(af.lock&& !L.isEmpty)|| !gd L|| !yX af.objs L s.a args||(Od s.a args&& !s.lends)then none else
  match s.fn x with
  |none=>none
  |some y=>
   let yr:=BF s.r s.m y
   let ym:=UA s.r s.m s.row y
   let n:=af.tmps.length
   let e:=d.getD 0
   match decide (s.m= .unit)with
   |true=>
    let af1:=af.drops L
    let news:=QS e n s.r yr 0
    if gd (aW news)&&(d.isSome||news.isEmpty)&&(aW news).all (fun l=>af1.noref l&&(af1.obj l).isNone)then
     K (AF.put {af1 with objs:=news++af1.objs} d (Ff e n s.r yr))
    else none
   |false=>
    let T:=Fg s.a args
    let af1:=af.drops (L.filter fun l=> !T.contains l)
    let objs1:=Fh af1.objs T
    match eA e n s.a s.m ym args s.r.labs with
    |none=>none
    |some back=>
     let news:=QS e n s.r yr 0++back
     if gd (aW news)&&T.all (fun l=>(aW news).contains l)&&(aW news).all (fun l=>T.contains l||(d.isSome&&af1.noref l&&(lk objs1 l).isNone))then
      K (AF.put {af1 with objs:=news++objs1} d (Ff e n s.r yr))
     else none
def UH(objs:List (Nat×AO))(t:Ty)(off:Nat)(c:AV):Option t.T:=if off=0 then(match imp objs t [c]with|some (y,[])=>some y|_=>none)else none
def qH(objs:List (Nat×AO)):(t:Ty)→t.T→Nat→AV→Option t.T
 | .pair a b,x,off,c=>if off<a.size then(match qH objs a x.1 off c with
    |some y=>some (y,x.2)
    |none=>none)else(match qH objs b x.2 (off-a.size) c with
    |some y=>some (x.1,y)
    |none=>none)
 | .own _ _,_,_,_=>none
 | .box _,_,_,_=>none
 | .unit,_,_,_=>none
 | .int k,_,off,c=>UH objs (.int k) off c
 | .bool,_,off,c=>UH objs .bool off c
 | .str,_,off,c=>UH objs .str off c
 |_,_,_,_=>none
def AF.deep(af:AF)(l:Nat):Bool:=match af.obj l with
 |some (.arr _ t _)=>t.owned
 |_=>false
def AF.holeB(af:AF):AV→Bool
 | .eptr l _ _ off=>match af.obj l with
   |some (.arr _ t _)=>t.owned&&(t.ownAt off).isSome
   |_=>false
 |_=>false
def acP(Γ:cD)(af:AF)(d:Option Tmp)(id:TypeId)(p:AV)(K:AF→Option R):Option R:=match p,d with
 | .eptr l i k off,some d=>match af.obj l,Γ.at id with
   |some (.arr e t xs),some t1=>match t.ownAt off with
    |some (e2,t2)=>match xs[i]? with
     |some x=>match Mv t x off t2 with
      |some ys=>if k=t.size∧t1.size=1∧t1.isAgg=false∧af.lock=false∧d≠l∧t.owned=true then
        (if(af.obj d).isNone=true∧af.noref d=true then K (((af.putObj l (some (.hol e t xs i x off d))).putObj d (some (.arr e2 t2 ys))).put (some d) (.own d))else none)
       else none
      |none=>none
     |none=>none
    |none=>none
   |_,_=>none
 |_,_=>none
def AF.holed(af:AF):AV→Bool
 | .own l=>match af.obj l with
   |some (.hol _ _ _ _ _ _ _)=>true
   |_=>false
 |_=>false
def AF.fill(af:AF)(l:Nat):AF:=match af.obj l with
 |some (.hol e t _ _ _ _ _)=>match kU af.objs (.own e t) [.own l]with
  |some (z,[],[l',d])=>if l'=l∧d≠l then(af.drop d).putObj l (some (.arr e t z))else af
  |_=>af
 |_=>af
def AF.fillV(af:AF):AV→AF
 | .own l=>af.fill l
 |_=>af
def UI(Γ:cD)(af:AF)(id:TypeId)(l i k off:Nat)(v:AV)(K:AF→Option R):Option R:=
 match Γ.at id,af.obj l,af.cellsOf v with
 |some t,some (.arr e t' xs),some vs=>match xs[i]? with
  |some x=>if vs.length=t.size∧k=t'.size∧off+vs.length≤t'.size∧af.lock=false then
    (if vs.length=t'.size then match kU af.objs t' vs with
      |some (y,[],ls)=>if gd (l::ls)then K ((af.drops ls).putObj l (some (.arr e t' (xs.set i y))))else none
      |_=>none
    else if v.owns then none else match vs with
     | [c]=>match qH af.objs t' x off c with
       |some y=>K (af.putObj l (some (.arr e t' (xs.set i y))))
       |none=>none
     |_=>none)
   else none
  |none=>none
 |_,_,_=>none
def UJ(Γ:cD)(af:AF)(id:TypeId)(l i k off:Nat)(v:AV)(K:AF→Option R):Option R:=
 match Γ.at id,af.obj l,v with
 |some t1,some (.hol e t xs i0 x off0 _),.own m=>match af.obj m with
  |some (.arr _ _ _)=>if i=i0 then(if k=t.size∧off=off0∧t1.size=1∧af.lock=false then K (af.putObj l (some (.hol e t xs i0 x off0 m)))else none)else none
  |_=>none
 |_,_,_=>none
def aaW(Γ:cD)(id:TypeId):Bool:=match Γ.at id with
 |some (.list t)=>t.owned
 |_=>false
def Fi(Γ:cD)(E:bR)(af:AF)(d:Option Tmp)(id:TypeId)(len:Nat)(parts:List (Nat×AV))(K:AF→Option R):Option R:=
 match Γ.at id,E.at id with
 |some (.list t),some e=>if t.zero.isSome=true∧t.owned=true then(match parts with
  | []=>if len=0 then rT (af.drops []) d (.arr e t []) .own K else none
  | [(i,v)]=>if i=0∧len=1∧t.size≤1000 then(match af.cellsOf v with
    |some vs=>if vs.length=t.size then(match kU af.objs t vs with
     |some (y,[],ls)=>if gd ls=true then rT (af.drops ls) d (.arr e t [y]) .own K else none
     |_=>none)else none
    |none=>none)else none
  |_=>none)else none
 |_,_=>none
def BH(Γ:cD)(E:bR)(af:AF)(d:Option Tmp)(id:TypeId)(x y:AV)(K:AF→Option R):Option R:=
 match Γ.at id,E.at id,x,y with
 |some (.list t),some e,.own l,.own m=>if t.zero.isSome=true∧t.owned=true∧l≠m∧af.lock=false then(match af.obj l,af.obj m with
  |some (.arr e' t' xs),some (.arr _ t2 ys)=>if e'=e then(match fZ (.list t') (.list t) xs,fZ (.list t2) (.list t) ys with
   |some xs,some ys=>bd (xs.length+ys.length) (rT ((af.drop l).drop m) d (.arr e t (xs++ys)) .own K)
   |_,_=>none)else none
  |_,_=>none)else none
 |_,_,_,_=>none
noncomputable def kV(Γ:cD)(E:bR)(σ:FuncId→Option ai)(o:Oper)(af:AF)(K:AF→Option R):Option R:=
 match o.op with
 | .move x=>K (af.put o.dst (af.ev x).norm)
 | .assign x=>K (af.put o.dst (af.ev x))
 | .pick c a b=>match af.ev c with
   | .dat .bool t=>match t with
     |true=>K (af.put o.dst (af.ev a))
     |false=>K (af.put o.dst (af.ev b))
   |_=>none
 | .alloc id=>match Γ.at id with
   |some t=>match t.zero with
    |some _=>rT af o.dst (.box (zAV t)) (.bptr · 0) K
    |none=>none
   |none=>none
 | .box _ x=>match af.cellsOf (af.ev x)with
   |some cs=>rT af o.dst (.box cs) (.bptr · 0) K
   |none=>none
 | .load id p=>match af.holeB (af.ev p)with
   |true=>acP Γ af o.dst id (af.ev p) K
   |false=>vt Γ af id (af.ev p) fun v=>K (af.put o.dst v)
 | .store id p v=>match o.dst with
   |none=>match af.ev p with
    | .eptr l i k off=>match af.deep l with
      |true=>UI Γ af id l i k off (af.ev v) K
      |false=>match af.holed (.own l)with
       |true=>UJ Γ af id l i k off (af.ev v) K
       |false=>let af1:=af.frzV (af.ev v);Oa Γ af1 id (af1.ev p) (af1.ev v) K
    |_=>Oa Γ af id (af.ev p) (af.ev v) K
   |some _=>none
 | .nilCheck x=>match af.ev x with
   | .bptr l off=>K (af.put o.dst (.bptr l off))
   | .rptr t x off=>K (af.put o.dst (.rptr t x off))
   | .dat (.ptr t) x=>K (af.put o.dst (.dat (.ptr t) x))
   | .dat (.nptr t) x=>ac x fun x=>K (af.put o.dst (.dat (.ptr t) x))
   | .dat (.fn a r) g=>K (af.put o.dst (.dat (.fn a r) g))
   | .clo f caps=>K (af.put o.dst (.clo f caps))
   |_=>none
 | .binOp op t x y _=>acK Γ af op t (af.ev x) (af.ev y) fun v=>K (af.put o.dst v)
 | .unOp op _ x=>unK op (af.ev x) fun v=>K (af.put o.dst v)
 | .convert s t x=>match Γ.at s with
   |some (.list _)=>Oc Γ E af s t (af.ev x) fun v=>K (af.put o.dst v)
   |_=>Zv Γ s t (af.ev x) fun v=>K (af.put o.dst v)
 | .makeFunc fn first caps=>match fn with
   | .func f=>if first.size=0 then K (af.put o.dst (.clo f (caps.toList.map af.ev)))else none
   |_=>none
 | .makeSlice id n c=>Fd Γ E af o.dst id (af.ev n) (af.ev c) K
 | .buildSlice id len parts=>match aaW Γ id with
   |true=>Fi Γ E af o.dst id len (parts.toList.map fun p=>(p.1,af.ev p.2)) K
   |false=>let af1:=af.frzOps (parts.toList.map (·.2));BG Γ E af1 o.dst id len (parts.toList.map fun p=>(p.1,af1.ev p.2)) K
 | .build id parts=>UF Γ af id (parts.toList.map fun p=>(p.1,af.ev p.2)) fun v=>K (af.put o.dst v)
 | .slice id x lo hi mx=>match mx with
   |none=>match af.cuts Γ.cutAny x lo hi with
    |some (hi,l)=>acN Γ E af o.dst id l (af.ev hi) K
    |none=>Im Γ E af id (af.ev x) (lo.map af.ev) (hi.map af.ev) fun af' v=>K (af'.put o.dst v)
   |some _=>none
 | .fieldAddr id p f=>UD Γ id (af.ev p) f fun v=>K (af.put o.dst v)
 | .field id x f=>Zw Γ id (af.ev x) f fun v=>K (af.put o.dst v)
 | .indexAddr id x i=>match af.holed (af.ev x)with
   |true=>let af1:=af.fillV (af.ev x);ye Γ E af1 id (af1.ev x) (af1.ev i) fun v=>K (af1.put o.dst v)
   |false=>ye Γ E af id (af.ev x) (af.ev i) fun v=>K (af.put o.dst v)
 | .index id x i=>UE Γ id (af.ev x) (af.ev i) fun v=>K (af.put o.dst v)
 | .extract x i=>MA (af.ev x) i fun v=>K (af.put o.dst v)
 | .call c=>match c.callee with
   | .builtin b=>match b,c.args.toList with
     | .len,[x]=>match c.argTypes.toList with
       | [t]=>acL Γ af t (af.ev x) fun v=>K (af.put o.dst v)
       |_=>none
     | .cap,[x]=>match c.argTypes.toList with
       | [t]=>acO Γ t (af.ev x) fun v=>K (af.put o.dst v)
       |_=>none
     | .append,[x,y]=>match c.argTypes.toList with
       | [t,t']=>if t=t' then(match aaW Γ t with
         |true=>BH Γ E af o.dst t (af.ev x) (af.ev y) K
         |false=>QP Γ E af o.dst t (af.ev x) (af.ev y) K)else UG Γ E af o.dst t t' (af.ev x) (af.ev y) K
       |_=>none
     | .max,[x,y]=>match af.ev x,af.ev y with
       | .dat (.int k) m,.dat (.int k') n=>if k=k' then K (af.put o.dst (.dat (.int k) (if n>m then n else m)))else none
       |_,_=>none
     | .min,[x,y]=>match af.ev x,af.ev y with
       | .dat (.int k) m,.dat (.int k') n=>if k=k' then K (af.put o.dst (.dat (.int k) (if n<m then n else m)))else none
       |_,_=>none
     |_,_=>none
   | .value f=>match af.ev f with
     | .clo g caps=>match σ g with
       |some s=>match caps.isEmpty&&(Od s.a (c.args.toList.map af.ev)&& !s.lends)with
        |true=>let af1:=af.frzRow s.a (c.args.toList.map af.ev);Uq σ af1 o.dst s (c.args.toList.map af1.ev) K
        |false=>Uq σ af o.dst s (c.args.toList.map af.ev++caps) K
       |none=>none
     | .dat (.fn a r) g=>match iy σ af.objs a (c.args.toList.map af.ev)with
       |some x=>if(c.args.toList.map af.ev).any AV.owns&& !r.flat||r.owned then none else match g x with
        |some y=>K (af.put o.dst (Ff 0 0 r y))
        |none=>none
       |none=>none
     |_=>none
   | .invoke _ _=>none
 |_=>none
def AF.know(af:AF)(d:Tmp)(t:Bool):AF:=af.put (some d) (.dat .bool t)
noncomputable def yY(Γ:cD)(E:bR)(σ:FuncId→Option ai)(all:Array Oper):List Oper→AF→(AF→Option R)→Option R
 | [],af,K=>K af
 |o::rest,af,K=>match o.guard with
  |none=>kV Γ E σ o af fun af'=>yY Γ E σ all rest af' K
  |some (j,want)=>match(all[j]?).bind (·.dst)with
   |none=>none
   |some d=>match af.get d with
    | .tup []=>yY Γ E σ all rest (af.put o.dst (.tup [])) K
    | .dat .bool t=>match t with
      |true=>if want then kV Γ E σ o (af.know d true) fun af'=>yY Γ E σ all rest af' K else yY Γ E σ all rest ((af.know d true).put o.dst (.tup [])) K
      |false=>if want then yY Γ E σ all rest ((af.know d false).put o.dst (.tup [])) K else kV Γ E σ o (af.know d false) fun af'=>yY Γ E σ all rest af' K
    |_=>none
noncomputable def uE(Γ:cD)(E:bR)(σ:FuncId→Option ai)(all:Array Oper)(o:Oper)(af:AF)(K:AF→Option R):Option R:=
 match o.guard with
 |none=>kV Γ E σ o af K
 |some (j,want)=>match(all[j]?).bind (·.dst)with
  |none=>none
  |some d=>match af.get d with
   | .tup []=>K (af.put o.dst (.tup []))
   | .dat .bool t=>match t with
     |true=>if want then kV Γ E σ o (af.know d true) K else K ((af.know d true).put o.dst (.tup []))
     |false=>if want then K ((af.know d false).put o.dst (.tup []))else kV Γ E σ o (af.know d false) K
   |_=>none
def eW(lk:Bool)(af:AF)(fresh:Bool)(o:Oper):Bool:=match o.op with
 | .move _| .assign _| .nilCheck _| .pick _ _ _| .binOp _ _ _ _ _| .unOp _ _ _| .fieldAddr _ _ _| .field _ _ _| .extract _ _| .build _ _=>true
 | .indexAddr _ x _=> !af.holed (af.ev x)
 | .convert _ _ x=>match af.ev x with
   | .dat (.int _) _=>true
   |_=>false
 | .load _ p=>fresh&&match af.ev p with
   | .tup []=>true
   | .bptr _ _=>lk
   | .eptr l i k off=>lk&& !af.holeB (.eptr l i k off)
   | .rptr _ _ _=>true
   | .dat (.ptr _) _=>true
   | .dat (.nptr _) _=>true
   |_=>false
 | .slice _ x _ _ mx=>mx.isNone&&match af.ev x with
   | .dat _ _=>true
   | .nils=>true
   |_=>false
 |_=>false
def jP(lk:Bool)(all:Array Oper)(af:AF)(fresh:Bool)(j:Nat):Bool:=match all[j]? with
 |some o=>eW lk af fresh o
 |none=>false
def UK(σ:FuncId→Option ai)(o:Oper):Bool:=match o.op with
 | .store _ _ _=>false
 | .call c=>match c.callee with
   | .builtin b=>match b with
     | .append=>false
     |_=>true
   | .value f=>match f with
     | .func g=>match σ g with
       |some s=> !s.a.owned
       |none=>true
     |_=>true
   | .invoke _ _=>false
 |_=>true
noncomputable def qb(Γ:cD)(E:bR)(σ:FuncId→Option ai)(all:Array Oper):Nat→Bool→Array Bool→AF→(AF→Option R)→Option R
 |0,_,listed,af,K=>match Region.ready .any all listed with
  | []=>K af
  |_::_=>none
 |fuel+1,fresh,listed,af,K=>match Region.ready .any all listed with
  | []=>K af
  |i::r=>match(i::r).find? (fun j=>jP false all af fresh j&&Region.free .any all listed j)with
   |some j=>match all[j]? with
    |some o=>uE Γ E σ all o af fun af'=>qb Γ E σ all fuel fresh (listed.setIfInBounds j true) af' K
    |none=>none
   |none=>Fc (i::r) fun j=>match all[j]? with
    |some o=>uE Γ E σ all o af fun af'=>qb Γ E σ all fuel false (listed.setIfInBounds j true) af' K
    |none=>none
def lR:List Bool→Nat
 | []=>0
 |b::r=>2*lR r+(match b with|true=>1|false=>0)
def tf:Nat→Nat→List Bool
 |0,_=>[]
 |k+1,n=>(n % 2==1)::tf k (n / 2)
def Oe(all:Array Oper)(n:Nat):List (Nat×Bool):=(Region.ready .any all (tf all.size n).toArray).map fun j=>(j,Region.free .any all (tf all.size n).toArray j)
noncomputable def Fj(Γ:cD)(E:bR)(σ:FuncId→Option ai)(all:Array Oper):Nat→Bool→Array Bool→AF→(AF→Option R)→Option R
 |0,_,listed,af,K=>match lR listed.toList+1 with
  |0=>none
  |m+1=>match Oe all m with
   | []=>K af
   |_::_=>none
 |fuel+1,fresh,listed,af,K=>match lR listed.toList+1 with
  |0=>none
  |m+1=>match Oe all m with
   | []=>K af
   |p::r=>match(p::r).find? (fun q=>jP false all af fresh q.1&&q.2)with
    |some q=>match all[q.1]? with
     |some o=>uE Γ E σ all o af fun af'=>Fj Γ E σ all fuel fresh (listed.setIfInBounds q.1 true) af' K
     |none=>none
    |none=>Fc ((p::r).map (·.1)) fun j=>match all[j]? with
     |some o=>uE Γ E σ all o af fun af'=>Fj Γ E σ all fuel false (listed.setIfInBounds j true) af' K
     |none=>none
noncomputable def AE(Γ:cD)(E:bR)(σ:FuncId→Option ai)(all:Array Oper):Nat→Array Bool→AF→(AF→Option R)→Option R
 |0,listed,af,K=>match Region.ready .any all listed with
  | []=>K af
  |_::_=>none
 |fuel+1,listed,af,K=>match Region.ready .any all listed with
  | []=>K af
  |i::r=>match(i::r).find? (fun j=>jP true all af true j&&Region.free .any all listed j)with
   |some j=>match all[j]? with
    |some o=>uE Γ E σ all o af fun af'=>AE Γ E σ all fuel (listed.setIfInBounds j true) {af' with lock:=true} K
    |none=>none
   |none=>Fc (i::r) fun j=>match all[j]? with
    |some o=>uE Γ E σ all o af fun af'=>AE Γ E σ all fuel (listed.setIfInBounds j true) {af' with lock:=true} K
    |none=>none
def tg(all:Array Oper)(listed:Array Bool):Nat→Nat→Nat→Bool
 |0,_,_=>false
 |n+1,k,i=>match all[k]? with
  |none=>false
  |some o=>o.after.any fun e=>Region.binds .any e&&(e.on==i||(!listed.getD e.on true&&tg all listed n e.on i))
def oh(σ:FuncId→Option ai)(all:Array Oper)(j:Nat):Bool:=match all[j]? with
 |some o=> !UK σ o
 |none=>false
def Yr(σ:FuncId→Option ai)(all:Array Oper)(listed:Array Bool)(i:Nat):Bool:=
 (List.range all.size).all fun k=>listed.getD k true||k==i|| !oh σ all k||tg all listed 8 k i
def ahB(all:Array Oper):Bool:=all.any (fun o=>match o.op with| .alloc _=>true|_=>false)&&all.any (fun o=>match o.op with| .call c=>(match c.callee with| .value _=>true|_=>false)|_=>false)||
 decide (2≤(all.toList.filter fun o=>match o.op with| .call c=>(match c.callee with| .builtin b=>(match b with| .append=>true|_=>false)|_=>false)|_=>false).length)&&decide (2≤(all.toList.filter fun o=>match o.op with| .buildSlice _ _ _=>true|_=>false).length)
noncomputable def AG(Γ:cD)(E:bR)(σ:FuncId→Option ai)(all:Array Oper):Nat→Array Bool→AF→(AF→Option R)→Option R
 |0,listed,af,K=>match Region.ready .any all listed with
  | []=>K {af with lock:=false}
  |_::_=>none
 |fuel+1,listed,af,K=>match Region.ready .any all listed with
  | []=>K {af with lock:=false}
  |i::r=>match(i::r).find? (fun j=> !oh σ all j&&Region.free .any all listed j&&(jP false all af false j||jP true all af true j&&Yr σ all listed j))with
   |some j=>match all[j]? with
    |some o=>uE Γ E σ all o af fun af'=>AG Γ E σ all fuel (listed.setIfInBounds j true) {af' with lock:=true} K
    |none=>none
   |none=>Fc (i::r) fun j=>match all[j]? with
    |some o=>match oh σ all j with
     |false=>uE Γ E σ all o af fun af'=>AG Γ E σ all fuel (listed.setIfInBounds j true) {af' with lock:=true} K
     |true=>uE Γ E σ all o {af with lock:=false} fun af'=>qb Γ E σ all fuel false (listed.setIfInBounds j true) af' K
    |none=>none
def UL(l:Nat)(o:AO):List (Nat×AO)→List (Nat×AO)
 | []=>[(l,o)]
 |(m,p)::r=>match Nat.ble l m with
  |true=>(l,o)::(m,p)::r
  |false=>(m,p)::UL l o r
def Ur:List (Nat×AO)→List (Nat×AO)
 | []=>[]
 |(l,o)::r=>UL l o (Ur r)
def AF.sort(af:AF):AF:={af with objs:=Ur af.objs}
noncomputable def Us(Γ:cD)(E:bR)(σ:FuncId→Option ai)(all:Array Oper)(fresh:Bool)(listed:Array Bool)(af:AF)(N:AF→Option R)(D:Bool→Array Bool→AF→Option R):Option R:=
 match Region.ready .any all listed with
 | []=>N af
 |i::r=>match(i::r).find? (fun j=>jP false all af fresh j&&Region.free .any all listed j)with
  |some j=>match all[j]? with
   |some o=>uE Γ E σ all o af fun af'=>D fresh (listed.setIfInBounds j true) af'.sort
   |none=>none
  |none=>Fc (i::r) fun j=>match all[j]? with
   |some o=>uE Γ E σ all o af fun af'=>D false (listed.setIfInBounds j true) af'.sort
   |none=>none
noncomputable def nK(Γ:cD)(E:bR)(σ:FuncId→Option ai)(all:Array Oper):Nat→Bool→Array Bool→AF→(AF→Option R)→Option R
 |0,_,listed,af,K=>match Region.ready .any all listed with
  | []=>K af
  |_::_=>none
 |fuel+1,fresh,listed,af,K=>Us Γ E σ all fresh listed af K fun fr l af'=>nK Γ E σ all fuel fr l af' K
inductive Ex where
 |normal
 |exit (id:Nat)
 |ret
def AF.blank(n:Nat):AF:=⟨List.replicate n .junk,[],false⟩
def eS(n:Nat):List Nat→(t:Ty)→t.T→AF
 |s::ss,.pair t r,x=>⟨(eS n ss r x.2).tmps.set s (QQ s n t x.1 0),(if t.owned then fB s n t x.1 0 else [])++(eS n ss r x.2).objs,false⟩
 |_,_,_=>AF.blank n
def Gk(σ:FuncId→Option ai)(n:Nat)(af:AF)(ss:List Nat)(t:Ty):Option t.T:=
 if !af.lock&&decide (af.tmps.length=n)&&gd ss&&ss.all (fun s=>decide (s<n))&&gd (C8 n ss t)then
  match jk σ af.objs t (ss.map af.get)with
  |some (x,L)=>if gd L&&yX af.objs L t (ss.map af.get)then some x else none
  |none=>none
 else none
structure aM where
 ss:List Nat
 t:Ty
 brk:Nat
 bs:List Nat
 bt:Ty
 rs:List Nat
 rt:Ty
 L:t.T→Option (bt.T ⊕ rt.T)
def dF:Code→Nat
 | .region id _ _=>id
 | .seq a _=>dF a
 | .block _ c=>dF c
 | .scope c=>dF c
 | .loop c=>dF c+1000
 |_=>0
def rf(c:Code):Nat:=dF c+1000000
noncomputable def d6(Γ:cD)(E:bR)(σ:FuncId→Option ai)(Λ:Nat→Option aM)(n:Nat):Code→AF→(Ex→AF→Option R)→Option R
 | .skip,af,K=>K .normal af
 | .label _,af,K=>K .normal af
 | .region _ ops draw,af,K=>match draw with
   |true=>match Region.noSelect ops with
    |true=>match ops.all (UK σ)with
     |true=>AE Γ E σ ops ops.size (Array.replicate ops.size false) {af with lock:=true} fun af'=>K .normal {af' with lock:=af.lock}
     |false=>match af.lock with
      |true=>none
      |false=>match ahB ops&& !Γ.noQ with
       |true=>AG Γ E σ ops ops.size (Array.replicate ops.size false) {af with lock:=true} (K .normal)
       |false=>match Γ.noQ with
        |true=>nK Γ E σ ops ops.size true (Array.replicate ops.size false) (iC ops.toList ops.toList af) (K .normal)
        |false=>Fj Γ E σ ops ops.size true (Array.replicate ops.size false) (iC ops.toList ops.toList af) (K .normal)
    |false=>none
   |false=>yY Γ E σ ops ops.toList af (K .normal)
 | .seq a b,af,K=>d6 Γ E σ Λ n a af fun e af'=>match e with
   | .normal=>match Λ (rf b)with
     |none=>d6 Γ E σ Λ n b af' K
     |some ls=>match Gk σ n af' ls.ss ls.t with
      |none=>none
      |some x=>match ls.L x with
       |none=>none
       |some (.inl y)=>K (.exit ls.brk) (eS n ls.bs ls.bt y)
       |some (.inr z)=>K .ret (eS n ls.rs ls.rt z)
   |e=>K e af'
 | .cond c x y,af,K=>match c with
   | .tmp d=>match af.get d with
     | .dat .bool t=>match t with
       |true=>d6 Γ E σ Λ n x (af.know d true) K
       |false=>d6 Γ E σ Λ n y (af.know d false) K
     |_=>none
   | .const (.bool t)=>match t with
     |true=>d6 Γ E σ Λ n x af K
     |false=>d6 Γ E σ Λ n y af K
   |_=>none
 | .block id c,af,K=>d6 Γ E σ Λ n c af fun e af'=>match e with
   | .exit i=>if i=id then K .normal af' else K (.exit i) af'
   |e=>K e af'
 | .loop c,af,K=>match Λ (dF c)with
   |none=>none
   |some ls=>match Gk σ n af ls.ss ls.t with
    |none=>none
    |some x=>match ls.L x with
     |none=>none
     |some (.inl y)=>K (.exit ls.brk) (eS n ls.bs ls.bt y)
     |some (.inr z)=>K .ret (eS n ls.rs ls.rt z)
 | .exit id,af,K=>K (.exit id) af
 | .ret,af,K=>K .ret af
 |_,_,_=>none
end
def pd:Ty→Nat
 | .pair _ r=>pd r+1
 |_=>0
def afH(n:Nat)(a:Ty)(x:a.T):AF:=eS n (List.range (pd a)) a x
def sE(Γ:cD)(af:AF):List ResultVar→Option (List AV)
 | []=>some []
 | .tmp t::r=>match sE Γ af r with
   |some vs=>some (af.get t::vs)
   |none=>none
 | .cell a id::r=>match vt Γ af id (af.get a) some,sE Γ af r with
   |some v,some vs=>some (v::vs)
   |_,_=>none
def dP(af:AF):(a m:Ty)→Nat→Option (m.T×List Nat)
 | .unit,.unit,_=>some ((),[])
 | .pair t r,m,i=>match t.owned with
   |false=>dP af r m (i+1)
   |true=>match m with
    | .pair t' m'=>match decide (t'=t),rdV (fun _=>none) af.objs t' (af.get i)with
      |true,some (x,l1)=>match dP af r m' (i+1)with
       |some (y,l2)=>some ((x,y),l1++l2)
       |none=>none
      |_,_=>none
    |_=>none
 |_,_,_=>none
def Og(af:AF)(a m:Ty):Option (m.T×List Nat):=match m with
 | .unit=>some ((),[])
 |m=>dP af a m 0
def l9:Ty→Nat→List Nat
 | .pair t r,i=>if t.owned then i::l9 r (i+1)else l9 r (i+1)
 |_,_=>[]
def nL(k:List Nat):Code→Bool
 | .region _ ops _=>k.isEmpty||ops.all fun o=>match o.dst with|some d=> !k.contains d|none=>true
 | .seq a b=>nL k a&&nL k b
 | .cond _ a b=>nL k a&&nL k b
 | .block _ c=>nL k c
 | .loop c=>nL k c
 |_=>true
noncomputable def th(Γ:cD)(E:bR)(σ:FuncId→Option ai)(Λ:Nat→Option aM)(fn:Func)(s:ai)(x:s.a.T):Option (s.r.app s.m).T:=
 match fn.body with
 |none=>none
 |some c=>if !(gd (C8 fn.ntmps (List.range (pd s.a)) s.a)&&decide (pd s.a≤fn.ntmps))then none else d6 Γ E σ Λ fn.ntmps c (afH fn.ntmps s.a x) fun e af=>match e with
  | .exit _=>none
  |_=>match sE Γ af fn.results.toList with
   |none=>none
   |some vs=>match jk σ af.objs s.r vs,Og af s.a s.m with
    |some (y,l1),some (z,l2)=>if !af.lock&&gd (l1++l2)&&yX af.objs (l1++l2) s.r vs then some (Fb s.r s.m y z)else none
    |_,_=>none
end Go.Proofs.YtnambbcafhnhpaaGreatDoor
