/- Abstract values, frames and their evaluation: an interpreter of the model's code over data without a heap; definitions only. -/
import Derived.Test.YteldmddnmhmecaaTy
import Derived.OrdersHeld
namespace Go.Proofs.Yteldmddnmhmecaa
open Go.RowKit

inductive AV where
  | junk
  | nils
  | dat (t : Ty) (x : t.T)
  | agg (cs : List AV)
  | tup (vs : List AV)
  | bptr (l off : Nat)
  | own (l : Nat)
  | eptr (l i k off : Nat)
  | rptr (t : Ty) (x : t.T) (off : Nat)
  | clo (f : FuncId) (caps : List AV)

inductive AO where
  | box (cs : List AV)
  | arr (e : TypeId) (t : Ty) (l : List t.T)

structure AF where
  tmps : List AV
  objs : List (Option AO)

def castT (t t' : Ty) (x : t.T) : Option t'.T := if h : t = t' then some (h ▸ x) else none

/-- The cells of a datum. -/
def expl : (t : Ty) → t.T → List AV
  | .unit, _ => []
  | .pair a b, x => expl a x.1 ++ expl b x.2
  | .int k, n => [.dat (.int k) n]
  | .bool, b => [.dat .bool b]
  | .str, s => [.dat .str s]
  | .list t, l => [.dat (.list t) l]
  | .ptr t, x => [.dat (.ptr t) x]
  | .fn a r, g => [.dat (.fn a r) g]

def AV.cells : AV → Option (List AV)
  | .dat t x => some (expl t x)
  | .agg cs => some cs
  | .junk => none
  | .tup _ => none
  | v => some [v]

def AF.get (af : AF) (t : Nat) : AV := af.tmps.getD t .junk
def AF.obj (af : AF) (l : Nat) : Option AO := af.objs.getD l none
/-- The cells of a value that stands in a live frame. -/
def AF.cellsOf (af : AF) : AV → Option (List AV)
  | .own l => match af.obj l with
    | some (.arr _ _ _) => some [.own l]
    | _ => none
  | v => v.cells
def AF.put (af : AF) (d : Option Tmp) (v : AV) : AF := match d with | some d => { af with tmps := af.tmps.set d v } | none => af
def AF.putObj (af : AF) (l : Nat) (o : Option AO) : AF := { af with objs := af.objs.set l o }

/-- A scalar out of a cell. -/
def sc (objs : List (Option AO)) (t : Ty) : AV → Option t.T
  | .dat t' x => castT t' t x
  | .nils => match t with | .list _ => some [] | _ => none
  | .own l => match objs.getD l none with | some (.arr _ t' xs) => castT (.list t') t xs | _ => none
  | .rptr t' x off => if off = 0 then castT (.ptr t') t x else none
  | _ => none

def scr (objs : List (Option AO)) (t : Ty) (c : AV) (r : List AV) : Option (t.T × List AV) := match sc objs t c with
  | some x => some (x, r)
  | none => none

/-- A datum out of cells. -/
def imp (objs : List (Option AO)) : (t : Ty) → List AV → Option (t.T × List AV)
  | .unit, cs => some ((), cs)
  | .pair a b, cs => match imp objs a cs with
    | some (x, r) => match imp objs b r with
      | some (y, r') => some ((x, y), r')
      | none => none
    | none => none
  | .ptr t, c :: r => match c with
    | .bptr l off => match objs.getD l none with
      | some (.box cs) => match imp objs t (cs.drop off) with
        | some (x, _) => some (x, r)
        | none => none
      | _ => none
    | c => scr objs (.ptr t) c r
  | .int k, c :: r => scr objs (.int k) c r
  | .bool, c :: r => scr objs .bool c r
  | .str, c :: r => scr objs .str c r
  | .list t, c :: r => scr objs (.list t) c r
  | .fn a b, c :: r => scr objs (.fn a b) c r
  | _, [] => none

/-- A datum out of a value. -/
def AV.get0 (objs : List (Option AO)) (t : Ty) : AV → Option t.T
  | .dat t' x => castT t' t x
  | .agg cs => if t.isAgg then match imp objs t cs with | some (x, []) => some x | _ => none else none
  | v => if t.isAgg then none else match imp objs t [v] with | some (x, []) => some x | _ => none

def getArgs0 (objs : List (Option AO)) : (a : Ty) → List AV → Option a.T
  | .pair t r, v :: vs => match v.get0 objs t with
    | some x => match getArgs0 objs r vs with
      | some y => some (x, y)
      | none => none
    | none => none
  | .unit, [] => some ()
  | _, _ => none

/-- Rows of types. -/
def Ty.app : Ty → Ty → Ty
  | .pair a r, c => .pair a (r.app c)
  | .unit, c => c
  | t, _ => t
def Ty.row : Ty → Bool
  | .pair _ r => r.row
  | .unit => true
  | _ => false
def appT : (a : Ty) → (c : Ty) → a.T → c.T → (a.app c).T
  | .pair _ r, c, x, y => (x.1, appT r c x.2 y)
  | .unit, _, _, y => y
  | .int _, _, x, _ => x
  | .bool, _, x, _ => x
  | .str, _, x, _ => x
  | .list _, _, x, _ => x
  | .ptr _, _, x, _ => x
  | .fn _ _, _, x, _ => x
/-- What stands behind the row a in the row t. -/
def Ty.behind : Ty → Ty → Option Ty
  | .unit, t => some t
  | .pair a r, .pair a' r' => if a = a' then r.behind r' else none
  | _, _ => none

/-- What a function does, on data. own: the first result is a slice of its own making; its element's type. -/
structure Spec where
  a : Ty
  r : Ty
  fn : a.T → Option r.T
  fresh : Bool := false
  own : Option TypeId := none

/-- A datum out of a value; a function value too. -/
def AV.get1 (σ : FuncId → Option Spec) (objs : List (Option AO)) (t : Ty) (v : AV) : Option t.T :=
  match v with
  | .clo f caps => match t with
    | .fn a r => match σ f with
      | some s => match a.behind s.a with
        | some c => match getArgs0 objs c caps with
          | some y => if h : a.app c = s.a ∧ s.r = r ∧ s.own = none ∧ a.row = true then some (fun x => h.2.1 ▸ s.fn (h.1 ▸ appT a c x y)) else none
          | none => none
        | none => none
      | none => none
    | _ => none
  | v => v.get0 objs t

def getArgs (σ : FuncId → Option Spec) (objs : List (Option AO)) : (a : Ty) → List AV → Option a.T
  | .pair t r, v :: vs => match v.get1 σ objs t with
    | some x => match getArgs σ objs r vs with
      | some y => some (x, y)
      | none => none
    | none => none
  | .unit, [] => some ()
  | _, _ => none

/-- Does it hold, or lead to, memory of the call's own? -/
def AV.owns : AV → Bool
  | .own _ | .bptr _ _ | .eptr _ _ _ _ | .clo _ _ => true
  | .agg cs => cs.any fun | .own _ | .bptr _ _ | .eptr _ _ _ _ | .clo _ _ | .agg _ | .tup _ => true | _ => false
  | .tup _ => true
  | _ => false

def resTup : (r : Ty) → r.T → List AV
  | .pair t r, x => .dat t x.1 :: resTup r x.2
  | _, _ => []
def resAV (r : Ty) (y : r.T) : AV := if isOne r then (resTup r y).headD .junk else .tup (resTup r y)

/-- Zero. -/
def Ty.zero : (t : Ty) → Option t.T
  | .int _ => some (0 : Int)
  | .bool => some false
  | .str => some []
  | .list _ => some []
  | .unit => some ()
  | .pair a b => match a.zero, b.zero with
    | some x, some y => some (x, y)
    | _, _ => none
  | _ => none
/-- Field number f: its offset and type. -/
def Ty.field : Ty → Nat → Option (Nat × Ty)
  | .pair a _, 0 => some (0, a)
  | .pair a b, f + 1 => (b.field f).map fun p => (a.size + p.1, p.2)
  | _, _ => none

abbrev Tab := List (TypeId × Ty)
def Tab.at (Γ : Tab) (id : TypeId) : Option Ty := match Γ with
  | [] => none
  | (i, t) :: r => if i = id then some t else Tab.at r id

/-- The elements' type's number of a slice type. -/
abbrev Elems := List (TypeId × TypeId)
def Elems.at (E : Elems) (id : TypeId) : Option TypeId := match E with
  | [] => none
  | (i, t) :: r => if i = id then some t else Elems.at r id

def constAV : Value → AV
  | .int k n => .dat (.int k) n
  | .bool b => .dat .bool b
  | .string s => .dat .str s.data.toList
  | .slice none 0 0 => .nils
  | _ => .junk

def AF.ev (af : AF) : Operand → AV
  | .tmp t => af.get t
  | .const v => constAV v
  | .func f => .clo f []
  | .global _ => .junk

def idx {α : Type} (l : List α) (i : Int) : Option α := if 0 ≤ i then l[i.toNat]? else none

def bigN : Nat := 4611686018427387904   -- 2^62

section
variable {R : Type}

def onSome {α : Type} (o : Option α) (K : α → Option R) : Option R := match o with
  | some v => K v
  | none => none

/-- Where a list grows: its length must stay small. -/
def room (n : Nat) (x : Option R) : Option R := if n ≤ 1099511627776 then x else none

def intBin (op : BinOp) (k : IntKind) (m n : Int) (K : AV → Option R) : Option R :=
  match op with
  | .add => K (.dat (.int k) (k.wrap (m + n)))
  | .sub => K (.dat (.int k) (k.wrap (m - n)))
  | .mul => K (.dat (.int k) (k.wrap (m * n)))
  | .quo => if n = 0 then none else K (.dat (.int k) (k.wrap (m.tdiv n)))
  | .rem => if n = 0 then none else K (.dat (.int k) (m.tmod n))
  | .and | .or | .xor | .andNot => K (.dat (.int k) (bits op k m n))
  | .eql => K (.dat .bool (m == n))
  | .neq => K (.dat .bool (m != n))
  | .lss => K (.dat .bool (decide (m < n)))
  | .leq => K (.dat .bool (decide (m ≤ n)))
  | .gtr => K (.dat .bool (decide (m > n)))
  | .geq => K (.dat .bool (decide (m ≥ n)))
  | _ => none

def shiftBin (op : BinOp) (k : IntKind) (m n : Int) (K : AV → Option R) : Option R :=
  if n < 0 then none else
  match op with
  | .shl => K (.dat (.int k) (k.wrap (m * 2 ^ min n.toNat k.bits)))
  | .shr => K (.dat (.int k) (m.fdiv (2 ^ min n.toNat k.bits)))
  | _ => none

def strBin (op : BinOp) (s t : List UInt8) (K : AV → Option R) : Option R :=
  match op with
  | .add => room (s.length + t.length) (K (.dat .str (s ++ t)))
  | .eql => K (.dat .bool (s == t))
  | .neq => K (.dat .bool (!(s == t)))
  | _ => none

def binK (op : BinOp) (x y : AV) (K : AV → Option R) : Option R :=
  match x, y with
  | .dat (.int k) m, .dat (.int k') n =>
    match op with
    | .shl | .shr => shiftBin op k m n K
    | _ => if k = k' then intBin op k m n K else none
  | .dat .str s, .dat .str t => strBin op s t K
  | _, _ => none

/-- The same, of booleans too. -/
def binT (Γ : Tab) (op : BinOp) (t : TypeId) (x y : AV) (K : AV → Option R) : Option R :=
  match x, y with
  | .dat .bool a, .dat .bool b => match Γ.at t with
    | some .bool => match op with
      | .eql => K (.dat .bool (a == b))
      | .neq => K (.dat .bool (a != b))
      | _ => none
    | _ => none
  | x, y => binK op x y K

def unK (op : UnOp) (x : AV) (K : AV → Option R) : Option R :=
  match op, x with
  | .not, .dat .bool b => K (.dat .bool (!b))
  | .neg, .dat (.int k) n => K (.dat (.int k) (k.wrap (0 - n)))
  | _, _ => none

def convK (Γ : Tab) (src dst : TypeId) (x : AV) (K : AV → Option R) : Option R :=
  match x, Γ.at src, Γ.at dst with
  | .dat (.int _) n, some _, some (.int k) => K (.dat (.int k) (k.wrap n))
  | _, _, _ => none

/-- A row of cells as a value of type t. -/
def pack (t : Ty) (cs : List AV) : Option AV :=
  if cs.length = t.size then (if t.isAgg then some (.agg cs) else cs.head?) else none

def loadK (Γ : Tab) (af : AF) (id : TypeId) (p : AV) (K : AV → Option R) : Option R :=
  match Γ.at id with
  | none => none
  | some t => match p with
    | .bptr l off => match af.obj l with
      | some (.box cs) => onSome (pack t ((cs.drop off).take t.size)) K
      | _ => none
    | .rptr t' x off => if off = 0 ∧ t' = t then K (.dat t' x) else onSome (pack t (((expl t' x).drop off).take t.size)) K
    | .dat (.ptr t') x => if t' = t then K (.dat t' x) else onSome (pack t (((expl t' x).drop 0).take t.size)) K
    | .eptr l i k off => match af.obj l with
      | some (.arr _ t' xs) => match xs[i]? with
        | some x => if k = t'.size then (if off = 0 ∧ t' = t then K (.dat t' x) else onSome (pack t (((expl t' x).drop off).take t.size)) K) else none
        | none => none
      | _ => none
    | _ => none

/-- The list cs with vs from off on. -/
def putAt (cs vs : List AV) (off : Nat) : List AV := cs.take off ++ vs ++ cs.drop (off + vs.length)

def storeK (Γ : Tab) (af : AF) (id : TypeId) (p v : AV) (K : AF → Option R) : Option R :=
  match Γ.at id, af.cellsOf v with
  | some t, some vs => if vs.length = t.size then
      match p with
      | .bptr l off => match af.obj l with
        | some (.box cs) => if off + vs.length ≤ cs.length then K (af.putObj l (some (.box (putAt cs vs off)))) else none
        | _ => none
      | .eptr l i k off => match af.obj l with
        | some (.arr e t' xs) => match xs[i]? with
          | some x => match imp af.objs t' (putAt (expl t' x) vs off) with
            | some (y, []) => if k = t'.size ∧ off + vs.length ≤ t'.size ∧ v.owns = false then K (af.putObj l (some (.arr e t' (xs.set i y)))) else none
            | _ => none
          | none => none
        | _ => none
      | _ => none
    else none
  | _, _ => none

def fieldK (Γ : Tab) (id : TypeId) (p : AV) (f : Nat) (K : AV → Option R) : Option R :=
  match Γ.at id with
  | none => none
  | some t => match t.field f with
    | none => none
    | some (o, ft) => if ft.size = 0 then none else match p with
      | .bptr l off => K (.bptr l (off + o))
      | .rptr t' x off => K (.rptr t' x (off + o))
      | .dat (.ptr t') x => K (.rptr t' x o)
      | .eptr l i k off => K (.eptr l i k (off + o))
      | _ => none

def aggCells : AV → Option (List AV)
  | .agg cs => some cs
  | .dat t x => if t.isAgg then some (expl t x) else none
  | _ => none

/-- A part of a struct that is a value. -/
def partK (Γ : Tab) (id : TypeId) (v : AV) (f : Nat) (K : AV → Option R) : Option R :=
  match Γ.at id with
  | none => none
  | some t => match t.field f, aggCells v with
    | some (o, ft), some cs => if cs.length = t.size ∧ 0 < ft.size then onSome (pack ft ((cs.drop o).take ft.size)) K else none
    | _, _ => none

def indexAddrK (Γ : Tab) (E : Elems) (af : AF) (id : TypeId) (x i : AV) (K : AV → Option R) : Option R :=
  match Γ.at id, E.at id, i with
  | some (.list t), some _, .dat (.int _) n => match x with
    | .dat (.list t') l => if t' = t then onSome (idx l n) fun y => K (.rptr t' y 0) else none
    | .own l => match af.obj l with
      | some (.arr _ t' xs) => if t' = t then onSome (idx xs n) fun _ => K (.eptr l n.toNat t.size 0) else none
      | _ => none
    | _ => none
  | _, _, _ => none

def indexK (Γ : Tab) (id : TypeId) (x i : AV) (K : AV → Option R) : Option R :=
  match Γ.at id, x, i with
  | some .str, .dat .str s, .dat (.int _) n => onSome (idx s n) fun b => K (.dat (.int .u8) (b.toNat : Int))
  | _, _, _ => none

def lenK (Γ : Tab) (af : AF) (id : TypeId) (x : AV) (K : AV → Option R) : Option R :=
  match Γ.at id with
  | some (.list _) => match x with
    | .dat (.list _) l => K (.dat (.int .i64) (l.length : Int))
    | .nils => K (.dat (.int .i64) 0)
    | .own l => match af.obj l with
      | some (.arr _ _ xs) => K (.dat (.int .i64) (xs.length : Int))
      | _ => none
    | _ => none
  | some .str => match x with
    | .dat .str s => K (.dat (.int .i64) (s.length : Int))
    | _ => none
  | _ => none

/-- Parts of a struct literal, field by field, over zero. -/
def fillAV (af : AF) (t : Ty) (cs : List AV) : List (Nat × AV) → Option (List AV)
  | [] => some cs
  | (f, v) :: rest => match t.field f, af.cellsOf v with
    | some (o, ft), some vs => if vs.length = ft.size ∧ o + vs.length ≤ cs.length then fillAV af t (putAt cs vs o) rest else none
    | _, _ => none

def buildK (Γ : Tab) (af : AF) (id : TypeId) (parts : List (Nat × AV)) (K : AV → Option R) : Option R :=
  match Γ.at id with
  | none => none
  | some t => match t.zero with
    | none => none
    | some z => if t.isAgg then onSome (fillAV af t (expl t z) parts) fun cs => K (.agg cs) else none

def optInt : AV → Option Int
  | .dat (.int _) n => some n
  | _ => none

def extractK (x : AV) (i : Nat) (K : AV → Option R) : Option R :=
  match x with
  | .tup vs => onSome vs[i]? K
  | _ => none

def minMax (mx : Bool) : List AV → Option Int
  | [.dat (.int _) n] => some n
  | .dat (.int _) n :: r => match r with
    | [.dat (.int _) m] => some (if mx then (if m > n then m else n) else (if m < n then m else n))
    | _ => none
  | _ => none


def AV.ref0 (l : Nat) : AV → Bool
  | .own m => m == l
  | .bptr m _ => m == l
  | .eptr m _ _ _ => m == l
  | .clo _ _ => true
  | .agg _ => true
  | .tup _ => true
  | _ => false
/-- Does it lead to label l? -/
def AV.refs (l : Nat) : AV → Bool
  | .clo _ cs => cs.any (AV.ref0 l)
  | .agg cs => cs.any (AV.ref0 l)
  | .tup cs => cs.any (AV.ref0 l)
  | v => v.ref0 l
def AO.refs (l : Nat) : AO → Bool
  | .box cs => cs.any (AV.refs l)
  | .arr _ _ _ => false
def AF.noref (af : AF) (l : Nat) : Bool := af.tmps.all (fun v => !v.refs l) && af.objs.all fun o => match o with | some o => !o.refs l | none => true

/-- A new object at label d: a box, or a slice's array. Nothing bears that label or leads to it. -/
def newK (af : AF) (d : Option Tmp) (o : AO) (v : Nat → AV) (K : AF → Option R) : Option R :=
  match d with
  | some d => match af.obj d with
    | none => if d < af.objs.length ∧ af.noref d = true ∧ o.refs d = false then K ((af.putObj d (some o)).put (some d) (v d)) else none
    | some _ => none
  | none => none

/-- The elements of a slice literal. -/
def elemsOf (objs : List (Option AO)) (t : Ty) : Nat → List (Nat × AV) → Option (List t.T)
  | _, [] => some []
  | n, (i, v) :: rest => if i = n ∧ v.owns = false then match v.get0 objs t with
    | some x => match elemsOf objs t (n + 1) rest with
      | some xs => some (x :: xs)
      | none => none
    | none => none
    else none

def AV.scrub (l : Nat) (v : AV) : AV := if v.refs l then .junk else v
def AO.scrub (l : Nat) : AO → AO
  | .box cs => .box (cs.map (AV.scrub l))
  | o => o
/-- Label l is gone, and all that led to it. -/
def AF.drop (af : AF) (l : Nat) : AF := { tmps := af.tmps.map (AV.scrub l), objs := (af.objs.map fun o => o.map (AO.scrub l)).set l none }

/-- The slice's array l becomes data that nobody writes. -/
def AV.frz (l : Nat) (d : AV) : AV → AV
  | .own m => if m = l then d else .own m
  | v => v.scrub l
def AO.frz (l : Nat) (d : AV) : AO → AO
  | .box cs => .box (cs.map (AV.frz l d))
  | o => o
def AF.freeze (af : AF) (l : Nat) (d : AV) : AF := { tmps := af.tmps.map (AV.frz l d), objs := (af.objs.map fun o => o.map (AO.frz l d)).set l none }

/-- A box becomes data that nobody writes. -/
def AV.frzB (l : Nat) (t : Ty) (x : t.T) : AV → AV
  | .bptr m off => if m = l then .rptr t x off else .bptr m off
  | v => v.scrub l
def AO.frzB (l : Nat) (t : Ty) (x : t.T) : AO → AO
  | .box cs => .box (cs.map (AV.frzB l t x))
  | o => o
def AF.freezeB (af : AF) (l : Nat) (t : Ty) (x : t.T) : AF := { tmps := af.tmps.map (AV.frzB l t x), objs := (af.objs.map fun o => o.map (AO.frzB l t x)).set l none }

def cellsTy : List AV → Option Ty
  | [] => some .unit
  | .dat t _ :: r => if t.isAgg then none else match cellsTy r with
    | some u => some (.pair t u)
    | none => none
  | _ => none
def AF.freezeBox (af : AF) (l : Nat) : AF := match af.obj l with
  | some (.box cs) => match cellsTy cs with
    | some t => match imp af.objs t cs with
      | some (x, []) => if cs.any AV.owns then af else af.freezeB l t x
      | _ => af
    | none => af
  | _ => af
def boxOf (af : AF) (o : Oper) : Option Nat := match o.op with
  | .load _ (.tmp p) => match af.get p with
    | .bptr l _ => some l
    | _ => none
  | .fieldAddr _ (.tmp p) _ => match af.get p with
    | .bptr l _ => some l
    | _ => none
  | _ => none
/-- The boxes that a region only reads. -/
def freezeFor : List Oper → AF → AF
  | [], af => af
  | o :: r, af => match boxOf af o with
    | some l => freezeFor r (af.freezeBox l)
    | none => freezeFor r af

/-- The bounds of x[lo:hi]. -/
def bndOr (d : Int) : Option AV → Option Int
  | none => some d
  | some v => optInt v
def bounds (n : Nat) (lo hi : Option AV) : Option (Nat × Nat) :=
  match bndOr 0 lo, bndOr n hi with
  | some a, some b => if 0 ≤ a ∧ a ≤ b ∧ b ≤ (n : Int) then some (a.toNat, b.toNat) else none
  | _, _ => none

/-- x[lo:hi]. -/
def sliceK (Γ : Tab) (E : Elems) (af : AF) (id : TypeId) (x : AV) (lo hi : Option AV) (K : AF → AV → Option R) : Option R :=
  match Γ.at id with
  | some (.list t) => match E.at id with
    | none => none
    | some _ => match x with
      | .dat (.list t') l => if t' = t then onSome (bounds l.length lo hi) fun p => K af (.dat (.list t') ((l.take p.2).drop p.1)) else none
      | .own m => match af.obj m with
        | some (.arr _ t' l) => if t' = t then onSome (bounds l.length lo hi) fun p => K (af.freeze m (.dat (.list t') l)) (.dat (.list t') ((l.take p.2).drop p.1)) else none
        | _ => none
      | _ => none
  | some .str => match x with
    | .dat .str s => onSome (bounds s.length lo hi) fun p => K af (.dat .str ((s.take p.2).drop p.1))
    | _ => none
  | _ => none

/-- What is appended. -/
def srcOf (objs : List (Option AO)) (t : Ty) : AV → Option (List t.T)
  | .own l => match objs.getD l none with | some (.arr _ t' ys) => castT (.list t') (.list t) ys | _ => none
  | .dat t' ys => castT t' (.list t) ys
  | _ => none

def appendK (Γ : Tab) (E : Elems) (af : AF) (d : Option Tmp) (id : TypeId) (x y : AV) (K : AF → Option R) : Option R :=
  match Γ.at id, E.at id with
  | some (.list t), some e => match srcOf af.objs t y with
    | none => none
    | some ys => if t.zero.isSome = false then none else match x with
      | .own l => match af.obj l with
        | some (.arr e' t' xs) => if e' = e ∧ y.refs l = false then match castT (.list t') (.list t) xs with
            | some xs => room (xs.length + ys.length) (newK (af.drop l) d (.arr e t (xs ++ ys)) .own K)
            | none => none
            else none
        | _ => none
      | .nils => room ys.length (newK af d (.arr e t ys) .own K)
      | _ => none
  | _, _ => none

def makeSliceK (Γ : Tab) (E : Elems) (af : AF) (d : Option Tmp) (id : TypeId) (n c : AV) (K : AF → Option R) : Option R :=
  match Γ.at id, E.at id, n, c with
  | some (.list t), some e, .dat (.int _) n, .dat (.int _) c => match t.zero with
    | some z => if 0 ≤ n ∧ n ≤ c then room c.toNat (newK af d (.arr e t (List.replicate n.toNat z)) .own K) else none
    | none => none
  | _, _, _, _ => none

def buildSliceK (Γ : Tab) (E : Elems) (af : AF) (d : Option Tmp) (id : TypeId) (len : Nat) (parts : List (Nat × AV)) (K : AF → Option R) : Option R :=
  match Γ.at id, E.at id with
  | some (.list t), some e => match elemsOf af.objs t 0 parts with
    | some xs => if parts.length = len ∧ len * t.size ≤ 1000 ∧ t.zero.isSome = true then newK af d (.arr e t xs) .own K else none
    | none => none
  | _, _ => none

def Spec.ownFlat (s : Spec) : Bool := match s.r with
  | .pair (.list t) r => t.flat && r.flat
  | _ => false

/-- May it be handed memory of the caller's own, as data? -/
def Spec.lends (s : Spec) : Bool := match s.own with
  | none => s.r.flat || s.fresh
  | some _ => s.ownFlat

/-- A call of a function that has a spec. -/
def callK (σ : FuncId → Option Spec) (af : AF) (d : Option Tmp) (s : Spec) (args : List AV) (K : AF → Option R) : Option R :=
  match getArgs σ af.objs s.a args with
  | none => none
  | some x => if args.any AV.owns && !s.lends then none else
    match s.fn x with
    | none => none
    | some y => match s.own with
      | none => K (af.put d (resAV s.r y))
      | some e => match resTup s.r y with
        | .dat (.list t) l :: rest => newK af d (.arr e t l) (fun d => if isOne s.r then .own d else .tup (.own d :: rest)) K
        | _ => none

def opK (Γ : Tab) (E : Elems) (σ : FuncId → Option Spec) (o : Oper) (af : AF) (K : AF → Option R) : Option R :=
  match o.op with
  | .move x => K (af.put o.dst (af.ev x))
  | .assign x => K (af.put o.dst (af.ev x))
  | .pick c a b => match af.ev c with
    | .dat .bool t => match t with
      | true => K (af.put o.dst (af.ev a))
      | false => K (af.put o.dst (af.ev b))
    | _ => none
  | .alloc id => match Γ.at id with
    | some t => match t.zero with
      | some z => newK af o.dst (.box (expl t z)) (.bptr · 0) K
      | none => none
    | none => none
  | .box _ x => match af.cellsOf (af.ev x) with
    | some cs => newK af o.dst (.box cs) (.bptr · 0) K
    | none => none
  | .load id p => loadK Γ af id (af.ev p) fun v => K (af.put o.dst v)
  | .store id p v => match o.dst with
    | none => storeK Γ af id (af.ev p) (af.ev v) K
    | some _ => none
  | .nilCheck x => match af.ev x with
    | .bptr l off => K (af.put o.dst (.bptr l off))
    | .rptr t x off => K (af.put o.dst (.rptr t x off))
    | .dat (.ptr t) x => K (af.put o.dst (.dat (.ptr t) x))
    | .dat (.fn a r) g => K (af.put o.dst (.dat (.fn a r) g))
    | .clo f caps => K (af.put o.dst (.clo f caps))
    | _ => none
  | .binOp op t x y _ => binT Γ op t (af.ev x) (af.ev y) fun v => K (af.put o.dst v)
  | .unOp op _ x => unK op (af.ev x) fun v => K (af.put o.dst v)
  | .convert s t x => convK Γ s t (af.ev x) fun v => K (af.put o.dst v)
  | .makeFunc fn first caps => match fn with
    | .func f => if first.size = 0 then K (af.put o.dst (.clo f (caps.toList.map af.ev))) else none
    | _ => none
  | .makeSlice id n c => makeSliceK Γ E af o.dst id (af.ev n) (af.ev c) K
  | .buildSlice id len parts => buildSliceK Γ E af o.dst id len (parts.toList.map fun p => (p.1, af.ev p.2)) K
  | .build id parts => buildK Γ af id (parts.toList.map fun p => (p.1, af.ev p.2)) fun v => K (af.put o.dst v)
  | .slice id x lo hi mx => match mx with
    | none => sliceK Γ E af id (af.ev x) (lo.map af.ev) (hi.map af.ev) fun af' v => K (af'.put o.dst v)
    | some _ => none
  | .fieldAddr id p f => fieldK Γ id (af.ev p) f fun v => K (af.put o.dst v)
  | .field id x f => partK Γ id (af.ev x) f fun v => K (af.put o.dst v)
  | .indexAddr id x i => indexAddrK Γ E af id (af.ev x) (af.ev i) fun v => K (af.put o.dst v)
  | .index id x i => indexK Γ id (af.ev x) (af.ev i) fun v => K (af.put o.dst v)
  | .extract x i => extractK (af.ev x) i fun v => K (af.put o.dst v)
  | .call c => match c.callee with
    | .builtin b => match b, c.args.toList with
      | .len, [x] => match c.argTypes.toList with
        | [t] => lenK Γ af t (af.ev x) fun v => K (af.put o.dst v)
        | _ => none
      | .append, [x, y] => match c.argTypes.toList with
        | [t, t'] => if t = t' then appendK Γ E af o.dst t (af.ev x) (af.ev y) K else none
        | _ => none
      | .max, [x, y] => match af.ev x, af.ev y with
        | .dat (.int k) m, .dat (.int k') n => if k = k' then K (af.put o.dst (.dat (.int k) (if n > m then n else m))) else none
        | _, _ => none
      | .min, [x, y] => match af.ev x, af.ev y with
        | .dat (.int k) m, .dat (.int k') n => if k = k' then K (af.put o.dst (.dat (.int k) (if n < m then n else m))) else none
        | _, _ => none
      | _, _ => none
    | .value f => match af.ev f with
      | .clo g caps => match σ g with
        | some s => callK σ af o.dst s (c.args.toList.map af.ev ++ caps) K
        | none => none
      | .dat (.fn a r) g => match getArgs σ af.objs a (c.args.toList.map af.ev) with
        | some x => if (c.args.toList.map af.ev).any AV.owns && !r.flat then none else match g x with
          | some y => K (af.put o.dst (resAV r y))
          | none => none
        | none => none
      | _ => none
    | .invoke _ _ => none
  | _ => none

/-- Slot d is known to hold t. -/
def AF.know (af : AF) (d : Tmp) (t : Bool) : AF := af.put (some d) (.dat .bool t)

def opsK (Γ : Tab) (E : Elems) (σ : FuncId → Option Spec) (all : Array Oper) : List Oper → AF → (AF → Option R) → Option R
  | [], af, K => K af
  | o :: rest, af, K => match o.guard with
    | none => opK Γ E σ o af fun af' => opsK Γ E σ all rest af' K
    | some (j, want) => match (all[j]?).bind (·.dst) with
      | none => none
      | some d => match af.get d with
        | .tup [] => opsK Γ E σ all rest (af.put o.dst (.tup [])) K
        | .dat .bool t => match t with
          | true => if want then opK Γ E σ o (af.know d true) fun af' => opsK Γ E σ all rest af' K else opsK Γ E σ all rest ((af.know d true).put o.dst (.tup [])) K
          | false => if want then opsK Γ E σ all rest ((af.know d false).put o.dst (.tup [])) K else opK Γ E σ o (af.know d false) fun af' => opsK Γ E σ all rest af' K
        | _ => none

/-- One operation of a region. -/
def oneK (Γ : Tab) (E : Elems) (σ : FuncId → Option Spec) (all : Array Oper) (o : Oper) (af : AF) (K : AF → Option R) : Option R :=
  match o.guard with
  | none => opK Γ E σ o af K
  | some (j, want) => match (all[j]?).bind (·.dst) with
    | none => none
    | some d => match af.get d with
      | .tup [] => K (af.put o.dst (.tup []))
      | .dat .bool t => match t with
        | true => if want then opK Γ E σ o (af.know d true) K else K ((af.know d true).put o.dst (.tup []))
        | false => if want then K ((af.know d false).put o.dst (.tup [])) else opK Γ E σ o (af.know d false) K
      | _ => none

/-- Operations that leave the world as it is, and that may be taken first; fresh: nothing has been written since the region began. -/
def stillB (af : AF) (fresh : Bool) (o : Oper) : Bool := match o.op with
  | .move _ | .assign _ | .pick _ _ _ | .binOp _ _ _ _ _ | .unOp _ _ _ | .convert _ _ _ | .fieldAddr _ _ _ | .indexAddr _ _ _ | .field _ _ _ | .extract _ _ => true
  | .load _ p => fresh && match af.ev p with
    | .rptr _ _ _ => true
    | .dat (.ptr _) _ => true
    | _ => false
  | _ => false
def stillAt (all : Array Oper) (af : AF) (fresh : Bool) (j : Nat) : Bool := match all[j]? with
  | some o => stillB af fresh o
  | none => false

/-- A region whose operations come up in whatever order. -/
def drawK (Γ : Tab) (E : Elems) (σ : FuncId → Option Spec) (all : Array Oper) : Nat → Bool → Array Bool → AF → (AF → Option R) → Option R
  | 0, _, listed, af, K => match Region.ready .any all listed with
    | [] => K af
    | _ :: _ => none
  | fuel + 1, fresh, listed, af, K => match Region.ready .any all listed with
    | [] => K af
    | i :: r => match (i :: r).find? (fun j => stillAt all af fresh j && Region.free .any all listed j) with
      | some j => match all[j]? with
        | some o => oneK Γ E σ all o af fun af' => drawK Γ E σ all fuel fresh (listed.setIfInBounds j true) af' K
        | none => none
      | none => match r with
        | [] => match all[i]? with
          | some o => oneK Γ E σ all o af fun af' => drawK Γ E σ all fuel false (listed.setIfInBounds i true) af' K
          | none => none
        | _ :: _ => none

inductive Ex where
  | normal
  | exit (id : Nat)
  | ret

/-- What a slot holds at a loop's head or end. -/
inductive Live where
  | val (t : Ty)
  | arr (e : TypeId) (t : Ty)
  | box (t : Ty)

def Live.ty : Live → Ty
  | .val t => t
  | .arr _ t => .list t
  | .box t => t

def liveTy : List (Nat × Live) → Ty
  | [] => .unit
  | (_, v) :: r => .pair v.ty (liveTy r)

def AF.blank (n : Nat) : AF := ⟨List.replicate n .junk, List.replicate n none⟩

/-- The frame of n slots of which these hold x. -/
def mkF (n : Nat) : (ls : List (Nat × Live)) → (liveTy ls).T → AF
  | [], _ => AF.blank n
  | (s, .val t) :: r, x => (mkF n r x.2).put (some s) (.dat t x.1)
  | (s, .arr e t) :: r, x => ((mkF n r x.2).put (some s) (.own s)).putObj s (some (.arr e t x.1))
  | (s, .box t) :: r, x => ((mkF n r x.2).put (some s) (.bptr s 0)).putObj s (some (.box (expl t x.1)))

/-- What these slots hold. -/
def rdF (af : AF) : (ls : List (Nat × Live)) → Option (liveTy ls).T
  | [] => some ()
  | (s, .val t) :: r => if (af.get s).owns then none else match (af.get s).get0 af.objs t with
    | some x => match rdF af r with
      | some y => some (x, y)
      | none => none
    | none => none
  | (s, .arr e t) :: r => match af.get s with
    | .own l => match af.obj l with
      | some (.arr e' t' xs) => if e' = e then match castT (.list t') (.list t) xs with
        | some x => match rdF af r with
          | some y => some (x, y)
          | none => none
        | none => none
        else none
      | _ => none
    | .nils => match rdF af r with
      | some y => some ([], y)
      | none => none
    | _ => none
  | (s, .box t) :: r => match af.get s with
    | .bptr l off => if off = 0 then match af.obj l with
      | some (.box cs) => if cs.any AV.owns then none else match imp af.objs t cs with
        | some (x, []) => match rdF af r with
          | some y => some (x, y)
          | none => none
        | _ => none
      | _ => none
      else none
    | _ => none

def AF.lab (af : AF) (s : Nat) : Nat := match af.get s with
  | .own l => l
  | .bptr l _ => l
  | _ => 1000000 + s

/-- The labels that are handed on. -/
def liveLabels (af : AF) : List (Nat × Live) → List Nat
  | [] => []
  | (_, .val _) :: r => liveLabels af r
  | (s, .arr _ _) :: r => af.lab s :: liveLabels af r
  | (s, .box _) :: r => af.lab s :: liveLabels af r

def nodupB : List Nat → Bool
  | [] => true
  | a :: r => !r.contains a && nodupB r

/-- A loop's meaning: from what its slots hold at the head to what they hold where it is left. -/
structure LSpec where
  live : List (Nat × Live)
  brk : Nat
  blive : List (Nat × Live)
  rlive : List (Nat × Live)
  L : (liveTy live).T → Option ((liveTy blive).T ⊕ (liveTy rlive).T)

def codeKey : Code → Nat
  | .region id _ _ => id
  | .seq a _ => codeKey a
  | .block _ c => codeKey c
  | .scope c => codeKey c
  | .loop c => codeKey c
  | _ => 0

/-- Read, each label once. -/
def rdL (n : Nat) (af : AF) (ls : List (Nat × Live)) : Option (liveTy ls).T := if decide (af.tmps.length = n) && nodupB (liveLabels af ls) then rdF af ls else none

def codeK (Γ : Tab) (E : Elems) (σ : FuncId → Option Spec) (Λ : Nat → Option LSpec) (n : Nat) : Code → AF → (Ex → AF → Option R) → Option R
  | .skip, af, K => K .normal af
  | .label _, af, K => K .normal af
  | .region _ ops draw, af, K => match draw with
    | true => match Region.noSelect ops with
      | true => drawK Γ E σ ops ops.size true (Array.replicate ops.size false) (freezeFor ops.toList af) (K .normal)
      | false => none
    | false => opsK Γ E σ ops ops.toList af (K .normal)
  | .seq a b, af, K => codeK Γ E σ Λ n a af fun e af' => match e with
    | .normal => codeK Γ E σ Λ n b af' K
    | e => K e af'
  | .cond c x y, af, K => match c with
    | .tmp d => match af.get d with
      | .dat .bool t => match t with
        | true => codeK Γ E σ Λ n x (af.know d true) K
        | false => codeK Γ E σ Λ n y (af.know d false) K
      | _ => none
    | _ => none
  | .block id c, af, K => codeK Γ E σ Λ n c af fun e af' => match e with
    | .exit i => if i = id then K .normal af' else K (.exit i) af'
    | e => K e af'
  | .loop c, af, K => match Λ (codeKey c) with
    | none => none
    | some ls => match rdL n af ls.live with
      | none => none
      | some x => match ls.L x with
        | none => none
        | some (.inl y) => K (.exit ls.brk) (mkF n ls.blive y)
        | some (.inr z) => K .ret (mkF n ls.rlive z)
  | .exit id, af, K => K (.exit id) af
  | .ret, af, K => K .ret af
  | _, _, _ => none
end

def iniT : (a : Ty) → a.T → List AV
  | .pair t r, x => .dat t x.1 :: iniT r x.2
  | _, _ => []

/-- The frame at the beginning. -/
def iniF (n : Nat) (a : Ty) (x : a.T) : AF := ⟨iniT a x ++ List.replicate (n - (iniT a x).length) .junk, List.replicate n none⟩

def resVals (Γ : Tab) (af : AF) : List ResultVar → Option (List AV)
  | [] => some []
  | .tmp t :: r => match resVals Γ af r with
    | some vs => some (af.get t :: vs)
    | none => none
  | .cell a id :: r => match loadK Γ af id (af.get a) some, resVals Γ af r with
    | some v, some vs => some (v :: vs)
    | _, _ => none

/-- A function, carried out on data. -/
def execFn (Γ : Tab) (E : Elems) (σ : FuncId → Option Spec) (Λ : Nat → Option LSpec) (fn : Func) (s : Spec) (x : s.a.T) : Option s.r.T :=
  match fn.body with
  | none => none
  | some c => codeK Γ E σ Λ fn.ntmps c (iniF fn.ntmps s.a x) fun e af => match e with
    | .exit _ => none
    | _ => match resVals Γ af fn.results.toList with
      | none => none
      | some vs => match s.own with
        | none => if s.fresh && !s.r.flat then none else getArgs0 af.objs s.r vs
        | some e => match vs with
          | .own l :: rest => match af.obj l with
            | some (.arr e' _ _) => if e' = e ∧ rest.any AV.owns = false then getArgs0 af.objs s.r vs else none
            | _ => none
          | .nils :: rest => if rest.any AV.owns = false then getArgs0 af.objs s.r vs else none
          | _ => none
end Go.Proofs.Yteldmddnmhmecaa
