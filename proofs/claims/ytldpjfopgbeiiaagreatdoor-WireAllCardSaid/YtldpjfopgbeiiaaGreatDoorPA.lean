/- Part of a proof: an interpreter of the loaded code over abstract values, its soundness, and what the functions compute. Nothing is claimed here. -/
import Derived.WalkKit
import Derived.Deep.AppendSrc
import Derived.Deep.MidRow
import Derived.Lib.Strings
import Derived.Laws.IdiomStrings
import Derived.Laws.BytesArg
import Derived.DataShut
import GoSem.Builtin.Min
import Derived.OrdersHeld
import Derived.Great.BuildSlice

/- The abstract interpreter: abstract values, and a weakest-precondition function over the loaded code. No claim stands here; its soundness is proved in the texts behind it. -/
namespace Go.AI

/-- Abstract values. A slice is the list of its elements ('nl': it is known to be nil); a struct is the row of its cells. -/
inductive V where
  | lit (v : Value)
  | agg (cs : List V)
  | tup (vs : List V)
  | sl (sz : Nat) (xs : List V)
  | nl (sz : Nat)
  | ptr (x off : Nat)
  | ip (cs : List V)
  | fn (f : Fn) (first capt : List V)
  | ifc (t : TypeId) (v : V)
  | mp (x : Nat)

instance : Inhabited V := ⟨.tup []⟩

/-- What a slot or a cell holds: a value; a slice that owns the room behind it; the address of a local object; a value that is there under a guard. -/
inductive A where
  | v (x : V)
  | own (sz : Nat) (xs : List V)
  | lp (k off : Nat)
  | gd (s : Nat) (b : Bool) (a : A)
  | junk

instance : Inhabited A := ⟨.junk⟩

/-- Local objects. -/
inductive LO where
  | cells (cs : List A)
  | fwd (x : Nat)
  | iter (s : ByteArray) (pos : Nat)

/-- Objects. -/
inductive HO where
  | cells (cs : List A)

abbrev H := Nat → Option HO
def H.empty : H := fun _ => none
def H.upd (h : H) (x : Nat) (o : HO) : H := fun y => bif Nat.beq y x then some o else h y
/-- Without those objects. -/
def H.hide (fx : Nat → Bool) (h : H) : H := fun x => bif fx x then none else h x
/-- Those objects as they were, the others as they are now. -/
def H.back (fx : Nat → Bool) (h h' : H) : H := fun x => bif fx x then h x else h' x
def H.le (h h' : H) : Prop := ∀ x o, h x = some o → h' x = some o

abbrev T := Nat → A
def T.upd (t : T) (k : Nat) (a : A) : T := fun j => bif Nat.beq j k then a else t j
def T.put (t : T) (d : Option Nat) (a : A) : T := match d with | some k => t.upd k a | none => t

def V.cells : V → List V
  | .agg cs => cs
  | v => [v]

/-- One cell's value. -/
def V.one : V → Bool
  | .agg _ | .tup _ => false
  | .lit v => v.oneCell'
  | _ => true

def V.i (n : Int) : V := .lit (.int .i64 n)
def V.b (b : Bool) : V := .lit (.bool b)
def V.s (s : ByteArray) : V := .lit (.string s)
def V.u8 (b : UInt8) : V := .lit (.int .u8 b.toNat)
/-- A slice's elements that are bytes. -/
def V.bytes (l : List UInt8) : List V := l.map V.u8

def V.ofConst : Value → V
  | .agg cs => .agg (cs.toList.map .lit)
  | v => .lit v

/-- Forget that a slice is nil. -/
def V.weak1 : V → V
  | .nl sz => .sl sz []
  | v => v
def V.weak : V → V
  | .nl sz => .sl sz []
  | .agg cs => .agg (cs.map V.weak1)
  | .tup cs => .tup (cs.map fun c => match c with | .agg ds => .agg (ds.map V.weak1) | c => c.weak1)
  | v => v

def A.deg : A → A
  | .own sz xs => .v (.sl sz xs)
  | a => a

def A.weak : A → A
  | .v x => .v x.weak
  | a => a

def A.toV : A → Option V
  | .v x => some x
  | .own sz xs => some (.sl sz xs)
  | _ => none

/-- Strip the guard, if it holds here. -/
def A.strip (gc : List (Nat × Bool)) : A → A
  | .gd s b a => bif gc.any (fun p => Nat.beq p.1 s && (p.2 == b)) then a else .gd s b a
  | a => a

def allV : List A → Option (List V)
  | [] => some []
  | a :: r => match a.toV, allV r with | some v, some vs => some (v :: vs) | _, _ => none

/-- A struct's field: where its cells begin, how many, is it a row itself, its type. -/
structure FI where
  off : Nat
  size : Nat
  agg : Bool
  ty : TypeId

/-- The kinds of types, as far as the interpreter asks. 'plain' of a struct: its cells are integers, bools and strings alone, none of them without a name. -/
inductive TK where
  | int (k : IntKind) | bool | str | slice (e : TypeId) | struct (fs : List FI) (plain : Bool) | array (n : Nat) (e : TypeId) | ptr (e : TypeId) | iface | func | map (k e : TypeId) | other
structure TI where
  k : TK
  size : Nat
  bytes : Nat
  zero : List V
  meths : List (String × FuncId)
instance : Inhabited TI := ⟨⟨.other, 0, 0, [], []⟩⟩
def TI.agg (t : TI) : Bool := match t.k with | .struct _ _ | .array _ _ => true | _ => false

inductive Tr (α : Type) where
  | nil
  | node (v : α) (l r : Tr α)
def Tr.get {α : Type} [Inhabited α] : Tr α → Nat → α
  | .nil, _ => default
  | .node v l r, n => bif Nat.beq n 0 then v else bif Nat.beq (n % 2) 1 then l.get (n / 2) else r.get (n / 2 - 1)

abbrev Ty := Tr TI

/-- Where an ownership comes from. -/
inductive Fr where
  | no
  | slot (s : Nat)
  | lc (k j : Nat)
  | hc (x j : Nat)

def degAt (cs : List A) (j : Nat) : List A := match cs[j]? with | some a => cs.set j a.deg | none => cs
def Fr.t (f : Fr) (t : T) : T := match f with | .slot s => t.upd s (t s).deg | _ => t
def Fr.l (f : Fr) (l : List LO) : List LO := match f with | .lc k j => (match l[k]? with | some (.cells cs) => l.set k (.cells (degAt cs j)) | _ => l) | _ => l
def Fr.h (f : Fr) (h : H) : H := match f with | .hc x j => (match h x with | some (.cells cs) => h.upd x (.cells (degAt cs j)) | _ => h) | _ => h

/-- How a region's calls see the objects. -/
inductive Md where
  | full
  | pure
  | hide (fx : Nat → Bool)
  | but (k : Nat)
def Md.reads : Md → Nat → Prop
  | .hide fx, x => fx x = true
  | _, _ => True

/-- May the operations of the region look into that local object? -/
def Md.lreads : Md → Nat → Bool
  | .but k, j => !Nat.beq k j
  | _, _ => true
/-- May they write it? -/
def Md.lstores : Md → Nat → Bool
  | .full, _ => true
  | .but k, j => Nat.beq k j
  | _, _ => false

def Md.isFull : Md → Bool
  | .full => true
  | _ => false

/-- What the interpreter is told of a function: 'κ': the slots that take an ownership over; 'ord': of each region that draws its order the order in which it is looked at, its operations that only evaluate and those behind them, and whether its calls see objects. -/
structure Ctx where
  n : Nat
  ty : Ty
  κ : Nat → Bool
  ord : Nat → List Nat × List Nat × Nat

def Ctx.tg (C : Ctx) (t : TypeId) : TI := bif Nat.ble C.n t then default else C.ty.get t

def ob : Option Bool → Prop → Prop
  | none, p => p
  | some g, p => g = true → p

def inI64 (n : Int) : Prop := -9223372036854775808 ≤ n ∧ n ≤ 9223372036854775807

/-- A constant, of a type. -/
def constA (C : Ctx) (ty : TypeId) (v : Value) : A :=
  match v with
  | .slice none 0 0 => (match (C.tg ty).k with | .slice e => .own (C.tg e).size [] | _ => .junk)
  | v => .v (V.ofConst v)
def evalO (C : Ctx) (ty : TypeId) (t : T) : Operand → A
  | .tmp k => t k
  | .const v => constA C ty v
  | .global _ => .junk
  | .func f => .v (.lit (.func (.func f) #[] #[]))

/-- Rows of integers, bools and strings alike? They are of the kinds of the row 'z'. -/
def eqCells : List V → List V → List V → Option Bool
  | [], [], [] => some true
  | .lit (.int k _) :: z, .lit (.int k1 x) :: r, .lit (.int k2 y) :: s => bif k == k1 && k == k2 then (eqCells z r s).map (decide (x = y) && ·) else none
  | .lit (.bool _) :: z, .lit (.bool x) :: r, .lit (.bool y) :: s => (eqCells z r s).map ((x == y) && ·)
  | .lit (.string _) :: z, .lit (.string x) :: r, .lit (.string y) :: s => (eqCells z r s).map (decide (x = y) && ·)
  | _, _, _ => none

def binInt (g : Option Bool) (op : BinOp) (k : IntKind) (x y : Int) (K : V → Prop) : Prop :=
  match op with
  | .add => match k with | .i64 => ob g (inI64 (x + y)) ∧ K (.lit (.int k (x + y))) | _ => K (.lit (.int k (k.wrap (x + y))))
  | .sub => match k with | .i64 => ob g (inI64 (x - y)) ∧ K (.lit (.int k (x - y))) | _ => K (.lit (.int k (k.wrap (x - y))))
  | .mul => match k with | .i64 => ob g (inI64 (x * y)) ∧ K (.lit (.int k (x * y))) | _ => K (.lit (.int k (k.wrap (x * y))))
  | .quo => ob g (y ≠ 0 ∧ k.wrap (x.tdiv y) = x.tdiv y) ∧ K (.lit (.int k (x.tdiv y)))
  | .rem => ob g (y ≠ 0) ∧ K (.lit (.int k (x.tmod y)))
  | .and => K (.lit (.int k (k.wrap ((BitVec.ofInt k.bits x) &&& (BitVec.ofInt k.bits y)).toNat)))
  | .or => K (.lit (.int k (k.wrap ((BitVec.ofInt k.bits x) ||| (BitVec.ofInt k.bits y)).toNat)))
  | .xor => K (.lit (.int k (k.wrap ((BitVec.ofInt k.bits x) ^^^ (BitVec.ofInt k.bits y)).toNat)))
  | .andNot => K (.lit (.int k (k.wrap ((BitVec.ofInt k.bits x) &&& ~~~ (BitVec.ofInt k.bits y)).toNat)))
  | .eql => K (.lit (.bool (x == y)))
  | .neq => K (.lit (.bool (x != y)))
  | .lss => K (.lit (.bool (decide (x < y))))
  | .leq => K (.lit (.bool (decide (x ≤ y))))
  | .gtr => K (.lit (.bool (decide (y < x))))
  | .geq => K (.lit (.bool (decide (y ≤ x))))
  | _ => False

def binStr (g : Option Bool) (op : BinOp) (x y : ByteArray) (K : V → Prop) : Prop :=
  match op with
  | .add => ob g (x.size + y.size ≤ 9223372036854775807) ∧ K (.lit (.string (x ++ y)))
  | .eql => K (.lit (.bool (decide (x = y))))
  | .neq => K (.lit (.bool (!decide (x = y))))
  | .lss => K (.lit (.bool (Op.bytesLess x.data.toList y.data.toList)))
  | .geq => K (.lit (.bool (!Op.bytesLess x.data.toList y.data.toList)))
  | .leq => K (.lit (.bool (Op.bytesLess x.data.toList y.data.toList || decide (x = y))))
  | .gtr => K (.lit (.bool (!(Op.bytesLess x.data.toList y.data.toList || decide (x = y)))))
  | _ => False

def binV (C : Ctx) (g : Option Bool) (op : BinOp) (ty : TypeId) (a b : V) (K : V → Prop) : Prop :=
  match op with
  | .shl => match a, b with
    | .lit (.int k x), .lit (.int _ y) => ob g (0 ≤ y) ∧ K (.lit (.int k (k.wrap (x * 2 ^ (min y.toNat k.bits)))))
    | _, _ => False
  | .shr => match a, b with
    | .lit (.int k x), .lit (.int _ y) => ob g (0 ≤ y) ∧ K (.lit (.int k (x.fdiv (2 ^ (min y.toNat k.bits)))))
    | _, _ => False
  | op =>
    match a, b with
    | .lit (.int k x), .lit (.int k' y) => (bif k == k' then binInt g op k x y K else False)
    | .lit (.string x), .lit (.string y) => binStr g op x y K
    | .lit (.bool x), .lit (.bool y) =>
      match op, (C.tg ty).k with
      | .eql, .bool => K (.lit (.bool (x == y)))
      | .neq, .bool => K (.lit (.bool (x != y)))
      | _, _ => False
    | .agg cs, .agg ds =>
      match op, (C.tg ty).k, eqCells (C.tg ty).zero cs ds with
      | .eql, .struct _ true, some e => K (.lit (.bool e))
      | .neq, .struct _ true, some e => K (.lit (.bool (!e)))
      | _, _, _ => False
    | .ptr _ _, .lit (.pointer none) =>
      match op, (C.tg ty).k with
      | .eql, .ptr _ => K (.lit (.bool false))
      | .neq, .ptr _ => K (.lit (.bool true))
      | _, _ => False
    | .lit (.pointer none), .lit (.pointer none) =>
      match op, (C.tg ty).k with
      | .eql, .ptr _ => K (.lit (.bool true))
      | .neq, .ptr _ => K (.lit (.bool false))
      | _, _ => False
    | _, _ => False

def unV (g : Option Bool) (op : UnOp) (a : V) (K : V → Prop) : Prop :=
  match op, a with
  | .not, .lit (.bool b) => K (.lit (.bool (!b)))
  | .neg, .lit (.int .i64 x) => ob g (inI64 (-x)) ∧ K (.lit (.int .i64 (-x)))
  | _, _ => False

/-- Parts put into flat cells. -/
def fillV (fs : List FI) : List V → List (Nat × V) → Option (List V)
  | cs, [] => some cs
  | cs, (i, v) :: r =>
    match fs[i]? with
    | some ⟨off, size, _, _⟩ => bif Nat.beq v.cells.length size && Nat.ble (off + size) cs.length && v.cells.all V.one then fillV fs (cs.take off ++ v.cells ++ cs.drop (off + size)) r else none
    | none => none

def setRange {α : Type} (cs : List α) (off : Nat) (xs : List α) : List α := cs.take off ++ xs ++ cs.drop (off + xs.length)

/-- A row of cells as one value. -/
def packV (ti : TI) (cs : List V) : Option V :=
  bif ti.agg then (bif Nat.beq cs.length ti.size then some (.agg cs) else none) else match cs with | [c] => some c | _ => none

/-- So many cells at an offset, as a value. -/
def readV (ti : TI) (cs : List A) (off : Nat) : Option V := match allV ((cs.drop off).take ti.size) with | some vs => packV ti vs | none => none

def maxFrom (n : Int) : List V → Option Int
  | [] => some n
  | .lit (.int .i64 x) :: r => maxFrom (max n x) r
  | _ => none
def minFrom (n : Int) : List V → Option Int
  | [] => some n
  | .lit (.int .i64 x) :: r => minFrom (min n x) r
  | _ => none
def maxInts : List V → Option Int
  | .lit (.int .i64 x) :: r => maxFrom x r
  | _ => none
def minInts : List V → Option Int
  | .lit (.int .i64 x) :: r => minFrom x r
  | _ => none

/-- A load out of cells: a cell that is owned, or a local's address, or a value. -/
def loadC (κ : Bool) (ti : TI) (cs : List A) (off : Nat) (src : Nat → Fr) (K : A → Fr → Prop) : Prop :=
  match ti.agg, cs[off]? with
  | false, some (.own sz xs) => bif κ then K (.own sz xs) (src off) else K (.v (.sl sz xs)) .no
  | false, some (.lp k o) => K (.lp k o) .no
  | _, _ => match readV ti cs off with | some v => K (.v v) .no | none => False

/-- Bounds of a slice expression, as numbers. -/
def bound (a : Option A) (d : Nat) (K : Nat → Prop) (g : Option Bool) (top : Nat) : Prop :=
  match a with
  | none => K d
  | some (.v (.lit (.int _ n))) => ob g (0 ≤ n ∧ n ≤ top) ∧ K n.toNat
  | _ => False

/-- The type of a struct's field; of whatever else: its own. -/
def fieldTy (C : Ctx) (ty : TypeId) (i : Nat) : TypeId := match (C.tg ty).k with | .struct fs _ => (match fs[i]? with | some f => f.ty | none => 0) | _ => 0

/-- An operation that turns no memory: its result, and where an ownership goes away. 'g': the guard that it stands under; 'gc': the guards that hold. -/
def nop (C : Ctx) (md : Md) (g : Option Bool) (gc : List (Nat × Bool)) (o : Oper) (t : T) (l : List LO) (h : H) (K : A → Fr → Prop) : Prop :=
  let ev (ty : TypeId) (x : Operand) : A := (evalO C ty t x).strip gc
  let evv (ty : TypeId) (x : Operand) : Option V := (ev ty x).toV
  let κ : Bool := g.isNone && C.κ (o.dst.getD 0)
  match o.op with
  | .move x =>
    match x with
    | .tmp s => match ev o.type x with
      | .own sz xs => bif κ then K (.own sz xs) (.slot s) else K (.v (.sl sz xs)) .no
      | .gd _ _ _ => False
      | a => K a .no
    | _ => K (ev o.type x) .no
  | .assign x =>
    match x with
    | .tmp s => match ev o.type x with
      | .own sz xs => bif g.isNone then K (.own sz xs) (.slot s) else K (.v (.sl sz xs)) .no
      | .gd _ _ _ => False
      | a => K a .no
    | _ => K (ev o.type x) .no
  | .pick c a b =>
    match c with
    | .tmp s =>
      match ev 0 c, (evalO C 0 t a).strip ((s, true) :: gc), (evalO C 0 t b).strip ((s, false) :: gc) with
      | .v (.lit (.bool cb)), .v (.lit (.bool x)), .v (.lit (.bool y)) => K (.v (.lit (.bool (bif cb then x else y)))) .no
      | _, _, _ => False
    | _ => False
  | .build ty parts =>
    let ti := C.tg ty
    match ti.k, allV (parts.toList.map fun p => ev (fieldTy C ty p.1) p.2) with
    | .struct fs _, some vs => (bif Nat.beq ti.zero.length 0 then False else match fillV fs ti.zero ((parts.toList.map (·.1)).zip vs) with | some cs => K (.v (.agg cs)) .no | none => False)
    | _, _ => False
  | .load ty x =>
    let ti := C.tg ty
    bif Nat.beq ti.size 0 then False else
    match ev 0 x with
    | .lp k off =>
      match l[k]? with
      | some (.cells cs) => (bif md.lreads k then loadC κ ti cs off (.lc k) K else False)
      | some (.fwd x) => ∃ cs, ob g (h x = some (.cells cs) ∧ md.reads x) ∧ loadC (κ && g.isNone) ti cs off (.hc x) K
      | _ => False
    | .v (.ptr x off) => ∃ cs, ob g (h x = some (.cells cs) ∧ md.reads x) ∧ loadC (κ && g.isNone) ti cs off (.hc x) K
    | .v (.ip cs) => (match packV ti (cs.take ti.size) with | some v => K (.v v) .no | none => False)
    | _ => False
  | .nilCheck x =>
    match ev 0 x with
    | .lp k off => K (.lp k off) .no
    | .v (.ptr a off) => K (.v (.ptr a off)) .no
    | .v (.ip cs) => K (.v (.ip cs)) .no
    | .v (.fn (.func f) a b) => K (.v (.fn (.func f) a b)) .no
    | _ => False
  | .binOp op ty x y _ =>
    match ev ty x, ev ty y with
    | .lp _ _, .v (.lit (.pointer none)) =>
      (match op, (C.tg ty).k with
      | .eql, .ptr _ => K (.v (.lit (.bool false))) .no
      | .neq, .ptr _ => K (.v (.lit (.bool true))) .no
      | _, _ => False)
    | _, _ => match evv ty x, evv ty y with
      | some a, some b => binV C g op ty a b fun v => K (.v v) .no
      | _, _ => False
  | .unOp op _ x => (match evv 0 x with | some a => unV g op a fun v => K (.v v) .no | none => False)
  | .convert src dst x =>
    match (C.tg src).k, (C.tg dst).k, evv src x with
    | .int _, .int k, some (.lit (.int _ n)) => ∃ z, k.wrap n = z ∧ K (.v (.lit (.int k z))) .no
    | .str, .str, some (.lit (.string s)) => K (.v (.lit (.string s))) .no
    | .slice e, .str, some (.sl _ xs) =>
      (match (C.tg e).k with
      | .int .u8 => ∃ b : List UInt8, xs = V.bytes b ∧ K (.v (.lit (.string ⟨b.toArray⟩))) .no
      | _ => False)
    | .slice e, .str, some (.nl _) =>
      (match (C.tg e).k with
      | .int .u8 => K (.v (.lit (.string ⟨#[]⟩))) .no
      | _ => False)
    | _, _, _ => False
  | .makeInterface ty x =>
    match (C.tg ty).k, evv ty x with
    | .iface, _ => False
    | .other, _ => False
    | _, some v => K (.v (.ifc ty v)) .no
    | _, none => False
  | .fieldAddr s x f =>
    match (C.tg s).k with
    | .struct fs _ => (match fs[f]? with
      | some ⟨off, size, _, _⟩ => (match size, ev 0 x with
        | 0, _ => False
        | _, .lp k o => K (.lp k (o + off)) .no
        | _, .v (.ptr x o) => K (.v (.ptr x (o + off))) .no
        | _, .v (.ip cs) => off ≤ cs.length ∧ K (.v (.ip (cs.drop off))) .no
        | _, _ => False)
      | none => False)
    | _ => False
  | .field s x f =>
    match (C.tg s).k, evv 0 x with
    | .struct fs _, some (.agg cs) => (match fs[f]? with
      | some ⟨off, size, true, _⟩ => K (.v (.agg ((cs.drop off).take size))) .no
      | some ⟨off, _, false, _⟩ => (match cs[off]? with | some c => K (.v c) .no | none => False)
      | none => False)
    | _, _ => False
  | .indexAddr ty x i =>
    match (C.tg ty).k, evv 0 x, evv 0 i with
    | .slice e, some (.sl sz xs), some (.lit (.int _ n)) => (bif Nat.beq sz (C.tg e).size && Nat.ble 1 sz then ∃ y, ob g (0 ≤ n ∧ xs[n.toNat]? = some y) ∧ K (.v (.ip y.cells)) .no else False)
    | .array m e, _, some (.lit (.int _ n)) => (match ev 0 x with
      | .lp k o => (bif Nat.ble 1 (C.tg e).size then ob g (0 ≤ n ∧ n < m ∧ 2 ≤ m) ∧ K (.lp k (o + n.toNat * (C.tg e).size)) .no else False)
      | _ => False)
    | _, _, _ => False
  | .index ty x i =>
    match (C.tg ty).k, evv 0 x, evv 0 i with
    | .str, some (.lit (.string s)), some (.lit (.int _ n)) => ob g (0 ≤ n ∧ n < s.size) ∧ K (.v (.lit (.int .u8 (s.data.getD n.toNat 0).toNat))) .no
    | _, _, _ => False
  | .slice ty x lo hi mx =>
    let full (sz : Nat) (xs : List V) : Prop :=
      match (C.tg ty).k with
      | .slice e => (bif Nat.beq sz (C.tg e).size && Nat.ble 1 sz then
          (match mx with
          | none => bound (hi.map (ev 0)) xs.length (fun h => bound (lo.map (ev 0)) 0 (fun l => K (.v (.sl sz ((xs.take h).drop l))) .no) g h) g xs.length
          | some m => (match hi with
            | some hi => bound (some (ev 0 m)) 0 (fun m => bound (some (ev 0 hi)) xs.length (fun h => h = m ∧ bound (lo.map (ev 0)) 0 (fun l => K (.own sz ((xs.take h).drop l)) .no) g h) g m) g xs.length
            | none => False))
        else False)
      | _ => False
    match ev 0 x with
    | .v (.lit (.string s)) => (match (C.tg ty).k, mx with
      | .str, none => bound (hi.map (ev 0)) s.size (fun h => bound (lo.map (ev 0)) 0 (fun l => K (.v (.lit (.string (s.extract l h)))) .no) g h) g s.size
      | _, _ => False)
    | .v (.sl sz xs) => full sz xs
    | .own sz xs => full sz xs
    | .v (.nl sz) => full sz []
    | _ => False
  | .extract x i => (match evv 0 x with | some (.tup vs) => (match vs[i]? with | some v => K (.v v) .no | none => False) | _ => False)
  | .call c =>
    match c.callee with
    | .builtin .len =>
      (match c.argTypes.toList, c.args.toList with
      | [ty], [x] => (match (C.tg ty).k, evv 0 x with
        | .str, some (.lit (.string s)) => K (.v (.i s.size)) .no
        | .slice _, some (.sl _ xs) => K (.v (.i xs.length)) .no
        | .slice _, some (.nl _) => K (.v (.i 0)) .no
        | _, _ => False)
      | _, _ => False)
    | .builtin .max => (match allV (c.args.toList.map (ev 0)) with
      | some vs => (match maxInts vs with | some n => K (.v (.i n)) .no | none => False)
      | none => False)
    | .builtin .min => (match allV (c.args.toList.map (ev 0)) with
      | some vs => (match minInts vs with | some n => K (.v (.i n)) .no | none => False)
      | none => False)
    | _ => False
  | _ => False

/-- Does the operation turn no memory? -/
def isN (C : Ctx) (op : Op) : Bool :=
  match op with
  | .alloc _ | .box _ _ | .buildSlice _ _ _ | .store _ _ _ | .makeSlice _ _ _ | .makeFunc _ _ _ | .range _ _ | .next _ _ => false
  | .convert _ dst _ => (match (C.tg dst).k with | .slice _ => false | _ => true)
  | .call c => (match c.callee with | .builtin .len => true | .builtin .max => true | .builtin .min => true | _ => false)
  | _ => true

end Go.AI

/- What the abstract values mean: concrete values in a world; and what a contract says. -/
namespace Go.AI

/-- The places that may hold an ownership. -/
inductive Pl where
  | slot (k : Nat)
  | lc (k j : Nat)
  | hc (x j : Nat)
  | ret
  deriving DecidableEq

/-- Who may write a block. -/
inductive Ow where
  | free
  | out
  | pl (p : Pl)
  | lo (k : Nat)
  | ho (x : Nat)
  deriving DecidableEq

/-- The ghost: below 'im b' block b stays as it is; who may write it beyond; where the objects lie; how many names are used. -/
structure Gh where
  im : Nat → Nat
  ow : Nat → Ow
  ph : Nat → Nat
  nx : Nat

def flat (xs : List V) : List V := xs.flatMap V.cells

inductive RepV (w : World) (G : Gh) : Value → V → Prop where
  | lit (v : Value) : RepV w G v (.lit v)
  | agg (us : List Value) (cs : List V) (hl : us.length = cs.length) (h : ∀ (j : Nat) (u : Value) (c : V), us[j]? = some u → cs[j]? = some c → RepV w G u c) : RepV w G (.agg us.toArray) (.agg cs)
  | tup (us : List Value) (cs : List V) (hl : us.length = cs.length) (h : ∀ (j : Nat) (u : Value) (c : V), us[j]? = some u → cs[j]? = some c → RepV w G u c) : RepV w G (.tuple us.toArray) (.tup cs)
  | sl (b o n cap sz : Nat) (xs : List V) (us : List Value) (hn : n = xs.length) (hc : n ≤ cap) (hs : ∀ x ∈ xs, x.cells.length = sz) (hl : us.length = (flat xs).length)
      (h1 : ∀ c ∈ flat xs, c.one = true)
      (hm : ∀ (j : Nat) (u : Value), us[j]? = some u → w.cell? ⟨b, o + j, none⟩ = some u ∧ o + j < G.im b) (h : ∀ (j : Nat) (u : Value) (c : V), us[j]? = some u → (flat xs)[j]? = some c → RepV w G u c) :
      RepV w G (.slice (some ⟨b, o, none⟩) n cap) (.sl sz xs)
  | slnil (sz : Nat) : RepV w G (.slice none 0 0) (.sl sz [])
  | slz (a : Addr) (sz : Nat) : RepV w G (.slice (some a) 0 0) (.sl sz [])
  | nl (sz : Nat) : RepV w G (.slice none 0 0) (.nl sz)
  | ptr (x off : Nat) (hx : x < G.nx) : RepV w G (.pointer (some ⟨G.ph x, off, none⟩)) (.ptr x off)
  | ip (b o : Nat) (cs : List V) (us : List Value) (hl : us.length = cs.length)
      (hm : ∀ (j : Nat) (u : Value), us[j]? = some u → w.cell? ⟨b, o + j, none⟩ = some u ∧ o + j < G.im b) (h : ∀ (j : Nat) (u : Value) (c : V), us[j]? = some u → cs[j]? = some c → RepV w G u c) :
      RepV w G (.pointer (some ⟨b, o, none⟩)) (.ip cs)
  | fn (f : Fn) (us us' : List Value) (cs cs' : List V) (hl : us.length = cs.length) (hl' : us'.length = cs'.length)
      (h : ∀ (j : Nat) (u : Value) (c : V), us[j]? = some u → cs[j]? = some c → RepV w G u c) (h' : ∀ (j : Nat) (u : Value) (c : V), us'[j]? = some u → cs'[j]? = some c → RepV w G u c) :
      RepV w G (.func f us.toArray us'.toArray) (.fn f cs cs')
  | ifc (t : TypeId) (u : Value) (v : V) (h : RepV w G u v) : RepV w G (.iface t u) (.ifc t v)
  | mp (x : Nat) (hx : x < G.nx) : RepV w G (.map (some (G.ph x))) (.mp x)

/-- The room behind a slice that owns it: the block is this place's; its cells lie there and may be written. -/
def Spare (w : World) (G : Gh) (p : Pl) (b o n cap sz : Nat) : Prop :=
  cap = n ∨ (G.ow b = .pl p ∧ G.im b = o + n * sz ∧ ∀ j, o + n * sz ≤ j → j < o + cap * sz → (w.cell? ⟨b, j, none⟩).isSome = true ∧ w.frozen? ⟨b, j, none⟩ = false)

inductive RepA (w : World) (G : Gh) (lam : List Nat) : Pl → Value → A → Prop where
  | v (p : Pl) (u : Value) (x : V) (h : RepV w G u x) : RepA w G lam p u (.v x)
  | own (p : Pl) (b o n cap sz : Nat) (xs : List V) (h : RepV w G (.slice (some ⟨b, o, none⟩) n cap) (.sl sz xs)) (hs : Spare w G p b o n cap sz) :
      RepA w G lam p (.slice (some ⟨b, o, none⟩) n cap) (.own sz xs)
  | onil (p : Pl) (sz : Nat) : RepA w G lam p (.slice none 0 0) (.own sz [])
  | oz (p : Pl) (a : Addr) (sz : Nat) : RepA w G lam p (.slice (some a) 0 0) (.own sz [])
  | lp (p : Pl) (k off b : Nat) (h : lam[k]? = some b) : RepA w G lam p (.pointer (some ⟨b, off, none⟩)) (.lp k off)
  | junk (p : Pl) (u : Value) : RepA w G lam p u .junk

/-- A local object, at its block. -/
inductive RepO (w : World) (G : Gh) (lam : List Nat) (k b : Nat) : LO → Prop where
  | cells (cs : List A) (c : Array Value) (e : TypeId) (ho : G.ow b = .lo k) (hi : G.im b = 0) (hb : w.heap[b]? = some (.cells c e (0, 0))) (hl : c.size = cs.length)
      (h : ∀ (j : Nat) (u : Value) (a : A), c[j]? = some u → cs[j]? = some a → RepA w G lam (.lc k j) u a ∧ u.oneCell' = true) : RepO w G lam k b (.cells cs)
  | fwd (x : Nat) (hx : x < G.nx) (h : b = G.ph x) : RepO w G lam k b (.fwd x)
  | iter (s : ByteArray) (pos : Nat) (ho : G.ow b = .lo k) (hi : G.im b = 0) (hb : w.heap[b]? = some (.stringIter s pos)) : RepO w G lam k b (.iter s pos)

def RepL (w : World) (G : Gh) (lam : List Nat) (l : List LO) : Prop := lam.length = l.length ∧ ∀ (k b : Nat) (o : LO), lam[k]? = some b → l[k]? = some o → RepO w G lam k b o

structure RepHO (w : World) (G : Gh) (x : Nat) (cs : List A) : Prop where
  ho : G.ow (G.ph x) = .ho x
  hi : G.im (G.ph x) = 0
  nx : x < G.nx
  hb : ∃ c e, w.heap[G.ph x]? = some (.cells c e (0, 0)) ∧ c.size = cs.length ∧ ∀ (j : Nat) (u : Value) (a : A), c[j]? = some u → cs[j]? = some a → RepA w G [] (.hc x j) u a ∧ u.oneCell' = true

def RepH (w : World) (G : Gh) (h : H) : Prop := ∀ x cs, h x = some (.cells cs) → RepHO w G x cs

/-- The ghost fits the world: nothing is said of blocks that are not there; the objects' blocks are there; what was there at the start is nobody's. -/
structure Wf (W0 : World) (w : World) (G : Gh) : Prop where
  past : ∀ b, w.heap.size ≤ b → G.ow b = .free ∧ G.im b = 0
  ph : ∀ x, x < G.nx → G.ph x < w.heap.size
  old : ∀ b, b < W0.heap.size → G.ow b = .free
  below : RowKit.Below W0.heap.size W0 w

/-- A later world and ghost: what was said of values stays true. -/
structure Ext (w : World) (G : Gh) (w' : World) (G' : Gh) : Prop where
  size : w.heap.size ≤ w'.heap.size
  nx : G.nx ≤ G'.nx
  ph : ∀ x, x < G.nx → G'.ph x = G.ph x
  im : ∀ b, G.im b ≤ G'.im b
  cell : ∀ b o, o < G.im b → w'.cell? ⟨b, o, none⟩ = w.cell? ⟨b, o, none⟩

/-- Blocks that are nobody's, or somebody's else, stay as they are. -/
def Keeps (w : World) (G : Gh) (w' : World) (G' : Gh) : Prop :=
  ∀ b, b < w.heap.size → (G.ow b = .free ∨ G.ow b = .out) → w'.heap[b]? = w.heap[b]? ∧ G'.ow b = G.ow b ∧ G'.im b = G.im b

/-- What may stand as a call's argument or result: no local. -/
def A.noLp : A → Bool
  | .v _ | .own _ _ | .junk => true
  | _ => false

/-- A function called: entered, or the library's own. -/
def Entered (P : Program) (f : FuncId) (us : Array Value) (w : World) (R : Ending → World → Prop) : Prop :=
  match (callFunc f us).run P w with
  | .ok (.enter f' us') w' => Calls P f' us' w' R
  | .ok (.value v) w' => R (.returned v) w'
  | _ => False

theorem Entered.mono {P : Program} {f : FuncId} {us : Array Value} {w : World} {R R' : Ending → World → Prop} (h : Entered P f us w R) (hr : ∀ e w', R e w' → R' e w') : Entered P f us w R' := by
  unfold Entered at h ⊢
  split at h
  · rename_i hh; exact Calls.mono h hr
  · exact hr _ _ h
  · exact h.elim

/-- **A CONTRACT**: called with values that mean 'as', in a memory whose objects are 'h', the function returns; its result and the objects behind it meet Q; nobody else's memory turns. -/
def ACalls (P : Program) (W0 : World) (f : FuncId) (as : List A) (h : H) (Q : A → H → Prop) : Prop :=
  ∀ (w : World) (G : Gh) (us : List Value), Wf W0 w G → us.length = as.length → (∀ (j : Nat) (u : Value) (a : A), us[j]? = some u → as[j]? = some a → RepA w G [] (.slot j) u a) → RepH w G h →
    (∀ b, match G.ow b with | .free | .out | .ho _ | .pl (.hc _ _) => True | .pl (.slot _) => True | _ => False) →
    Entered P f us.toArray w fun e w' => ∃ u a h' G', e = .returned u ∧ Q a h' ∧ Wf W0 w' G' ∧ RepA w' G' [] .ret u a ∧ RepH w' G' h' ∧ Ext w G w' G' ∧ Keeps w G w' G' ∧
      (∀ b, match G'.ow b with | .free | .ho _ | .pl (.hc _ _) | .pl .ret => True | .out => b < w.heap.size ∧ G.ow b = .out | _ => False)

theorem ACalls.mono {P : Program} {W0 : World} {f : FuncId} {as : List A} {h : H} {Q Q' : A → H → Prop} (hc : ACalls P W0 f as h Q) (hq : ∀ a h', Q a h' → Q' a h') : ACalls P W0 f as h Q' :=
  fun w G us h1 h2 h3 h4 h5 => (hc w G us h1 h2 h3 h4 h5).mono fun _ _ ⟨u, a, h', G', e, q, r⟩ => ⟨u, a, h', G', e, hq _ _ q, r⟩

end Go.AI

/- The weakest preconditions of operations that change memory, of regions, of code. -/
namespace Go.AI

/-! ### What changes memory -/

/-- Which local objects a pointer among these leads to, the inner ones first. -/
def lpsOf : List A → List Nat
  | [] => []
  | .lp k _ :: r => k :: lpsOf r
  | _ :: r => lpsOf r
def inner (l : List LO) (k : Nat) : List Nat :=
  match l[k]? with
  | some (.cells cs) => lpsOf cs ++ [k]
  | _ => [k]
def reach (l : List LO) (as : List A) : List Nat :=
  (lpsOf as).flatMap fun k =>
    match l[k]? with
    | some (LO.cells cs) => (lpsOf cs).flatMap (inner l) ++ [k]
    | _ => [k]

/-- A local's address as an object's, where it has become one. -/
def outA (l : List LO) : A → Option A
  | .lp k off => match l[k]? with | some (.fwd x) => some (.v (.ptr x off)) | _ => none
  | .v x => some (.v x)
  | .own sz xs => some (.own sz xs)
  | .junk => some .junk
  | .gd _ _ _ => none
def outAll (l : List LO) : List A → Option (List A)
  | [] => some []
  | a :: r => match outA l a, outAll l r with | some b, some bs => some (b :: bs) | _, _ => none

/-- Local objects become objects with names. -/
def promo : List Nat → List LO → H → (List LO → H → Prop) → Prop
  | [], l, h, K => K l h
  | k :: ks, l, h, K =>
    match l[k]? with
    | some (.cells cs) => (match outAll l cs with
      | some cs' => ∀ x, h x = none → promo ks (l.set k (.fwd x)) (h.upd x (.cells cs')) K
      | none => False)
    | some (.fwd _) => promo ks l h K
    | _ => False

/-- An own slice that is handed on leaves the slot that it lay in. -/
def argA (C : Ctx) (t : T) (p : TypeId × Operand) : A := match p.2 with | .tmp s => bif C.κ s then t s else (t s).deg.weak | x => (evalO C p.1 t x).deg.weak
def argT1 (κ : Nat → Bool) (t : T) : Operand → T
  | .tmp s => bif κ s then t.upd s (t s).deg else t
  | _ => t
def argsT (κ : Nat → Bool) (t : T) : List Operand → T
  | [] => t
  | x :: r => argsT κ (argT1 κ t x) r
def argsA (C : Ctx) (t : T) : List (TypeId × Operand) → List A
  | [] => []
  | p :: r => argA C t p :: argsA C (argT1 C.κ t p.2) r

def callA (P : Program) (W0 : World) (md : Md) (f : FuncId) (as : List A) (l : List LO) (h : H) (K : A → List LO → H → Prop) : Prop :=
  match md with
  | .full => promo (reach l as) l h fun l h => match outAll l as with
    | some bs => ACalls P W0 f bs h fun r h' => K r l h'
    | none => False
  | .pure => bif as.all A.noLp then ACalls P W0 f as H.empty fun r _ => K r l h else False
  | .but _ => bif as.all A.noLp then ACalls P W0 f as H.empty fun r _ => K r l h else False
  | .hide fx => match outAll l as with
    | some bs => ACalls P W0 f bs (h.hide fx) fun r h' => K r l (H.back fx h h')
    | none => False


/-- A cell's value; one that is nil owns its room. -/
def cellA : V → A
  | .nl sz => .own sz []
  | v => .v v

/-- A value into a local's or an object's cells. -/
def storeC (cs : List A) (off : Nat) (ti : TI) (a : A) : Option (List A) :=
  match a with
  | .v v => bif Nat.beq v.cells.length ti.size && Nat.ble (off + ti.size) cs.length && v.cells.all V.one && Nat.ble 1 ti.size then some (setRange cs off (v.cells.map cellA)) else none
  | .own sz xs => bif Nat.beq ti.size 1 && Nat.ble (off + 1) cs.length && !ti.agg then some (cs.set off (.own sz xs)) else none
  | .lp k o => bif Nat.beq ti.size 1 && Nat.ble (off + 1) cs.length && !ti.agg then some (cs.set off (.lp k o)) else none
  | _ => none

/-- The slot that an ownership leaves, if it is stored. -/
def leave (t : T) (x : Operand) : T := match x with | .tmp s => t.upd s (t s).deg | _ => t

def ownSrc (sz : Nat) : A → Option (List V)
  | .own s xs => bif Nat.beq s sz then some xs else none
  | .v (.nl s) => bif Nat.beq s sz then some [] else none
  | _ => none
/-- What is appended. -/
def appSrc (C : Ctx) (sz : Nat) (ty : TypeId) : A → Option (List V)
  | .v (.sl s xs) => match (C.tg ty).k with | .slice _ => bif Nat.beq s sz then some xs else none | _ => none
  | .own s xs => match (C.tg ty).k with | .slice _ => bif Nat.beq s sz then some xs else none | _ => none
  | .v (.nl _) => match (C.tg ty).k with | .slice _ => some [] | _ => none
  | .v (.lit (.string s)) => match (C.tg ty).k with | .str => bif Nat.beq sz 1 then some (V.bytes s.data.toList) else none | _ => none
  | _ => none

/-- 'n, n + 1, ..'? -/
def isFrom : Nat → List Nat → Bool
  | _, [] => true
  | n, i :: r => Nat.beq i n && isFrom (n + 1) r

/-- The argument that a closure or a method's value leads to. -/
def calleeOf (C : Ctx) (t : T) : Callee → Option (FuncId × List A × List A)
  | .value (.func f) => some (f, [], [])
  | .value (.tmp s) => match t s with | .v (.fn (.func f) a b) => some (f, a.map .v, b.map .v) | .v (.lit (.func (.func f) a b)) => (bif Nat.beq a.size 0 && Nat.beq b.size 0 then some (f, [], []) else none) | _ => none
  | .invoke (.tmp s) name => match t s with | .v (.ifc ty v) => (match (C.tg ty).meths.lookup name with | some f => some (f, [.v v], []) | none => none) | _ => none
  | _ => none

def eop (P : Program) (W0 : World) (C : Ctx) (md : Md) (o : Oper) (t : T) (l : List LO) (h : H) (K : A → T → List LO → H → Prop) : Prop :=
  match o.op with
  | .alloc e => (bif Nat.beq (C.tg e).zero.length (C.tg e).size && Nat.ble 1 (C.tg e).size && (C.tg e).zero.all V.one then K (.lp l.length 0) t (l ++ [.cells ((C.tg e).zero.map cellA)]) h else False)
  | .box e x =>
    (match (evalO C e t x).toV with
    | some v => (bif v.cells.all V.one then K (.lp l.length 0) t (l ++ [.cells (v.cells.map cellA)]) h else False)
    | none => False)
  | .buildSlice ty n parts =>
    (match (C.tg ty).k with
    | .slice e => (match allV (parts.toList.map fun p => (evalO C e t p.2).weak) with
      | some vs => (bif Nat.beq n vs.length && isFrom 0 (parts.toList.map (·.1)) && Nat.ble (n * (C.tg e).size) 16777216 && Nat.ble 1 (C.tg e).size && Nat.ble 1 (C.tg e).zero.length && Nat.ble 1 n &&
          vs.all (fun v => Nat.beq v.cells.length (C.tg e).size && v.cells.all V.one) then K (.own (C.tg e).size vs) t l h else False)
      | none => False)
    | _ => False)
  | .makeSlice ty n m =>
    (match (C.tg ty).k, (evalO C 0 t n).toV, (evalO C 0 t m).toV with
    | .slice e, some (.lit (.int .i64 n)), some (.lit (.int .i64 m)) =>
      (match (C.tg e).zero with
      | [z] => (bif z.one && Nat.beq (C.tg e).size 1 && !(C.tg e).agg then 0 ≤ n ∧ n ≤ m ∧ m * (C.tg e).bytes ≤ 70368744177664 ∧ m ≤ 70368744177664 ∧ K (.own 1 (List.replicate n.toNat z.weak1)) t l h else False)
      | zs => (bif Nat.beq zs.length (C.tg e).size && Nat.ble 1 zs.length && zs.all V.one then n = 0 ∧ 0 ≤ m ∧ m * (C.tg e).bytes ≤ 70368744177664 ∧ m ≤ 70368744177664 ∧ K (.own zs.length []) t l h else False))
    | _, _, _ => False)
  | .convert src dst x =>
    (match (C.tg src).k, (C.tg dst).k, (evalO C 0 t x).toV with
    | .str, .slice e, some (.lit (.string s)) => (match (C.tg e).k with | .int .u8 => K (.own 1 (V.bytes s.data.toList)) t l h | _ => False)
    | _, _, _ => False)
  | .store ty x y =>
    (match evalO C 0 t x with
    | .lp k off =>
      match l[k]? with
      | some (.cells cs) => (bif md.lstores k then (match storeC cs off (C.tg ty) (evalO C ty t y) with | some cs' => K .junk (leave t y) (l.set k (.cells cs')) h | none => False) else False)
      | some (.fwd x) => md.isFull = true ∧ (match outA l (evalO C ty t y) with | some a => ∃ cs, h x = some (.cells cs) ∧ (match storeC cs off (C.tg ty) a with | some cs' => K .junk (leave t y) l (h.upd x (.cells cs')) | none => False) | none => False)
      | _ => False
    | .v (.ptr x off) => md.isFull = true ∧ (match outA l (evalO C ty t y) with | some a => ∃ cs, h x = some (.cells cs) ∧ (match storeC cs off (C.tg ty) a with | some cs' => K .junk (leave t y) l (h.upd x (.cells cs')) | none => False) | none => False)
    | _ => False)
  | .makeFunc (.func f) first capt => md.isFull = true ∧
    (match first.toList.map (evalO C 0 t), capt.toList.map (evalO C 0 t) with
    | as, bs => promo (reach l (as ++ bs)) l h fun l h => (match (outAll l as).bind allV, (outAll l bs).bind allV with
      | some vs, some us => K (.v (.fn (.func f) (vs.map V.weak) (us.map V.weak))) t l h
      | _, _ => False))
  | .range ty x =>
    (match (C.tg ty).k, (evalO C 0 t x).toV with
    | .str, some (.lit (.string s)) => K (.lp l.length 0) t (l ++ [.iter s 0]) h
    | _, _ => False)
  | .next (.tmp s) true =>
    (match t s with
    | .lp k 0 => (match l[k]? with
      | some (.iter s pos) => md.isFull = true ∧ (pos < s.size → K (.v (.tup [V.b true, V.i pos, .lit (.int .i32 (Utf8.decode s pos).1)])) t (l.set k (.iter s (pos + (Utf8.decode s pos).2))) h) ∧
          (s.size ≤ pos → K (.v (.tup [V.b false])) t l h)
      | _ => False)
    | _ => False)
  | .call c =>
    match c.callee with
    | .builtin .append =>
      (match c.args.toList, c.argTypes.toList with
      | [x, y], [tx, ty] =>
        (match (C.tg tx).k with
        | .slice e =>
          let ti := C.tg e
          (match ownSrc ti.size (evalO C tx t x), appSrc C ti.size ty (evalO C ty t y) with
          | some xs, some ys => (bif Nat.ble 1 ti.size && Nat.ble 1 ti.bytes && Nat.beq ti.zero.length ti.size then (xs.length + ys.length) * ti.bytes ≤ 70368744177664 ∧ ∃ zs, xs ++ ys = zs ∧ K (.own ti.size zs) (leave t x) l h else False)
          | _, _ => False)
        | _ => False)
      | _, _ => False)
    | .builtin _ => False
    | ce => (match calleeOf C t ce with
      | some (f, pre, post) => (bif Nat.beq c.argTypes.toList.length c.args.toList.length then callA P W0 md f (pre ++ argsA C t (c.argTypes.toList.zip c.args.toList) ++ post) l h fun r l h => K r (argsT C.κ t c.args.toList) l h else False)
      | none => False)
  | _ => False

/-- What a guarded call sees. -/
def Md.vis : Md → Nat → Bool
  | .full, _ => true
  | .hide fx, x => !fx x
  | _, _ => false
def H.seen (md : Md) (h : H) : H := fun x => bif md.vis x then h x else none
/-- A guard: the slots on which it hangs, and whether it holds. -/
def guardOf (t : T) : Nat → Nat → Bool → Option (List (Nat × Bool) × Bool)
  | 0, _, _ => none
  | n + 1, s, b =>
    match t s with
    | .v (.lit (.bool c)) => some ([(s, b)], bif b then c else !c)
    | .gd s' b' (.v (.lit (.bool c))) => (match guardOf t n s' b' with | some (ch, g) => some ((s, b) :: ch, g && (bif b then c else !c)) | none => none)
    | _ => none

/-- Behind a region no guard is left. -/
def T.ungd (t : T) : T := fun k => match t k with | .gd _ _ _ => .junk | a => a

/-- One operation of a region. -/
def wOp (P : Program) (W0 : World) (C : Ctx) (md : Md) (all : List Oper) (o : Oper) (t : T) (l : List LO) (h : H) (K : T → List LO → H → Prop) : Prop :=
  match o.guard with
  | none =>
    bif isN C o.op then nop C md none [] o t l h fun a f => K ((f.t t).put o.dst a) (f.l l) (f.h h)
    else eop P W0 C md o t l h fun a t l h => K (t.put o.dst a) l h
  | some (j, b) =>
    match all[j]?.bind (·.dst) with
    | some s =>
      match guardOf t 9 s b with
      | some (ch, g) =>
        bif isN C o.op then nop C md (some g) ch o t l h fun a _ => K (t.put o.dst (.gd s b a.deg)) l h
        else match o.op with
          | .call c => (match c.callee with
            | .value (.func f) => (match outAll [] ((c.argTypes.toList.zip c.args.toList).map fun p => ((evalO C p.1 t p.2).strip ch).deg.weak) with
              | some as => Nat.beq c.argTypes.toList.length c.args.toList.length = true ∧ ∃ x : V, (g = true → ACalls P W0 f as (h.seen md) fun r h' => r = .v x ∧ h' = h.seen md) ∧ K (t.put o.dst (.gd s b (.v x))) l h
              | none => False)
            | _ => False)
          | _ => False
      | none => False
    | none => False

/-- Regions: the operations of a list of numbers, in its order. -/
def wSeq (P : Program) (W0 : World) (C : Ctx) (md : Md) (all : List Oper) : List Nat → T → List LO → H → (T → List LO → H → Prop) → Prop
  | [], t, l, h, K => K t l h
  | i :: r, t, l, h, K =>
    match all[i]? with
    | none => False
    | some o => wOp P W0 C md all o t l h fun t l h => wSeq P W0 C md all r t l h K

/-- Has a region guards? -/
def hasGd (ops : List Oper) : Bool := ops.any fun o => o.guard.isSome

/-- A state of which these slots are known. -/
def tmk : List Nat → List A → T
  | k0 :: ks, a0 :: as => fun k => bif Nat.beq k k0 then a0 else tmk ks as k
  | _, _ => fun _ => .junk

/-- Local objects from a number on are forgotten. -/
def A.cut (d : Nat) : A → A
  | .lp k off => bif Nat.ble d k then .junk else .lp k off
  | a => a
def LO.cut (d : Nat) : LO → LO
  | .cells cs => .cells (cs.map (A.cut d))
  | o => o
def cutL (d : Nat) (l : List LO) : List LO := (l.take d).map (LO.cut d)

/-- A loop: so many rounds one by one, then an invariant of the slots that live and of so many local objects, with a measure. -/
def wLoop (body : T → List LO → H → (Exit → T → List LO → H → Prop) → Prop) (Q : Exit → T → List LO → H → Prop) : Nat → T → List LO → H → Prop
  | 0, t, l, h => ∃ (live : List Nat) (d : Nat) (I : Nat → List A → List LO → H → Prop), (∃ m, I m (live.map fun k => (t k).cut d) (cutL d l) h) ∧
      ∀ m as l h, I m as l h → body (tmk live as) l h fun e t' l' h' => match e with | .normal => ∃ m', m' < m ∧ I m' (live.map fun k => (t' k).cut d) (cutL d l') h' | e => Q e t' l' h'
  | n + 1, t, l, h => body t l h fun e t' l' h' => match e with | .normal => wLoop body Q n t' l' h' | e => Q e t' l' h'

def wCode (P : Program) (W0 : World) (C : Ctx) : Code → T → List LO → H → (Exit → T → List LO → H → Prop) → Prop
  | .skip, t, l, h, Q => Q .normal t l h
  | .region id ops dr, t, l, h, Q =>
    let Q' (t : T) (l : List LO) (h : H) : Prop := bif hasGd ops.toList then Q .normal t.ungd l h else Q .normal t l h
    match dr with
    | false => wSeq P W0 C .full ops.toList (List.range ops.size) t l h Q'
    | true =>
      match C.ord id with
      | (E, F, 0) => wSeq P W0 C .pure ops.toList E t l h fun t l h => wSeq P W0 C .full ops.toList F t l h Q'
      | (E, F, 1) => ∃ ks, promo ks l h fun l h => ∃ fx, wSeq P W0 C (.hide fx) ops.toList E t l h fun t l h => wSeq P W0 C .full ops.toList F t l h Q'
      | (E, F, _) => ∃ k, wSeq P W0 C (.but k) ops.toList E t l h fun t l h => wSeq P W0 C .full ops.toList F t l h Q'
  | .seq a b, t, l, h, Q => wCode P W0 C a t l h fun e t l h => match e with | .normal => wCode P W0 C b t l h Q | e => Q e t l h
  | .cond c a b, t, l, h, Q =>
    match evalO C 0 t c with
    | .v (.lit (.bool x)) => (x = true → wCode P W0 C a t l h Q) ∧ (x = false → wCode P W0 C b t l h Q)
    | _ => False
  | .block id a, t, l, h, Q => wCode P W0 C a t l h fun e t l h => match e with | .exit j => bif Nat.beq j id then Q .normal t l h else Q (.exit j) t l h | e => Q e t l h
  | .loop a, t, l, h, Q => ∃ n, wLoop (fun t l h Q => wCode P W0 C a t l h Q) Q n t l h
  | .exit j, t, l, h, Q => Q (.exit j) t l h
  | .ret, t, l, h, Q => Q .ret t l h
  | .label _, t, l, h, Q => Q .normal t l h
  | _, _, _, _, _ => False

/-- One result, as the function leaves it. -/
def resOne (C : Ctx) (t : T) (l : List LO) : ResultVar → Option A
  | .tmp k => some (t k)
  | .cell a ty => match t a with
    | .lp k off => (match l[k]? with
      | some (.cells cs) => (bif Nat.beq (C.tg ty).size 0 then none else match readV (C.tg ty) cs off with | some v => some (.v v) | none => none)
      | _ => none)
    | _ => none
def resAll (C : Ctx) (t : T) (l : List LO) : List ResultVar → Option (List A)
  | [] => some []
  | r :: rs => match resOne C t l r, resAll C t l rs with | some a, some as => some (a :: as) | _, _ => none

def wRet (C : Ctx) (f : Func) (t : T) (l : List LO) (h : H) (Q : A → H → Prop) : Prop :=
  match resAll C t l f.results.toList with
  | some as => promo (reach l as) l h fun l h =>
    match outAll l as with
    | some [a] => Q a.weak h
    | some bs => (match allV bs with | some vs => Q (.v (V.tup vs).weak) h | none => False)
    | none => False
  | none => False

def wFunc (P : Program) (W0 : World) (C : Ctx) (f : Func) (as : List A) (h : H) (Q : A → H → Prop) : Prop :=
  match f.body with
  | some c => wCode P W0 C c (fun k => as.getD k .junk) [] h fun e t l h => match e with | .ret => wRet C f t l h Q | .normal => wRet C f t l h Q | _ => False
  | none => False

end Go.AI

/- Soundness, first part: the relation between values. -/
namespace Go.AI
open Go.RowKit

theorem RepV.mono {w w' : World} {G G' : Gh} (e : Ext w G w' G') {u : Value} {x : V} (h : RepV w G u x) : RepV w' G' u x := by
  induction h with
  | lit v => exact .lit v
  | agg us cs hl _ ih => exact .agg us cs hl ih
  | tup us cs hl _ ih => exact .tup us cs hl ih
  | sl b o n cap sz xs us hn hc hs hl h1 hm _ ih =>
    refine .sl b o n cap sz xs us hn hc hs hl h1 (fun j u hj => ?_) ih
    obtain ⟨a, b'⟩ := hm j u hj
    exact ⟨(e.cell _ _ b').trans a, Nat.lt_of_lt_of_le b' (e.im _)⟩
  | slnil sz => exact .slnil sz
  | slz a sz => exact .slz a sz
  | nl sz => exact .nl sz
  | ptr x off hx => rw [← e.ph x hx]; exact .ptr x off (Nat.lt_of_lt_of_le hx e.nx)
  | ip b o cs us hl hm _ ih =>
    refine .ip b o cs us hl (fun j u hj => ?_) ih
    obtain ⟨a, b'⟩ := hm j u hj
    exact ⟨(e.cell _ _ b').trans a, Nat.lt_of_lt_of_le b' (e.im _)⟩
  | fn f us us' cs cs' hl hl' _ _ ih ih' => exact .fn f us us' cs cs' hl hl' ih ih'
  | ifc t u v _ ih => exact .ifc t u v ih
  | mp x hx => rw [← e.ph x hx]; exact .mp x (Nat.lt_of_lt_of_le hx e.nx)

theorem RepV.weak1 {w : World} {G : Gh} {u : Value} {x : V} (h : RepV w G u x) : RepV w G u x.weak1 := by
  cases h <;> first | exact .slnil _ | exact .slz _ _ | (constructor <;> assumption)

theorem getElem?_map_some {α β : Type} {f : α → β} {l : List α} {j : Nat} {c : β} (h : (l.map f)[j]? = some c) : ∃ d, l[j]? = some d ∧ f d = c := by
  rw [List.getElem?_map] at h
  cases hd : l[j]? with
  | none => simp [hd] at h
  | some d => simp [hd] at h; exact ⟨d, rfl, h⟩

theorem RepV.weak {w : World} {G : Gh} {u : Value} {x : V} (h : RepV w G u x) : RepV w G u x.weak := by
  cases h with
  | agg us cs hl h => exact .agg us _ (by simpa using hl) fun j u c hu hc => by obtain ⟨d, hd, rfl⟩ := getElem?_map_some hc; exact (h j u d hu hd).weak1
  | tup us cs hl h =>
    refine .tup us _ (by simpa using hl) fun j u c hu hc => ?_
    obtain ⟨d, hd, rfl⟩ := getElem?_map_some hc
    have h1 := h j u d hu hd
    split
    · rename_i ds
      cases h1 with
      | agg us' _ hl' h' => exact .agg us' _ (by simpa using hl') fun j u c hu hc => by obtain ⟨d, hd, rfl⟩ := getElem?_map_some hc; exact (h' j u d hu hd).weak1
    · exact h1.weak1
  | nl sz => exact .slnil sz
  | lit => exact .lit _
  | sl b o n cap sz xs us hn hc hs hl h1 hm h => exact .sl b o n cap sz xs us hn hc hs hl h1 hm h
  | slnil sz => exact .slnil sz
  | slz a sz => exact .slz a sz
  | ptr x off hx => exact .ptr x off hx
  | ip b o cs us hl hm h => exact .ip b o cs us hl hm h
  | fn f us us' cs cs' hl hl' h h' => exact .fn f us us' cs cs' hl hl' h h'
  | ifc t u v h => exact .ifc t u v h
  | mp x hx => exact .mp x hx

theorem RepV.one {w : World} {G : Gh} {u : Value} {x : V} (h : RepV w G u x) (h1 : x.one = true) : u.oneCell' = true := by
  cases h <;> first | rfl | exact h1 | (simp [V.one] at h1)

theorem Value.cells_one {u : Value} (h : u.oneCell' = true) : u.cells = #[u] := by
  cases u <;> first | rfl | (simp [Value.oneCell'] at h)

/-- The cells of a value, each with its own. -/
theorem RepV.cells {w : World} {G : Gh} {u : Value} {x : V} (h : RepV w G u x) (h1 : x.cells.all V.one = true) :
    ∃ us : List Value, u.cells = us.toArray ∧ us.length = x.cells.length ∧ (∀ (j : Nat) (v : Value) (c : V), us[j]? = some v → x.cells[j]? = some c → RepV w G v c) ∧ ∀ v ∈ us, v.oneCell' = true := by
  have hsing : ∀ (x : V), x.cells = [x] → RepV w G u x → x.cells.all V.one = true →
      ∃ us : List Value, u.cells = us.toArray ∧ us.length = x.cells.length ∧ (∀ (j : Nat) (v : Value) (c : V), us[j]? = some v → x.cells[j]? = some c → RepV w G v c) ∧ ∀ v ∈ us, v.oneCell' = true := by
    intro x hx h h1
    rw [hx] at h1
    have h2 : x.one = true := by simpa using h1
    have h3 := h.one h2
    refine ⟨[u], Value.cells_one h3, by rw [hx]; rfl, fun j v c hv hc => ?_, fun v hv => by simp at hv; subst hv; exact h3⟩
    rw [hx] at hc
    cases j with
    | zero => simp at hv hc; subst hv; subst hc; exact h
    | succ j => simp at hv
  cases x with
  | agg cs =>
    cases h with
    | agg us _ hl h =>
      refine ⟨us, rfl, hl, h, fun v hv => ?_⟩
      obtain ⟨j, hj⟩ := List.getElem?_of_mem hv
      have hlt : j < cs.length := by rw [← hl]; exact (List.getElem?_eq_some_iff.1 hj).1
      have hc : cs[j]? = some cs[j] := List.getElem?_eq_getElem hlt
      exact (h j v _ hj hc).one (List.all_eq_true.1 h1 _ (List.getElem_mem hlt))
  | _ => exact hsing _ rfl h h1

theorem RepA.v_inv {w : World} {G : Gh} {lam : List Nat} {p : Pl} {u : Value} {x : V} (h : RepA w G lam p u (.v x)) : RepV w G u x := by cases h; assumption

theorem RepA.toV {w : World} {G : Gh} {lam : List Nat} {p : Pl} {u : Value} {a : A} {x : V} (h : RepA w G lam p u a) (hx : a.toV = some x) : RepV w G u x := by
  cases h with
  | v _ x h => simp [A.toV] at hx; subst hx; exact h
  | own b o n cap sz xs h _ => simp [A.toV] at hx; subst hx; exact h
  | onil sz => simp [A.toV] at hx; subst hx; exact .slnil sz
  | oz a sz => simp [A.toV] at hx; subst hx; exact .slz a sz
  | lp k off b h => simp [A.toV] at hx
  | junk => simp [A.toV] at hx

theorem RepA.deg {w : World} {G : Gh} {lam : List Nat} {p : Pl} (q : Pl) {u : Value} {a : A} (h : RepA w G lam p u a) : RepA w G lam q u a.deg := by
  cases h with
  | v _ x h => exact .v _ _ _ h
  | own b o n cap sz xs h _ => exact .v _ _ _ h
  | onil sz => exact .v _ _ _ (.slnil sz)
  | oz a sz => exact .v _ _ _ (.slz a sz)
  | lp k off b h => exact .lp _ _ _ _ h
  | junk => exact .junk _ _

theorem RepA.weak {w : World} {G : Gh} {lam : List Nat} {p : Pl} {u : Value} {a : A} (h : RepA w G lam p u a) : RepA w G lam p u a.weak := by
  cases h with
  | v _ x h => exact .v _ _ _ h.weak
  | own b o n cap sz xs h hs => exact .own _ _ _ _ _ _ _ h hs
  | onil sz => exact .onil _ _
  | oz a sz => exact .oz _ _ _
  | lp k off b h => exact .lp _ _ _ _ h
  | junk => exact .junk _ _

/-- Nothing that is not owned hangs on its place. -/
theorem RepA.move {w : World} {G : Gh} {lam : List Nat} {p : Pl} (q : Pl) {u : Value} {a : A} (h : RepA w G lam p u a) (ha : a.deg = a) : RepA w G lam q u a := by
  rw [← ha]; exact h.deg q

theorem RepA.mono {w w' : World} {G G' : Gh} {lam : List Nat} {p : Pl} {u : Value} {a : A} (e : Ext w G w' G')
    (hb : ∀ b, G.ow b = .pl p → G'.ow b = .pl p ∧ G'.im b = G.im b ∧ ∀ j, G.im b ≤ j → (w'.cell? ⟨b, j, none⟩).isSome = (w.cell? ⟨b, j, none⟩).isSome ∧ w'.frozen? ⟨b, j, none⟩ = w.frozen? ⟨b, j, none⟩)
    (h : RepA w G lam p u a) : RepA w' G' lam p u a := by
  cases h with
  | v _ x h => exact .v _ _ _ (h.mono e)
  | own b o n cap sz xs h hs =>
    refine .own _ _ _ _ _ _ _ (h.mono e) ?_
    rcases hs with hs | ⟨h1, h2, h3⟩
    · exact .inl hs
    · obtain ⟨k1, k2, k3⟩ := hb b h1
      refine .inr ⟨k1, k2.trans h2, fun j hj hj' => ?_⟩
      obtain ⟨a1, a2⟩ := h3 j hj hj'
      obtain ⟨b1, b2⟩ := k3 j (by rw [h2]; exact hj)
      exact ⟨b1.trans a1, b2.trans a2⟩
  | onil sz => exact .onil _ _
  | oz a sz => exact .oz _ _ _
  | lp k off b h => exact .lp _ _ _ _ h
  | junk => exact .junk _ _

/-- Another place, another owner's name. -/
theorem RepA.place {w : World} {G G' : Gh} {lam : List Nat} {p q : Pl} {u : Value} {a : A} (e : Ext w G w G')
    (hb : ∀ b, G.ow b = .pl p → G'.ow b = .pl q ∧ G'.im b = G.im b) (h : RepA w G lam p u a) : RepA w G' lam q u a := by
  cases h with
  | v _ x h => exact .v _ _ _ (h.mono e)
  | own b o n cap sz xs h hs =>
    refine .own _ _ _ _ _ _ _ (h.mono e) ?_
    rcases hs with hs | ⟨h1, h2, h3⟩
    · exact .inl hs
    · obtain ⟨k1, k2⟩ := hb b h1
      exact .inr ⟨k1, k2.trans h2, h3⟩
  | onil sz => exact .onil _ _
  | oz a sz => exact .oz _ _ _
  | lp k off b h => exact .lp _ _ _ _ h
  | junk => exact .junk _ _

theorem Ext.refl (w : World) (G : Gh) : Ext w G w G := ⟨Nat.le_refl _, Nat.le_refl _, fun _ _ => rfl, fun _ => Nat.le_refl _, fun _ _ _ => rfl⟩
theorem Ext.trans {w1 w2 w3 : World} {G1 G2 G3 : Gh} (a : Ext w1 G1 w2 G2) (b : Ext w2 G2 w3 G3) : Ext w1 G1 w3 G3 :=
  ⟨Nat.le_trans a.size b.size, Nat.le_trans a.nx b.nx, fun x hx => (b.ph x (Nat.lt_of_lt_of_le hx a.nx)).trans (a.ph x hx), fun c => Nat.le_trans (a.im c) (b.im c),
    fun c o ho => (b.cell c o (Nat.lt_of_lt_of_le ho (a.im c))).trans (a.cell c o ho)⟩

theorem ob_get {g : Option Bool} {φ : Prop} (hg : ∀ gb, g = some gb → gb = true) (h : ob g φ) : φ := by
  cases g with
  | none => exact h
  | some gb => exact h (hg gb rfl)

theorem allV_cons {a : A} {r : List A} {vs : List V} (h : allV (a :: r) = some vs) : ∃ v ws, a.toV = some v ∧ allV r = some ws ∧ vs = v :: ws := by
  simp only [allV] at h
  split at h
  · rename_i v ws h1 h2; simp at h; exact ⟨v, ws, h1, h2, h.symm⟩
  · simp at h

theorem allV_get {as : List A} : ∀ {vs : List V}, allV as = some vs → as.length = vs.length ∧ ∀ (j : Nat) (a : A), as[j]? = some a → ∃ v, vs[j]? = some v ∧ a.toV = some v := by
  induction as with
  | nil => intro vs h; simp [allV] at h; subst h; exact ⟨rfl, fun j a h => by simp at h⟩
  | cons a r ih =>
    intro vs h
    obtain ⟨v, ws, h1, h2, rfl⟩ := allV_cons h
    obtain ⟨i1, i2⟩ := ih h2
    refine ⟨by simp [i1], fun j b hj => ?_⟩
    cases j with
    | zero => simp at hj; subst hj; exact ⟨v, rfl, h1⟩
    | succ j => simp at hj; exact i2 j b hj

end Go.AI

/- Soundness, second part: the operations that turn no memory. -/
namespace Go.AI
open Go.RowKit

/-- Rows of scalars, compared. -/
def eqVals : List V → List Value → List Value → Option Bool
  | [], [], [] => some true
  | .lit (.int k _) :: z, .int k1 x :: r, .int k2 y :: s => bif k == k1 && k == k2 then (eqVals z r s).map (decide (x = y) && ·) else none
  | .lit (.bool _) :: z, .bool x :: r, .bool y :: s => (eqVals z r s).map ((x == y) && ·)
  | .lit (.string _) :: z, .string x :: r, .string y :: s => (eqVals z r s).map (decide (x = y) && ·)
  | _, _, _ => none

/-- What the table of types says is so. -/
structure TyFit (P : Program) (t : TypeId) (ti : TI) : Prop where
  int : ∀ k, ti.k = .int k → P.underlying t = some (.int k)
  bool : ti.k = .bool → P.underlying t = some .bool
  str : ti.k = .str → P.underlying t = some .string
  slice : ∀ e, ti.k = .slice e → P.underlying t = some (.slice e)
  struct : ∀ fs pl, ti.k = .struct fs pl → ∃ fields, P.underlying t = some (.struct fields) ∧ fields.size = fs.length ∧
    ∀ (j : Nat) (f : Field) (fi : FI), fields[j]? = some f → fs[j]? = some fi → f.offset = fi.off ∧ (∃ i, P.info? f.type = some i ∧ i.size = fi.size) ∧ (∃ d, P.underlying f.type = some d ∧ d.isRow = fi.agg)
  eq : ∀ fs, ti.k = .struct fs true → ∀ us vs b, eqVals ti.zero us vs = some b → ∀ w, (Op.equal t (.agg us.toArray) (.agg vs.toArray)).run P w = .ok b w ∧ P.eqGuardType P.depth t = false
  array : ∀ n e, ti.k = .array n e → P.underlying t = some (.array n e)
  ptr : ∀ e, ti.k = .ptr e → P.underlying t = some (.pointer e)
  iface : ti.k = .iface → ∃ ms, P.underlying t = some (.interface ms)
  func : ti.k = .func → ∃ a b c, P.underlying t = some (.func a b c)
  map : ∀ k e, ti.k = .map k e → P.underlying t = some (.map k e)
  info : ti.k ≠ .other → ∃ i, P.info? t = some i ∧ i.size = ti.size ∧ i.bytes = ti.bytes ∧
    (ti.zero ≠ [] → ∃ z, i.zero = some z ∧ z.cells.toList.length = ti.zero.length ∧ ∀ (j : Nat) (u : Value) (c : V), z.cells.toList[j]? = some u → ti.zero[j]? = some c → ∀ w G, RepV w G u c)
  oth : ti.k = .other → ti.size = 0
  meths : ∀ name f, ti.meths.lookup name = some f → ∀ v w, ∃ n, (method (n + 1) t v name).run P w = .ok (f, v) w ∧ n + 1 = P.types.size + Made.depth

def CtxOk (P : Program) (C : Ctx) : Prop := ∀ t, TyFit P t (C.tg t)

/-- The worlds in which what an operation reads reads as in w. -/
structure Same (w : World) (G : Gh) (lam : List Nat) (md : Md) (h : H) (w' : World) : Prop where
  cell : ∀ b o, o < G.im b → w'.cell? ⟨b, o, none⟩ = w.cell? ⟨b, o, none⟩
  loc : ∀ (k b : Nat), lam[k]? = some b → G.ow b = .lo k → md.lreads k = true → ∀ o, w'.cell? ⟨b, o, none⟩ = w.cell? ⟨b, o, none⟩
  obj : ∀ x, md.reads x → (h x).isSome = true → ∀ o, w'.cell? ⟨G.ph x, o, none⟩ = w.cell? ⟨G.ph x, o, none⟩

theorem Same.refl (w : World) (G : Gh) (lam : List Nat) (md : Md) (h : H) : Same w G lam md h w := ⟨fun _ _ _ => rfl, fun _ _ _ _ _ _ => rfl, fun _ _ _ _ => rfl⟩

/-- Where an ownership comes from, and what is there. -/
def FrOk (w : World) (G : Gh) (lam : List Nat) (t : T) (l : List LO) (h : H) (u : Value) (a : A) : Fr → Prop
  | .no => (∀ p, RepA w G lam p u a)
  | .slot s => a = t s ∧ RepA w G lam (.slot s) u a
  | .lc k j => ∃ cs, l[k]? = some (.cells cs) ∧ cs[j]? = some a ∧ RepA w G lam (.lc k j) u a
  | .hc x j => ∃ cs, h x = some (.cells cs) ∧ cs[j]? = some a ∧ RepA w G [] (.hc x j) u a

def plOf : Operand → Pl
  | .tmp s => .slot s
  | _ => .ret

def A.isGd : A → Bool
  | .gd _ _ _ => true
  | _ => false

/-- What an operation that turns no memory comes to. -/
def NOut (P : Program) (w : World) (G : Gh) (lam : List Nat) (S : World → Prop) (t : T) (l : List LO) (h : H) (ρ : Operand → Value) (o : Oper) (K : A → Fr → Prop) : Prop :=
  ∃ a f u, K a f ∧ (∀ w', S w' → (execOp ρ o).run P w' = .ok (.value u) w') ∧ FrOk w G lam t l h u a f

theorem FrOk.v {w : World} {G : Gh} {lam : List Nat} {t : T} {l : List LO} {h : H} {u : Value} {x : V} (hr : RepV w G u x) : FrOk w G lam t l h u (.v x) .no := fun p => .v p u x hr
theorem FrOk.lp {w : World} {G : Gh} {lam : List Nat} {t : T} {l : List LO} {h : H} {k off b : Nat} (hk : lam[k]? = some b) : FrOk w G lam t l h (.pointer (some ⟨b, off, none⟩)) (.lp k off) .no := fun p => .lp p k off b hk

section
variable {P : Program} {C : Ctx} {w : World} {G : Gh} {lam : List Nat} {S : World → Prop} {t : T} {l : List LO} {h : H} {ρ : Operand → Value} {o : Oper} {K : A → Fr → Prop} {g : Option Bool} {gc : List (Nat × Bool)} {md : Md}

/-- The operands are what the state says. -/
def EvOk (C : Ctx) (w : World) (G : Gh) (lam : List Nat) (t : T) (gc : List (Nat × Bool)) (ρ : Operand → Value) : Prop :=
  (∀ ty x a, (evalO C ty t x).strip gc = a → a.isGd = false → RepA w G lam (plOf x) (ρ x) a) ∧ ∀ ty x, (∀ s, x ≠ .tmp s) → ∀ p, RepA w G lam p (ρ x) ((evalO C ty t x).strip gc)

theorem EvOk.v {ty : TypeId} {x : Operand} {v : V} (he : EvOk C w G lam t gc ρ) (hx : ((evalO C ty t x).strip gc).toV = some v) : RepV w G (ρ x) v := by
  have := he.1 ty x _ rfl (by cases hh : (evalO C ty t x).strip gc <;> first | rfl | (simp [hh, A.toV] at hx))
  exact this.toV hx

theorem RepV.lit_inv {u v : Value} (h : RepV w G u (.lit v)) : u = v := by cases h; rfl
theorem RepV.agg_inv {u : Value} {cs : List V} (h : RepV w G u (.agg cs)) : ∃ us : List Value, u = .agg us.toArray ∧ us.length = cs.length ∧ ∀ (j : Nat) (v : Value) (c : V), us[j]? = some v → cs[j]? = some c → RepV w G v c := by
  cases h with | agg us _ hl h => exact ⟨us, rfl, hl, h⟩
theorem RepV.tup_inv {u : Value} {cs : List V} (h : RepV w G u (.tup cs)) : ∃ us : List Value, u = .tuple us.toArray ∧ us.length = cs.length ∧ ∀ (j : Nat) (v : Value) (c : V), us[j]? = some v → cs[j]? = some c → RepV w G v c := by
  cases h with | tup us _ hl h => exact ⟨us, rfl, hl, h⟩
theorem RepV.ptr_inv {u : Value} {x off : Nat} (h : RepV w G u (.ptr x off)) : u = .pointer (some ⟨G.ph x, off, none⟩) ∧ x < G.nx := by cases h with | ptr _ _ hx => exact ⟨rfl, hx⟩
theorem RepV.ip_inv {u : Value} {cs : List V} (h : RepV w G u (.ip cs)) : ∃ (b o : Nat) (us : List Value), u = .pointer (some ⟨b, o, none⟩) ∧ us.length = cs.length ∧
    (∀ (j : Nat) (u : Value), us[j]? = some u → w.cell? ⟨b, o + j, none⟩ = some u ∧ o + j < G.im b) ∧ ∀ (j : Nat) (v : Value) (c : V), us[j]? = some v → cs[j]? = some c → RepV w G v c := by
  cases h with | ip b o _ us hl hm h => exact ⟨b, o, us, rfl, hl, hm, h⟩
theorem RepV.sl_inv {u : Value} {sz : Nat} {xs : List V} (h : RepV w G u (.sl sz xs)) : (∃ oa, u = .slice oa 0 0 ∧ xs = []) ∨ ∃ (b o n cap : Nat) (us : List Value), u = .slice (some ⟨b, o, none⟩) n cap ∧ n = xs.length ∧ n ≤ cap ∧
    (∀ x ∈ xs, x.cells.length = sz) ∧ us.length = (flat xs).length ∧ (∀ c ∈ flat xs, c.one = true) ∧
    (∀ (j : Nat) (u : Value), us[j]? = some u → w.cell? ⟨b, o + j, none⟩ = some u ∧ o + j < G.im b) ∧ ∀ (j : Nat) (v : Value) (c : V), us[j]? = some v → (flat xs)[j]? = some c → RepV w G v c := by
  cases h with
  | sl b o n cap _ _ us hn hc hs hl h1 hm h => exact .inr ⟨b, o, n, cap, us, rfl, hn, hc, hs, hl, h1, hm, h⟩
  | slnil => exact .inl ⟨none, rfl, rfl⟩
  | slz a => exact .inl ⟨some a, rfl, rfl⟩
theorem RepV.nl_inv {u : Value} {sz : Nat} (h : RepV w G u (.nl sz)) : u = .slice none 0 0 := by cases h; rfl
theorem RepV.fn_inv {u : Value} {f : Fn} {as bs : List V} (h : RepV w G u (.fn f as bs)) : ∃ us vs : List Value, u = .func f us.toArray vs.toArray ∧ us.length = as.length ∧ vs.length = bs.length ∧
    (∀ (j : Nat) (v : Value) (c : V), us[j]? = some v → as[j]? = some c → RepV w G v c) ∧ ∀ (j : Nat) (v : Value) (c : V), vs[j]? = some v → bs[j]? = some c → RepV w G v c := by
  cases h with | fn _ us vs _ _ hl hl' h h' => exact ⟨us, vs, rfl, hl, hl', h, h'⟩
theorem RepV.ifc_inv {u : Value} {ty : TypeId} {x : V} (h : RepV w G u (.ifc ty x)) : ∃ v, u = .iface ty v ∧ RepV w G v x := by cases h with | ifc _ v _ h => exact ⟨v, rfl, h⟩

theorem run_ok_pure {α : Type} (a : α) (w' : World) : (pure a : Sem α).run P w' = .ok a w' := rfl

theorem bin_int {op : BinOp} {ty : TypeId} {k : IntKind} {x y : Int} {K' : V → Prop} (hg : ∀ gb, g = some gb → gb = true) (hk : binInt g op k x y K') :
    ∃ u, K' (.lit u) ∧ ∀ w', (binOp op ty (.int k x) (.int k y)).run P w' = .ok u w' := by
  have wr : ∀ n, inI64 n → IntKind.i64.wrap n = n := fun n hn => by obtain ⟨a, b⟩ := hn; exact IntWalk.i64_in n ⟨a, b⟩
  cases op
  case add => cases k <;> simp only [binInt] at hk <;> first | (obtain ⟨h0, hK⟩ := hk; exact ⟨_, hK, fun w' => by simp [binOp, Op.intArith, wr _ (ob_get hg h0)]⟩) | exact ⟨_, hk, fun w' => by simp [binOp, Op.intArith]⟩
  case sub => cases k <;> simp only [binInt] at hk <;> first | (obtain ⟨h0, hK⟩ := hk; exact ⟨_, hK, fun w' => by simp [binOp, Op.intArith, wr _ (ob_get hg h0)]⟩) | exact ⟨_, hk, fun w' => by simp [binOp, Op.intArith]⟩
  case mul => cases k <;> simp only [binInt] at hk <;> first | (obtain ⟨h0, hK⟩ := hk; exact ⟨_, hK, fun w' => by simp [binOp, Op.intArith, wr _ (ob_get hg h0)]⟩) | exact ⟨_, hk, fun w' => by simp [binOp, Op.intArith]⟩
  case quo => obtain ⟨h0, hK⟩ := hk; obtain ⟨h1, h2⟩ := ob_get hg h0; exact ⟨_, hK, fun w' => by simp [binOp, Op.intDiv, h1, h2]⟩
  case rem => obtain ⟨h0, hK⟩ := hk; have h1 := ob_get hg h0; exact ⟨_, hK, fun w' => by simp [binOp, Op.intDiv, h1]⟩
  case shl => exact hk.elim
  case shr => exact hk.elim
  case and => exact ⟨_, hk, fun w' => by simp only [binOp]; rw [if_neg (by simp)]; rfl⟩
  case or => exact ⟨_, hk, fun w' => by simp only [binOp]; rw [if_neg (by simp)]; rfl⟩
  case xor => exact ⟨_, hk, fun w' => by simp only [binOp]; rw [if_neg (by simp)]; rfl⟩
  case andNot => exact ⟨_, hk, fun w' => by simp only [binOp]; rw [if_neg (by simp)]; rfl⟩
  all_goals exact ⟨_, hk, fun w' => by simp [binOp, Op.intCmp]⟩

theorem toList_eq (s : ByteArray) : s.toList = s.data.toList := Lib.toList_data s

theorem bin_str {op : BinOp} {ty : TypeId} {x y : ByteArray} {K' : V → Prop} (hg : ∀ gb, g = some gb → gb = true) (hk : binStr g op x y K') :
    ∃ u, K' (.lit u) ∧ ∀ w', (binOp op ty (.string x) (.string y)).run P w' = .ok u w' := by
  have e : (x.toList == y.toList) = decide (x = y) := by
    rw [toList_eq, toList_eq, Bool.eq_iff_iff]
    simp
    constructor
    · intro h; cases x; cases y; simp at h; subst h; rfl
    · intro h; rw [h]
  have e2 : (x.data.toList == y.data.toList) = decide (x = y) := by rw [← e, toList_eq, toList_eq]
  cases op
  case add =>
    obtain ⟨h0, hK⟩ := hk
    have h1 := ob_get hg h0
    exact ⟨_, hK, fun w' => by simp [binOp, Op.stringOp]; omega⟩
  case eql => exact ⟨_, hk, fun w' => by simp only [binOp, Op.stringOp, e]; rfl⟩
  case neq => exact ⟨_, hk, fun w' => by simp only [binOp, Op.stringOp, e]; rfl⟩
  case lss => exact ⟨_, hk, fun w' => by simp only [binOp, Op.stringOp, toList_eq]; rfl⟩
  case geq => exact ⟨_, hk, fun w' => by simp only [binOp, Op.stringOp, toList_eq]; rfl⟩
  case leq => exact ⟨_, hk, fun w' => by simp only [binOp, Op.stringOp, e2, toList_eq]; rfl⟩
  case gtr => exact ⟨_, hk, fun w' => by simp only [binOp, Op.stringOp, e2, toList_eq]; rfl⟩
  all_goals exact hk.elim

/-! ### Loads -/
theorem TI.agg_row {ty : TypeId} (hC : CtxOk P C) (hs : (C.tg ty).size ≠ 0) : ∃ d, P.underlying ty = some d ∧ d.isRow = (C.tg ty).agg := by
  have f := hC ty
  cases hk : (C.tg ty).k with
  | int k => exact ⟨_, f.int _ hk, by simp [TI.agg, hk]⟩
  | bool => exact ⟨_, f.bool hk, by simp [TI.agg, hk]⟩
  | str => exact ⟨_, f.str hk, by simp [TI.agg, hk]⟩
  | slice e => exact ⟨_, f.slice _ hk, by simp [TI.agg, hk]⟩
  | struct fs pl => obtain ⟨fields, h1, _⟩ := f.struct _ _ hk; exact ⟨_, h1, by simp [TI.agg, hk]⟩
  | array n e => exact ⟨_, f.array _ _ hk, by simp [TI.agg, hk]⟩
  | ptr e => exact ⟨_, f.ptr _ hk, by simp [TI.agg, hk]⟩
  | iface => obtain ⟨ms, h1⟩ := f.iface hk; exact ⟨_, h1, by simp [TI.agg, hk]⟩
  | func => obtain ⟨a, b, c, h1⟩ := f.func hk; exact ⟨_, h1, by simp [TI.agg, hk]⟩
  | map k e => exact ⟨_, f.map _ _ hk, by simp [TI.agg, hk]⟩
  | other => exact absurd (f.oth hk) hs

theorem TI.has {ty : TypeId} (hC : CtxOk P C) (hs : (C.tg ty).size ≠ 0) : ∃ i, P.info? ty = some i ∧ i.size = (C.tg ty).size ∧ i.bytes = (C.tg ty).bytes := by
  obtain ⟨i, a, b, c, _⟩ := (hC ty).info (fun h => hs ((hC ty).oth h))
  exact ⟨i, a, b, c⟩

theorem run_isAgg {ty : TypeId} {d : TypeDesc} (hd : P.underlying ty = some d) (w' : World) : (isAgg ty).run P w' = .ok d.isRow w' := by
  unfold isAgg
  rw [Sem.run_bind, run_underlying hd w']
  cases d <;> rfl

/-- A row is read as one value. -/
theorem run_load_agg {ty : TypeId} (hC : CtxOk P C) (b o : Nat) (us : List Value) (hs : (C.tg ty).size ≠ 0) (ha : (C.tg ty).agg = true) (hl : us.length = (C.tg ty).size) (w' : World)
    (hc : ∀ (j : Nat) (u : Value), us[j]? = some u → w'.cell? ⟨b, o + j, none⟩ = some u) : (Instr.loadAt ty (.pointer (some ⟨b, o, none⟩))).run P w' = .ok (.agg us.toArray) w' := by
  obtain ⟨d, h1, h2⟩ := TI.agg_row hC hs
  obtain ⟨i, h3, h4, _⟩ := TI.has hC hs
  exact run_loadAt_mid w' b o ty us d hc h1 (by rw [h2, ha]) (by rw [h3]; simp [h4, hl])

theorem run_load_one {ty : TypeId} (hC : CtxOk P C) (b o : Nat) (u : Value) (hs : (C.tg ty).size ≠ 0) (ha : (C.tg ty).agg = false) (w' : World)
    (hc : w'.cell? ⟨b, o, none⟩ = some u) : (Instr.loadAt ty (.pointer (some ⟨b, o, none⟩))).run P w' = .ok u w' := by
  obtain ⟨d, h1, h2⟩ := TI.agg_row hC hs
  simp [Instr.loadAt, Instr.sureAddr, loadVar, Sem.run_bind, run_isAgg h1, h2, ha, hc]

theorem packV_some {ti : TI} {vs : List V} {v : V} (h : packV ti vs = some v) : (ti.agg = true ∧ vs.length = ti.size ∧ v = .agg vs) ∨ (ti.agg = false ∧ vs = [v]) := by
  unfold packV at h
  cases ha : ti.agg with
  | true =>
    simp only [ha, cond_true] at h
    cases hn : Nat.beq vs.length ti.size with
    | true => simp [hn] at h; exact .inl ⟨rfl, Nat.eq_of_beq_eq_true hn, h.symm⟩
    | false => simp [hn] at h
  | false =>
    simp only [ha, cond_false] at h
    split at h
    · simp at h; subst h; exact .inr ⟨rfl, rfl⟩
    · simp at h

/-- A value is read out of cells that lie there. -/
theorem run_load_pack {ty : TypeId} (hC : CtxOk P C) (b o : Nat) (us : List Value) (vs : List V) (v : V) (hp : packV (C.tg ty) vs = some v) (hs : (C.tg ty).size ≠ 0) (hl : us.length = vs.length)
    (hr : ∀ (j : Nat) (u : Value) (c : V), us[j]? = some u → vs[j]? = some c → RepV w G u c) :
    ∃ u, RepV w G u v ∧ ∀ w' : World, (∀ (j : Nat) (u : Value), us[j]? = some u → w'.cell? ⟨b, o + j, none⟩ = some u) → (Instr.loadAt ty (.pointer (some ⟨b, o, none⟩))).run P w' = .ok u w' := by
  rcases packV_some hp with ⟨h1, h2, rfl⟩ | ⟨h1, rfl⟩
  · exact ⟨.agg us.toArray, .agg us vs hl hr, fun w' hc => run_load_agg hC b o us hs h1 (by omega) w' hc⟩
  · match us, hl with
    | [u], _ => exact ⟨u, hr 0 u v rfl rfl, fun w' hc => run_load_one hC b o u hs h1 w' (by simpa using hc 0 u rfl)⟩

theorem readV_some {ti : TI} {cs : List A} {off : Nat} {v : V} (h : readV ti cs off = some v) : ∃ vs, allV ((cs.drop off).take ti.size) = some vs ∧ packV ti vs = some v := by
  unfold readV at h
  split at h
  · rename_i vs hv; exact ⟨vs, hv, h⟩
  · simp at h

end
end Go.AI

/- Soundness: loads. -/
namespace Go.AI
open Go.RowKit
section
variable {P : Program} {C : Ctx} {w : World} {G : Gh} {lam : List Nat} {S : World → Prop} {t : T} {l : List LO} {h : H} {ρ : Operand → Value} {o : Oper} {K : A → Fr → Prop} {g : Option Bool} {gc : List (Nat × Bool)} {md : Md}

theorem RepA.toLam {p : Pl} {u : Value} {a : A} (lam : List Nat) (h : RepA w G [] p u a) : RepA w G lam p u a := by
  cases h with
  | v _ x h => exact .v _ _ _ h
  | own b o n cap sz xs h hs => exact .own _ _ _ _ _ _ _ h hs
  | onil sz => exact .onil _ _
  | oz a sz => exact .oz _ _ _
  | lp k off b h => simp at h
  | junk => exact .junk _ _

theorem RepA.lp_inv {p : Pl} {u : Value} {k off : Nat} (h : RepA w G lam p u (.lp k off)) : ∃ b, u = .pointer (some ⟨b, off, none⟩) ∧ lam[k]? = some b := by
  cases h with | lp _ _ b hb => exact ⟨b, rfl, hb⟩
theorem RepA.own_inv {p : Pl} {u : Value} {sz : Nat} {xs : List V} (h : RepA w G lam p u (.own sz xs)) : (∃ oa, u = .slice oa 0 0 ∧ xs = []) ∨ ∃ b o n cap, u = .slice (some ⟨b, o, none⟩) n cap ∧ RepV w G u (.sl sz xs) ∧ Spare w G p b o n cap sz := by
  cases h with
  | own b o n cap _ _ h hs => exact .inr ⟨b, o, n, cap, rfl, h, hs⟩
  | onil => exact .inl ⟨none, rfl, rfl⟩
  | oz a => exact .inl ⟨some a, rfl, rfl⟩

theorem allV_rep {cs : List A} {us : List Value} {vs : List V} (hv : allV cs = some vs) (hl : us.length = cs.length) (pl : Nat → Pl)
    (hrep : ∀ (j : Nat) (u : Value) (a : A), us[j]? = some u → cs[j]? = some a → RepA w G lam (pl j) u a) :
    us.length = vs.length ∧ ∀ (j : Nat) (u : Value) (c : V), us[j]? = some u → vs[j]? = some c → RepV w G u c := by
  obtain ⟨h1, h2⟩ := allV_get hv
  refine ⟨hl.trans h1, fun j u c hu hc => ?_⟩
  have hlt : j < cs.length := by rw [← hl]; exact (List.getElem?_eq_some_iff.1 hu).1
  obtain ⟨v, hv1, hv2⟩ := h2 j _ (List.getElem?_eq_getElem hlt)
  rw [hc] at hv1; cases hv1
  exact (hrep j u _ hu (List.getElem?_eq_getElem hlt)).toV hv2

theorem loadC_sound (hC : CtxOk P C) {ty : TypeId} {x : Operand} (ho : o.op = .load ty x) {cs : List A} {c : Array Value} {b off : Nat} (hρ : ρ x = .pointer (some ⟨b, off, none⟩))
    (hsz : (C.tg ty).size ≠ 0) (hl : c.size = cs.length) (pl : Nat → Pl) (hrep : ∀ (j : Nat) (u : Value) (a : A), c[j]? = some u → cs[j]? = some a → RepA w G lam (pl j) u a)
    (κ : Bool) (src : Nat → Fr) (hS : ∀ w', S w' → ∀ j, w'.cell? ⟨b, j, none⟩ = c[j]?)
    (hfr : ∀ (j : Nat) (u : Value) (a : A), cs[j]? = some a → RepA w G lam (pl j) u a → c[j]? = some u → FrOk w G lam t l h u a (src j))
    (hk : loadC κ (C.tg ty) cs off src K) : NOut P w G lam S t l h ρ o K := by
  have hex : ∀ w' u, (Instr.loadAt ty (.pointer (some ⟨b, off, none⟩))).run P w' = .ok u w' → (execOp ρ o).run P w' = .ok (.value u) w' := by
    intro w' u hu
    unfold execOp
    simp only [ho, hρ, Sem.run_bind, hu]
    rfl
  have hone : ∀ a, cs[off]? = some a → ∃ u, c[off]? = some u ∧ RepA w G lam (pl off) u a := by
    intro a ha
    have hlt : off < c.size := by rw [hl]; exact (List.getElem?_eq_some_iff.1 ha).1
    exact ⟨c[off], Array.getElem?_eq_getElem hlt, hrep off _ a (Array.getElem?_eq_getElem hlt) ha⟩
  have gen : (match readV (C.tg ty) cs off with | some v => K (.v v) .no | none => False) → NOut P w G lam S t l h ρ o K := by
    intro hk
    split at hk
    · rename_i v hv
      obtain ⟨vs, h1, h2⟩ := readV_some hv
      have hlen : ((c.toList.drop off).take (C.tg ty).size).length = ((cs.drop off).take (C.tg ty).size).length := by simp [hl]
      obtain ⟨k1, k2⟩ := allV_rep (us := (c.toList.drop off).take (C.tg ty).size) h1 hlen (fun j => pl (off + j)) (fun j u a hu ha => by
        have hu' : c.toList[off + j]? = some u := by
          rw [List.getElem?_take] at hu; split at hu
          · rwa [List.getElem?_drop] at hu
          · simp at hu
        have ha' : cs[off + j]? = some a := by
          rw [List.getElem?_take] at ha; split at ha
          · rwa [List.getElem?_drop] at ha
          · simp at ha
        exact hrep (off + j) u a (by simpa using hu') ha')
      obtain ⟨u, hu, hrun⟩ := run_load_pack hC b off _ vs v h2 hsz k1 k2
      refine ⟨.v v, .no, u, hk, fun w' hw' => hex w' u (hrun w' fun j u hj => ?_), .v hu⟩
      have hu' : c.toList[off + j]? = some u := by
        rw [List.getElem?_take] at hj; split at hj
        · rwa [List.getElem?_drop] at hj
        · simp at hj
      rw [hS w' hw']; simpa using hu'
    · exact hk.elim
  unfold loadC at hk
  split at hk
  · rename_i sz xs hagg hcs
    obtain ⟨u, hu, hr⟩ := hone _ hcs
    have hrun : ∀ w', S w' → (execOp ρ o).run P w' = .ok (.value u) w' := fun w' hw' => hex w' u (run_load_one hC b off u hsz hagg w' (by rw [hS w' hw', hu]))
    cases κ with
    | true => exact ⟨_, _, u, hk, hrun, hfr off u _ hcs hr hu⟩
    | false => exact ⟨_, _, u, hk, hrun, .v (hr.toV rfl)⟩
  · rename_i k off' hagg hcs
    obtain ⟨u, hu, hr⟩ := hone _ hcs
    exact ⟨_, _, u, hk, fun w' hw' => hex w' u (run_load_one hC b off u hsz hagg w' (by rw [hS w' hw', hu])), fun p => hr.deg p⟩
  · exact gen hk

theorem nop_load (hC : CtxOk P C) (he : EvOk C w G lam t gc ρ) (hg : ∀ gb, g = some gb → gb = true) (hL : RepL w G lam l) (hH : RepH w G h) (hS : ∀ w', S w' → Same w G lam md h w') {ty : TypeId} {x : Operand}
    (ho : o.op = .load ty x) (hk : nop C md g gc o t l h K) : NOut P w G lam S t l h ρ o K := by
  unfold nop at hk
  simp only [ho] at hk
  by_cases hz : (C.tg ty).size = 0
  · simp [hz] at hk
  have hz' : Nat.beq (C.tg ty).size 0 = false := by rw [Bool.eq_false_iff]; intro h; exact hz (Nat.eq_of_beq_eq_true h)
  simp only [hz', cond_false] at hk
  have obj : ∀ (κ : Bool) (y off : Nat), ρ x = .pointer (some ⟨G.ph y, off, none⟩) → (∃ cs, ob g (h y = some (.cells cs) ∧ md.reads y) ∧ loadC κ (C.tg ty) cs off (.hc y) K) → NOut P w G lam S t l h ρ o K := by
    rintro κ y off hρ ⟨cs, h1, h2⟩
    obtain ⟨h3, h4⟩ := ob_get hg h1
    obtain ⟨c, e, hb, hl, hr⟩ := (hH y cs h3).hb
    refine loadC_sound hC ho hρ hz hl (fun j => .hc y j) (fun j u a hu ha => (hr j u a hu ha).1.toLam lam) κ (.hc y) (fun w' hw' j => ?_) (fun j u a ha hra hu => ⟨cs, h3, ha, (hr j u a hu ha).1⟩) h2
    rw [(hS w' hw').obj y h4 (by simp [h3]), cell_of_row w _ _ c e _ hb]
  split at hk
  · rename_i k off hx
    obtain ⟨b, hρ, hb⟩ := (he.1 0 x _ hx rfl).lp_inv
    have hlt : k < l.length := by rw [← hL.1]; exact (List.getElem?_eq_some_iff.1 hb).1
    split at hk
    · rename_i cs hcs
      cases hL.2 k b _ hb hcs with
      | cells _ c e ho' hi hb' hl hr =>
        cases hlr : md.lreads k with
        | false => rw [hlr] at hk; exact hk.elim
        | true =>
        rw [hlr] at hk
        refine loadC_sound hC ho hρ hz hl (fun j => .lc k j) (fun j u a hu ha => (hr j u a hu ha).1) _ (.lc k) (fun w' hw' j => ?_) (fun j u a ha hra hu => ⟨cs, hcs, ha, hra⟩) hk
        rw [(hS w' hw').loc k b hb ho' hlr, cell_of_row w _ _ c e _ hb']
    · rename_i y hy
      cases hL.2 k b _ hb hy with
      | fwd _ hx' hb' => subst hb'; exact obj _ y off hρ hk
    · exact hk.elim
  · rename_i y off hx
    obtain ⟨hρ, _⟩ := (he.1 0 x _ hx rfl).v_inv.ptr_inv
    exact obj _ y off hρ hk
  · rename_i cs hx
    obtain ⟨b, off, us, hρ, hl, hm, hr⟩ := (he.1 0 x _ hx rfl).v_inv.ip_inv
    split at hk
    · rename_i v hv
      obtain ⟨u, hu, hrun⟩ := run_load_pack hC b off (us.take (C.tg ty).size) (cs.take (C.tg ty).size) v hv hz (by simp [hl]) (fun j u c hu hc => by
        rw [List.getElem?_take] at hu hc
        split at hu
        · rename_i hj; rw [if_pos hj] at hc; exact hr j u c hu hc
        · simp at hu)
      refine ⟨.v v, .no, u, hk, fun w' hw' => ?_, .v hu⟩
      have := hrun w' (fun j u hj => by
        rw [List.getElem?_take] at hj
        split at hj
        · obtain ⟨a, b'⟩ := hm j u hj
          rw [(hS w' hw').cell _ _ b', a]
        · simp at hj)
      unfold execOp
      simp only [ho, hρ, Sem.run_bind, this]
      rfl
    · exact hk.elim
  · exact hk.elim
end
end Go.AI

/- Soundness: the other operations that turn no memory. -/
namespace Go.AI
open Go.RowKit
section
variable {P : Program} {C : Ctx} {w : World} {G : Gh} {lam : List Nat} {S : World → Prop} {t : T} {l : List LO} {h : H} {ρ : Operand → Value} {o : Oper} {K : A → Fr → Prop} {g : Option Bool} {gc : List (Nat × Bool)} {md : Md}

/-- The guards hold. -/
def GcOk (ρ : Operand → Value) (gc : List (Nat × Bool)) : Prop := ∀ s b, (s, b) ∈ gc → ρ (.tmp s) = .bool b

theorem A.deg_self {a : A} (h : ∀ sz xs, a = .own sz xs → False) : a.deg = a := by
  cases a <;> first | rfl | exact (h _ _ rfl).elim

theorem strip_nil {a : A} : a.strip [] = a := by cases a <;> rfl

theorem nop_copy (he : EvOk C w G lam t gc ρ) (hgn : g = none → gc = []) {x : Operand} (hrun : ∀ w', (execOp ρ o).run P w' = .ok (.value (ρ x)) w') (κ : Bool) (hκ : κ = true → g = none)
    (hk : match x with
      | .tmp _ => (match (evalO C o.type t x).strip gc with
        | .own sz xs => bif κ then K (.own sz xs) (match x with | .tmp s => .slot s | _ => .no) else K (.v (.sl sz xs)) .no
        | .gd _ _ _ => False
        | a => K a .no)
      | _ => K ((evalO C o.type t x).strip gc) .no) : NOut P w G lam S t l h ρ o K := by
  have other : (∀ s, x ≠ .tmp s) → K ((evalO C o.type t x).strip gc) .no → NOut P w G lam S t l h ρ o K :=
    fun hx hk => ⟨_, _, _, hk, fun w' _ => hrun w', fun p => he.2 o.type x hx p⟩
  cases x with
  | tmp s =>
    simp only at hk
    split at hk
    · rename_i sz xs hx
      have hr := he.1 o.type (.tmp s) _ hx rfl
      cases hκ' : κ with
      | true =>
        simp only [hκ', cond_true] at hk
        have hgc := hgn (hκ hκ')
        subst hgc
        rw [strip_nil] at hx
        exact ⟨_, _, _, hk, fun w' _ => hrun w', hx.symm, hr⟩
      | false =>
        simp only [hκ', cond_false] at hk
        exact ⟨_, _, _, hk, fun w' _ => hrun w', .v (hr.toV rfl)⟩
    · exact hk.elim
    · rename_i h1 h2
      have hr := he.1 o.type (.tmp s) _ rfl (by cases hh : (evalO C o.type t (.tmp s)).strip gc <;> first | rfl | exact (h2 _ _ _ hh).elim)
      exact ⟨_, _, _, hk, fun w' _ => hrun w', fun p => hr.move p (A.deg_self h1)⟩
  | const v => exact other (by simp) hk
  | global v => exact other (by simp) hk
  | func v => exact other (by simp) hk

theorem nop_move (he : EvOk C w G lam t gc ρ) (hgn : g = none → gc = []) {x : Operand} (ho : o.op = .move x) (hk : nop C md g gc o t l h K) : NOut P w G lam S t l h ρ o K := by
  unfold nop at hk
  simp only [ho] at hk
  refine nop_copy he hgn (x := x) (fun w' => by unfold execOp; simp only [ho]; rfl) (g.isNone && C.κ (o.dst.getD 0)) (fun h => by simp at h; exact h.1) ?_
  cases x <;> exact hk

theorem nop_assign (he : EvOk C w G lam t gc ρ) (hgn : g = none → gc = []) {x : Operand} (ho : o.op = .assign x) (hk : nop C md g gc o t l h K) : NOut P w G lam S t l h ρ o K := by
  unfold nop at hk
  simp only [ho] at hk
  refine nop_copy he hgn (x := x) (fun w' => by unfold execOp; simp only [ho]; rfl) g.isNone (fun h => by simpa using h) ?_
  cases x <;> exact hk

theorem nop_pick (he : ∀ gc', GcOk ρ gc' → EvOk C w G lam t gc' ρ) (hgc : GcOk ρ gc) {c a b : Operand} (ho : o.op = .pick c a b) (hk : nop C md g gc o t l h K) : NOut P w G lam S t l h ρ o K := by
  unfold nop at hk
  simp only [ho] at hk
  split at hk
  · rename_i s
    split at hk
    · rename_i cb x y h1 h2 h3
      have hc := ((he gc hgc).1 0 (.tmp s) _ h1 rfl).v_inv.lit_inv
      have ext : ∀ b, cb = b → GcOk ρ ((s, b) :: gc) := by
        intro b hb s' b' hm
        rcases List.mem_cons.1 hm with hm | hm
        · cases hm; rw [hc, hb]
        · exact hgc _ _ hm
      refine ⟨_, _, .bool (bif cb then x else y), hk, fun w' _ => ?_, .v (.lit _)⟩
      cases cb with
      | true =>
        have hx := ((he _ (ext true rfl)).1 0 a _ h2 rfl).v_inv.lit_inv
        unfold execOp; simp only [ho, hc]; simp [asBool, hx]
      | false =>
        have hy := ((he _ (ext false rfl)).1 0 b _ h3 rfl).v_inv.lit_inv
        unfold execOp; simp only [ho, hc]; simp [asBool, hy]
    · exact hk.elim
  · exact hk.elim

theorem nop_nilCheck (he : EvOk C w G lam t gc ρ) {x : Operand} (ho : o.op = .nilCheck x) (hk : nop C md g gc o t l h K) : NOut P w G lam S t l h ρ o K := by
  unfold nop at hk
  simp only [ho] at hk
  split at hk
  · rename_i k off hx
    obtain ⟨b, hρ, hb⟩ := (he.1 0 x _ hx rfl).lp_inv
    exact ⟨_, _, ρ x, hk, fun w' _ => by unfold execOp; simp only [ho, hρ]; rfl, by rw [hρ]; exact .lp hb⟩
  · rename_i a off hx
    have hr := (he.1 0 x _ hx rfl).v_inv
    obtain ⟨hρ, _⟩ := hr.ptr_inv
    exact ⟨_, _, ρ x, hk, fun w' _ => by unfold execOp; simp only [ho, hρ]; rfl, .v hr⟩
  · rename_i cs hx
    have hr := (he.1 0 x _ hx rfl).v_inv
    obtain ⟨b, off, us, hρ, _⟩ := hr.ip_inv
    exact ⟨_, _, ρ x, hk, fun w' _ => by unfold execOp; simp only [ho, hρ]; rfl, .v hr⟩
  · rename_i f a b hx
    have hr := (he.1 0 x _ hx rfl).v_inv
    obtain ⟨us, vs, hρ, _⟩ := hr.fn_inv
    exact ⟨_, _, ρ x, hk, fun w' _ => by unfold execOp; simp only [ho, hρ]; rfl, .v hr⟩
  · exact hk.elim

theorem nop_extract (he : EvOk C w G lam t gc ρ) {x : Operand} {i : Nat} (ho : o.op = .extract x i) (hk : nop C md g gc o t l h K) : NOut P w G lam S t l h ρ o K := by
  unfold nop at hk
  simp only [ho] at hk
  split at hk
  · rename_i vs hx
    obtain ⟨us, hρ, hl, hr⟩ := (he.v hx).tup_inv
    split at hk
    · rename_i v hv
      have hlt : i < us.length := by rw [hl]; exact (List.getElem?_eq_some_iff.1 hv).1
      refine ⟨_, _, us[i], hk, fun w' _ => ?_, .v (hr i _ v (List.getElem?_eq_getElem hlt) hv)⟩
      unfold execOp; simp only [ho, hρ]; simp [Instr.extract, hlt]
    · exact hk.elim
  · exact hk.elim

theorem nop_makeInterface (hC : CtxOk P C) (he : EvOk C w G lam t gc ρ) {ty : TypeId} {x : Operand} (ho : o.op = .makeInterface ty x) (hk : nop C md g gc o t l h K) : NOut P w G lam S t l h ρ o K := by
  unfold nop at hk
  simp only [ho] at hk
  have fin : ∀ v d, K (.v (.ifc ty v)) .no → ((evalO C ty t x).strip gc).toV = some v → P.underlying ty = some d → (∀ ms, d ≠ .interface ms) → NOut P w G lam S t l h ρ o K := by
    intro v d hK hx hd hn
    refine ⟨_, _, .iface ty (ρ x), hK, fun w' _ => ?_, .v (.ifc _ _ _ (he.v hx))⟩
    unfold execOp; simp only [ho]
    unfold Instr.makeInterface
    simp only [Sem.run_bind, run_underlying hd, Result.andThen_ok]
    cases d <;> first | rfl | exact (hn _ rfl).elim
  have f := hC ty
  split at hk
  · exact hk.elim
  · exact hk.elim
  · rename_i v hx h1 h2
    cases hkk : (C.tg ty).k with
    | int k => exact fin v _ hk hx (f.int _ hkk) (by simp)
    | bool => exact fin v _ hk hx (f.bool hkk) (by simp)
    | str => exact fin v _ hk hx (f.str hkk) (by simp)
    | slice e => exact fin v _ hk hx (f.slice _ hkk) (by simp)
    | struct fs pl => obtain ⟨fields, h1, _⟩ := f.struct _ _ hkk; exact fin v _ hk hx h1 (by simp)
    | array n e => exact fin v _ hk hx (f.array _ _ hkk) (by simp)
    | ptr e => exact fin v _ hk hx (f.ptr _ hkk) (by simp)
    | iface => exact (h1 hkk).elim
    | func => obtain ⟨a, b, c, h1⟩ := f.func hkk; exact fin v _ hk hx h1 (by simp)
    | map k e => exact fin v _ hk hx (f.map _ _ hkk) (by simp)
    | other => exact (h2 hkk).elim
  · exact hk.elim

theorem nop_fieldAddr (hC : CtxOk P C) (he : EvOk C w G lam t gc ρ) {s : TypeId} {x : Operand} {i : Nat} (ho : o.op = .fieldAddr s x i) (hk : nop C md g gc o t l h K) : NOut P w G lam S t l h ρ o K := by
  unfold nop at hk
  simp only [ho] at hk
  split at hk
  · rename_i fs pl hkk
    obtain ⟨fields, h1, h2, h3⟩ := (hC s).struct fs pl hkk
    split at hk
    · rename_i off size agg fty hf
      have hlt : i < fields.size := by rw [h2]; exact (List.getElem?_eq_some_iff.1 hf).1
      obtain ⟨e1, ⟨inf, e2, e3⟩, e5⟩ := h3 i _ _ (Array.getElem?_eq_getElem hlt) hf
      have run : ∀ b o', size ≠ 0 → ∀ w', (Instr.fieldAt s (.pointer (some ⟨b, o', none⟩)) i).run P w' = .ok (.pointer (some ⟨b, o' + off, none⟩)) w' := by
        intro b o' hz w'
        have e4 : (sizeOf fields[i].type).run P w' = .ok size w' := by simp [sizeOf, typeInfo, e2, e3]
        have : ¬ size = 0 := hz
        simp only [Instr.fieldAt, Sem.run_bind, run_underlying h1, Result.andThen_ok, Array.getElem?_eq_getElem hlt, Instr.sureAddr, Sem.run_pure, fieldPlace, e4, if_neg this, e1, Addr.add_mid]
      have ex : ∀ b o', ρ x = .pointer (some ⟨b, o', none⟩) → size ≠ 0 → ∀ w', (execOp ρ o).run P w' = .ok (.value (.pointer (some ⟨b, o' + off, none⟩))) w' := by
        intro b o' hρ hz w'
        unfold execOp; simp only [ho, hρ, Sem.run_bind, run b o' hz]; rfl
      split at hk
      · exact hk.elim
      · rename_i _ k o' hz hx
        obtain ⟨b, hρ, hb⟩ := (he.1 0 x _ hx rfl).lp_inv
        exact ⟨_, _, _, hk, fun w' _ => ex _ _ hρ hz w', .lp hb⟩
      · rename_i _ y o' hz hx
        obtain ⟨hρ, hy⟩ := (he.1 0 x _ hx rfl).v_inv.ptr_inv
        exact ⟨_, _, _, hk, fun w' _ => ex _ _ hρ hz w', .v (.ptr _ _ hy)⟩
      · rename_i _ cs hz hx
        obtain ⟨b, o', us, hρ, hl, hm, hr⟩ := (he.1 0 x _ hx rfl).v_inv.ip_inv
        obtain ⟨hle, hK⟩ := hk
        refine ⟨_, _, _, hK, fun w' _ => ex _ _ hρ hz w', .v (.ip b (o' + off) (cs.drop off) (us.drop off) (by simp [hl]) (fun j u hj => ?_) (fun j u c hu hc => ?_))⟩
        · rw [List.getElem?_drop] at hj
          have := hm _ _ hj
          rw [← Nat.add_assoc] at this; exact this
        · rw [List.getElem?_drop] at hu hc
          exact hr _ _ _ hu hc
      · exact hk.elim
    · exact hk.elim
  · exact hk.elim

theorem nop_index (hC : CtxOk P C) (he : EvOk C w G lam t gc ρ) (hg : ∀ gb, g = some gb → gb = true) {ty : TypeId} {x i : Operand} (ho : o.op = .index ty x i) (hk : nop C md g gc o t l h K) : NOut P w G lam S t l h ρ o K := by
  unfold nop at hk
  simp only [ho] at hk
  split at hk
  · rename_i s k n hkk hx hi
    have h1 := (he.v hx).lit_inv
    have h2 := (he.v hi).lit_inv
    obtain ⟨h0, hK⟩ := hk
    obtain ⟨a, b⟩ := ob_get hg h0
    have hlt : n.toNat < s.size := by omega
    refine ⟨_, _, _, hK, fun w' _ => ?_, .v (.lit _)⟩
    unfold execOp; simp only [ho, h1, h2]
    have hget : s[n.toNat]? = some s.data[n.toNat] := by
      show (if h : n.toNat < s.size then some s[n.toNat] else none) = _
      rw [dif_pos hlt]; rfl
    simp only [Instr.index, asIntOf, Sem.run_bind, Sem.run_pure, Result.andThen_ok, run_underlying ((hC ty).str hkk), if_pos a, hget]
    simp [Array.getD]; rw [dif_pos hlt]
  · exact hk.elim
end
end Go.AI

/- Soundness: the other operations that turn no memory, continued. -/
namespace Go.AI
open Go.RowKit
section
variable {P : Program} {C : Ctx} {w : World} {G : Gh} {lam : List Nat} {S : World → Prop} {t : T} {l : List LO} {h : H} {ρ : Operand → Value} {o : Oper} {K : A → Fr → Prop} {g : Option Bool} {gc : List (Nat × Bool)} {md : Md}

theorem flat_length {sz : Nat} : ∀ {xs : List V}, (∀ x ∈ xs, x.cells.length = sz) → (flat xs).length = xs.length * sz
  | [], _ => by simp [flat]
  | x :: r, h => by
    have ih := flat_length (xs := r) fun y hy => h y (by simp [hy])
    have := h x (by simp)
    simp only [flat, List.flatMap_cons, List.length_append, List.length_cons] at *
    rw [this, ih, Nat.add_mul]; omega

theorem flat_get {sz : Nat} : ∀ {xs : List V} {i : Nat} {y : V}, (∀ x ∈ xs, x.cells.length = sz) → xs[i]? = some y → ∀ j, j < sz → (flat xs)[i * sz + j]? = y.cells[j]?
  | [], i, y, _, hy, _, _ => by simp at hy
  | x :: r, 0, y, h, hy, j, hj => by
    simp at hy; subst hy
    have := h x (by simp)
    simp only [flat, List.flatMap_cons, Nat.zero_mul, Nat.zero_add]
    rw [List.getElem?_append_left (by omega)]
  | x :: r, i + 1, y, h, hy, j, hj => by
    simp at hy
    have hx := h x (by simp)
    have ih := flat_get (xs := r) (i := i) (y := y) (fun z hz => h z (by simp [hz])) hy j hj
    simp only [flat, List.flatMap_cons] at *
    rw [List.getElem?_append_right (by rw [hx, Nat.add_mul]; omega), ← ih]
    congr 1
    rw [hx, Nat.add_mul]; omega

theorem flat_drop {sz : Nat} : ∀ {xs : List V} (k : Nat), (∀ x ∈ xs, x.cells.length = sz) → flat (xs.drop k) = (flat xs).drop (k * sz)
  | xs, 0, _ => by simp
  | [], k + 1, _ => by simp [flat]
  | x :: r, k + 1, h => by
    have hx := h x (by simp)
    have ih := flat_drop (xs := r) k fun z hz => h z (by simp [hz])
    simp only [flat, List.flatMap_cons, List.drop_succ_cons] at *
    rw [ih, Nat.add_mul, Nat.one_mul, Nat.add_comm, ← List.drop_drop, ← hx, List.drop_left]

theorem flat_take {sz : Nat} : ∀ {xs : List V} (k : Nat), (∀ x ∈ xs, x.cells.length = sz) → flat (xs.take k) = (flat xs).take (k * sz)
  | xs, 0, _ => by simp [flat]
  | [], k + 1, _ => by simp [flat]
  | x :: r, k + 1, h => by
    have hx := h x (by simp)
    have ih := flat_take (xs := r) k fun z hz => h z (by simp [hz])
    simp only [flat, List.flatMap_cons, List.take_succ_cons] at *
    rw [ih, Nat.add_mul, Nat.one_mul, Nat.add_comm, ← hx, List.take_length_add_append]

theorem run_size (hC : CtxOk P C) {ty : TypeId} (hs : (C.tg ty).size ≠ 0) (w' : World) : (sizeOf ty).run P w' = .ok (C.tg ty).size w' := by
  obtain ⟨i, h1, h2, _⟩ := TI.has hC hs
  simp [sizeOf, typeInfo, h1, h2]

/-- A part of a slice. -/
theorem RepV.sub {b o n cap sz : Nat} {xs : List V} (hr : RepV w G (.slice (some ⟨b, o, none⟩) n cap) (.sl sz xs)) (lo hi cap' : Nat) (h1 : lo ≤ hi) (h2 : hi ≤ xs.length) (h3 : hi - lo ≤ cap') :
    RepV w G (.slice (some ⟨b, o + lo * sz, none⟩) (hi - lo) cap') (.sl sz ((xs.take hi).drop lo)) := by
  rcases hr.sl_inv with ⟨oa, e, rfl⟩ | ⟨b', o', n', cap'', us, e, hn, hc, hs, hl, hone, hm, hrep⟩
  · have e0 : hi - lo = 0 := by simp at h2; omega
    rw [e0]
    have : (([] : List V).take hi).drop lo = [] := by simp
    rw [this]
    exact .sl b (o + lo * sz) 0 cap' sz [] [] rfl (Nat.zero_le _) (by simp) (by simp [flat]) (by simp [flat]) (by simp) (by simp)
  cases e
  have hs1 : ∀ x ∈ xs.take hi, x.cells.length = sz := fun x hx => hs x (List.mem_of_mem_take hx)
  have hf : flat ((xs.take hi).drop lo) = ((flat xs).take (hi * sz)).drop (lo * sz) := by rw [flat_drop lo hs1, flat_take hi hs]
  have hfl := flat_length hs
  have hle : hi * sz ≤ (flat xs).length := by rw [hfl]; exact Nat.mul_le_mul_right _ h2
  refine .sl b (o + lo * sz) (hi - lo) cap' sz _ ((us.take (hi * sz)).drop (lo * sz)) (by simp; omega) h3 (fun x hx => hs x (List.mem_of_mem_take (List.mem_of_mem_drop hx))) (by rw [hf]; simp [hl]) (fun c hc => hone c ?_) (fun j u hj => ?_) (fun j u c hu hc => ?_)
  · rw [hf] at hc; exact List.mem_of_mem_take (List.mem_of_mem_drop hc)
  · rw [List.getElem?_drop, List.getElem?_take] at hj
    split at hj
    · have := hm _ _ hj
      rw [← Nat.add_assoc] at this; exact this
    · simp at hj
  · rw [hf] at hc
    rw [List.getElem?_drop, List.getElem?_take] at hu hc
    split at hu
    · rename_i hlt; rw [if_pos hlt] at hc; exact hrep _ _ _ hu hc
    · simp at hu

theorem nop_indexAddr (hC : CtxOk P C) (he : EvOk C w G lam t gc ρ) (hg : ∀ gb, g = some gb → gb = true) {ty : TypeId} {x i : Operand} (ho : o.op = .indexAddr ty x i) (hk : nop C md g gc o t l h K) : NOut P w G lam S t l h ρ o K := by
  unfold nop at hk
  simp only [ho] at hk
  split at hk
  · rename_i e sz xs k n hkk hx hi
    have hr := he.v hx
    have h2 := (he.v hi).lit_inv
    cases hsz : (Nat.beq sz (C.tg e).size && Nat.ble 1 sz) with
    | false => simp [hsz] at hk
    | true =>
      simp only [hsz, cond_true] at hk
      simp only [Bool.and_eq_true] at hsz
      have hs1 := Nat.le_of_ble_eq_true hsz.2
      have hsz := Nat.eq_of_beq_eq_true hsz.1
      obtain ⟨y, h0, hK⟩ := hk
      obtain ⟨a, hy⟩ := ob_get hg h0
      rcases hr.sl_inv with ⟨_, _, rfl⟩ | ⟨b, o', n', cap, us, hρ, hn, hc, hs, hl, hone, hm, hrep⟩
      · simp at hy
      have hlt : n.toNat < xs.length := (List.getElem?_eq_some_iff.1 hy).1
      have hyl : y.cells.length = sz := hs y (List.mem_of_getElem? hy)
      have hfl := flat_length hs
      have hmul : n.toNat * sz + sz ≤ xs.length * sz := by
        have := Nat.mul_le_mul_right sz (show n.toNat + 1 ≤ xs.length from hlt)
        rw [Nat.add_mul, Nat.one_mul] at this; exact this
      refine ⟨_, _, .pointer (some ⟨b, o' + n.toNat * sz, none⟩), hK, fun w' _ => ?_, .v (.ip b (o' + n.toNat * sz) y.cells ((us.drop (n.toNat * sz)).take sz) ?_ (fun j u hj => ?_) (fun j u c hu hc => ?_))⟩
      · have hsize := run_size (P := P) hC (ty := e) (by omega) w'
        rw [← hsz] at hsize
        unfold execOp; simp only [ho, hρ, h2]
        simp only [Instr.indexAt, asIntOf, Sem.run_bind, Sem.run_pure, Result.andThen_ok, run_underlying ((hC ty).slice _ hkk)]
        rw [if_pos ⟨a, by rw [hn]; omega⟩]
        simp [hsize, Addr.add_mid]
      · simp [hl, hfl, hyl]; omega
      · rw [List.getElem?_take] at hj
        split at hj
        · rw [List.getElem?_drop] at hj
          have := hm _ _ hj
          rw [← Nat.add_assoc] at this; exact this
        · simp at hj
      · rw [List.getElem?_take] at hu
        split at hu
        · rename_i hj
          rw [List.getElem?_drop] at hu
          rw [← flat_get hs hy j hj] at hc
          exact hrep _ _ _ hu hc
        · simp at hu
  · rename_i m e k n hkk hi
    have h2 := (he.v hi).lit_inv
    split at hk
    · rename_i k' off hx
      obtain ⟨b, hρ, hb⟩ := (he.1 0 x _ hx rfl).lp_inv
      cases hs1 : Nat.ble 1 (C.tg e).size with
      | false => simp [hs1] at hk
      | true =>
        simp only [hs1, cond_true] at hk
        have hs1 := Nat.le_of_ble_eq_true hs1
        obtain ⟨h0, hK⟩ := hk
        obtain ⟨a, b', c⟩ := ob_get hg h0
        refine ⟨_, _, .pointer (some ⟨b, off + n.toNat * (C.tg e).size, none⟩), hK, fun w' _ => ?_, .lp hb⟩
        have hsize := run_size (P := P) hC (ty := e) (by omega) w'
        have hnt : ¬ m ≤ 1 := by omega
        unfold execOp; simp only [ho, hρ, h2]
        simp only [Instr.indexAt, asIntOf, Sem.run_bind, Sem.run_pure, Result.andThen_ok, run_underlying ((hC ty).array _ _ hkk), Instr.sureAddr]
        rw [if_pos ⟨a, b'⟩]
        simp [hsize, Addr.add_mid]
    · exact hk.elim
  · exact hk.elim

theorem bound_get {a : Option A} {d : Nat} {K : Nat → Prop} {top : Nat} (hg : ∀ gb, g = some gb → gb = true) (h : bound a d K g top) :
    (a = none ∧ K d) ∨ ∃ k n, a = some (.v (.lit (.int k n))) ∧ 0 ≤ n ∧ n ≤ (top : Int) ∧ K n.toNat := by
  unfold bound at h
  split at h
  · exact .inl ⟨rfl, h⟩
  · rename_i k n
    obtain ⟨h0, hK⟩ := h
    obtain ⟨a, b⟩ := ob_get hg h0
    exact .inr ⟨k, n, rfl, a, b, hK⟩
  · exact h.elim

theorem run_bound {k : IntKind} {n : Int} {y : Nat} (h0 : 0 ≤ n) (h1 : n ≤ (y : Int)) (c : BoundsCode) (w' : World) : (Instr.sliceBound (.int k n) y c).run P w' = .ok n.toNat w' := by
  simp [Instr.sliceBound, asIntOf, h0, h1]

/-- The bounds of a slice expression, as the machine finds them. -/
theorem run_bounds (num : ∀ (x : Operand) (k : IntKind) (n : Int), (evalO C 0 t x).strip gc = .v (.lit (.int k n)) → ρ x = .int k n) (hg : ∀ gb, g = some gb → gb = true)
    {lo hi : Option Operand} {K' : Nat → Nat → Prop} {len cap : Nat} (hle : len ≤ cap)
    (hb : bound (hi.map fun x => (evalO C 0 t x).strip gc) len (fun h => bound (lo.map fun x => (evalO C 0 t x).strip gc) 0 (K' h) g h) g len) :
    ∃ h l, K' h l ∧ l ≤ h ∧ h ≤ len ∧ ∀ b w', (Instr.sliceBounds b len cap (lo.map ρ) (hi.map ρ) none).run P w' = .ok (l, h, cap) w' := by
  have low : ∀ hh, bound (lo.map fun x => (evalO C 0 t x).strip gc) 0 (K' hh) g hh → ∃ l, K' hh l ∧ l ≤ hh ∧ ∀ c w', (match lo.map ρ with | some v => Instr.sliceBound v hh c | none => pure 0 : Sem Nat).run P w' = .ok l w' := by
    intro hh hb
    rcases bound_get hg hb with ⟨e, hK⟩ | ⟨k, n, e, h0, h1, hK⟩
    · cases lo with
      | none => exact ⟨0, hK, Nat.zero_le _, fun c w' => rfl⟩
      | some x => simp at e
    · cases lo with
      | none => simp at e
      | some x =>
        simp only [Option.map_some, Option.some.injEq] at e
        exact ⟨n.toNat, hK, by omega, fun c w' => by simp only [Option.map_some, num x k n e]; exact run_bound h0 h1 c w'⟩
  rcases bound_get hg hb with ⟨e, hK⟩ | ⟨k, n, e, h0, h1, hK⟩
  · cases hi with
    | none =>
      obtain ⟨l, h1, h2, h3⟩ := low len hK
      refine ⟨len, l, h1, h2, Nat.le_refl _, fun b w' => ?_⟩
      have := h3 .sliceB w'
      unfold Instr.sliceBounds
      cases lo <;> simp_all
    | some x => simp at e
  · cases hi with
    | none => simp at e
    | some x =>
      simp only [Option.map_some, Option.some.injEq] at e
      obtain ⟨l, h2, h3, h4⟩ := low n.toNat hK
      refine ⟨n.toNat, l, h2, h3, by omega, fun b w' => ?_⟩
      have h5 := fun c => run_bound (P := P) (k := k) (y := cap) h0 (by omega) c w'
      have := h4 .sliceB w'
      unfold Instr.sliceBounds
      cases lo <;> simp_all [num x k n e]

theorem run_bounds3 (num : ∀ (x : Operand) (k : IntKind) (n : Int), (evalO C 0 t x).strip gc = .v (.lit (.int k n)) → ρ x = .int k n) (hg : ∀ gb, g = some gb → gb = true)
    {lo : Option Operand} {hi mx : Operand} {K' : Nat → Nat → Prop} {len cap : Nat} (hle : len ≤ cap)
    (hb : bound (some ((evalO C 0 t mx).strip gc)) 0 (fun m => bound (some ((evalO C 0 t hi).strip gc)) len (fun h => h = m ∧ bound (lo.map fun x => (evalO C 0 t x).strip gc) 0 (K' h) g h) g m) g len) :
    ∃ h l, K' h l ∧ l ≤ h ∧ h ≤ len ∧ ∀ w', (Instr.sliceBounds true len cap (lo.map ρ) (some (ρ hi)) (some (ρ mx))).run P w' = .ok (l, h, h) w' := by
  rcases bound_get hg hb with ⟨e, _⟩ | ⟨k, m, e, h0, h1, hb⟩
  · simp at e
  rcases bound_get hg hb with ⟨e', _⟩ | ⟨k', n, e', h0', h1', he, hb⟩
  · simp at e'
  simp only [Option.some.injEq] at e e'
  have e1 := num _ _ _ e
  have e2 := num _ _ _ e'
  have b1 := fun c w' => run_bound (P := P) (k := k) (y := cap) h0 (by omega) c w'
  have b2 := fun c w' => run_bound (P := P) (k := k') (y := m.toNat) h0' h1' c w'
  rcases bound_get hg hb with ⟨e3, hK⟩ | ⟨k3, n3, e3, h0'', h1'', hK⟩
  · cases lo with
    | none => exact ⟨_, _, hK, Nat.zero_le _, by omega, fun w' => by unfold Instr.sliceBounds; simp [e1, e2, b1, b2, he]⟩
    | some x => simp at e3
  · cases lo with
    | none => simp at e3
    | some x =>
      simp only [Option.map_some, Option.some.injEq] at e3
      have e4 := num _ _ _ e3
      have b3 := fun c w' => run_bound (P := P) (k := k3) (y := n.toNat) h0'' h1'' c w'
      rw [he] at b3
      exact ⟨_, _, hK, by omega, by omega, fun w' => by unfold Instr.sliceBounds; simp [e1, e2, e4, b1, b2, b3, he]⟩

theorem nop_slice (hC : CtxOk P C) (he : EvOk C w G lam t gc ρ) (hg : ∀ gb, g = some gb → gb = true) {ty : TypeId} {x : Operand} {lo hi mx : Option Operand} (ho : o.op = .slice ty x lo hi mx) (hk : nop C md g gc o t l h K) : NOut P w G lam S t l h ρ o K := by
  unfold nop at hk
  simp only [ho] at hk
  have num : ∀ (x : Operand) (k : IntKind) (n : Int), (evalO C 0 t x).strip gc = .v (.lit (.int k n)) → ρ x = .int k n := fun x k n hx => (he.1 0 x _ hx rfl).v_inv.lit_inv
  have full : ∀ (sz : Nat) (xs : List V), RepV w G (ρ x) (.sl sz xs) → (match (generalizing := false) (C.tg ty).k with
      | .slice e => (bif Nat.beq sz (C.tg e).size && Nat.ble 1 sz then
          (match (generalizing := false) mx with
          | none => bound (hi.map fun x => (evalO C 0 t x).strip gc) xs.length (fun h => bound (lo.map fun x => (evalO C 0 t x).strip gc) 0 (fun l => K (.v (.sl sz ((xs.take h).drop l))) .no) g h) g xs.length
          | some m => (match (generalizing := false) hi with
            | some hi => bound (some ((evalO C 0 t m).strip gc)) 0 (fun m => bound (some ((evalO C 0 t hi).strip gc)) xs.length (fun h => h = m ∧ bound (lo.map fun x => (evalO C 0 t x).strip gc) 0 (fun l => K (.own sz ((xs.take h).drop l)) .no) g h) g m) g xs.length
            | none => False))
        else False)
      | _ => False) → NOut P w G lam S t l h ρ o K := by
    intro sz xs hr hk
    split at hk
    · rename_i e hkk
      cases hsz : (Nat.beq sz (C.tg e).size && Nat.ble 1 sz) with
      | false => simp [hsz] at hk
      | true =>
        simp only [hsz, cond_true] at hk
        simp only [Bool.and_eq_true] at hsz
        have hs1 := Nat.le_of_ble_eq_true hsz.2
        have hsz := Nat.eq_of_beq_eq_true hsz.1
        have hsize := fun w' => run_size (P := P) hC (ty := e) (by omega) w'
        rw [← hsz] at hsize
        -- the address and its numbers
        have base : ∃ (a : Option Addr) (cap : Nat), ρ x = .slice a xs.length cap ∧ xs.length ≤ cap ∧ (a = none → xs = [] ∧ cap = 0) ∧ (∀ ad, a = some ad → ad.spot = none ∨ (xs = [] ∧ cap = 0)) := by
          rcases hr.sl_inv with ⟨oa, e1, rfl⟩ | ⟨b, o', n', cap, us, e1, rfl, hc, _⟩
          · exact ⟨oa, 0, e1, Nat.le_refl _, fun _ => ⟨rfl, rfl⟩, fun _ _ => .inr ⟨rfl, rfl⟩⟩
          · exact ⟨some ⟨b, o', none⟩, cap, e1, hc, fun h => by simp at h, fun ad h => by simp at h; subst h; exact .inl rfl⟩
        obtain ⟨a, cap, hρ, hcap, hnil, hspot⟩ := base
        have ex : ∀ lv hv mv : Nat, (∀ w', (Instr.sliceBounds true xs.length cap (lo.map ρ) (hi.map ρ) (mx.map ρ)).run P w' = .ok (lv, hv, mv) w') →
            ∀ w', (execOp ρ o).run P w' = .ok (.value (.slice (if mv = lv then a else a.map (·.add (lv * sz))) (hv - lv) (mv - lv))) w' := by
          intro lv hv mv hb w'
          unfold execOp; simp only [ho, hρ]
          simp only [Instr.sliceAt, Instr.slice, Sem.run_bind, run_underlying ((hC ty).slice _ hkk), hb w', hsize w', Result.andThen_ok, Sem.run_pure]
        have rep : ∀ lv hv mv : Nat, lv ≤ hv → hv ≤ xs.length → hv ≤ mv → mv ≤ cap → RepV w G (.slice (if mv = lv then a else a.map (·.add (lv * sz))) (hv - lv) (mv - lv)) (.sl sz ((xs.take hv).drop lv)) := by
          intro lv hv mv h1 h2 h3 h4
          cases a with
          | none =>
            obtain ⟨rfl, rfl⟩ := hnil rfl
            have : lv = 0 := by omega
            have : hv = 0 := by simp at h2; omega
            have : mv = 0 := by omega
            subst_vars
            exact .slnil _
          | some ad =>
            by_cases hz : xs = [] ∧ cap = 0
            · obtain ⟨rfl, rfl⟩ := hz
              have e0 : lv = 0 := by omega
              have e1 : hv = 0 := by simp at h2; omega
              have e2 : mv = 0 := by omega
              subst_vars
              exact .slz ad _
            obtain ⟨b, o', sp⟩ := ad
            have := (hspot _ rfl).resolve_right hz
            simp only at this
            subst this
            rw [hρ] at hr
            by_cases hm : mv = lv
            · rw [if_pos hm]
              have e0 : hv - lv = 0 := by omega
              have e1 : mv - lv = 0 := by omega
              have : (xs.take hv).drop lv = [] := by apply List.drop_eq_nil_of_le; simp; omega
              rw [e0, e1, this]
              exact .sl b o' 0 0 sz [] [] rfl (Nat.le_refl _) (by simp) (by simp [flat]) (by simp [flat]) (by simp) (by simp)
            · rw [if_neg hm]
              simp only [Option.map_some, Addr.add_mid]
              exact hr.sub lv hv (mv - lv) h1 h2 (by omega)
        cases mx with
        | none =>
          simp only at hk
          obtain ⟨hv, lv, hK, h1, h2, hb⟩ := run_bounds (P := P) num hg hcap hk
          exact ⟨_, _, _, hK, fun w' _ => ex lv hv cap (hb true) w', .v (rep lv hv cap h1 h2 (by omega) (Nat.le_refl _))⟩
        | some m =>
          cases hi with
          | none => exact hk.elim
          | some hi =>
            simp only at hk
            obtain ⟨hv, lv, hK, h1, h2, hb⟩ := run_bounds3 (P := P) num hg hcap hk
            have hr' := rep lv hv hv h1 h2 (Nat.le_refl _) (by omega)
            refine ⟨_, _, _, hK, fun w' _ => ex lv hv hv hb w', fun p => ?_⟩
            cases a with
            | none =>
              obtain ⟨rfl, rfl⟩ := hnil rfl
              have : lv = 0 := by simp at h2; omega
              have : hv = 0 := by simp at h2; omega
              subst_vars
              exact .onil p _
            | some ad =>
              by_cases hz : xs = [] ∧ cap = 0
              · obtain ⟨rfl, rfl⟩ := hz
                have e0 : lv = 0 := by simp at h2; omega
                have e1 : hv = 0 := by simp at h2; omega
                subst_vars
                exact .oz p ad _
              obtain ⟨b, o', sp⟩ := ad
              have := (hspot _ rfl).resolve_right hz
              simp only at this
              subst this
              by_cases hm : hv = lv
              · rw [if_pos hm] at hr' ⊢
                exact .own p b o' _ _ sz _ hr' (.inl rfl)
              · rw [if_neg hm] at hr' ⊢
                simp only [Option.map_some, Addr.add_mid] at hr' ⊢
                exact .own p b _ _ _ sz _ hr' (.inl rfl)
    · exact hk.elim
  split at hk
  · rename_i s hx
    have hρ := (he.1 0 x _ hx rfl).v_inv.lit_inv
    split at hk
    · have hkk : (C.tg ty).k = .str := by assumption
      obtain ⟨hv, lv, hK, h1, h2, hb⟩ := run_bounds (P := P) num hg (Nat.le_refl _) hk
      refine ⟨_, _, _, hK, fun w' _ => ?_, .v (.lit _)⟩
      unfold execOp; simp only [ho, hρ]
      simp only [Instr.sliceAt, Instr.slice, Sem.run_bind, run_underlying ((hC ty).str hkk), Result.andThen_ok, Option.map_none]
      simp [hb false w']
    · exact hk.elim
  · rename_i sz xs hx
    exact full sz xs (he.1 0 x _ hx rfl).v_inv hk
  · rename_i sz xs hx
    exact full sz xs ((he.1 0 x _ hx rfl).toV rfl) hk
  · rename_i sz hx
    have hρ := (he.1 0 x _ hx rfl).v_inv.nl_inv
    exact full sz [] (by rw [hρ]; exact .slnil sz) hk
  · exact hk.elim

end
end Go.AI

/- Soundness: numbers, comparisons, conversions, structs; and all operations that turn no memory, in one word. -/
namespace Go.AI
open Go.RowKit
section
variable {P : Program} {C : Ctx} {w : World} {G : Gh} {lam : List Nat} {S : World → Prop} {t : T} {l : List LO} {h : H} {ρ : Operand → Value} {o : Oper} {K : A → Fr → Prop} {g : Option Bool} {gc : List (Nat × Bool)} {md : Md}

theorem bool_elim {α : Type} {c : Bool} {p q e : α} {r : Prop} (h : (bif c then p else q) = e) (hf : q = e → r) (ht : c = true → p = e → r) : r := by
  cases c with
  | true => exact ht rfl h
  | false => exact hf h
theorem eqCells_vals : ∀ {zs cs ds : List V} {us vs : List Value} {e : Bool}, eqCells zs cs ds = some e → us.length = cs.length → vs.length = ds.length →
    (∀ (j : Nat) (u : Value) (c : V), us[j]? = some u → cs[j]? = some c → RepV w G u c) → (∀ (j : Nat) (u : Value) (c : V), vs[j]? = some u → ds[j]? = some c → RepV w G u c) → eqVals zs us vs = some e := by
  intro zs
  induction zs with
  | nil =>
    intro cs ds us vs e h h1 h2 _ _
    match cs, ds with
    | [], [] =>
      have : us = [] := List.eq_nil_of_length_eq_zero h1
      have : vs = [] := List.eq_nil_of_length_eq_zero h2
      subst_vars; simpa [eqCells, eqVals] using h
    | [], d :: ds => simp [eqCells] at h
    | c :: cs, _ => simp [eqCells] at h
  | cons z zs ih =>
    intro cs ds us vs e h h1 h2 h3 h4
    match cs, ds, us, vs, h1, h2 with
    | [], _, _, _, _, _ => cases z <;> simp [eqCells] at h
    | c :: cs, [], _, _, _, _ => cases z <;> simp [eqCells] at h
    | c :: cs, d :: ds, u :: us, v :: vs, h1, h2 =>
      have ih := fun e h => ih (cs := cs) (ds := ds) (us := us) (vs := vs) (e := e) h (by simpa using h1) (by simpa using h2) (fun j u c hu hc => h3 (j + 1) u c hu hc) (fun j u c hu hc => h4 (j + 1) u c hu hc)
      have hc := h3 0 u c rfl rfl
      have hd := h4 0 v d rfl rfl
      unfold eqCells at h
      split at h
      · rename_i e1 _ _; cases e1
      · rename_i e0 e1 e2
        cases e0; cases e1; cases e2
        cases hc; cases hd
        refine bool_elim h (fun h => by cases h) (fun hkk h => ?_)
        obtain ⟨b, hb, rfl⟩ := Option.map_eq_some_iff.1 h
        simp only [Bool.and_eq_true, beq_iff_eq] at hkk
        simp [eqVals, ih b hb, hkk.1.symm, hkk.2.symm]
      · rename_i e0 e1 e2
        cases e0; cases e1; cases e2
        cases hc; cases hd
        obtain ⟨b, hb, rfl⟩ := Option.map_eq_some_iff.1 h
        simp [eqVals, ih b hb]
      · rename_i e0 e1 e2
        cases e0; cases e1; cases e2
        cases hc; cases hd
        obtain ⟨b, hb, rfl⟩ := Option.map_eq_some_iff.1 h
        simp [eqVals, ih b hb]
      · simp at h

theorem guard_none {op : BinOp} {ty : TypeId} {x y : Operand} {u v : Value} (hu : match u with | .agg _ | .nilIface => False | _ => True) (w' : World) : (eqGuard op ty x y u v).run P w' = .ok () w' := by
  cases u <;> first | exact hu.elim | (cases op <;> rfl)

theorem run_equal_bool {ty : TypeId} (h : P.underlying ty = some .bool) (a b : Bool) (w' : World) : (Op.equal ty (.bool a) (.bool b)).run P w' = .ok (a == b) w' := by
  unfold Op.equal
  rw [show Op.maxDepth = 9999 + 1 from rfl, Op.equalIn, Sem.run_bind, run_underlying h]
  rfl
theorem run_equal_ptr_nil {ty e : TypeId} (h : P.underlying ty = some (.pointer e)) (a : Option Addr) (w' : World) : (Op.equal ty (.pointer a) (.pointer none)).run P w' = .ok a.isNone w' := by
  unfold Op.equal
  rw [show Op.maxDepth = 9999 + 1 from rfl, Op.equalIn, Sem.run_bind, run_underlying h]
  cases a <;> rfl

theorem run_eql {ty : TypeId} {u v : Value} {b : Bool} {w' : World} (hu : match u, v with | .bool _, .bool _ => True | .agg _, .agg _ => True | .pointer _, .pointer _ => True | _, _ => False)
    (h : (Op.equal ty u v).run P w' = .ok b w') : (binOp .eql ty u v).run P w' = .ok (.bool b) w' := by
  split at hu
  · show ((do pure (.bool (← Op.equal ty _ _)) : Sem Value)).run P w' = _
    rw [Sem.run_bind, h]; rfl
  · show ((do pure (.bool (← Op.equal ty _ _)) : Sem Value)).run P w' = _
    rw [Sem.run_bind, h]; rfl
  · show ((do pure (.bool (← Op.equal ty _ _)) : Sem Value)).run P w' = _
    rw [Sem.run_bind, h]; rfl
  · exact hu.elim
theorem run_neq {ty : TypeId} {u v : Value} {b : Bool} {w' : World} (hu : match u, v with | .bool _, .bool _ => True | .agg _, .agg _ => True | .pointer _, .pointer _ => True | _, _ => False)
    (h : (Op.equal ty u v).run P w' = .ok b w') : (binOp .neq ty u v).run P w' = .ok (.bool (!b)) w' := by
  split at hu
  · show ((do pure (.bool (!(← Op.equal ty _ _))) : Sem Value)).run P w' = _
    rw [Sem.run_bind, h]; rfl
  · show ((do pure (.bool (!(← Op.equal ty _ _))) : Sem Value)).run P w' = _
    rw [Sem.run_bind, h]; rfl
  · show ((do pure (.bool (!(← Op.equal ty _ _))) : Sem Value)).run P w' = _
    rw [Sem.run_bind, h]; rfl
  · exact hu.elim

theorem guard_agg {op : BinOp} {ty : TypeId} {x y : Operand} {u v : Array Value} {w' : World} (h : P.eqGuardType P.depth ty = false) : (eqGuard op ty x y (.agg u) (.agg v)).run P w' = .ok () w' := by
  unfold eqGuard
  cases op <;> simp [h]

theorem bin_v (hC : CtxOk P C) (hg : ∀ gb, g = some gb → gb = true) {op : BinOp} {ty : TypeId} {x y : Operand} {u v : Value} {a b : V} {K' : V → Prop} (ha : RepV w G u a) (hb : RepV w G v b) (hk : binV C g op ty a b K') :
    ∃ r q, K' q ∧ RepV w G r q ∧ ∀ w', (do eqGuard op ty x y u v; binOp op ty u v : Sem Value).run P w' = .ok r w' := by
  unfold binV at hk
  split at hk
  · split at hk
    · cases ha; cases hb
      obtain ⟨h0, hK⟩ := hk
      have h0 := ob_get hg h0
      exact ⟨_, _, hK, .lit _, fun w' => by rw [Sem.run_bind, guard_none (by trivial)]; simp [binOp, Op.shift, show ¬ _ < (0 : Int) from Int.not_lt.2 h0]⟩
    · exact hk.elim
  · split at hk
    · cases ha; cases hb
      obtain ⟨h0, hK⟩ := hk
      have h0 := ob_get hg h0
      exact ⟨_, _, hK, .lit _, fun w' => by rw [Sem.run_bind, guard_none (by trivial)]; simp [binOp, Op.shift, show ¬ _ < (0 : Int) from Int.not_lt.2 h0]⟩
    · exact hk.elim
  · split at hk
    · rename_i k x' k' y'
      cases ha; cases hb
      cases hkk : (k == k') with
      | false => simp [hkk] at hk
      | true =>
        simp only [hkk, cond_true] at hk
        have : k = k' := by simpa using hkk
        subst this
        obtain ⟨r, hK, hr⟩ := bin_int (P := P) (ty := ty) hg hk
        exact ⟨r, _, hK, .lit _, fun w' => by rw [Sem.run_bind, guard_none (by trivial)]; exact hr w'⟩
    · cases ha; cases hb
      obtain ⟨r, hK, hr⟩ := bin_str (P := P) (ty := ty) hg hk
      exact ⟨r, _, hK, .lit _, fun w' => by rw [Sem.run_bind, guard_none (by trivial)]; exact hr w'⟩
    · cases ha; cases hb
      split at hk
      · have hkk : (C.tg ty).k = .bool := by assumption
        exact ⟨_, _, hk, .lit _, fun w' => by rw [Sem.run_bind, guard_none (by trivial)]; exact run_eql trivial (run_equal_bool ((hC ty).bool hkk) _ _ w')⟩
      · have hkk : (C.tg ty).k = .bool := by assumption
        exact ⟨_, _, hk, .lit _, fun w' => by rw [Sem.run_bind, guard_none (by trivial)]; exact run_neq trivial (run_equal_bool ((hC ty).bool hkk) _ _ w')⟩
      · exact hk.elim
    · obtain ⟨us, rfl, l1, r1⟩ := ha.agg_inv
      obtain ⟨vs, rfl, l2, r2⟩ := hb.agg_inv
      split at hk
      · have q := fun w' => (hC ty).eq _ (by assumption) us vs _ (eqCells_vals (by assumption) l1 l2 r1 r2) w'
        exact ⟨_, _, hk, .lit _, fun w' => by rw [Sem.run_bind, guard_agg (q w').2]; exact run_eql trivial (q w').1⟩
      · have q := fun w' => (hC ty).eq _ (by assumption) us vs _ (eqCells_vals (by assumption) l1 l2 r1 r2) w'
        exact ⟨_, _, hk, .lit _, fun w' => by rw [Sem.run_bind, guard_agg (q w').2]; exact run_neq trivial (q w').1⟩
      · exact hk.elim
    · obtain ⟨rfl, _⟩ := ha.ptr_inv
      cases hb
      split at hk
      · exact ⟨_, _, hk, .lit _, fun w' => by rw [Sem.run_bind, guard_none (by trivial)]; exact run_eql (b := false) trivial (run_equal_ptr_nil ((hC ty).ptr _ (by assumption)) _ w')⟩
      · exact ⟨_, _, hk, .lit _, fun w' => by rw [Sem.run_bind, guard_none (by trivial)]; exact run_neq (b := false) trivial (run_equal_ptr_nil ((hC ty).ptr _ (by assumption)) _ w')⟩
      · exact hk.elim
    · cases ha; cases hb
      split at hk
      · exact ⟨_, _, hk, .lit _, fun w' => by rw [Sem.run_bind, guard_none (by trivial)]; exact run_eql (b := true) trivial (run_equal_ptr_nil ((hC ty).ptr _ (by assumption)) _ w')⟩
      · exact ⟨_, _, hk, .lit _, fun w' => by rw [Sem.run_bind, guard_none (by trivial)]; exact run_neq (b := true) trivial (run_equal_ptr_nil ((hC ty).ptr _ (by assumption)) _ w')⟩
      · exact hk.elim
    · exact hk.elim

theorem nop_binOp (hC : CtxOk P C) (he : EvOk C w G lam t gc ρ) (hg : ∀ gb, g = some gb → gb = true) {op : BinOp} {ty yt : TypeId} {x y : Operand} (ho : o.op = .binOp op ty x y yt) (hk : nop C md g gc o t l h K) : NOut P w G lam S t l h ρ o K := by
  unfold nop at hk
  simp only [ho] at hk
  have fin : ∀ u v, K (.v v) .no → RepV w G u v → (∀ w', (do eqGuard op ty x y (ρ x) (ρ y); binOp op ty (ρ x) (ρ y) : Sem Value).run P w' = .ok u w') → NOut P w G lam S t l h ρ o K := by
    intro u v hK hr h0
    refine ⟨.v v, .no, u, hK, fun w' _ => ?_, .v hr⟩
    unfold execOp
    simp only [ho]
    rw [Sem.run_bind, h0 w']; rfl
  split at hk
  · rename_i k off hx hy
    obtain ⟨b, hρ, hb⟩ := (he.1 ty x _ (by assumption) rfl).lp_inv
    have hρ' := (he.1 ty y _ (by assumption) rfl).v_inv.lit_inv
    split at hk
    · exact fin _ _ hk (.lit _) fun w' => by rw [hρ, hρ', Sem.run_bind, guard_none (by trivial)]; exact run_eql (b := false) trivial (run_equal_ptr_nil ((hC ty).ptr _ (by assumption)) _ w')
    · exact fin _ _ hk (.lit _) fun w' => by rw [hρ, hρ', Sem.run_bind, guard_none (by trivial)]; exact run_neq (b := false) trivial (run_equal_ptr_nil ((hC ty).ptr _ (by assumption)) _ w')
    · exact hk.elim
  · split at hk
    · rename_i a b h1 h2
      obtain ⟨r, q, hK, hr, hrun⟩ := bin_v (P := P) hC hg (he.v h1) (he.v h2) (x := x) (y := y) hk
      exact fin r q hK hr hrun
    · exact hk.elim

theorem nop_unOp (he : EvOk C w G lam t gc ρ) (hg : ∀ gb, g = some gb → gb = true) {op : UnOp} {ty : TypeId} {x : Operand} (ho : o.op = .unOp op ty x) (hk : nop C md g gc o t l h K) : NOut P w G lam S t l h ρ o K := by
  unfold nop at hk
  simp only [ho] at hk
  split at hk
  · rename_i a hx
    have hr := he.v hx
    unfold unV at hk
    split at hk
    · have hρ := hr.lit_inv
      exact ⟨_, _, _, hk, fun w' _ => by unfold execOp; simp only [ho, hρ]; rfl, .v (.lit _)⟩
    · have hρ := hr.lit_inv
      obtain ⟨h0, hK⟩ := hk
      obtain ⟨a, b⟩ := ob_get hg h0
      exact ⟨_, _, _, hK, fun w' _ => by unfold execOp; simp only [ho, hρ]; simp [Op.unary, Op.intArith, IntWalk.i64_in _ ⟨a, b⟩], .v (.lit _)⟩
    · exact hk.elim
  · exact hk.elim

theorem bytes_inj {b : List UInt8} {us : List Value} (hl : us.length = b.length) (hr : ∀ (j : Nat) (u : Value) (c : V), us[j]? = some u → (V.bytes b)[j]? = some c → RepV w G u c) : ∀ (j : Nat) (hj : j < b.length), us[j]? = some (.int .u8 (b[j].toNat : Int)) := by
  intro j hj
  have hlt : j < us.length := by omega
  have h1 : (V.bytes b)[j]? = some (V.u8 b[j]) := by simp [V.bytes, hj]
  have := (hr j us[j] _ (List.getElem?_eq_getElem hlt) h1).lit_inv
  rw [List.getElem?_eq_getElem hlt, this]

theorem flat_bytes (b : List UInt8) : flat (V.bytes b) = V.bytes b := by
  induction b with
  | nil => rfl
  | cons c b ih => simp only [V.bytes, flat, List.map_cons, List.flatMap_cons] at *; rw [ih]; rfl

theorem nop_convert (hC : CtxOk P C) (he : EvOk C w G lam t gc ρ) (hS : ∀ w', S w' → Same w G lam md h w') {src dst : TypeId} {x : Operand} (ho : o.op = .convert src dst x) (hk : nop C md g gc o t l h K) : NOut P w G lam S t l h ρ o K := by
  unfold nop at hk
  simp only [ho] at hk
  have ex : ∀ u w', (convert src dst (ρ x)).run P w' = .ok u w' → (execOp ρ o).run P w' = .ok (.value u) w' := by
    intro u w' hu
    unfold execOp
    simp only [ho]
    rw [Sem.run_bind, hu]; rfl
  split at hk
  · rename_i k' k k'' n h1 h2 hx
    have hρ := (he.v hx).lit_inv
    obtain ⟨z, hz, hK⟩ := hk
    exact ⟨_, _, _, hK, fun w' _ => ex (.int k z) w' (by rw [hρ]; simp [convert, run_underlying ((hC src).int _ h1), run_underlying ((hC dst).int _ h2), Conv.intToInt, hz]), .v (.lit _)⟩
  · rename_i s h1 h2 hx
    have hρ := (he.v hx).lit_inv
    exact ⟨_, _, _, hk, fun w' _ => ex (.string s) w' (by rw [hρ]; simp [convert, run_underlying ((hC src).str h1), run_underlying ((hC dst).str h2)]), .v (.lit _)⟩
  · rename_i e sz xs h1 h2 hx
    split at hk
    · rename_i he8
      obtain ⟨b, rfl, hK⟩ := hk
      rcases (he.v hx).sl_inv with ⟨oa, hρ, hn⟩ | ⟨bl, off, n, cap, us, hρ, hn, hc, hs, hl, hone, hm, hr⟩
      · have : b = [] := by cases b <;> simp_all [V.bytes]
        subst this
        cases oa with
        | none => exact ⟨_, _, _, hK, fun w' _ => ex _ w' (by rw [hρ]; exact run_convert_bytes_nil w' src e ((hC src).slice _ h1) ((hC e).int _ he8) 0 0 dst ((hC dst).str h2)), .v (.lit _)⟩
        | some ad => exact ⟨_, _, _, hK, fun w' _ => ex _ w' (by rw [hρ]; exact run_convert_bytes_back w' src dst e ad 0 [] ((hC src).slice _ h1) ((hC e).int _ he8) ((hC dst).str h2) fun j hj => by simp at hj), .v (.lit _)⟩
      · rw [flat_bytes] at hl hr
        have hl' : us.length = b.length := by simpa [V.bytes] using hl
        have hn' : n = b.length := by simpa [V.bytes] using hn
        subst hn'
        have hb := bytes_inj hl' hr
        refine ⟨_, _, _, hK, fun w' hw' => ?_, .v (.lit _)⟩
        refine ex _ w' ?_
        rw [hρ]
        refine run_convert_bytes_back w' src dst e ⟨bl, off, none⟩ cap b ((hC src).slice _ h1) ((hC e).int _ he8) ((hC dst).str h2) fun j hj => ?_
        obtain ⟨q1, q2⟩ := hm j _ (hb j hj)
        rw [Addr.add_mid, (hS w' hw').cell _ _ q2, q1]
    · exact hk.elim
  · rename_i e sz h1 h2 hx
    have hρ := (he.v hx).nl_inv
    split at hk
    · rename_i he8
      exact ⟨_, _, _, hk, fun w' _ => ex _ w' (by rw [hρ]; exact run_convert_bytes_nil w' src e ((hC src).slice _ h1) ((hC e).int _ he8) 0 0 dst ((hC dst).str h2)), .v (.lit _)⟩
    · exact hk.elim
  · exact hk.elim
end
end Go.AI

/- Soundness: structs, and all operations that turn no memory, in one word. -/
namespace Go.AI
open Go.RowKit
section
variable {P : Program} {C : Ctx} {w : World} {G : Gh} {lam : List Nat} {S : World → Prop} {t : T} {l : List LO} {h : H} {ρ : Operand → Value} {o : Oper} {K : A → Fr → Prop} {g : Option Bool} {gc : List (Nat × Bool)} {md : Md}

theorem foldl_set (off : Nat) : ∀ (us : List Value) (k : Nat) (A : Array Value) (pre old post : List Value), A.toList = pre ++ old ++ post → pre.length = off + k → old.length = us.length →
    ((us.zipIdx k).foldl (fun cs (p : Value × Nat) => cs.setIfInBounds (off + p.2) p.1) A).toList = pre ++ us ++ post
  | [], k, A, pre, old, post, h, _, h2 => by
    have : old = [] := List.eq_nil_of_length_eq_zero (by simpa using h2)
    subst this; simpa using h
  | u :: us, k, A, pre, [], post, h, _, h2 => by simp at h2
  | u :: us, k, A, pre, x :: old, post, h, h1, h2 => by
    simp only [List.zipIdx_cons, List.foldl_cons]
    have := foldl_set off us (k + 1) (A.setIfInBounds (off + k) u) (pre ++ [u]) old post (by
      rw [Array.toList_setIfInBounds, h, ← h1]
      simp) (by simp; omega) (by simpa using h2)
    rw [this]; simp

/-- Cells and what they stand for. -/
def RC (w : World) (G : Gh) (us : List Value) (cs : List V) : Prop := us.length = cs.length ∧ ∀ (j : Nat) (u : Value) (c : V), us[j]? = some u → cs[j]? = some c → RepV w G u c

theorem RC.append {us us' : List Value} {cs cs' : List V} (a : RC w G us cs) (b : RC w G us' cs') : RC w G (us ++ us') (cs ++ cs') := by
  refine ⟨by simp [a.1, b.1], fun j u c hu hc => ?_⟩
  rw [List.getElem?_append] at hu hc
  rw [a.1] at hu
  split at hu
  · rename_i hlt; rw [if_pos hlt] at hc; exact a.2 j u c hu hc
  · rename_i hlt; rw [if_neg hlt] at hc; exact b.2 _ u c hu hc
theorem RC.take {us : List Value} {cs : List V} (a : RC w G us cs) (n : Nat) : RC w G (us.take n) (cs.take n) := by
  refine ⟨by simp [a.1], fun j u c hu hc => ?_⟩
  rw [List.getElem?_take] at hu hc
  split at hu
  · rename_i hlt; rw [if_pos hlt] at hc; exact a.2 j u c hu hc
  · simp at hu
theorem RC.drop {us : List Value} {cs : List V} (a : RC w G us cs) (n : Nat) : RC w G (us.drop n) (cs.drop n) := by
  refine ⟨by simp [a.1], fun j u c hu hc => ?_⟩
  rw [List.getElem?_drop] at hu hc
  exact a.2 _ u c hu hc

theorem fill_sound {fs : List FI} {place : Nat → Option (Nat × Nat)} (hp : ∀ i fi, fs[i]? = some fi → place i = some (fi.off, fi.size)) : ∀ (qs : List (Nat × V)) (ps : List (Nat × Value)) (cs cs' : List V) (us : Array Value),
    fillV fs cs qs = some cs' → RC w G us.toList cs → ps.map (·.1) = qs.map (·.1) → (∀ (j : Nat) (p : Nat × Value) (q : Nat × V), ps[j]? = some p → qs[j]? = some q → RepV w G p.2 q.2) →
    ∃ us', Instr.fill place us ps = some us' ∧ RC w G us'.toList cs'
  | [], ps, cs, cs', us, h, hr, hm, _ => by
    have : ps = [] := by simpa using hm
    subst this
    simp [fillV] at h; subst h
    exact ⟨us, rfl, hr⟩
  | (i, v) :: qs, [], cs, cs', us, h, hr, hm, _ => by simp at hm
  | (i, v) :: qs, (i', u) :: ps, cs, cs', us, h, hr, hm, hq => by
    simp only [List.map_cons, List.cons.injEq] at hm
    obtain ⟨rfl, hm⟩ := hm
    unfold fillV at h
    split at h
    · rename_i off size _ _ hf
      cases hb : (Nat.beq v.cells.length size && Nat.ble (off + size) cs.length && v.cells.all V.one) with
      | false => simp [hb] at h
      | true =>
        simp only [hb, cond_true] at h
        simp only [Bool.and_eq_true] at hb
        have b1 := Nat.eq_of_beq_eq_true hb.1.1
        have b2 := Nat.le_of_ble_eq_true hb.1.2
        obtain ⟨uc, e1, e2, e3, _⟩ := (hq 0 _ _ rfl rfl).cells hb.2
        simp only at e1
        have hsz : us.size = cs.length := by simpa using hr.1
        have hset : (u.cells.zipIdx.foldl (fun cs (p : Value × Nat) => cs.setIfInBounds (off + p.2) p.1) us).toList = us.toList.take off ++ uc ++ us.toList.drop (off + size) := by
          rw [← Array.foldl_toList, Array.toList_zipIdx, e1]
          have := foldl_set off uc 0 us (us.toList.take off) ((us.toList.drop off).take size) (us.toList.drop (off + size)) (by
            rw [List.append_assoc, ← List.drop_drop, List.take_append_drop, List.take_append_drop]) (by simp; omega) (by simp [e2, b1]; omega)
          simpa using this
        have ih := fill_sound hp qs ps (cs.take off ++ v.cells ++ cs.drop (off + size)) cs' (u.cells.zipIdx.foldl (fun cs (p : Value × Nat) => cs.setIfInBounds (off + p.2) p.1) us) h (by
          rw [hset]; exact ((hr.take off).append ⟨e2, e3⟩).append (hr.drop (off + size))) hm (fun j p q hp hq' => hq (j + 1) p q hp hq')
        obtain ⟨us', f1, f2⟩ := ih
        refine ⟨us', ?_, f2⟩
        unfold Instr.fill
        rw [hp _ _ hf]
        simp only
        rw [if_neg]
        · exact f1
        · have : u.cells.size = size := by rw [e1]; simp [e2, b1]
          simp [this]; omega
    · simp at h

theorem nop_build (hC : CtxOk P C) (he : EvOk C w G lam t gc ρ) {ty : TypeId} {parts : Array (Nat × Operand)} (ho : o.op = .build ty parts) (hk : nop C md g gc o t l h K) : NOut P w G lam S t l h ρ o K := by
  unfold nop at hk
  simp only [ho] at hk
  split at hk
  · rename_i fs pl vs h1 h2
    obtain ⟨fields, f1, f2, f3⟩ := (hC ty).struct fs pl h1
    cases hz0 : Nat.beq (C.tg ty).zero.length 0 with
    | true => simp [hz0] at hk
    | false =>
    simp only [hz0, cond_false] at hk
    split at hk
    · rename_i cs hf
      have hne : (C.tg ty).k ≠ .other := by rw [h1]; simp
      obtain ⟨inf, i1, i2, i3, i4⟩ := (hC ty).info hne
      obtain ⟨z, z1, z2, z3⟩ := i4 (fun h => by rw [h] at hz0; simp at hz0)
      obtain ⟨q1, q2⟩ := allV_get h2
      simp only [List.length_map] at q1
      have hplaces : fields.toList.mapM (fun f => (P.info? f.type).map fun i => (f.offset, i.size)) = some (fs.map fun fi => (fi.off, fi.size)) := by
        refine mapM_some_of_get _ _ (by simp [f2]) fun j f hj => ?_
        have hlt : j < fs.length := by rw [← f2]; simpa using (List.getElem?_eq_some_iff.1 hj).1
        obtain ⟨a1, ⟨inf', a2, a3⟩, _⟩ := f3 j f fs[j] (by simpa using hj) (List.getElem?_eq_getElem hlt)
        rw [List.getElem?_map, List.getElem?_eq_getElem hlt, a2]
        simp [a1, a3]
      obtain ⟨us', g1, g2⟩ := fill_sound (w := w) (G := G) (fs := fs) (place := fun x => (fs.map fun fi => (fi.off, fi.size)).toArray[x]?) (fun i fi hi => by simp [hi]) ((parts.toList.map (·.1)).zip vs) (parts.map fun (i, x) => (i, ρ x)).toList (C.tg ty).zero cs z.cells hf
        ⟨by simpa using z2, fun j u c hu hc => z3 j u c hu hc w G⟩
        (by rw [List.map_fst_zip (by simp [q1])]; simp [Function.comp_def])
        (fun j p q hp hq => by
          simp only [Array.toList_map, List.getElem?_map, Option.map_eq_some_iff] at hp
          obtain ⟨p0, hp0, rfl⟩ := hp
          rw [List.getElem?_zip_eq_some] at hq
          obtain ⟨v, hv1, hv2⟩ := q2 j _ (by rw [List.getElem?_map, hp0]; rfl)
          rw [hq.2] at hv1; cases hv1
          exact he.v hv2)
      have hbuilt : P.built ty (parts.map fun (i, x) => (i, ρ x)).toList = some us' := by
        unfold Program.built
        simp only [i1, f1, z1, hplaces]
        exact g1
      refine ⟨_, _, .agg us', hk, fun w' _ => ?_, .v ?_⟩
      · unfold execOp; simp only [ho]
        rw [Sem.run_bind, run_build w' ty _ us' hbuilt]; rfl
      · have := RepV.agg (w := w) (G := G) us'.toList cs g2.1 g2.2
        simpa using this
    · exact hk.elim
  · exact hk.elim

theorem nop_field (hC : CtxOk P C) (he : EvOk C w G lam t gc ρ) {s : TypeId} {x : Operand} {i : Nat} (ho : o.op = .field s x i) (hk : nop C md g gc o t l h K) : NOut P w G lam S t l h ρ o K := by
  unfold nop at hk
  simp only [ho] at hk
  split at hk
  · rename_i fs pl cs h1 hx
    obtain ⟨fields, f1, f2, f3⟩ := (hC s).struct fs pl h1
    obtain ⟨us, hρ, hl, hr⟩ := (he.v hx).agg_inv
    split at hk
    · rename_i off size fty hf
      have hlt : i < fields.size := by rw [f2]; exact (List.getElem?_eq_some_iff.1 hf).1
      obtain ⟨e1, ⟨inf, e2, e3⟩, d, e4, e5⟩ := f3 i _ _ (Array.getElem?_eq_getElem hlt) hf
      have rc : RC w G us cs := ⟨hl, hr⟩
      have rc' := (rc.drop off).take size
      refine ⟨_, _, _, hk, fun w' _ => ?_, .v (.agg ((us.drop off).take size) _ rc'.1 rc'.2)⟩
      unfold execOp; simp only [ho, hρ]
      simp only [Instr.field, Sem.run_bind, run_underlying f1, Result.andThen_ok, Array.getElem?_eq_getElem hlt, asAgg, Sem.run_pure, part, run_isAgg e4, e5]
      simp [sizeOf, typeInfo, e2, e3, e1]
    · rename_i off size fty hf
      split at hk
      · rename_i c hc
        have hlt : i < fields.size := by rw [f2]; exact (List.getElem?_eq_some_iff.1 hf).1
        obtain ⟨e1, ⟨inf, e2, e3⟩, d, e4, e5⟩ := f3 i _ _ (Array.getElem?_eq_getElem hlt) hf
        have hlt' : off < us.length := by rw [hl]; exact (List.getElem?_eq_some_iff.1 hc).1
        refine ⟨_, _, us[off], hk, fun w' _ => ?_, .v (hr off _ c (List.getElem?_eq_getElem hlt') hc)⟩
        unfold execOp; simp only [ho, hρ]
        simp only [Instr.field, Sem.run_bind, run_underlying f1, Result.andThen_ok, Array.getElem?_eq_getElem hlt, asAgg, Sem.run_pure, part, run_isAgg e4, e5]
        simp [e1, hlt']
      · exact hk.elim
    · exact hk.elim
  · exact hk.elim

theorem maxFrom_run : ∀ {vs : List V} {us : List Value} {m n : Int}, maxFrom m vs = some n → RC w G us vs → ∀ w', (us.foldlM Builtin.max2 (.int .i64 m)).run P w' = .ok (.int .i64 n) w'
  | [], us, m, n, h, hr, w' => by
    have : us = [] := List.eq_nil_of_length_eq_zero (by simpa using hr.1)
    subst this
    simp [maxFrom] at h; subst h; rfl
  | v :: vs, [], m, n, h, hr, w' => by have := hr.1; simp at this
  | v :: vs, u :: us, m, n, h, hr, w' => by
    unfold maxFrom at h
    split at h
    · rename_i e; cases e
    · rename_i x r e
      cases e
      have hu := (hr.2 0 u _ rfl rfl).lit_inv
      subst hu
      have ih := maxFrom_run (us := us) h ⟨by simpa using hr.1, fun j u c hu hc => hr.2 (j + 1) u c hu hc⟩ w'
      simp only [List.foldlM_cons, Sem.run_bind, Builtin.max2]
      have : (if x > m then x else m) = max m x := by rw [Int.max_def]; split <;> split <;> omega
      simp only [Sem.run_pure, Result.andThen_ok, this]; exact ih
    · cases h

theorem minFrom_run : ∀ {vs : List V} {us : List Value} {m n : Int}, minFrom m vs = some n → RC w G us vs → ∀ w', (us.foldlM Builtin.min2 (.int .i64 m)).run P w' = .ok (.int .i64 n) w'
  | [], us, m, n, h, hr, w' => by
    have : us = [] := List.eq_nil_of_length_eq_zero (by simpa using hr.1)
    subst this
    simp [minFrom] at h; subst h; rfl
  | v :: vs, [], m, n, h, hr, w' => by have := hr.1; simp at this
  | v :: vs, u :: us, m, n, h, hr, w' => by
    unfold minFrom at h
    split at h
    · rename_i e; cases e
    · rename_i x r e
      cases e
      have hu := (hr.2 0 u _ rfl rfl).lit_inv
      subst hu
      have ih := minFrom_run (us := us) h ⟨by simpa using hr.1, fun j u c hu hc => hr.2 (j + 1) u c hu hc⟩ w'
      simp only [List.foldlM_cons, Sem.run_bind, Builtin.min2]
      have : (if x < m then x else m) = min m x := by rw [Int.min_def]; split <;> split <;> omega
      simp only [Sem.run_pure, Result.andThen_ok, this]; exact ih
    · cases h

theorem nop_call (hC : CtxOk P C) (he : EvOk C w G lam t gc ρ) {c : Call} (ho : o.op = .call c) (hk : nop C md g gc o t l h K) : NOut P w G lam S t l h ρ o K := by
  unfold nop at hk
  simp only [ho] at hk
  have ex : ∀ b, c.callee = .builtin b → ∀ u w', (builtin b c.argTypes o.type (c.args.map fun | .const _ => true | _ => false) (c.args.map ρ)).run P w' = .ok (.value u) w' → (execOp ρ o).run P w' = .ok (.value u) w' := by
    intro b hb u w' hu
    unfold execOp
    simp only [ho]
    rw [Sem.run_bind]
    simp only [resolve, hb, Sem.run_pure, Result.andThen_ok]
    exact hu
  have args : ∀ vs, allV (c.args.toList.map fun x => (evalO C 0 t x).strip gc) = some vs → RC w G (c.args.map ρ).toList vs := by
    intro vs hv
    obtain ⟨q1, q2⟩ := allV_get hv
    refine ⟨by simpa using q1, fun j u v hu hv => ?_⟩
    simp only [Array.toList_map, List.getElem?_map, Option.map_eq_some_iff] at hu
    obtain ⟨x, hx, rfl⟩ := hu
    obtain ⟨v', h1, h2⟩ := q2 j _ (by rw [List.getElem?_map, hx]; rfl)
    rw [hv] at h1; cases h1
    exact he.v h2
  split at hk
  · rename_i hb
    split at hk
    · rename_i ty x ht hx
      have e1 : c.argTypes = #[ty] := by apply Array.ext'; simpa using ht
      have e2 : c.args.map ρ = #[ρ x] := by apply Array.ext'; simp [hx]
      have fin : ∀ n : Int, K (.v (.i n)) .no → (∀ w', (Builtin.len_ #[ty] o.type #[ρ x]).run P w' = .ok (.int .i64 n) w') → NOut P w G lam S t l h ρ o K := by
        intro n hK hr
        refine ⟨_, _, .int .i64 n, hK, fun w' _ => ex _ hb _ w' ?_, .v (.lit _)⟩
        rw [e1, e2]
        simp only [builtin, Sem.run_bind, hr w', Result.andThen_ok]; rfl
      split at hk
      · have hρ := (he.v (by assumption)).lit_inv
        exact fin _ hk fun w' => by rw [hρ]; simp [Builtin.len_, run_underlying ((hC ty).str (by assumption)), goInt]
      · rename_i e sz xs h1 h2
        rcases (he.v h2).sl_inv with ⟨oa, hρ, hn⟩ | ⟨bl, off, n, cap, us, hρ, hn, _⟩
        · exact fin _ hk fun w' => by rw [hρ, hn]; simp [Builtin.len_, run_underlying ((hC ty).slice _ h1), goInt]
        · exact fin _ hk fun w' => by rw [hρ, hn]; simp [Builtin.len_, run_underlying ((hC ty).slice _ h1), goInt]
      · rename_i e sz h1 h2
        have hρ := (he.v h2).nl_inv
        exact fin _ hk fun w' => by rw [hρ]; simp [Builtin.len_, run_underlying ((hC ty).slice _ h1), goInt]
      · exact hk.elim
    · exact hk.elim
  · rename_i hb
    split at hk
    · rename_i vs hv
      have rc := args vs hv
      split at hk
      · rename_i n hn
        refine ⟨_, _, .int .i64 n, hk, fun w' _ => ex _ hb _ w' ?_, .v (.lit _)⟩
        unfold maxInts at hn
        split at hn
        · rename_i x r
          cases hl : (c.args.map ρ).toList with
          | nil => have := rc.1; rw [hl] at this; simp at this
          | cons u us =>
            rw [hl] at rc
            have hu := (rc.2 0 u _ rfl rfl).lit_inv
            subst hu
            have := maxFrom_run (P := P) hn (us := us) ⟨by simpa using rc.1, fun j u c hu hc => rc.2 (j + 1) u c hu hc⟩ w'
            simp only [builtin, Sem.run_bind, Builtin.max_, hl, this, Result.andThen_ok]; rfl
        · cases hn
      · exact hk.elim
    · exact hk.elim
  · rename_i hb
    split at hk
    · rename_i vs hv
      have rc := args vs hv
      split at hk
      · rename_i n hn
        refine ⟨_, _, .int .i64 n, hk, fun w' _ => ex _ hb _ w' ?_, .v (.lit _)⟩
        unfold minInts at hn
        split at hn
        · rename_i x r
          cases hl : (c.args.map ρ).toList with
          | nil => have := rc.1; rw [hl] at this; simp at this
          | cons u us =>
            rw [hl] at rc
            have hu := (rc.2 0 u _ rfl rfl).lit_inv
            subst hu
            have := minFrom_run (P := P) hn (us := us) ⟨by simpa using rc.1, fun j u c hu hc => rc.2 (j + 1) u c hu hc⟩ w'
            simp only [builtin, Sem.run_bind, Builtin.min_, hl, this, Result.andThen_ok]; rfl
        · cases hn
      · exact hk.elim
    · exact hk.elim
  · exact hk.elim

theorem nop_sound (hC : CtxOk P C) (he : ∀ gc', GcOk ρ gc' → EvOk C w G lam t gc' ρ) (hgc : GcOk ρ gc) (hg : ∀ gb, g = some gb → gb = true) (hgn : g = none → gc = []) (hL : RepL w G lam l) (hH : RepH w G h)
    (hS : ∀ w', S w' → Same w G lam md h w') (hk : nop C md g gc o t l h K) : NOut P w G lam S t l h ρ o K := by
  have he' := he gc hgc
  cases ho : o.op with
  | move x => exact nop_move he' hgn ho hk
  | assign x => exact nop_assign he' hgn ho hk
  | pick c a b => exact nop_pick he hgc ho hk
  | build ty parts => exact nop_build hC he' ho hk
  | load ty x => exact nop_load hC he' hg hL hH hS ho hk
  | nilCheck x => exact nop_nilCheck he' ho hk
  | binOp op ty x y yt => exact nop_binOp hC he' hg ho hk
  | unOp op ty x => exact nop_unOp he' hg ho hk
  | convert src dst x => exact nop_convert hC he' hS ho hk
  | makeInterface ty x => exact nop_makeInterface hC he' ho hk
  | fieldAddr s x i => exact nop_fieldAddr hC he' ho hk
  | field s x i => exact nop_field hC he' ho hk
  | indexAddr ty x i => exact nop_indexAddr hC he' hg ho hk
  | index ty x i => exact nop_index hC he' hg ho hk
  | slice ty x lo hi mx => exact nop_slice hC he' hg ho hk
  | extract x i => exact nop_extract he' ho hk
  | call c => exact nop_call hC he' ho hk
  | _ => unfold nop at hk; simp only [ho] at hk

end
end Go.AI

/- Soundness: the state of a frame, and how it is carried along. -/
namespace Go.AI
open Go.RowKit

theorem beq_ne {a b : Nat} (h : a ≠ b) : Nat.beq a b = false := by rw [Bool.eq_false_iff]; intro e; exact h (Nat.eq_of_beq_eq_true e)
theorem beq_self (a : Nat) : Nat.beq a a = true := Nat.beq_refl a
theorem T.upd_same (t : T) (k : Nat) (a : A) : t.upd k a k = a := by simp [T.upd, beq_self]
theorem T.upd_ne (t : T) {k j : Nat} (a : A) (h : j ≠ k) : t.upd k a j = t j := by simp [T.upd, beq_ne h]
theorem H.upd_same (h : H) (x : Nat) (o : HO) : h.upd x o x = some o := by simp [H.upd, beq_self]
theorem H.upd_ne (h : H) {x y : Nat} (o : HO) (hn : y ≠ x) : h.upd x o y = h y := by simp [H.upd, beq_ne hn]

/-- What slot k holds: under a guard, if the guard holds. -/
def Sl (w : World) (G : Gh) (lam : List Nat) (tm : Array Value) (k : Nat) : A → Prop
  | .gd s b a => (tm.getD s undef = .bool b → RepA w G lam (.slot k) (tm.getD k undef) a ∧ a.deg = a) ∧ (tm.getD s undef ≠ .bool b → tm.getD k undef = undef)
  | a => RepA w G lam (.slot k) (tm.getD k undef) a

structure St (W0 : World) (n : Nat) (w : World) (G : Gh) (lam : List Nat) (tm : Array Value) (t : T) (l : List LO) (h : H) : Prop where
  wf : Wf W0 w G
  n : tm.size = n
  sl : ∀ k, Sl w G lam tm k (t k)
  loc : RepL w G lam l
  obj : RepH w G h
  nr : ∀ b, G.ow b ≠ .pl .ret

/-- From one world and ghost to a later one: of what is nobody's, or somebody's else, nothing turns. -/
structure Step (w : World) (G : Gh) (w' : World) (G' : Gh) : Prop where
  ext : Ext w G w' G'
  keep : Keeps w G w' G'
  outs : ∀ b, G'.ow b = .out → b < w.heap.size ∧ G.ow b = .out

theorem Step.refl {W0 w : World} {G : Gh} (h : Wf W0 w G) : Step w G w G := by
  refine ⟨Ext.refl w G, fun _ _ _ => ⟨rfl, rfl, rfl⟩, fun b hb => ⟨?_, hb⟩⟩
  rcases Nat.lt_or_ge b w.heap.size with h' | h'
  · exact h'
  · have := (h.past b h').1; rw [this] at hb; cases hb
theorem Step.trans {w1 w2 w3 : World} {G1 G2 G3 : Gh} (a : Step w1 G1 w2 G2) (b : Step w2 G2 w3 G3) : Step w1 G1 w3 G3 := by
  refine ⟨a.ext.trans b.ext, fun c hc hf => ?_, fun c hc => ?_⟩
  · obtain ⟨h1, h2, h3⟩ := a.keep c hc hf
    obtain ⟨k1, k2, k3⟩ := b.keep c (Nat.lt_of_lt_of_le hc a.ext.size) (by rw [h2]; exact hf)
    exact ⟨k1.trans h1, k2.trans h2, k3.trans h3⟩
  · obtain ⟨_, h2⟩ := b.outs c hc
    exact a.outs c h2

/-- Block b is as it was, in the world and in the ghost. -/
def Pres (w : World) (G : Gh) (w' : World) (G' : Gh) (b : Nat) : Prop := G'.ow b = G.ow b ∧ G'.im b = G.im b ∧ w'.heap[b]? = w.heap[b]?

section
variable {W0 w w' : World} {G G' : Gh} {lam : List Nat}

theorem cell_of_heap {b o : Nat} (h : w'.heap[b]? = w.heap[b]?) : w'.cell? ⟨b, o, none⟩ = w.cell? ⟨b, o, none⟩ := World.cell?_of_block (w := w) (a := ⟨b, o, none⟩) h
theorem frozen_of_heap {b o : Nat} (h : w'.heap[b]? = w.heap[b]?) : w'.frozen? ⟨b, o, none⟩ = w.frozen? ⟨b, o, none⟩ := World.frozen?_of_block (w := w) (a := ⟨b, o, none⟩) h

theorem RepA.pres {p : Pl} {u : Value} {a : A} (e : Ext w G w' G') (hb : ∀ b, G.ow b = .pl p → Pres w G w' G' b) (h : RepA w G lam p u a) : RepA w' G' lam p u a :=
  h.mono e fun b hb' => ⟨(hb b hb').1.trans hb', (hb b hb').2.1, fun j _ => ⟨by rw [cell_of_heap (hb b hb').2.2], frozen_of_heap (hb b hb').2.2⟩⟩

theorem Sl.pres {tm : Array Value} {k : Nat} {a : A} (e : Ext w G w' G') (hb : ∀ b, G.ow b = .pl (.slot k) → Pres w G w' G' b) (h : Sl w G lam tm k a) : Sl w' G' lam tm k a := by
  cases a with
  | gd s b a => exact ⟨fun hs => ⟨(h.1 hs).1.pres e hb, (h.1 hs).2⟩, h.2⟩
  | _ => exact RepA.pres e hb h

theorem RepO.pres {k b : Nat} {o : LO} (e : Ext w G w' G') (hb : ∀ b, (G.ow b = .lo k ∨ ∃ j, G.ow b = .pl (.lc k j)) → Pres w G w' G' b) (h : RepO w G lam k b o) : RepO w' G' lam k b o := by
  cases h with
  | cells cs c el ho hi hb' hl h =>
    obtain ⟨p1, p2, p3⟩ := hb b (.inl ho)
    exact .cells cs c el (p1.trans ho) (p2.trans hi) (p3.trans hb') hl fun j u a hu ha => ⟨(h j u a hu ha).1.pres e fun b' hb'' => hb b' (.inr ⟨j, hb''⟩), (h j u a hu ha).2⟩
  | fwd x hx h => exact .fwd x (Nat.lt_of_lt_of_le hx e.nx) (h.trans (e.ph x hx).symm)
  | iter s pos ho hi hb' =>
    obtain ⟨p1, p2, p3⟩ := hb b (.inl ho)
    exact .iter s pos (p1.trans ho) (p2.trans hi) (p3.trans hb')

theorem RepHO.pres {x : Nat} {cs : List A} (e : Ext w G w' G') (hb : ∀ b, (G.ow b = .ho x ∨ ∃ j, G.ow b = .pl (.hc x j)) → Pres w G w' G' b) (h : RepHO w G x cs) : RepHO w' G' x cs := by
  have hp := e.ph x h.nx
  obtain ⟨p1, p2, p3⟩ := hb _ (.inl h.ho)
  obtain ⟨c, el, h1, h2, h3⟩ := h.hb
  refine ⟨by rw [hp]; exact p1.trans h.ho, by rw [hp]; exact p2.trans h.hi, Nat.lt_of_lt_of_le h.nx e.nx, c, el, by rw [hp]; exact p3.trans h1, h2, fun j u a hu ha => ⟨(h3 j u a hu ha).1.pres e fun b' hb'' => hb b' (.inr ⟨j, hb''⟩), (h3 j u a hu ha).2⟩⟩

/-- A state is carried along where all that is owned is as it was. -/
theorem St.pres {n : Nat} {tm : Array Value} {t : T} {l : List LO} {h : H} (e : Ext w G w' G') (wf : Wf W0 w' G') (hb : ∀ b, G.ow b ≠ .free → Pres w G w' G' b) (nr : ∀ b, G'.ow b ≠ .pl .ret) (s : St W0 n w G lam tm t l h) : St W0 n w' G' lam tm t l h :=
  ⟨wf, s.n, fun k => (s.sl k).pres e fun b hb' => hb b (by rw [hb']; simp), ⟨s.loc.1, fun k b o hk ho => (s.loc.2 k b o hk ho).pres e fun b' hb' => hb b' (by rcases hb' with hb' | ⟨j, hb'⟩ <;> rw [hb'] <;> simp)⟩,
    fun x cs hx => (s.obj x cs hx).pres e fun b' hb' => hb b' (by rcases hb' with hb' | ⟨j, hb'⟩ <;> rw [hb'] <;> simp), nr⟩

/-! ### Renaming an owner -/
def Gh.ren (G : Gh) (p q : Pl) : Gh := { G with ow := fun b => if G.ow b = .pl p then .pl q else G.ow b }

theorem Gh.ren_ext (p q : Pl) : Ext w G w (G.ren p q) := ⟨Nat.le_refl _, Nat.le_refl _, fun _ _ => rfl, fun _ => Nat.le_refl _, fun _ _ _ => rfl⟩
theorem Gh.ren_ne {p q : Pl} {b : Nat} (h : G.ow b ≠ .pl p) : (G.ren p q).ow b = G.ow b := by simp [Gh.ren, h]
theorem Gh.ren_eq {p q : Pl} {b : Nat} (h : G.ow b = .pl p) : (G.ren p q).ow b = .pl q := by simp [Gh.ren, h]
theorem Gh.ren_pl {p q r : Pl} {b : Nat} (h : (G.ren p q).ow b = .pl r) : G.ow b = .pl p ∧ q = r ∨ G.ow b = .pl r := by
  unfold Gh.ren at h
  simp only at h
  split at h
  · cases h; exact .inl ⟨by assumption, rfl⟩
  · exact .inr h

theorem RepA.ren_other {p q r : Pl} {u : Value} {a : A} (hr : r ≠ p) (h : RepA w G lam r u a) : RepA w (G.ren p q) lam r u a :=
  h.mono (Gh.ren_ext p q) fun b hb => ⟨by rw [Gh.ren_ne (by rw [hb]; simp [hr])]; exact hb, rfl, fun _ _ => ⟨rfl, rfl⟩⟩
theorem RepA.ren_same {p q : Pl} {u : Value} {a : A} (h : RepA w G lam p u a) : RepA w (G.ren p q) lam q u a :=
  h.place (Gh.ren_ext p q) fun b hb => ⟨Gh.ren_eq hb, rfl⟩

theorem Gh.ren_wf {p q : Pl} (h : Wf W0 w G) : Wf W0 w (G.ren p q) :=
  ⟨fun b hb => ⟨by rw [Gh.ren_ne (by rw [(h.past b hb).1]; simp)]; exact (h.past b hb).1, (h.past b hb).2⟩, h.ph, fun b hb => by rw [Gh.ren_ne (by rw [h.old b hb]; simp)]; exact h.old b hb, h.below⟩
theorem Gh.ren_step {p q : Pl} (h : Wf W0 w G) : Step w G w (G.ren p q) := by
  refine ⟨Gh.ren_ext p q, fun b _ hf => ⟨rfl, Gh.ren_ne (by rcases hf with hf | hf <;> rw [hf] <;> simp), rfl⟩, fun b hb => ?_⟩
  have : G.ow b = .out := by
    unfold Gh.ren at hb
    simp only at hb
    split at hb
    · cases hb
    · exact hb
  exact (Step.refl h).outs b this

theorem Sl.deg {tm : Array Value} {k : Nat} {a : A} (h : Sl w G lam tm k a) (ha : a.isGd = false) : RepA w G lam (.slot k) (tm.getD k undef) a := by
  cases a <;> first | exact h | (simp [A.isGd] at ha)
theorem Sl.of {tm : Array Value} {k : Nat} {a : A} (ha : a.isGd = false) (h : RepA w G lam (.slot k) (tm.getD k undef) a) : Sl w G lam tm k a := by
  cases a <;> first | exact h | (simp [A.isGd] at ha)

/-- Where an ownership comes from, as a place. -/
def Fr.pl : Fr → Option Pl
  | .no => none
  | .slot s => some (.slot s)
  | .lc k j => some (.lc k j)
  | .hc x j => some (.hc x j)

theorem degAt_get {cs : List A} {j i : Nat} {a : A} (h : (degAt cs j)[i]? = some a) : (i ≠ j ∧ cs[i]? = some a) ∨ (i = j ∧ ∃ a', cs[j]? = some a' ∧ a = a'.deg) := by
  unfold degAt at h
  split at h
  · rename_i a' ha'
    rw [List.getElem?_set] at h
    split at h
    · rename_i e; subst e
      split at h
      · simp at h; exact .inr ⟨rfl, a', ha', h.symm⟩
      · simp at h
    · rename_i e; exact .inl ⟨fun h => e h.symm, h⟩
  · rename_i hn
    by_cases e : i = j
    · subst e; rw [hn] at h; cases h
    · exact .inl ⟨e, h⟩
theorem degAt_length {cs : List A} {j : Nat} : (degAt cs j).length = cs.length := by unfold degAt; split <;> simp

/-- An ownership leaves its place for place q. -/
theorem St.leave {n : Nat} {tm : Array Value} {t : T} {l : List LO} {h : H} (s : St W0 n w G lam tm t l h) (f : Fr) (q : Pl) (hq : q ≠ .ret) (p : Pl) (hp : f.pl = some p) (hgd : ∀ k, f = .slot k → (t k).isGd = false) (hx : ∀ x j, f = .hc x j → (h x).isSome = true) :
    St W0 n w (G.ren p q) lam tm (f.t t) (f.l l) (f.h h) := by
  have e := Gh.ren_ext (w := w) (G := G) p q
  -- what lies elsewhere
  have slots : ∀ k, (Pl.slot k ≠ p) → ∀ a, Sl w G lam tm k a → Sl w (G.ren p q) lam tm k a := by
    intro k hk a ha
    cases a with
    | gd s b a => exact ⟨fun hs => ⟨(ha.1 hs).1.ren_other hk, (ha.1 hs).2⟩, ha.2⟩
    | _ => exact RepA.ren_other hk ha
  have ows : ∀ b o, (∀ r, o ≠ Ow.pl r) → G.ow b = o → (G.ren p q).ow b = o := fun b o ho hb => by rw [Gh.ren_ne (by rw [hb]; exact ho _)]; exact hb
  have locs : ∀ k b o, RepO w G lam k b o → (∀ j, Pl.lc k j ≠ p) → RepO w (G.ren p q) lam k b o := by
    intro k b o ho hk
    cases ho with
    | cells cs c el ho hi hb hl hr => exact .cells cs c el (ows _ _ (by simp) ho) hi hb hl fun j u a hu ha => ⟨(hr j u a hu ha).1.ren_other (hk j), (hr j u a hu ha).2⟩
    | fwd x hx hb => exact .fwd x hx hb
    | iter s pos ho hi hb => exact .iter s pos (ows _ _ (by simp) ho) hi hb
  have objs : ∀ x cs, RepHO w G x cs → (∀ j, Pl.hc x j ≠ p) → RepHO w (G.ren p q) x cs := by
    intro x cs hx hk
    obtain ⟨c, el, h1, h2, h3⟩ := hx.hb
    exact ⟨ows _ _ (by simp) hx.ho, hx.hi, hx.nx, c, el, h1, h2, fun j u a hu ha => ⟨(h3 j u a hu ha).1.ren_other (hk j), (h3 j u a hu ha).2⟩⟩
  have nr : ∀ b, (G.ren p q).ow b ≠ .pl .ret := by
    intro b hb
    rcases Gh.ren_pl hb with ⟨_, h2⟩ | h2
    · exact hq h2
    · exact s.nr b h2
  cases f with
  | no => simp [Fr.pl] at hp
  | slot k =>
    simp only [Fr.pl, Option.some.injEq] at hp; subst hp
    refine ⟨Gh.ren_wf s.wf, s.n, fun k' => ?_, ⟨s.loc.1, fun k' b o hk ho => locs k' b o (s.loc.2 k' b o hk ho) (by simp)⟩, fun x cs hx => objs x cs (s.obj x cs hx) (by simp), nr⟩
    by_cases hk : k' = k
    · subst hk
      have h1 := (s.sl k').deg (hgd k' rfl)
      have h2 : (Fr.slot k').t t k' = (t k').deg := T.upd_same _ _ _
      rw [h2]
      refine Sl.of (by have := hgd k' rfl; cases hh : t k' <;> simp_all [A.deg, A.isGd]) ?_
      have h3 := h1.deg Pl.ret
      have h4 : RepA w (G.ren (.slot k') q) lam .ret (tm.getD k' undef) (t k').deg := h3.ren_other (by simp)
      exact h4.move _ (by cases t k' <;> rfl)
    · have h2 : (Fr.slot k).t t k' = t k' := T.upd_ne _ _ hk
      rw [h2]
      exact slots k' (by simp [hk]) _ (s.sl k')
  | lc k j =>
    simp only [Fr.pl, Option.some.injEq] at hp; subst hp
    refine ⟨Gh.ren_wf s.wf, s.n, fun k' => slots k' (by simp) _ (s.sl k'), ⟨?_, fun k' b o hk ho => ?_⟩, fun x cs hx => objs x cs (s.obj x cs hx) (by simp), nr⟩
    · simp only [Fr.l]
      split <;> simp [s.loc.1]
    · simp only [Fr.l] at ho
      split at ho
      · rename_i cs hcs
        by_cases e1 : k' = k
        · subst e1
          rw [List.getElem?_set] at ho
          rw [if_pos rfl] at ho
          split at ho
          · simp at ho; subst ho
            cases s.loc.2 k' b _ hk hcs with
            | cells _ c el ho hi hb hl hr =>
              refine .cells _ c el (ows _ _ (by simp) ho) hi hb (by rw [degAt_length]; exact hl) fun i u a hu ha => ?_
              rcases degAt_get ha with ⟨h1, h2⟩ | ⟨h1, a', h2, h3⟩
              · exact ⟨(hr i u a hu h2).1.ren_other (by simp [h1]), (hr i u a hu h2).2⟩
              · subst h1; subst h3
                have h3 := (hr i u a' hu h2).1.deg Pl.ret
                have h4 : RepA w (G.ren (.lc k' i) q) lam .ret u a'.deg := h3.ren_other (by simp)
                exact ⟨h4.move _ (by cases a' <;> rfl), (hr i u a' hu h2).2⟩
          · simp at ho
        · rw [List.getElem?_set_ne (by exact fun h => e1 h.symm)] at ho
          exact locs k' b o (s.loc.2 k' b o hk ho) (by simp [e1])
      · rename_i hn
        have hro := s.loc.2 k' b o hk ho
        cases o with
        | cells cs => exact locs k' b _ hro fun j' he => by cases he; exact hn cs ho
        | fwd x => cases hro with | fwd _ hx hb => exact .fwd x hx hb
        | iter st pos => cases hro with | iter _ _ ho hi hb => exact .iter st pos (ows _ _ (by simp) ho) hi hb
  | hc x j =>
    simp only [Fr.pl, Option.some.injEq] at hp; subst hp
    refine ⟨Gh.ren_wf s.wf, s.n, fun k' => slots k' (by simp) _ (s.sl k'), ⟨s.loc.1, fun k' b o hk ho => locs k' b o (s.loc.2 k' b o hk ho) (by simp)⟩, fun y cs hy => ?_, nr⟩
    obtain ⟨o0, ho0⟩ := Option.isSome_iff_exists.1 (hx x j rfl)
    cases o0 with
    | cells cs0 =>
    simp only [Fr.h, ho0] at hy
    by_cases e1 : y = x
    · subst e1
      rw [H.upd_same] at hy; cases hy
      have hx := s.obj y cs0 ho0
      obtain ⟨c, el, h1, h2, h3⟩ := hx.hb
      refine ⟨ows _ _ (by simp) hx.ho, hx.hi, hx.nx, c, el, h1, by rw [degAt_length]; exact h2, fun i u a hu ha => ?_⟩
      rcases degAt_get ha with ⟨k1, k2⟩ | ⟨k1, a', k2, k3⟩
      · exact ⟨(h3 i u a hu k2).1.ren_other (by simp [k1]), (h3 i u a hu k2).2⟩
      · subst k1; subst k3
        have q3 := (h3 i u a' hu k2).1.deg Pl.ret
        have q4 : RepA w (G.ren (.hc y i) q) [] .ret u a'.deg := q3.ren_other (by simp)
        exact ⟨q4.move _ (by cases a' <;> rfl), (h3 i u a' hu k2).2⟩
    · rw [H.upd_ne _ _ e1] at hy
      exact objs y cs (s.obj y cs hy) (by simp [e1])
end
end Go.AI

/- Soundness: one operation that turns no memory, in its region. -/
namespace Go.AI
open Go.RowKit

theorem bif_elim {c : Bool} {p q : Prop} {r : Prop} (h : bif c then p else q) (hp : c = true → p → r) (hq : c = false → q → r) : r := by cases c <;> first | exact hp rfl h | exact hq rfl h

theorem bound_K {a : Option A} {d : Nat} {K : Nat → Prop} {g : Option Bool} {top : Nat} (h : bound a d K g top) : ∃ n, K n := by
  unfold bound at h
  split at h
  · exact ⟨_, h⟩
  · exact ⟨_, h.2⟩
  · exact h.elim

theorem loadC_K {κ : Bool} {ti : TI} {cs : List A} {off : Nat} {src : Nat → Fr} {K : A → Fr → Prop} (h : loadC κ ti cs off src K) : ∃ a f, K a f := by
  unfold loadC at h
  split at h
  · cases κ <;> exact ⟨_, _, h⟩
  · exact ⟨_, _, h⟩
  · split at h
    · exact ⟨_, _, h⟩
    · exact h.elim

theorem binInt_K {g : Option Bool} {op : BinOp} {k : IntKind} {x y : Int} {K : V → Prop} (h : binInt g op k x y K) : ∃ v, K v := by
  unfold binInt at h
  split at h <;> first | (split at h <;> first | exact ⟨_, h.2⟩ | exact ⟨_, h⟩) | exact ⟨_, h.2⟩ | exact ⟨_, h⟩ | exact h.elim
theorem binStr_K {g : Option Bool} {op : BinOp} {x y : ByteArray} {K : V → Prop} (h : binStr g op x y K) : ∃ v, K v := by
  unfold binStr at h
  split at h <;> first | exact ⟨_, h.2⟩ | exact ⟨_, h⟩ | exact h.elim
theorem binV_K {C : Ctx} {g : Option Bool} {op : BinOp} {ty : TypeId} {a b : V} {K : V → Prop} (h : binV C g op ty a b K) : ∃ v, K v := by
  unfold binV at h
  split at h
  · split at h
    · exact ⟨_, h.2⟩
    · exact h.elim
  · split at h
    · exact ⟨_, h.2⟩
    · exact h.elim
  · split at h
    · exact bif_elim h (fun _ h => binInt_K h) (fun _ h => h.elim)
    · exact binStr_K h
    · split at h <;> first | exact ⟨_, h⟩ | exact h.elim
    · split at h <;> first | exact ⟨_, h⟩ | exact h.elim
    · split at h <;> first | exact ⟨_, h⟩ | exact h.elim
    · split at h <;> first | exact ⟨_, h⟩ | exact h.elim
    · exact h.elim
theorem unV_K {g : Option Bool} {op : UnOp} {a : V} {K : V → Prop} (h : unV g op a K) : ∃ v, K v := by
  unfold unV at h
  split at h <;> first | exact ⟨_, h.2⟩ | exact ⟨_, h⟩ | exact h.elim


/-- Whatever the guard: the interpreter goes on. -/
theorem nop_K {C : Ctx} {md : Md} {g : Option Bool} {gc : List (Nat × Bool)} {o : Oper} {t : T} {l : List LO} {h : H} {K : A → Fr → Prop} (hk : nop C md g gc o t l h K) : ∃ a f, K a f := by
  unfold nop at hk
  cases ho : o.op with
  | move x =>
    simp only [ho] at hk
    split at hk
    · split at hk
      · exact bif_elim hk (fun _ h => ⟨_, _, h⟩) (fun _ h => ⟨_, _, h⟩)
      · exact hk.elim
      · exact ⟨_, _, hk⟩
    · exact ⟨_, _, hk⟩
  | assign x =>
    simp only [ho] at hk
    split at hk
    · split at hk
      · exact bif_elim hk (fun _ h => ⟨_, _, h⟩) (fun _ h => ⟨_, _, h⟩)
      · exact hk.elim
      · exact ⟨_, _, hk⟩
    · exact ⟨_, _, hk⟩
  | pick c a b =>
    simp only [ho] at hk
    split at hk
    · split at hk
      · exact ⟨_, _, hk⟩
      · exact hk.elim
    · exact hk.elim
  | build ty parts =>
    simp only [ho] at hk
    split at hk
    · refine bif_elim hk (fun _ h => h.elim) fun _ h => ?_
      split at h
      · exact ⟨_, _, h⟩
      · exact h.elim
    · exact hk.elim
  | load ty x =>
    simp only [ho] at hk
    refine bif_elim hk (fun _ h => h.elim) fun _ hk => ?_
    split at hk
    · split at hk
      · exact bif_elim hk (fun _ h => loadC_K h) (fun _ h => h.elim)
      · obtain ⟨cs, _, h2⟩ := hk; exact loadC_K h2
      · exact hk.elim
    · obtain ⟨cs, _, h2⟩ := hk; exact loadC_K h2
    · split at hk
      · exact ⟨_, _, hk⟩
      · exact hk.elim
    · exact hk.elim
  | nilCheck x =>
    simp only [ho] at hk
    split at hk <;> first | exact ⟨_, _, hk⟩ | exact hk.elim
  | binOp op ty x y yt =>
    simp only [ho] at hk
    split at hk
    · split at hk <;> first | exact ⟨_, _, hk⟩ | exact hk.elim
    · split at hk
      · obtain ⟨v, hv⟩ := binV_K hk; exact ⟨_, _, hv⟩
      · exact hk.elim
  | unOp op ty x =>
    simp only [ho] at hk
    split at hk
    · obtain ⟨v, hv⟩ := unV_K hk; exact ⟨_, _, hv⟩
    · exact hk.elim
  | convert src dst x =>
    simp only [ho] at hk
    split at hk
    · obtain ⟨z, _, h⟩ := hk; exact ⟨_, _, h⟩
    · exact ⟨_, _, hk⟩
    · split at hk
      · obtain ⟨b, _, h⟩ := hk; exact ⟨_, _, h⟩
      · exact hk.elim
    · split at hk
      · exact ⟨_, _, hk⟩
      · exact hk.elim
    · exact hk.elim
  | makeInterface ty x =>
    simp only [ho] at hk
    split at hk <;> first | exact ⟨_, _, hk⟩ | exact hk.elim
  | fieldAddr s x i =>
    simp only [ho] at hk
    split at hk
    · split at hk
      · split at hk <;> first | exact ⟨_, _, hk⟩ | exact ⟨_, _, hk.2⟩ | exact hk.elim
      · exact hk.elim
    · exact hk.elim
  | field s x i =>
    simp only [ho] at hk
    split at hk
    · split at hk
      · exact ⟨_, _, hk⟩
      · split at hk
        · exact ⟨_, _, hk⟩
        · exact hk.elim
      · exact hk.elim
    · exact hk.elim
  | indexAddr ty x i =>
    simp only [ho] at hk
    split at hk
    · refine bif_elim hk (fun _ h => ?_) (fun _ h => h.elim)
      obtain ⟨y, _, h⟩ := h; exact ⟨_, _, h⟩
    · split at hk
      · exact bif_elim hk (fun _ h => ⟨_, _, h.2⟩) (fun _ h => h.elim)
      · exact hk.elim
    · exact hk.elim
  | index ty x i =>
    simp only [ho] at hk
    split at hk
    · exact ⟨_, _, hk.2⟩
    · exact hk.elim
  | slice ty x lo hi mx =>
    simp only [ho] at hk
    have full : ∀ (sz : Nat) (xs : List V), (match (generalizing := false) (C.tg ty).k with
      | .slice e => (bif Nat.beq sz (C.tg e).size && Nat.ble 1 sz then
          (match (generalizing := false) mx with
          | none => bound (hi.map fun x => (evalO C 0 t x).strip gc) xs.length (fun h => bound (lo.map fun x => (evalO C 0 t x).strip gc) 0 (fun l => K (.v (.sl sz ((xs.take h).drop l))) .no) g h) g xs.length
          | some m => (match (generalizing := false) hi with
            | some hi => bound (some ((evalO C 0 t m).strip gc)) 0 (fun m => bound (some ((evalO C 0 t hi).strip gc)) xs.length (fun h => h = m ∧ bound (lo.map fun x => (evalO C 0 t x).strip gc) 0 (fun l => K (.own sz ((xs.take h).drop l)) .no) g h) g m) g xs.length
            | none => False))
        else False)
      | _ => False) → ∃ a f, K a f := by
      intro sz xs hk
      split at hk
      · refine bif_elim hk (fun _ h => ?_) (fun _ h => h.elim)
        cases mx with
        | none => obtain ⟨_, h⟩ := bound_K h; obtain ⟨_, h⟩ := bound_K h; exact ⟨_, _, h⟩
        | some m =>
          cases hi with
          | some hi => obtain ⟨_, h⟩ := bound_K h; obtain ⟨_, _, h⟩ := bound_K h; obtain ⟨_, h⟩ := bound_K h; exact ⟨_, _, h⟩
          | none => exact h.elim
      · exact hk.elim
    split at hk
    · split at hk
      · obtain ⟨_, h⟩ := bound_K hk; obtain ⟨_, h⟩ := bound_K h; exact ⟨_, _, h⟩
      · exact hk.elim
    · exact full _ _ hk
    · exact full _ _ hk
    · exact full _ _ hk
    · exact hk.elim
  | extract x i =>
    simp only [ho] at hk
    split at hk
    · split at hk
      · exact ⟨_, _, hk⟩
      · exact hk.elim
    · exact hk.elim
  | call c =>
    simp only [ho] at hk
    split at hk
    · split at hk
      · split at hk <;> first | exact ⟨_, _, hk⟩ | exact hk.elim
      · exact hk.elim
    · split at hk
      · split at hk
        · exact ⟨_, _, hk⟩
        · exact hk.elim
      · exact hk.elim
    · split at hk
      · split at hk
        · exact ⟨_, _, hk⟩
        · exact hk.elim
      · exact hk.elim
    · exact hk.elim
  | _ => simp only [ho] at hk

section
variable {P : Program} {W0 : World} {C : Ctx} {n : Nat} {w : World} {G : Gh} {lam : List Nat} {act : Act} {t : T} {l : List LO} {h : H}

/-- Behind a write to slot d: no guard hangs on d. -/
def NoGd (t : T) (d : Nat) : Prop := ∀ k s b a, t k = .gd s b a → s ≠ d

theorem getD_set {tm : Array Value} {d k : Nat} {u : Value} (hd : d < tm.size) : (tm.setIfInBounds d u).getD k undef = if k = d then u else tm.getD k undef := by
  by_cases e : k = d
  · subst e; simp [hd]
  · rw [if_neg e]; simp [Array.getElem?_setIfInBounds_ne (fun h => e h.symm)]

theorem St.putA {tm : Array Value} {d : Nat} {u : Value} {a : A} (s : St W0 n w G lam tm t l h) (hd : d < n) (hno : NoGd t d)
    (ha : Sl w G lam (tm.setIfInBounds d u) d a) : St W0 n w G lam (tm.setIfInBounds d u) (t.upd d a) l h := by
  have hd' : d < tm.size := by rw [s.n]; exact hd
  refine ⟨s.wf, by simp [s.n], fun k => ?_, s.loc, s.obj, s.nr⟩
  by_cases e : k = d
  · subst e; rw [T.upd_same]; exact ha
  · rw [T.upd_ne _ _ e]
    have hk := s.sl k
    have hv : (tm.setIfInBounds d u).getD k undef = tm.getD k undef := by rw [getD_set hd', if_neg e]
    cases ht : t k with
    | gd s' b a' =>
      have hs' : (tm.setIfInBounds d u).getD s' undef = tm.getD s' undef := by rw [getD_set hd', if_neg (hno k s' b a' ht)]
      rw [ht] at hk
      simp only [Sl, hv, hs'] at hk ⊢
      exact hk
    | _ => rw [ht] at hk; simp only [Sl, hv] at hk ⊢; exact hk

theorem St.putR {tm : Array Value} {d : Nat} {u : Value} {a : A} (s : St W0 n w G lam tm t l h) (hd : d < n) (hno : NoGd t d)
    (ha : RepA w G lam (.slot d) u a) : St W0 n w G lam (tm.setIfInBounds d u) (t.upd d a) l h := by
  have hd' : d < tm.size := by rw [s.n]; exact hd
  refine s.putA hd hno (Sl.of (by cases ha <;> rfl) ?_)
  rw [getD_set hd', if_pos rfl]; exact ha

theorem St.put {d : Option Nat} {u : Value} {a : A} (s : St W0 n w G lam act.tmps t l h) (hd : ∀ k, d = some k → k < n) (hno : ∀ k, d = some k → NoGd t k)
    (ha : ∀ k, d = some k → RepA w G lam (.slot k) u a) : St W0 n w G lam (act.put d u).tmps (t.put d a) l h := by
  cases d with
  | none => exact s
  | some k => exact s.putR (hd k rfl) (hno k rfl) (ha k rfl)

theorem constA_strip {gc : List (Nat × Bool)} {ty : TypeId} {v : Value} : (constA C ty v).strip gc = constA C ty v := by
  unfold constA
  split
  · split <;> rfl
  · rfl
theorem constA_rep {p : Pl} {ty : TypeId} {v : Value} : RepA w G lam p v (constA C ty v) := by
  unfold constA
  split
  · split
    · exact .onil _ _
    · exact .junk _ _
  · refine .v _ _ _ ?_
    unfold V.ofConst
    split
    · rename_i cs _
      have := RepV.agg (w := w) (G := G) cs.toList (cs.toList.map .lit) (by simp) (fun j u c hu hc => by
        rw [List.getElem?_map, hu] at hc
        simp at hc; subst hc; exact .lit _)
      simpa using this
    · exact .lit _

/-- The operands are what the state says. -/
theorem St.ev {gc : List (Nat × Bool)} (s : St W0 n w G lam act.tmps t l h) (hgc : GcOk act.eval gc) : EvOk C w G lam t gc act.eval := by
  have free : ∀ ty x, (∀ s, x ≠ .tmp s) → ∀ p, RepA w G lam p (act.eval x) ((evalO C ty t x).strip gc) := by
    intro ty x hx p
    cases x with
    | tmp k => exact (hx k rfl).elim
    | const v => simp only [evalO, constA_strip]; exact constA_rep
    | global v => simp only [evalO, A.strip]; exact .junk _ _
    | func f => simp only [evalO, A.strip]; exact .v _ _ _ (.lit _)
  refine ⟨?_, free⟩
  intro ty x a ha hn
  cases x with
  | tmp k =>
    simp only [evalO] at ha
    have hk := s.sl k
    show RepA w G lam (.slot k) (act.tmps.getD k undef) a
    cases ht : t k with
    | gd s' b a' =>
      rw [ht] at ha hk
      simp only [A.strip] at ha
      cases hb : (gc.any fun p => Nat.beq p.1 s' && (p.2 == b)) with
      | true =>
        simp only [hb, cond_true] at ha
        subst ha
        obtain ⟨⟨s1, b1⟩, hm, he⟩ := List.any_eq_true.1 hb
        simp only [Bool.and_eq_true, beq_iff_eq] at he
        have e1 := Nat.eq_of_beq_eq_true he.1
        subst e1
        have := hgc _ _ hm
        rw [he.2] at this
        exact (hk.1 this).1
      | false =>
        simp only [hb, cond_false] at ha
        subst ha; simp [A.isGd] at hn
    | _ => rw [ht] at ha hk; simp only [A.strip] at ha; subst ha; exact hk
  | const v => subst ha; exact free ty _ (fun s h => by cases h) _
  | global v => subst ha; exact free ty _ (fun s h => by cases h) _
  | func v => subst ha; exact free ty _ (fun s h => by cases h) _

theorem guardOf_sound (s : St W0 n w G lam act.tmps t l h) : ∀ (m sl : Nat) (b : Bool) (ch : List (Nat × Bool)) (g : Bool), guardOf t m sl b = some (ch, g) →
    act.eval (.tmp sl) = .bool b → g = true ∧ GcOk act.eval ch
  | 0, _, _, _, _, h, _ => by simp [guardOf] at h
  | m + 1, sl, b, ch, g, hg, hb => by
    unfold guardOf at hg
    have hk := s.sl sl
    split at hg
    · rename_i c hc
      rw [hc] at hk
      simp only [Option.some.injEq, Prod.mk.injEq] at hg
      obtain ⟨rfl, rfl⟩ := hg
      have h1 : act.tmps.getD sl undef = .bool c := (RepA.v_inv hk).lit_inv
      have h2 : act.tmps.getD sl undef = .bool b := hb
      rw [h1] at h2; cases h2
      refine ⟨by cases b <;> rfl, fun s' b' hm => ?_⟩
      simp at hm; obtain ⟨rfl, rfl⟩ := hm; exact hb
    · rename_i s' b' c hc
      rw [hc] at hk
      split at hg
      · rename_i ch' g' hg'
        simp only [Option.some.injEq, Prod.mk.injEq] at hg
        obtain ⟨rfl, rfl⟩ := hg
        have h2 : act.tmps.getD sl undef = .bool b := hb
        have hs' : act.tmps.getD s' undef = .bool b' := by
          by_cases hn : act.tmps.getD s' undef = .bool b'
          · exact hn
          · have := hk.2 hn; rw [this] at h2; cases h2
        have h1 : act.tmps.getD sl undef = .bool c := ((hk.1 hs').1.v_inv).lit_inv
        rw [h1] at h2; cases h2
        obtain ⟨i1, i2⟩ := guardOf_sound s m s' b' ch' g' hg' hs'
        refine ⟨by rw [i1]; cases b <;> rfl, fun s2 b2 hm => ?_⟩
        rcases List.mem_cons.1 hm with hm | hm
        · cases hm; exact hb
        · exact i2 _ _ hm
      · cases hg
    · cases hg

theorem wanted_iff {ops : Array Oper} {o : Oper} {j s : Nat} {b : Bool} (hg : o.guard = some (j, b)) (hs : ops[j]?.bind (·.dst) = some s) :
    Region.wanted o (yielded ops act.tmps) = true ↔ act.eval (.tmp s) = .bool b := by
  unfold Region.wanted yielded
  rw [hg]
  simp only [hs, Option.bind_some, Act.eval]
  constructor
  · intro hw
    simp only [beq_iff_eq] at hw
    cases ht : act.tmps[s]? with
    | none => rw [ht] at hw; simp at hw
    | some v =>
      rw [ht] at hw
      cases v <;> simp at hw
      subst hw
      simp [Array.getD_eq_getD_getElem?, ht]
  · intro hb
    cases ht : act.tmps[s]? with
    | none => simp [Array.getD_eq_getD_getElem?, ht, undef] at hb
    | some v => simp [Array.getD_eq_getD_getElem?, ht] at hb; subst hb; simp

theorem Fr.h_some (f : Fr) {x : Nat} (hx : (h x).isSome = true) : (f.h h x).isSome = true := by
  cases f with
  | hc y j =>
    cases hy : h y with
    | none => simp only [Fr.h, hy]; exact hx
    | some o =>
      cases o with
      | cells cs =>
        simp only [Fr.h, hy]
        by_cases e : x = y
        · subst e; rw [H.upd_same]; rfl
        · rw [H.upd_ne _ _ e]; exact hx
  | _ => exact hx

/-- An operation that turns no memory: what it yields, and the state behind it. -/
theorem wOp_N (hC : CtxOk P C) {md : Md} {ops : Array Oper} {o : Oper} {K : T → List LO → H → Prop} (s : St W0 n w G lam act.tmps t l h) (hd : ∀ d, o.dst = some d → d < n) (hno : ∀ d, o.dst = some d → NoGd t d)
    (hgs : ∀ d j b s', o.dst = some d → o.guard = some (j, b) → ops[j]?.bind (·.dst) = some s' → s' ≠ d) (hN : isN C o.op = true) (hk : wOp P W0 C md ops.toList o t l h K) :
    ∃ u t' l' h' G', K t' l' h' ∧ St W0 n w G' lam (act.put o.dst u).tmps t' l' h' ∧ Step w G w G' ∧ YieldsIf P ops (Same w G lam md h) o u act ∧
      (∀ k s' b a', t' k = .gd s' b a' → t k = .gd s' b a' ∨ ∃ j, o.guard = some (j, b) ∧ ops[j]?.bind (·.dst) = some s') ∧
      (∀ b k, G.ow b = .lo k → G'.ow b = .lo k) ∧ ∀ x, (h x).isSome = true → (h' x).isSome = true := by
  unfold wOp at hk
  have hev : ∀ gc', GcOk act.eval gc' → EvOk C w G lam t gc' act.eval := fun gc' hgc => s.ev hgc
  split at hk
  · rename_i hgd
    simp only [hN, cond_true] at hk
    obtain ⟨a, f, u, hK, hrun, hf⟩ := nop_sound (P := P) (ρ := act.eval) (S := Same w G lam md h) hC hev (fun _ _ hm => by simp at hm) (by simp) (fun _ => rfl) s.loc s.obj (fun _ h => h) hk
    have hy : YieldsIf P ops (Same w G lam md h) o u act := .inl ⟨by simp [Region.wanted, hgd], hrun⟩
    have hgdt : ∀ (f : Fr) k s' b a', (f.t t).put o.dst a k = .gd s' b a' → (∀ p, ∀ q, RepA w q lam p u a → True) → True := fun _ _ _ _ _ _ _ => trivial
    have keepgd : ∀ k s' b a', a.isGd = false → (f.t t).put o.dst a k = .gd s' b a' → t k = .gd s' b a' := by
      intro k s' b a' ha hk'
      have h1 : (f.t t) k = .gd s' b a' := by
        cases hdst : o.dst with
        | none => rw [hdst] at hk'; exact hk'
        | some d =>
          rw [hdst] at hk'
          by_cases e : k = d
          · subst e
            have : (T.put (f.t t) (some k) a) k = a := T.upd_same _ _ _
            rw [this] at hk'; rw [hk'] at ha; simp [A.isGd] at ha
          · have : (T.put (f.t t) (some d) a) k = (f.t t) k := T.upd_ne _ _ e
            rw [this] at hk'; exact hk'
      cases f with
      | slot s2 =>
        by_cases e : k = s2
        · subst e
          have : (Fr.slot k).t t k = (t k).deg := T.upd_same _ _ _
          rw [this] at h1
          cases ht : t k <;> rw [ht] at h1 <;> simp [A.deg] at h1
          rw [h1.1, h1.2.1, h1.2.2]
        · have : (Fr.slot s2).t t k = t k := T.upd_ne _ _ e
          rw [this] at h1; exact h1
      | _ => exact h1
    cases hfp : f.pl with
    | none =>
      cases f <;> simp [Fr.pl] at hfp
      have ha : a.isGd = false := by have := hf .ret; cases this <;> rfl
      exact ⟨u, _, _, _, G, hK, s.put hd hno (fun k _ => hf (.slot k)), Step.refl s.wf, hy, fun k s' b a' hk' => .inl (keepgd k s' b a' ha hk'), fun _ _ h => h, fun _ h => h⟩
    | some p =>
      have ha : a.isGd = false ∧ RepA w G lam p u a := by
        cases f with
        | no => simp [Fr.pl] at hfp
        | slot s2 => simp only [Fr.pl, Option.some.injEq] at hfp; subst hfp; exact ⟨by cases hf.2 <;> rfl, hf.2⟩
        | lc k j => simp only [Fr.pl, Option.some.injEq] at hfp; subst hfp; obtain ⟨cs, _, _, h3⟩ := hf; exact ⟨by cases h3 <;> rfl, h3⟩
        | hc x j => simp only [Fr.pl, Option.some.injEq] at hfp; subst hfp; obtain ⟨cs, _, _, h3⟩ := hf; exact ⟨by cases h3 <;> rfl, h3.toLam lam⟩
      have s' := s.leave f (.slot (o.dst.getD 0)) (by simp) p hfp (fun k hk' => by subst hk'; obtain ⟨e, hr⟩ := hf; rw [← e]; exact ha.1) (fun x j hx => by subst hx; obtain ⟨cs, h1, _⟩ := hf; simp [h1])
      refine ⟨u, _, _, _, _, hK, s'.put hd (fun d hdd k s2 b a' hk' => ?_) (fun k hk' => ?_), Gh.ren_step s.wf, hy, fun k s' b a' hk' => .inl (keepgd k s' b a' ha.1 hk'), fun b k hb => (Gh.ren_ne (by rw [hb]; simp)).trans hb, fun x hx => f.h_some hx⟩
      · refine hno d hdd k s2 b a' ?_
        cases f with
        | slot s3 =>
          by_cases e : k = s3
          · subst e
            have : (Fr.slot k).t t k = (t k).deg := T.upd_same _ _ _
            rw [this] at hk'
            cases ht : t k <;> rw [ht] at hk' <;> simp [A.deg] at hk'
            rw [hk'.1, hk'.2.1, hk'.2.2]
          · have : (Fr.slot s3).t t k = t k := T.upd_ne _ _ e
            rw [this] at hk'; exact hk'
        | _ => exact hk'
      · have := ha.2.ren_same (q := .slot (o.dst.getD 0))
        rw [hk'] at this ⊢
        exact this
  · rename_i j b hgd
    split at hk
    · rename_i s' hs'
      split at hk
      · rename_i ch g hg
        simp only [hN, cond_true] at hk
        have hw := wanted_iff (act := act) (ops := ops) hgd (by simpa using hs')
        by_cases hb : act.eval (.tmp s') = .bool b
        · obtain ⟨hgt, hgc⟩ := guardOf_sound s 9 s' b ch g hg hb
          obtain ⟨a, f, u, hK, hrun, hf⟩ := nop_sound (P := P) (ρ := act.eval) (S := Same w G lam md h) hC hev hgc (fun gb hgb => by cases hgb; exact hgt) (by simp) s.loc s.obj (fun _ h => h) hk
          have hr : ∃ p, RepA w G lam p u a := by
            cases f with
            | no => exact ⟨.ret, hf .ret⟩
            | slot s2 => exact ⟨_, hf.2⟩
            | lc k j => obtain ⟨cs, _, _, h3⟩ := hf; exact ⟨_, h3⟩
            | hc x j => obtain ⟨cs, _, _, h3⟩ := hf; exact ⟨_, h3.toLam lam⟩
          obtain ⟨p, hr⟩ := hr
          refine ⟨u, _, _, _, G, hK, ?_, Step.refl s.wf, .inl ⟨hw.2 hb, hrun⟩, ?_, fun _ _ h => h, fun _ h => h⟩
          · cases hdst : o.dst with
            | none => exact s
            | some d =>
              have hd' : d < act.tmps.size := by rw [s.n]; exact hd d hdst
              refine s.putA (hd d hdst) (hno d hdst) ⟨fun _ => ?_, fun hn => ?_⟩
              · rw [getD_set hd', if_pos rfl]; exact ⟨hr.deg _, by cases a <;> rfl⟩
              · rw [getD_set hd', if_neg (hgs d j b s' hdst hgd (by simpa using hs'))] at hn
                exact absurd hb hn
          · intro k s2 b2 a2 hk2
            cases hdst : o.dst with
            | none => rw [hdst] at hk2; exact .inl hk2
            | some d =>
              rw [hdst] at hk2
              by_cases e : k = d
              · subst e
                have : (T.put t (some k) (.gd s' b a.deg)) k = .gd s' b a.deg := T.upd_same _ _ _
                rw [this] at hk2; cases hk2
                exact .inr ⟨j, hgd, by simpa using hs'⟩
              · have : (T.put t (some d) (.gd s' b a.deg)) k = t k := T.upd_ne _ _ e
                rw [this] at hk2; exact .inl hk2
        · obtain ⟨a, f, hK⟩ := nop_K hk
          refine ⟨undef, _, _, _, G, hK, ?_, Step.refl s.wf, .inr ⟨?_, rfl⟩, ?_, fun _ _ h => h, fun _ h => h⟩
          · cases hdst : o.dst with
            | none => exact s
            | some d =>
              have hd' : d < act.tmps.size := by rw [s.n]; exact hd d hdst
              refine s.putA (hd d hdst) (hno d hdst) ⟨fun hn => ?_, fun _ => ?_⟩
              · rw [getD_set hd', if_neg (hgs d j b s' hdst hgd (by simpa using hs'))] at hn
                exact absurd hn hb
              · rw [getD_set hd', if_pos rfl]
          · rw [Bool.eq_false_iff]; exact fun h => hb (hw.1 h)
          · intro k s2 b2 a2 hk2
            cases hdst : o.dst with
            | none => rw [hdst] at hk2; exact .inl hk2
            | some d =>
              rw [hdst] at hk2
              by_cases e : k = d
              · subst e
                have : (T.put t (some k) (.gd s' b a.deg)) k = .gd s' b a.deg := T.upd_same _ _ _
                rw [this] at hk2; cases hk2
                exact .inr ⟨j, hgd, by simpa using hs'⟩
              · have : (T.put t (some d) (.gd s' b a.deg)) k = t k := T.upd_ne _ _ e
                rw [this] at hk2; exact .inl hk2
      · exact hk.elim
    · exact hk.elim
end
end Go.AI

/- Soundness: operations that make memory. -/
namespace Go.AI
open Go.RowKit

/-- A block more. -/
def Gh.new (G : Gh) (b : Nat) (o : Ow) (i : Nat) : Gh := { G with ow := fun c => if c = b then o else G.ow c, im := fun c => if c = b then i else G.im c }
theorem Gh.new_ow (G : Gh) (b : Nat) (o : Ow) (i : Nat) : (G.new b o i).ow b = o := by simp [Gh.new]
theorem Gh.new_im (G : Gh) (b : Nat) (o : Ow) (i : Nat) : (G.new b o i).im b = i := by simp [Gh.new]
theorem Gh.new_ow_ne (G : Gh) {b c : Nat} (o : Ow) (i : Nat) (h : c ≠ b) : (G.new b o i).ow c = G.ow c := by simp [Gh.new, h]
theorem Gh.new_im_ne (G : Gh) {b c : Nat} (o : Ow) (i : Nat) (h : c ≠ b) : (G.new b o i).im c = G.im c := by simp [Gh.new, h]

section
variable {P : Program} {W0 : World} {C : Ctx} {n : Nat} {w : World} {G : Gh} {lam : List Nat} {act : Act} {t : T} {l : List LO} {h : H} {tm : Array Value}

theorem heap_alloc_lt {b : Nat} (ob : Obj) (hb : b < w.heap.size) : (w.alloc ob).heap[b]? = w.heap[b]? := Below.heap_alloc w ob b hb
theorem heap_alloc_new (ob : Obj) : (w.alloc ob).heap[w.heap.size]? = some ob := by show (w.heap.push ob)[w.heap.size]? = _; simp
theorem size_alloc (ob : Obj) : (w.alloc ob).heap.size = w.heap.size + 1 := by show (w.heap.push ob).size = _; simp

theorem Wf.lt (wf : Wf W0 w G) {b : Nat} (h : G.ow b ≠ .free) : b < w.heap.size := by
  rcases Nat.lt_or_ge b w.heap.size with h' | h'
  · exact h'
  · exact absurd (wf.past b h').1 h
theorem Wf.im_lt (wf : Wf W0 w G) {b o : Nat} (h : o < G.im b) : b < w.heap.size := by
  rcases Nat.lt_or_ge b w.heap.size with h' | h'
  · exact h'
  · have := (wf.past b h').2; omega

theorem Ext.new (wf : Wf W0 w G) (ob : Obj) (o : Ow) (i : Nat) : Ext w G (w.alloc ob) (G.new w.heap.size o i) := by
  refine ⟨by rw [size_alloc]; omega, Nat.le_refl _, fun _ _ => rfl, fun b => ?_, fun b c hc => ?_⟩
  · by_cases e : b = w.heap.size
    · subst e; rw [(wf.past _ (Nat.le_refl _)).2]; exact Nat.zero_le _
    · rw [Gh.new_im_ne _ _ _ e]; exact Nat.le_refl _
  · exact cell_of_heap (heap_alloc_lt ob (wf.im_lt hc))

theorem Wf.new (wf : Wf W0 w G) (ob : Obj) (o : Ow) (i : Nat) : Wf W0 (w.alloc ob) (G.new w.heap.size o i) := by
  refine ⟨fun b hb => ?_, fun x hx => by rw [size_alloc]; exact Nat.lt_succ_of_lt (wf.ph x hx), fun b hb => ?_, wf.below.alloc wf.below.size ob⟩
  · rw [size_alloc] at hb
    rw [Gh.new_ow_ne _ _ _ (by omega), Gh.new_im_ne _ _ _ (by omega)]
    exact wf.past b (by omega)
  · rw [Gh.new_ow_ne _ _ _ (by have := wf.below.size; omega)]; exact wf.old b hb

theorem Step.new (wf : Wf W0 w G) (ob : Obj) (o : Ow) (i : Nat) (ho : o ≠ .out) : Step w G (w.alloc ob) (G.new w.heap.size o i) := by
  refine ⟨Ext.new wf ob o i, fun b hb _ => ⟨heap_alloc_lt ob hb, Gh.new_ow_ne _ _ _ (by omega), Gh.new_im_ne _ _ _ (by omega)⟩, fun b hb => ?_⟩
  by_cases e : b = w.heap.size
  · subst e; rw [Gh.new_ow] at hb; exact absurd hb ho
  · rw [Gh.new_ow_ne _ _ _ e] at hb; exact (Step.refl wf).outs b hb

theorem St.new (s : St W0 n w G lam tm t l h) (ob : Obj) (o : Ow) (i : Nat) (ho : o ≠ .pl .ret) : St W0 n (w.alloc ob) (G.new w.heap.size o i) lam tm t l h := by
  refine s.pres (Ext.new s.wf ob o i) (s.wf.new ob o i) (fun b hb => ?_) (fun b => ?_)
  · have hlt := s.wf.lt hb
    exact ⟨Gh.new_ow_ne _ _ _ (by omega), Gh.new_im_ne _ _ _ (by omega), heap_alloc_lt ob hlt⟩
  · by_cases e : b = w.heap.size
    · subst e; rw [Gh.new_ow]; exact ho
    · rw [Gh.new_ow_ne _ _ _ e]; exact s.nr b

/-- A draw turns nothing. -/
theorem St.drew (s : St W0 n w G lam tm t l h) : St W0 n w.drew G lam tm t l h := by
  refine St.pres (w := w) (w' := w.drew) (G := G) (G' := G) ⟨Nat.le_refl _, Nat.le_refl _, fun _ _ => rfl, fun _ => Nat.le_refl _, fun _ _ _ => rfl⟩ ⟨s.wf.past, s.wf.ph, s.wf.old, s.wf.below.drew⟩ (fun b _ => ⟨rfl, rfl, rfl⟩) s.nr s
theorem Step.drew (wf : Wf W0 w G) : Step w G w.drew G :=
  ⟨⟨Nat.le_refl _, Nat.le_refl _, fun _ _ => rfl, fun _ => Nat.le_refl _, fun _ _ _ => rfl⟩, fun _ _ _ => ⟨rfl, rfl, rfl⟩, fun b hb => (Step.refl wf).outs b hb⟩
theorem Wf.drew (wf : Wf W0 w G) : Wf W0 w.drew G := ⟨wf.past, wf.ph, wf.old, wf.below.drew⟩

/-! ### More local objects -/
theorem RepA.more {p : Pl} {u : Value} {a : A} (x : Nat) (h : RepA w G lam p u a) : RepA w G (lam ++ [x]) p u a := by
  cases h with
  | v _ x h => exact .v _ _ _ h
  | own b o n cap sz xs h hs => exact .own _ _ _ _ _ _ _ h hs
  | onil sz => exact .onil _ _
  | oz a sz => exact .oz _ _ _
  | lp k off b h => exact .lp _ _ _ _ (by rw [List.getElem?_append_left (List.getElem?_eq_some_iff.1 h).1]; exact h)
  | junk => exact .junk _ _
theorem RepO.more {k b : Nat} {o : LO} (x : Nat) (h : RepO w G lam k b o) : RepO w G (lam ++ [x]) k b o := by
  cases h with
  | cells cs c e ho hi hb hl h => exact .cells cs c e ho hi hb hl fun j u a hu ha => ⟨(h j u a hu ha).1.more x, (h j u a hu ha).2⟩
  | fwd y hx h => exact .fwd y hx h
  | iter s pos ho hi hb => exact .iter s pos ho hi hb

theorem St.more {b : Nat} {o : LO} (s : St W0 n w G lam tm t l h) (ho : RepO w G (lam ++ [b]) l.length b o) : St W0 n w G (lam ++ [b]) tm t (l ++ [o]) h := by
  refine ⟨s.wf, s.n, fun k => ?_, ⟨by simp [s.loc.1], fun k b' o' hk ho' => ?_⟩, s.obj, s.nr⟩
  · have hk := s.sl k
    cases ht : t k with
    | gd s' b' a => rw [ht] at hk; exact ⟨fun hs => ⟨(hk.1 hs).1.more b, (hk.1 hs).2⟩, hk.2⟩
    | _ => rw [ht] at hk; exact RepA.more b hk
  · by_cases e : k < l.length
    · rw [List.getElem?_append_left (by rw [s.loc.1]; exact e)] at hk
      rw [List.getElem?_append_left e] at ho'
      exact (s.loc.2 k b' o' hk ho').more b
    · have hkl : k = l.length := by
        have := (List.getElem?_eq_some_iff.1 ho').1
        simp at this; omega
      subst hkl
      rw [← s.loc.1] at hk
      simp at hk ho'
      subst hk; subst ho'; exact ho

/-- What was to be kept for the operations that may yet read. -/
structure Hold (w : World) (G : Gh) (lam : List Nat) (md : Md) (h : H) (w' : World) (G' : Gh) (lam' : List Nat) (h' : H) : Prop where
  lam : lam <+: lam'
  loc : ∀ b k, G.ow b = .lo k → G'.ow b = .lo k ∧ (md.lreads k = true → w'.heap[b]? = w.heap[b]?)
  obj : ∀ x, md.reads x → (h x).isSome = true → (h' x).isSome = true ∧ w'.heap[G.ph x]? = w.heap[G.ph x]?

/-- What an operation that changes memory comes to. -/
def EOut (P : Program) (W0 : World) (n : Nat) (w : World) (G : Gh) (lam : List Nat) (act : Act) (t : T) (h : H) (md : Md) (o : Oper) (K : T → List LO → H → Prop) (Q : Exit → Act → World → Prop) : Prop :=
  o.wp P act w (fun a' w' => a'.defers = act.defers ∧ ∃ t' l' h' G' lam', K t' l' h' ∧ St W0 n w' G' lam' a'.tmps t' l' h' ∧ Step w G w' G' ∧ (∀ k s b a, t' k = .gd s b a → t k = .gd s b a) ∧
    (md.isFull = false → Hold w G lam md h w' G' lam' h')) Q

variable {md : Md} {o : Oper} {K : T → List LO → H → Prop} {Q : Exit → Act → World → Prop}

theorem T.put_gd {t t' : T} {d : Option Nat} {a : A} (ha : a.isGd = false) (hgd : ∀ k s b a, t' k = .gd s b a → t k = .gd s b a) : ∀ k s b a', (t'.put d a) k = .gd s b a' → t k = .gd s b a' := by
  intro k s b a' hk
  cases d with
  | none => exact hgd _ _ _ _ hk
  | some d =>
    by_cases e : k = d
    · subst e
      have : (T.put t' (some k) a) k = a := T.upd_same _ _ _
      rw [this] at hk; rw [hk] at ha; simp [A.isGd] at ha
    · have : (T.put t' (some d) a) k = t' k := T.upd_ne _ _ e
      rw [this] at hk; exact hgd _ _ _ _ hk

theorem EOut.value {w' : World} {G' : Gh} {lam' : List Nat} {t' : T} {l' : List LO} {h' : H} {u : Value} {a : A} (hrun : (execOp act.eval o).run P w = .ok (.value u) w') (hK : K (t'.put o.dst a) l' h')
    (s' : St W0 n w' G' lam' act.tmps t' l' h') (hd : ∀ d, o.dst = some d → d < n) (hno : ∀ d, o.dst = some d → NoGd t d) (hgd : ∀ k s b a, t' k = .gd s b a → t k = .gd s b a)
    (ha : ∀ k, o.dst = some k → RepA w' G' lam' (.slot k) u a) (hag : a.isGd = false) (st : Step w G w' G') (hold : md.isFull = false → Hold w G lam md h w' G' lam' h') : EOut P W0 n w G lam act t h md o K Q := by
  unfold EOut Oper.wp
  rw [hrun]
  refine ⟨by cases hdst : o.dst <;> rfl, _, _, _, G', lam', hK, s'.put hd (fun d hdd k s b a hk => hno d hdd k s b a (hgd k s b a hk)) ha, st, T.put_gd hag hgd, hold⟩

theorem EOut.skip {w' : World} {G' : Gh} {lam' : List Nat} {t' : T} {l' : List LO} {h' : H} (hrun : (execOp act.eval o).run P w = .ok .skip w') (hK : K (t'.put o.dst .junk) l' h')
    (s' : St W0 n w' G' lam' act.tmps t' l' h') (hd : ∀ d, o.dst = some d → d < n) (hno : ∀ d, o.dst = some d → NoGd t d) (hgd : ∀ k s b a, t' k = .gd s b a → t k = .gd s b a)
    (st : Step w G w' G') (hold : md.isFull = false → Hold w G lam md h w' G' lam' h') : EOut P W0 n w G lam act t h md o K Q := by
  unfold EOut Oper.wp
  rw [hrun]
  refine ⟨by cases hdst : o.dst <;> rfl, _, _, _, G', lam', hK, s'.put hd (fun d hdd k s b a hk => hno d hdd k s b a (hgd k s b a hk)) (fun _ _ => .junk _ _), st, T.put_gd rfl hgd, hold⟩

/-- A new block leaves what there is. -/
theorem Hold.new (wf : Wf W0 w G) (hH : RepH w G h) (ob : Obj) (ow : Ow) (i : Nat) (lam' : List Nat) (hl : lam <+: lam') : Hold w G lam md h (w.alloc ob) (G.new w.heap.size ow i) lam' h := by
  refine ⟨hl, fun b k hb => ?_, fun x _ hx => ⟨hx, ?_⟩⟩
  · have hlt := wf.lt (b := b) (by rw [hb]; simp)
    exact ⟨by rw [Gh.new_ow_ne _ _ _ (by omega)]; exact hb, fun _ => heap_alloc_lt ob hlt⟩
  · obtain ⟨o, ho⟩ := Option.isSome_iff_exists.1 hx
    cases o with | cells cs => exact heap_alloc_lt ob (wf.ph x (hH x cs ho).nx)

theorem one_toList {us : List Value} {j : Nat} {u : Value} (h : ∀ v ∈ us, v.oneCell' = true) (hj : us[j]? = some u) : u.oneCell' = true := h u (List.mem_of_getElem? hj)

theorem RepV.cellA {p : Pl} {u : Value} {c : V} (h : RepV w G u c) : RepA w G lam p u (Go.AI.cellA c) := by
  cases h with
  | nl sz => exact .onil _ _
  | lit => exact .v _ _ _ (.lit _)
  | agg us cs hl h => exact .v _ _ _ (.agg us cs hl h)
  | tup us cs hl h => exact .v _ _ _ (.tup us cs hl h)
  | sl b o n cap sz xs us hn hc hs hl h1 hm h => exact .v _ _ _ (.sl b o n cap sz xs us hn hc hs hl h1 hm h)
  | slnil sz => exact .v _ _ _ (.slnil sz)
  | slz a sz => exact .v _ _ _ (.slz a sz)
  | ptr x off hx => exact .v _ _ _ (.ptr x off hx)
  | ip b o cs us hl hm h => exact .v _ _ _ (.ip b o cs us hl hm h)
  | fn f us us' cs cs' hl hl' h h' => exact .v _ _ _ (.fn f us us' cs cs' hl hl' h h')
  | ifc t u v h => exact .v _ _ _ (.ifc t u v h)
  | mp x hx => exact .v _ _ _ (.mp x hx)

/-- A local object of cells is made. -/
theorem St.newCells {us : List Value} {cs : List V} (s : St W0 n w G lam tm t l h) (e : TypeId) (rc : RC w G us cs) (h1 : ∀ v ∈ us, v.oneCell' = true) :
    St W0 n (w.alloc (.cells us.toArray e)) (G.new w.heap.size (.lo l.length) 0) (lam ++ [w.heap.size]) tm t (l ++ [.cells (cs.map cellA)]) h := by
  have s1 := s.new (.cells us.toArray e) (.lo l.length) 0 (by simp)
  refine s1.more (.cells _ us.toArray e (Gh.new_ow _ _ _ _) (Gh.new_im _ _ _ _) (heap_alloc_new _) (by simp [rc.1]) fun j u a hu ha => ?_)
  obtain ⟨c, hc, rfl⟩ := getElem?_map_some ha
  have hu' : us[j]? = some u := by simpa using hu
  exact ⟨((rc.2 j u c hu' hc).mono (Ext.new s.wf _ _ _)).cellA, one_toList h1 hu'⟩

theorem eop_box (s : St W0 n w G lam act.tmps t l h) (hd : ∀ d, o.dst = some d → d < n) (hno : ∀ d, o.dst = some d → NoGd t d) {e : TypeId} {x : Operand} (ho : o.op = .box e x)
    (hk : eop P W0 C md o t l h fun a t l h => K (t.put o.dst a) l h) : EOut P W0 n w G lam act t h md o K Q := by
  unfold eop at hk
  simp only [ho] at hk
  have he := s.ev (C := C) (gc := []) (fun _ _ hm => by simp at hm)
  split at hk
  · rename_i v hv
    refine bif_elim hk (fun h1 hk => ?_) (fun _ h => h.elim)
    have hr : RepV w G (act.eval x) v := he.v (ty := e) (by rw [strip_nil]; exact hv)
    obtain ⟨us, e1, e2, e3, e4⟩ := hr.cells h1
    have s' := s.newCells e (us := us) (cs := v.cells) ⟨e2, e3⟩ e4
    refine EOut.value (u := .pointer (some ⟨w.heap.size, 0, none⟩)) (w' := w.alloc (.cells us.toArray e)) ?_ hk s' hd hno (fun _ _ _ _ h => h) (fun k _ => .lp _ _ _ _ (by rw [← s.loc.1]; simp)) rfl (Step.new s.wf _ _ _ (by simp)) (fun _ => Hold.new s.wf s.obj _ _ _ _ (List.prefix_append _ _))
    unfold execOp
    simp only [ho]
    simp [Instr.box, newVar, newRow, e1, Sem.run_bind]
  · exact hk.elim

theorem eop_alloc (hC : CtxOk P C) (s : St W0 n w G lam act.tmps t l h) (hd : ∀ d, o.dst = some d → d < n) (hno : ∀ d, o.dst = some d → NoGd t d) {e : TypeId} (ho : o.op = .alloc e)
    (hk : eop P W0 C md o t l h fun a t l h => K (t.put o.dst a) l h) : EOut P W0 n w G lam act t h md o K Q := by
  unfold eop at hk
  simp only [ho] at hk
  refine bif_elim hk (fun h1 hk => ?_) (fun _ h => h.elim)
  simp only [Bool.and_eq_true] at h1
  have b1 := Nat.eq_of_beq_eq_true h1.1.1
  have b2 := Nat.le_of_ble_eq_true h1.1.2
  obtain ⟨inf, i1, i2, i3, i4⟩ := (hC e).info (fun hh => by have := (hC e).oth hh; omega)
  obtain ⟨z, z1, z2, z3⟩ := i4 (fun hh => by rw [hh] at b1; simp at b1; omega)
  have hone : ∀ v ∈ z.cells.toList, v.oneCell' = true := by
    intro v hv
    obtain ⟨j, hj⟩ := List.getElem?_of_mem hv
    have hlt : j < (C.tg e).zero.length := by rw [← z2]; exact (List.getElem?_eq_some_iff.1 hj).1
    exact (z3 j v _ hj (List.getElem?_eq_getElem hlt) w G).one (List.all_eq_true.1 h1.2 _ (List.getElem_mem hlt))
  have s' := s.newCells e (us := z.cells.toList) (cs := (C.tg e).zero) ⟨z2, fun j u c hu hc => z3 j u c hu hc w G⟩ hone
  refine EOut.value (u := .pointer (some ⟨w.heap.size, 0, none⟩)) ?_ hk s' hd hno (fun _ _ _ _ h => h) (fun k _ => .lp _ _ _ _ (by rw [← s.loc.1]; simp)) rfl (Step.new s.wf _ _ _ (by simp)) (fun _ => Hold.new s.wf s.obj _ _ _ _ (List.prefix_append _ _))
  unfold execOp
  simp only [ho]
  simp [Instr.alloc, zeroValue, typeInfo, i1, z1, newVar, newRow, Sem.run_bind]

theorem eop_range (hC : CtxOk P C) (s : St W0 n w G lam act.tmps t l h) (hd : ∀ d, o.dst = some d → d < n) (hno : ∀ d, o.dst = some d → NoGd t d) {ty : TypeId} {x : Operand} (ho : o.op = .range ty x)
    (hk : eop P W0 C md o t l h fun a t l h => K (t.put o.dst a) l h) : EOut P W0 n w G lam act t h md o K Q := by
  unfold eop at hk
  simp only [ho] at hk
  have he := s.ev (C := C) (gc := []) (fun _ _ hm => by simp at hm)
  split at hk
  · rename_i st hkk hx
    have hρ := (he.v (ty := 0) (x := x) (by rw [strip_nil]; exact hx)).lit_inv
    have s' := (s.new (.stringIter st 0) (.lo l.length) 0 (by simp)).more (b := w.heap.size) (o := .iter st 0) (.iter st 0 (Gh.new_ow _ _ _ _) (Gh.new_im _ _ _ _) (heap_alloc_new _))
    refine EOut.value (u := .pointer (some ⟨w.heap.size, 0, none⟩)) ?_ hk s' hd hno (fun _ _ _ _ h => h) (fun k _ => .lp _ _ _ _ (by rw [← s.loc.1]; simp)) rfl (Step.new s.wf _ _ _ (by simp)) (fun _ => Hold.new s.wf s.obj _ _ _ _ (List.prefix_append _ _))
    unfold execOp
    simp only [ho, hρ]
    simp [Instr.range, run_underlying ((hC ty).str hkk), Sem.run_bind]
  · exact hk.elim
end
end Go.AI

/- Soundness: operations that make a slice. -/
namespace Go.AI
open Go.RowKit
section
variable {P : Program} {W0 : World} {C : Ctx} {n : Nat} {w : World} {G : Gh} {lam : List Nat} {act : Act} {t : T} {l : List LO} {h : H} {tm : Array Value} {md : Md} {o : Oper} {K : T → List LO → H → Prop} {Q : Exit → Act → World → Prop}

/-- A new block that a slice owns. -/
theorem RepA.newOwn (wf : Wf W0 w G) {us rest : List Value} {xs : List V} {sz cap : Nat} {e : TypeId} {fz : Nat × Nat} (p : Pl) (rc : RC w G us (flat xs)) (hs : ∀ x ∈ xs, x.cells.length = sz) (h1 : ∀ c ∈ flat xs, c.one = true)
    (hcap : xs.length ≤ cap) (hroom : cap * sz ≤ us.length + rest.length) (hfz : ∀ j, xs.length * sz ≤ j → j < cap * sz → (decide (fz.1 ≤ j) && decide (j < fz.2)) = false) :
    RepA (w.alloc (.cells (us ++ rest).toArray e fz)) (G.new w.heap.size (.pl p) (xs.length * sz)) lam p (.slice (some ⟨w.heap.size, 0, none⟩) xs.length cap) (.own sz xs) := by
  have hfl := flat_length hs
  have hul : us.length = xs.length * sz := by rw [rc.1, hfl]
  have hcell : ∀ j, (w.alloc (.cells (us ++ rest).toArray e fz)).cell? ⟨w.heap.size, j, none⟩ = (us ++ rest)[j]? := fun j => by
    rw [World.cell?_alloc_mark]; simp
  refine .own p _ 0 _ cap sz xs (.sl _ 0 _ cap sz xs us rfl hcap hs rc.1 h1 (fun j u hj => ⟨?_, ?_⟩) fun j u c hu hc => (rc.2 j u c hu hc).mono (Ext.new wf _ _ _)) (.inr ⟨Gh.new_ow _ _ _ _, by rw [Gh.new_im]; omega, fun j hj hj' => ⟨?_, ?_⟩⟩)
  · rw [Nat.zero_add, hcell, List.getElem?_append_left (List.getElem?_eq_some_iff.1 hj).1]; exact hj
  · rw [Gh.new_im, ← hul]; have := (List.getElem?_eq_some_iff.1 hj).1; omega
  · rw [hcell]
    have : j < (us ++ rest).length := by simp; omega
    rw [List.getElem?_eq_getElem this]; rfl
  · have := hfz j (by omega) (by omega)
    unfold World.frozen?
    simp only [heap_alloc_new]
    exact this

theorem eop_newOwn {us rest : List Value} {xs : List V} {sz cap : Nat} {e : TypeId} {fz : Nat × Nat} {w1 : World} (hw : w1 = w ∨ w1 = w.drew) (s : St W0 n w G lam act.tmps t l h) (hd : ∀ d, o.dst = some d → d < n) (hno : ∀ d, o.dst = some d → NoGd t d)
    (rc : RC w G us (flat xs)) (hs : ∀ x ∈ xs, x.cells.length = sz) (h1 : ∀ c ∈ flat xs, c.one = true)
    (hcap : xs.length ≤ cap) (hroom : cap * sz ≤ us.length + rest.length) (hfz : ∀ j, xs.length * sz ≤ j → j < cap * sz → (decide (fz.1 ≤ j) && decide (j < fz.2)) = false)
    (hrun : (execOp act.eval o).run P w = .ok (.value (.slice (some ⟨w1.heap.size, 0, none⟩) xs.length cap)) (w1.alloc (.cells (us ++ rest).toArray e fz))) (hK : K (t.put o.dst (.own sz xs)) l h) : EOut P W0 n w G lam act t h md o K Q := by
  have base : St W0 n w1 G lam act.tmps t l h ∧ Step w G w1 G ∧ w1.heap = w.heap := by
    rcases hw with rfl | rfl
    · exact ⟨s, Step.refl s.wf, rfl⟩
    · exact ⟨s.drew, Step.drew s.wf, rfl⟩
  obtain ⟨s1, st1, hh⟩ := base
  refine EOut.value hrun hK (s1.new _ (.pl (.slot (o.dst.getD 0))) (xs.length * sz) (by simp)) hd hno (fun _ _ _ _ h => h) (fun k hk => ?_) rfl (st1.trans (Step.new s1.wf _ _ _ (by simp))) (fun _ => ?_)
  · have := RepA.newOwn (lam := lam) (e := e) (fz := fz) s1.wf (.slot (o.dst.getD 0)) ⟨rc.1, fun j u c hu hc => (rc.2 j u c hu hc).mono st1.ext⟩ hs h1 hcap hroom hfz
    rw [hk] at this ⊢
    exact this
  · have hold := Hold.new (md := md) s1.wf s1.obj (.cells (us ++ rest).toArray e fz) (.pl (.slot (o.dst.getD 0))) (xs.length * sz) lam (List.prefix_refl _)
    exact ⟨hold.lam, fun b k hb => by rw [← hh]; exact hold.loc b k hb, fun x hx hx' => by rw [← hh]; exact hold.obj x hx hx'⟩

theorem flat_one {xs : List V} {sz : Nat} (h : ∀ v ∈ xs, (Nat.beq v.cells.length sz && v.cells.all V.one) = true) : (∀ x ∈ xs, x.cells.length = sz) ∧ ∀ c ∈ flat xs, c.one = true := by
  refine ⟨fun x hx => ?_, fun c hc => ?_⟩
  · have := h x hx
    simp only [Bool.and_eq_true] at this
    exact Nat.eq_of_beq_eq_true this.1
  · obtain ⟨x, hx, hcx⟩ := List.mem_flatMap.1 hc
    have := h x hx
    simp only [Bool.and_eq_true] at this
    exact List.all_eq_true.1 this.2 c hcx

theorem isFrom_range : ∀ {l : List Nat} {k : Nat}, isFrom k l = true → l = List.range' k l.length
  | [], _, _ => rfl
  | i :: r, k, h => by
    simp only [isFrom, Bool.and_eq_true] at h
    have := Nat.eq_of_beq_eq_true h.1
    subst this
    rw [List.length_cons, List.range'_succ, ← isFrom_range h.2]

/-- Parts in order fill all. -/
theorem fill_all (size : Nat) : ∀ (us : List Value) (vs : List V) (k : Nat) (A : Array Value) (pre post : List Value), us.length = vs.length → (∀ x ∈ vs, x.cells.length = size) →
    (∀ (j : Nat) (u : Value) (v : V), us[j]? = some u → vs[j]? = some v → RepV w G u v ∧ v.cells.all V.one = true) → A.toList = pre ++ post → pre.length = k * size → post.length = us.length * size →
    ∃ cells : List Value, Instr.fill (fun i => some (i * size, size)) A ((List.range' k us.length).zip us) = some (pre ++ cells).toArray ∧ RC w G cells (flat vs) ∧ ∀ u ∈ cells, u.oneCell' = true
  | [], vs, k, A, pre, post, hl, _, _, hA, _, hp => by
    have : vs = [] := List.eq_nil_of_length_eq_zero (by simpa using hl.symm)
    subst this
    have : post = [] := List.eq_nil_of_length_eq_zero (by simpa using hp)
    subst this
    refine ⟨[], ?_, ⟨rfl, fun j u c hu => by simp at hu⟩, by simp⟩
    simp only [List.length_nil, List.range'_zero, List.zip_nil_left, Instr.fill, List.append_nil] at *
    rw [← hA]
  | u :: us, [], k, A, pre, post, hl, _, _, _, _, _ => by simp at hl
  | u :: us, v :: vs, k, A, pre, post, hl, hs, hr, hA, hpre, hpost => by
    obtain ⟨hr0, h10⟩ := hr 0 u v rfl rfl
    obtain ⟨uc, e1, e2, e3, e4⟩ := hr0.cells h10
    have hvl := hs v (by simp)
    have hpl : size ≤ post.length := by rw [hpost, List.length_cons, Nat.add_mul, Nat.one_mul]; omega
    have hset : (u.cells.zipIdx.foldl (fun cs (p : Value × Nat) => cs.setIfInBounds (k * size + p.2) p.1) A).toList = pre ++ uc ++ post.drop size := by
      rw [← Array.foldl_toList, Array.toList_zipIdx, e1]
      have := foldl_set (k * size) uc 0 A pre (post.take size) (post.drop size) (by rw [List.append_assoc, List.take_append_drop]; exact hA) (by rw [hpre]; rfl) (by simp [e2, hvl]; omega)
      simpa using this
    have ih := fill_all size us vs (k + 1) (u.cells.zipIdx.foldl (fun cs (p : Value × Nat) => cs.setIfInBounds (k * size + p.2) p.1) A) (pre ++ uc) (post.drop size) (by simpa using hl) (fun x hx => hs x (by simp [hx]))
      (fun j u v hu hv => hr (j + 1) u v hu hv) hset (by simp [hpre, e2, hvl, Nat.add_mul]) (by simp [hpost, Nat.add_mul])
    obtain ⟨cells, f1, f2, f3⟩ := ih
    refine ⟨uc ++ cells, ?_, ?_, ?_⟩
    · rw [List.length_cons, List.range'_succ, List.zip_cons_cons]
      unfold Instr.fill
      simp only
      rw [if_neg]
      · rw [← List.append_assoc]; exact f1
      · have h1 : u.cells.size = size := by rw [e1]; simp [e2, hvl]
        have h2 : A.size = pre.length + post.length := by rw [← Array.length_toList, hA]; simp
        simp [h1, h2, hpre]; omega
    · have : flat (v :: vs) = v.cells ++ flat vs := by simp [flat]
      rw [this]
      exact RC.append ⟨e2, e3⟩ f2
    · intro x hx
      rcases List.mem_append.1 hx with hx | hx
      · exact e4 x hx
      · exact f3 x hx

theorem eop_buildSlice (hC : CtxOk P C) (s : St W0 n w G lam act.tmps t l h) (hd : ∀ d, o.dst = some d → d < n) (hno : ∀ d, o.dst = some d → NoGd t d) {ty : TypeId} {m : Nat} {parts : Array (Nat × Operand)} (ho : o.op = .buildSlice ty m parts)
    (hk : eop P W0 C md o t l h fun a t l h => K (t.put o.dst a) l h) : EOut P W0 n w G lam act t h md o K Q := by
  unfold eop at hk
  simp only [ho] at hk
  have he := s.ev (C := C) (gc := []) (fun _ _ hm => by simp at hm)
  split at hk
  · rename_i e hkk
    split at hk
    · rename_i vs hv
      refine bif_elim hk (fun hb hk => ?_) (fun _ h => h.elim)
      simp only [Bool.and_eq_true] at hb
      obtain ⟨⟨⟨⟨⟨⟨b1, b2⟩, b3⟩, b4⟩, b6⟩, b7⟩, b5⟩ := hb
      have b1 := Nat.eq_of_beq_eq_true b1
      have b3 := Nat.le_of_ble_eq_true b3
      have b4 := Nat.le_of_ble_eq_true b4
      have b6 := Nat.le_of_ble_eq_true b6
      have b7 := Nat.le_of_ble_eq_true b7
      obtain ⟨hs, h1⟩ := flat_one (List.all_eq_true.1 b5)
      obtain ⟨inf, i1, i2, i3, i4⟩ := (hC e).info (fun hh => by have := (hC e).oth hh; omega)
      obtain ⟨z, z1, z2, z3⟩ := i4 (fun hh => by rw [hh] at b6; simp at b6)
      obtain ⟨q1, q2⟩ := allV_get hv
      simp only [List.length_map] at q1
      have hidx := isFrom_range b2
      rw [List.length_map] at hidx
      let us := parts.toList.map fun p => act.eval p.2
      have hul : us.length = vs.length := by simp [us, q1]
      have hrep : ∀ (j : Nat) (u : Value) (v : V), us[j]? = some u → vs[j]? = some v → RepV w G u v ∧ v.cells.all V.one = true := by
        intro j u v hu hv'
        obtain ⟨p, hp, rfl⟩ := getElem?_map_some hu
        obtain ⟨v', h2, h3⟩ := q2 j _ (by rw [List.getElem?_map, hp]; rfl)
        rw [hv'] at h2; cases h2
        have hg : ((evalO C e t p.2).strip []).isGd = false := by
          rw [strip_nil]
          simp only at h3
          cases hh : evalO C e t p.2 <;> first | rfl | (rw [hh] at h3; simp [A.weak, A.toV] at h3)
        have hr := (he.1 e p.2 _ rfl hg)
        rw [strip_nil] at hr
        refine ⟨hr.weak.toV h3, ?_⟩
        have := List.all_eq_true.1 b5 v (List.mem_of_getElem? hv')
        simp only [Bool.and_eq_true] at this
        exact this.2
      obtain ⟨cells, f1, f2, f3⟩ := fill_all (w := w) (G := G) (C.tg e).size us vs 0 ((Array.range (m * (C.tg e).size)).map (z.cells[· % z.cells.size]!)) [] ((Array.range (m * (C.tg e).size)).map (z.cells[· % z.cells.size]!)).toList hul hs hrep (by simp) (by simp) (by simp [hul, b1])
      have hparts : (parts.map fun (i, x) => (i, act.eval x)).toList = (List.range' 0 us.length).zip us := by
        have e1 : (List.range' 0 us.length) = parts.toList.map (·.1) := by rw [hidx]; simp [us]
        rw [e1]
        simp only [us, Array.toList_map, List.zip_map']
      have hpos : ¬ m * (C.tg e).size = 0 := by
        intro hh
        rcases Nat.mul_eq_zero.1 hh with hh | hh <;> omega
      refine eop_newOwn (us := cells) (rest := []) (xs := vs) (cap := vs.length) (e := e) (fz := (0, 0)) (.inl rfl) s hd hno f2 hs h1 (Nat.le_refl _) (by rw [f2.1, flat_length hs]; simp) (fun j hj hj' => by simp) ?_ hk
      unfold execOp
      simp only [ho]
      rw [Sem.run_bind, run_buildSlice w ty e m _ cells.toArray inf z ((hC ty).slice _ hkk) i1 z1 (by rw [i2]; omega) (by rw [i2]; exact hpos) (by rw [i2, hparts]; simpa using f1)]
      simp [b1]
    · exact hk.elim
  · exact hk.elim

theorem eop_convert (hC : CtxOk P C) (s : St W0 n w G lam act.tmps t l h) (hd : ∀ d, o.dst = some d → d < n) (hno : ∀ d, o.dst = some d → NoGd t d) {src dst : TypeId} {x : Operand} (ho : o.op = .convert src dst x)
    (hk : eop P W0 C md o t l h fun a t l h => K (t.put o.dst a) l h) : EOut P W0 n w G lam act t h md o K Q := by
  unfold eop at hk
  simp only [ho] at hk
  have he := s.ev (C := C) (gc := []) (fun _ _ hm => by simp at hm)
  split at hk
  · rename_i e st h1 h2 hx
    split at hk
    · rename_i h3
      have hρ := (he.v (ty := 0) (x := x) (by rw [strip_nil]; exact hx)).lit_inv
      have hflat : flat (V.bytes st.data.toList) = V.bytes st.data.toList := flat_bytes _
      have hcap := grownCap_ge w st.size 0 e
      have hsz : st.data.toList.length = st.size := by simp
      refine eop_newOwn (us := (st.data.map (fun b => Value.int .u8 b.toNat)).toList) (rest := List.replicate (grownCap w st.size 0 e - st.size) (.int .u8 0)) (xs := V.bytes st.data.toList) (sz := 1) (cap := grownCap w st.size 0 e) (e := e)
        (fz := ((bytesRow st (grownCap w st.size 0 e)).size, (bytesRow st (grownCap w st.size 0 e)).size + 1)) (.inr rfl) s hd hno
        ⟨by rw [hflat]; simp [V.bytes], fun j u c hu hc => by
          rw [hflat] at hc
          obtain ⟨b, hb, rfl⟩ := getElem?_map_some hc
          simp only [Array.toList_map, List.getElem?_map, hb, Option.map_some, Option.some.injEq] at hu
          subst hu; exact .lit _⟩
        (fun x hx => by obtain ⟨b, _, rfl⟩ := List.mem_map.1 hx; rfl) (fun c hc => by rw [hflat] at hc; obtain ⟨b, _, rfl⟩ := List.mem_map.1 hc; rfl)
        (by simpa [V.bytes] using hcap) (by simp; omega) (fun j hj hj' => by
          have hb : (bytesRow st (grownCap w st.size 0 e)).size = grownCap w st.size 0 e := by simp [bytesRow]; have : st.data.size = st.size := rfl; omega
          rw [hb]; simp; omega) ?_ hk
      unfold execOp
      simp only [ho, hρ]
      rw [Sem.run_bind, run_bytes_of_string w src dst e st ((hC src).str h1) ((hC dst).slice _ h2) ((hC e).int _ h3)]
      have e1 : (V.bytes st.data.toList).length = st.size := by simp [V.bytes]
      have e2 : bytesRow st (grownCap w st.size 0 e) = ((st.data.map (fun (b : UInt8) => Value.int .u8 b.toNat)).toList ++ List.replicate (grownCap w st.size 0 e - st.size) (Value.int .u8 0)).toArray := by
        apply Array.ext'; simp [bytesRow]
      rw [e1, ← e2]
      rfl
    · exact hk.elim
  · exact hk.elim
end
end Go.AI

/- Soundness: make of a slice, stores, the steps of a range over a string. -/
namespace Go.AI
open Go.RowKit

theorem setRange_cons {α : Type} (cs : List α) (o : Nat) (u : α) (us : List α) (h : o < cs.length) : setRange cs o (u :: us) = setRange (cs.set o u) (o + 1) us := by
  unfold setRange
  have h1 : (cs.set o u).take (o + 1) = cs.take o ++ [u] := by
    rw [List.set_eq_take_append_cons_drop, if_pos h, List.take_append]
    have hl : (cs.take o).length = o := by simp; omega
    rw [List.take_of_length_le (by omega), hl]
    simp
  have h2 : (cs.set o u).drop (o + 1 + us.length) = cs.drop (o + (us.length + 1)) := by
    rw [List.drop_set_of_lt (by omega)]; congr 1; omega
  rw [h1, h2]
  simp

section
variable {P : Program} {W0 : World} {C : Ctx} {n : Nat} {w : World} {G : Gh} {lam : List Nat} {act : Act} {t : T} {l : List LO} {h : H} {tm : Array Value} {md : Md} {o : Oper} {K : T → List LO → H → Prop} {Q : Exit → Act → World → Prop}

theorem heap_setCells_ne (b : Nat) : ∀ (us : List Value) (off : Nat) (w : World) (b' : Nat), b' ≠ b → (w.setCells b off us).heap[b']? = w.heap[b']?
  | [], _, _, _, _ => rfl
  | u :: us, off, w, b', h => by
    rw [World.setCells, heap_setCells_ne b us (off + 1) _ b' h]
    exact Below.heap_setCell _ _ _ _ h

theorem heap_setCells_same (b : Nat) (e : TypeId) (fr : Nat × Nat) : ∀ (us : List Value) (off : Nat) (w : World) (c : Array Value), w.heap[b]? = some (.cells c e fr) → off + us.length ≤ c.size →
    (w.setCells b off us).heap[b]? = some (.cells (setRange c.toList off us).toArray e fr)
  | [], off, w, c, hb, _ => by simp [World.setCells, setRange, hb]
  | u :: us, off, w, c, hb, hl => by
    rw [World.setCells]
    have h1 : (w.setCell ⟨b, off, none⟩ u).heap[b]? = some (.cells (c.setIfInBounds off u) e fr) := by
      simp only [World.setCell, Array.getElem?_modify, if_pos rfl, hb]
      rfl
    rw [heap_setCells_same b e fr us (off + 1) _ _ h1 (by simp at hl ⊢; omega)]
    rw [setRange_cons _ _ _ _ (by simp at hl ⊢; omega)]
    simp

theorem size_setCells (b : Nat) : ∀ (us : List Value) (off : Nat) (w : World), (w.setCells b off us).heap.size = w.heap.size
  | [], _, _ => rfl
  | u :: us, off, w => by rw [World.setCells, size_setCells b us]; simp [World.setCell]

theorem Below.setCells {B : Nat} {a : World} (b : Nat) : ∀ (us : List Value) (off : Nat) (w : World), Below B a w → B ≤ b → Below B a (w.setCells b off us)
  | [], _, _, h, _ => h
  | u :: us, off, w, h, hb => Below.setCells b us (off + 1) _ (h.setCell (p := ⟨b, off, none⟩) hb u) hb

/-- Cells of a block that is somebody's are written: what is below the mark, and all other blocks, stay. -/
theorem Step.setCells (wf : Wf W0 w G) {b off : Nat} {us : List Value} (ho : G.ow b ≠ .free) (ho' : G.ow b ≠ .out) (hi : G.im b ≤ off) : Step w G (w.setCells b off us) G ∧ Wf W0 (w.setCells b off us) G ∧ ∀ c, c ≠ b → Pres w G (w.setCells b off us) G c := by
  have hne : ∀ c, c ≠ b → (w.setCells b off us).heap[c]? = w.heap[c]? := fun c hc => heap_setCells_ne b us off w c hc
  have hB : W0.heap.size ≤ b := by
    rcases Nat.lt_or_ge b W0.heap.size with h' | h'
    · exact absurd (wf.old b h') ho
    · exact h'
  refine ⟨⟨⟨by rw [size_setCells]; exact Nat.le_refl _, Nat.le_refl _, fun _ _ => rfl, fun _ => Nat.le_refl _, fun c j hj => ?_⟩, fun c _ hf => ?_, fun c hc => (Step.refl wf).outs c hc⟩,
    ⟨fun c hc => wf.past c (by rw [size_setCells] at hc; exact hc), fun x hx => by rw [size_setCells]; exact wf.ph x hx, wf.old, Below.setCells b us off w wf.below hB⟩, fun c hc => ⟨rfl, rfl, hne c hc⟩⟩
  · exact World.cell?_setCells_out b us off w ⟨c, j, none⟩ (fun hb _ => by simp only at hb; subst hb; exact .inl (by show j < off; omega))
  · by_cases e : c = b
    · subst e; rcases hf with hf | hf
      · exact absurd hf ho
      · exact absurd hf ho'
    · exact ⟨hne c e, rfl, rfl⟩

theorem run_storeVar {ty : TypeId} (hC : CtxOk P C) {b off : Nat} {u : Value} {us : List Value} (hs : (C.tg ty).size ≠ 0) (hu : u.cells = us.toArray) (hl : us.length = (C.tg ty).size) (h1 : ∀ v ∈ us, v.oneCell' = true)
    (hc : ∀ j, j < us.length → (w.cell? ⟨b, off + j, none⟩).isSome = true) (hf : ∀ j, j < us.length → w.frozen? ⟨b, off + j, none⟩ = false) :
    (Instr.storeAt ty (.pointer (some ⟨b, off, none⟩)) u).run P w = .ok () (w.setCells b off us) := by
  have := run_storeCells_cells (P := P) b off us 0 w (by simpa using hc) (by simpa using hf) h1
  simp only [Nat.add_zero] at this
  have hsz := run_size (P := P) hC (ty := ty) hs w
  simp only [Instr.storeAt, Instr.sureAddr, Sem.run_bind, Sem.run_pure, Result.andThen_ok, storeVar, hsz, hu]
  rw [if_neg (by simp [hl])]
  simpa using this

theorem storeC_some {cs cs' : List A} {off : Nat} {ti : TI} {a : A} (h : storeC cs off ti a = some cs') :
    (∃ v, a = .v v ∧ v.cells.length = ti.size ∧ off + ti.size ≤ cs.length ∧ v.cells.all V.one = true ∧ cs' = setRange cs off (v.cells.map cellA)) ∨
    (ti.size = 1 ∧ off + 1 ≤ cs.length ∧ cs' = cs.set off a ∧ ((∃ sz xs, a = .own sz xs) ∨ ∃ k o, a = .lp k o)) := by
  unfold storeC at h
  split at h
  · rename_i v
    cases hb : (Nat.beq v.cells.length ti.size && Nat.ble (off + ti.size) cs.length && v.cells.all V.one && Nat.ble 1 ti.size) with
    | false => rw [hb] at h; simp at h
    | true =>
      rw [hb] at h
      simp only [cond_true, Option.some.injEq] at h
      simp only [Bool.and_eq_true] at hb
      exact .inl ⟨v, rfl, Nat.eq_of_beq_eq_true hb.1.1.1, Nat.le_of_ble_eq_true hb.1.1.2, hb.1.2, h.symm⟩
  · rename_i sz xs
    cases hb : (Nat.beq ti.size 1 && Nat.ble (off + 1) cs.length && !ti.agg) with
    | false => simp [hb] at h
    | true =>
      simp [hb] at h
      simp only [Bool.and_eq_true] at hb
      exact .inr ⟨Nat.eq_of_beq_eq_true hb.1.1, Nat.le_of_ble_eq_true hb.1.2, h.symm, .inl ⟨sz, xs, rfl⟩⟩
  · rename_i k o'
    cases hb : (Nat.beq ti.size 1 && Nat.ble (off + 1) cs.length && !ti.agg) with
    | false => simp [hb] at h
    | true =>
      simp [hb] at h
      simp only [Bool.and_eq_true] at hb
      exact .inr ⟨Nat.eq_of_beq_eq_true hb.1.1, Nat.le_of_ble_eq_true hb.1.2, h.symm, .inr ⟨k, o', rfl⟩⟩
  · cases h

theorem setRange_get {α : Type} {cs : List α} {off : Nat} {xs : List α} (hl : off + xs.length ≤ cs.length) {j : Nat} {a : α} (h : (setRange cs off xs)[j]? = some a) :
    ((j < off ∨ off + xs.length ≤ j) ∧ cs[j]? = some a) ∨ (off ≤ j ∧ j < off + xs.length ∧ xs[j - off]? = some a) := by
  unfold setRange at h
  rw [List.append_assoc, List.getElem?_append] at h
  have hlt : (cs.take off).length = off := by simp; omega
  rw [hlt] at h
  split at h
  · rename_i hj; rw [List.getElem?_take, if_pos hj] at h; exact .inl ⟨.inl hj, h⟩
  · rename_i hj
    rw [List.getElem?_append] at h
    split at h
    · rename_i hj'; exact .inr ⟨by omega, by omega, h⟩
    · rename_i hj'
      rw [List.getElem?_drop] at h
      exact .inl ⟨.inr (by omega), by rw [← h]; congr 1; omega⟩
theorem setRange_length {α : Type} {cs : List α} {off : Nat} {xs : List α} (hl : off + xs.length ≤ cs.length) : (setRange cs off xs).length = cs.length := by
  unfold setRange; simp; omega

/-- What a store leaves in the cells. -/
theorem store_rep {cs cs' : List A} {c : Array Value} {off : Nat} {ti : TI} {a : A} {u : Value} {lam' : List Nat} {pl : Nat → Pl} (hst : storeC cs off ti a = some cs') (hs : ti.size ≠ 0) (hl : c.size = cs.length)
    (hr : ∀ (j : Nat) (u : Value) (a : A), c[j]? = some u → cs[j]? = some a → RepA w G lam' (pl j) u a ∧ u.oneCell' = true) (ha : RepA w G lam' (pl off) u a) :
    ∃ us, u.cells = us.toArray ∧ us.length = ti.size ∧ off + us.length ≤ c.size ∧ (∀ v ∈ us, v.oneCell' = true) ∧ cs'.length = cs.length ∧
      ∀ (j : Nat) (u : Value) (a : A), (setRange c.toList off us)[j]? = some u → cs'[j]? = some a → RepA w G lam' (pl j) u a ∧ u.oneCell' = true := by
  rcases storeC_some hst with ⟨v, rfl, h1, h2, h3, rfl⟩ | ⟨h1, h2, rfl, h3⟩
  · obtain ⟨us, e1, e2, e3, e4⟩ := ha.v_inv.cells h3
    have hfit : off + us.length ≤ c.size := by omega
    refine ⟨us, e1, by omega, hfit, e4, setRange_length (by simp; omega), fun j u' a' hu' ha' => ?_⟩
    rcases setRange_get (by simpa using hfit) hu' with ⟨p1, p2⟩ | ⟨p1, p2, p3⟩
    · rcases setRange_get (by simp; omega) ha' with ⟨q1, q2⟩ | ⟨q1, q2, q3⟩
      · exact hr j u' a' (by simpa using p2) q2
      · simp at q2; omega
    · rcases setRange_get (by simp; omega) ha' with ⟨q1, q2⟩ | ⟨q1, q2, q3⟩
      · simp at q1; omega
      · obtain ⟨d, hd, rfl⟩ := getElem?_map_some q3
        exact ⟨(e3 _ u' d p3 hd).cellA, one_toList e4 p3⟩
  · have hone : u.oneCell' = true := by rcases h3 with ⟨sz, xs, rfl⟩ | ⟨k, o', rfl⟩ <;> cases ha <;> rfl
    refine ⟨[u], Value.cells_one hone, by simp [h1], by simp; omega, by simpa using hone, by simp, fun j u' a' hu' ha' => ?_⟩
    rw [List.getElem?_set] at ha'
    rcases setRange_get (xs := [u]) (by simp; omega) hu' with ⟨p1, p2⟩ | ⟨p1, p2, p3⟩
    · simp at p1
      rw [if_neg (by omega)] at ha'
      exact hr j u' a' (by simpa using p2) ha'
    · simp at p2
      have hj : j = off := by omega
      subst hj
      simp at p3; subst p3
      simp at ha'
      obtain ⟨_, rfl⟩ := ha'
      exact ⟨ha, hone⟩

theorem storeC_size {cs cs' : List A} {off : Nat} {ti : TI} {a : A} (h : storeC cs off ti a = some cs') : ti.size ≠ 0 := by
  rcases storeC_some h with ⟨v, rfl, h1, h2, h3, rfl⟩ | ⟨h1, _⟩
  · unfold storeC at h
    simp only at h
    intro hs
    rw [hs] at h
    simp [Nat.ble] at h
  · omega
end
end Go.AI

/- Soundness: stores, and the steps of a range over a string. -/
namespace Go.AI
open Go.RowKit
section
variable {P : Program} {W0 : World} {C : Ctx} {n : Nat} {w : World} {G : Gh} {lam : List Nat} {act : Act} {t : T} {l : List LO} {h : H} {tm : Array Value} {md : Md} {o : Oper} {K : T → List LO → H → Prop} {Q : Exit → Act → World → Prop}

theorem outA_rep (hL : RepL w G lam l) {p : Pl} {u : Value} {a a' : A} (ha : RepA w G lam p u a) (ho : outA l a = some a') : RepA w G [] p u a' := by
  cases ha with
  | v _ x h => simp [outA] at ho; subst ho; exact .v _ _ _ h
  | own b o n cap sz xs h hs => simp [outA] at ho; subst ho; exact .own _ _ _ _ _ _ _ h hs
  | onil sz => simp [outA] at ho; subst ho; exact .onil _ _
  | oz a sz => simp [outA] at ho; subst ho; exact .oz _ _ _
  | lp k off b h =>
    simp only [outA] at ho
    split at ho
    · rename_i x hx
      simp at ho; subst ho
      cases hL.2 k b _ h hx with
      | fwd _ hx hb => subst hb; exact .v _ _ _ (.ptr x off hx)
    · cases ho
  | junk => simp [outA] at ho; subst ho; exact .junk _ _
theorem outA_ngd {a a' : A} (ho : outA l a = some a') : a.isGd = false := by cases a <;> first | rfl | (simp [outA] at ho)
theorem storeC_ngd {cs cs' : List A} {off : Nat} {ti : TI} {a : A} (h : storeC cs off ti a = some cs') : a.isGd = false := by cases a <;> first | rfl | (simp [storeC] at h)

theorem deg_gd {a : A} {s : Nat} {b : Bool} {a' : A} (h : a.deg = .gd s b a') : a = .gd s b a' := by cases a <;> simp_all [A.deg]
theorem leave_gd {y : Operand} {k s : Nat} {b : Bool} {a : A} (hk : leave t y k = .gd s b a) : t k = .gd s b a := by
  unfold leave at hk
  split at hk
  · rename_i s'
    by_cases e : k = s'
    · subst e; rw [T.upd_same] at hk; exact deg_gd hk
    · rw [T.upd_ne _ _ e] at hk; exact hk
  · exact hk

/-- A stored or appended operand's ownership goes to place q. -/
theorem leaveOp (s : St W0 n w G lam act.tmps t l h) {ty : TypeId} {y : Operand} (q : Pl) (hq : q ≠ .ret) (hg : (evalO C ty t y).isGd = false) :
    ∃ G', St W0 n w G' lam act.tmps (leave t y) l h ∧ Step w G w G' ∧ RepA w G' lam q (act.eval y) (evalO C ty t y) ∧ (∀ b, (∀ p, G.ow b ≠ .pl p) → G'.ow b = G.ow b) ∧ G'.im = G.im ∧ G'.ph = G.ph ∧ G'.nx = G.nx := by
  have he := s.ev (C := C) (gc := []) (fun _ _ hm => by simp at hm)
  have hr := he.1 ty y _ rfl (by rw [strip_nil]; exact hg)
  rw [strip_nil] at hr
  have free : ∀ y, (∀ s, y ≠ .tmp s) → RepA w G lam q (act.eval y) (evalO C ty t y) := fun y hy => by
    have := he.2 ty y hy q
    rw [strip_nil] at this; exact this
  cases y with
  | tmp k =>
    have s' := s.leave (.slot k) q hq (.slot k) rfl (fun k' hk' => by cases hk'; exact hg) (fun _ _ hx => by cases hx)
    refine ⟨_, s', Gh.ren_step s.wf, RepA.ren_same hr, fun b hb => Gh.ren_ne (hb _), rfl, rfl, rfl⟩
  | const v => exact ⟨G, s, Step.refl s.wf, free _ (fun s h => by cases h), fun _ _ => rfl, rfl, rfl, rfl⟩
  | global v => exact ⟨G, s, Step.refl s.wf, free _ (fun s h => by cases h), fun _ _ => rfl, rfl, rfl, rfl⟩
  | func v => exact ⟨G, s, Step.refl s.wf, free _ (fun s h => by cases h), fun _ _ => rfl, rfl, rfl, rfl⟩

/-- A local object's cells are written. -/
theorem St.writeL (s : St W0 n w G lam tm t l h) {k b off : Nat} {cs cs' : List A} {c : Array Value} {e : TypeId} {us : List Value} (hk : lam[k]? = some b) (hcs : l[k]? = some (.cells cs)) (hb : w.heap[b]? = some (.cells c e (0, 0))) (hl : c.size = cs.length)
    (hfit : off + us.length ≤ c.size) (hl' : cs'.length = cs.length) (hr : ∀ (j : Nat) (u : Value) (a : A), (setRange c.toList off us)[j]? = some u → cs'[j]? = some a → RepA w G lam (.lc k j) u a ∧ u.oneCell' = true) :
    St W0 n (w.setCells b off us) G lam tm t (l.set k (.cells cs')) h ∧ Step w G (w.setCells b off us) G := by
  have ho : G.ow b = .lo k ∧ G.im b = 0 := by cases s.loc.2 k b _ hk hcs with | cells _ c e ho hi _ _ _ => exact ⟨ho, hi⟩
  obtain ⟨st, wf', pres⟩ := Step.setCells (us := us) (off := off) s.wf (b := b) (by rw [ho.1]; simp) (by rw [ho.1]; simp) (by rw [ho.2]; exact Nat.zero_le _)
  have hne : ∀ b' o', G.ow b' = o' → o' ≠ .lo k → b' ≠ b := fun b' o' h1 h2 e => h2 (by rw [← h1, e, ho.1])
  refine ⟨⟨wf', s.n, fun k' => (s.sl k').pres st.ext fun b' hb' => pres b' (hne b' _ hb' (by simp)), ⟨by simp [s.loc.1], fun k' b' o' hk' ho' => ?_⟩,
    fun x cs hx => (s.obj x cs hx).pres st.ext fun b' hb' => pres b' (by rcases hb' with hb' | ⟨j, hb'⟩ <;> exact hne b' _ hb' (by simp)), s.nr⟩, st⟩
  by_cases e1 : k' = k
  · subst e1
    rw [hk] at hk'; cases hk'
    rw [List.getElem?_set, if_pos rfl] at ho'
    split at ho'
    · cases ho'
      refine .cells cs' (setRange c.toList off us).toArray e ho.1 ho.2 (heap_setCells_same b e _ us off w c hb hfit) ?_ fun j u a hu ha => ?_
      · have := setRange_length (cs := c.toList) (off := off) (xs := us) (by simpa using hfit)
        simp only [List.size_toArray, this]; simp [hl, hl']
      · have := hr j u a (by simpa using hu) ha
        exact ⟨this.1.pres st.ext fun b' hb' => pres b' (hne b' _ hb' (by simp)), this.2⟩
    · cases ho'
  · rw [List.getElem?_set_ne (fun h => e1 h.symm)] at ho'
    exact (s.loc.2 k' b' o' hk' ho').pres st.ext fun b'' hb'' => pres b'' (by rcases hb'' with hb'' | ⟨j, hb''⟩ <;> exact hne b'' _ hb'' (by simp [e1]))

/-- An object's cells are written. -/
theorem St.writeH (s : St W0 n w G lam tm t l h) {x off : Nat} {cs cs' : List A} {c : Array Value} {e : TypeId} {us : List Value} (hx : h x = some (.cells cs)) (hb : w.heap[G.ph x]? = some (.cells c e (0, 0))) (hl : c.size = cs.length)
    (hfit : off + us.length ≤ c.size) (hl' : cs'.length = cs.length) (hr : ∀ (j : Nat) (u : Value) (a : A), (setRange c.toList off us)[j]? = some u → cs'[j]? = some a → RepA w G [] (.hc x j) u a ∧ u.oneCell' = true) :
    St W0 n (w.setCells (G.ph x) off us) G lam tm t l (h.upd x (.cells cs')) ∧ Step w G (w.setCells (G.ph x) off us) G := by
  have hxo := s.obj x cs hx
  obtain ⟨st, wf', pres⟩ := Step.setCells (us := us) (off := off) s.wf (b := G.ph x) (by rw [hxo.ho]; simp) (by rw [hxo.ho]; simp) (by rw [hxo.hi]; exact Nat.zero_le _)
  have hne : ∀ b' o', G.ow b' = o' → o' ≠ .ho x → b' ≠ G.ph x := fun b' o' h1 h2 e => h2 (by rw [← h1, e, hxo.ho])
  refine ⟨⟨wf', s.n, fun k' => (s.sl k').pres st.ext fun b' hb' => pres b' (hne b' _ hb' (by simp)), ⟨s.loc.1, fun k' b' o' hk' ho' => (s.loc.2 k' b' o' hk' ho').pres st.ext fun b'' hb'' => pres b'' (by rcases hb'' with hb'' | ⟨j, hb''⟩ <;> exact hne b'' _ hb'' (by simp))⟩, fun y cs2 hy => ?_, s.nr⟩, st⟩
  by_cases e1 : y = x
  · subst e1
    rw [H.upd_same] at hy; cases hy
    refine ⟨hxo.ho, hxo.hi, hxo.nx, (setRange c.toList off us).toArray, e, heap_setCells_same _ e _ us off w c hb hfit, ?_, fun j u a hu ha => ?_⟩
    · have := setRange_length (cs := c.toList) (off := off) (xs := us) (by simpa using hfit)
      simp only [List.size_toArray, this]; simp [hl, hl']
    · have := hr j u a (by simpa using hu) ha
      exact ⟨this.1.pres st.ext fun b' hb' => pres b' (hne b' _ hb' (by simp)), this.2⟩
  · rw [H.upd_ne _ _ e1] at hy
    exact (s.obj y cs2 hy).pres st.ext fun b'' hb'' => pres b'' (by rcases hb'' with hb'' | ⟨j, hb''⟩ <;> exact hne b'' _ hb'' (by simp [e1]))

theorem cells_access {b : Nat} {c : Array Value} {e : TypeId} (hb : w.heap[b]? = some (.cells c e (0, 0))) (h1 : ∀ (j : Nat) (u : Value), c[j]? = some u → u.oneCell' = true) {j : Nat} (hj : j < c.size) : (w.cell? ⟨b, j, none⟩).isSome = true ∧ w.frozen? ⟨b, j, none⟩ = false := by
  simp [World.cell?, World.frozen?, hb, hj]

theorem eop_store (hC : CtxOk P C) (s : St W0 n w G lam act.tmps t l h) (hd : ∀ d, o.dst = some d → d < n) (hno : ∀ d, o.dst = some d → NoGd t d) {ty : TypeId} {x y : Operand} (ho : o.op = .store ty x y)
    (hk : eop P W0 C md o t l h fun a t l h => K (t.put o.dst a) l h) : EOut P W0 n w G lam act t h md o K Q := by
  unfold eop at hk
  simp only [ho] at hk
  have he := s.ev (C := C) (gc := []) (fun _ _ hm => by simp at hm)
  -- into an object
  have obj : ∀ (x' off : Nat), act.eval x = .pointer (some ⟨G.ph x', off, none⟩) → md.isFull = true → (match outA l (evalO C ty t y) with | some a => ∃ cs, h x' = some (.cells cs) ∧ (match storeC cs off (C.tg ty) a with | some cs' => K ((leave t y).put o.dst .junk) l (h.upd x' (.cells cs')) | none => False) | none => False) → EOut P W0 n w G lam act t h md o K Q := by
    intro x' off hρ hfull hk
    split at hk
    · rename_i a ha
      obtain ⟨cs, hx, hk⟩ := hk
      split at hk
      · rename_i cs' hst
        have hs := storeC_size hst
        obtain ⟨G1, s1, st1, hra, how, him, hph, hnx⟩ := leaveOp s (C := C) (ty := ty) (y := y) (.hc x' off) (by simp) (outA_ngd ha)
        have hxo := s1.obj x' cs hx
        obtain ⟨c, e, hb, hl, hr⟩ := hxo.hb
        obtain ⟨us, e1, e2, e3, e4, e5, e6⟩ := store_rep (pl := fun j => .hc x' j) hst hs hl hr (outA_rep s1.loc hra ha)
        obtain ⟨s2, st2⟩ := s1.writeH hx hb hl e3 e5 e6
        have hphx : G1.ph x' = G.ph x' := by rw [hph]
        refine EOut.skip ?_ hk s2 hd hno (fun _ _ _ _ h => leave_gd h) (st1.trans st2) (fun hm => by rw [hfull] at hm; cases hm)
        rw [hphx] at hb ⊢
        unfold execOp
        simp only [ho, hρ]
        rw [Sem.run_bind, run_storeVar hC hs e1 e2 e4 (fun j hj => (cells_access hb (fun j u hu => by
            have hlt : j < cs.length := by rw [← hl]; exact (Array.getElem?_eq_some_iff.1 hu).1
            exact (hr j u _ hu (List.getElem?_eq_getElem hlt)).2) (by omega)).1) (fun j hj => (cells_access hb (fun j u hu => by
            have hlt : j < cs.length := by rw [← hl]; exact (Array.getElem?_eq_some_iff.1 hu).1
            exact (hr j u _ hu (List.getElem?_eq_getElem hlt)).2) (by omega)).2)]
        rfl
      · exact hk.elim
    · exact hk.elim
  split at hk
  · rename_i k off hx
    have hr0 := he.1 0 x _ rfl (by rw [strip_nil, hx]; rfl)
    rw [strip_nil, hx] at hr0
    obtain ⟨b, hρ, hkb⟩ := hr0.lp_inv
    split at hk
    · rename_i cs hcs
      refine bif_elim hk (fun hls hk => ?_) (fun _ h => h.elim)
      split at hk
      · rename_i cs' hst
        have hs := storeC_size hst
        obtain ⟨G1, s1, st1, hra, how, him, hph, hnx⟩ := leaveOp s (C := C) (ty := ty) (y := y) (.lc k off) (by simp) (storeC_ngd hst)
        cases s1.loc.2 k b _ hkb hcs with
        | cells _ c e hob hib hb hl hr =>
        obtain ⟨us, e1, e2, e3, e4, e5, e6⟩ := store_rep (pl := fun j => .lc k j) hst hs hl hr hra
        obtain ⟨s2, st2⟩ := s1.writeL hkb hcs hb hl e3 e5 e6
        refine EOut.skip ?_ hk s2 hd hno (fun _ _ _ _ h => leave_gd h) (st1.trans st2) (fun hm => ?_)
        rotate_left
        · have hkk : ∀ k', md.lreads k' = true → k' ≠ k := by
            intro k' h1 e
            subst e
            cases md with
            | full => cases hm
            | pure => cases hls
            | hide fx => cases hls
            | but j => simp only [Md.lstores, Md.lreads] at hls h1; rw [hls] at h1; cases h1
          refine ⟨List.prefix_refl _, fun b' k' hb' => ⟨(how b' (by rw [hb']; simp)).trans hb', fun hlr => heap_setCells_ne _ _ _ _ _ ?_⟩, fun x hx hx' => ⟨hx', heap_setCells_ne _ _ _ _ _ ?_⟩⟩
          · intro e
            subst e
            have := (how b' (by rw [hb']; simp)).trans hb'
            rw [hob] at this
            cases this
            exact hkk k hlr rfl
          · obtain ⟨ho', hh⟩ := Option.isSome_iff_exists.1 hx'
            cases ho' with
            | cells cs2 =>
              intro e
              have h1 := (s1.obj x cs2 hh).ho
              rw [hph, e, hob] at h1; cases h1
        unfold execOp
        simp only [ho, hρ]
        have hc1 : ∀ (j : Nat) (u : Value), c[j]? = some u → u.oneCell' = true := fun j u hu => by
            have hlt : j < cs.length := by rw [← hl]; exact (Array.getElem?_eq_some_iff.1 hu).1
            exact (hr j u _ hu (List.getElem?_eq_getElem hlt)).2
        rw [Sem.run_bind, run_storeVar hC hs e1 e2 e4 (fun j hj => (cells_access hb hc1 (by omega)).1) (fun j hj => (cells_access hb hc1 (by omega)).2)]
        rfl
      · exact hk.elim
    · rename_i x' hx'
      cases s.loc.2 k b _ hkb hx' with
      | fwd _ hxn hb =>
      subst hb
      exact obj x' off hρ hk.1 hk.2
    · exact hk.elim
  · rename_i x' off hx
    have hr0 := he.1 0 x _ rfl (by rw [strip_nil, hx]; rfl)
    rw [strip_nil, hx] at hr0
    exact obj x' off hr0.v_inv.ptr_inv.1 hk.1 hk.2
  · exact hk.elim
end
end Go.AI
