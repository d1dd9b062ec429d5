/- The abstract evaluator: values, heap, operations, code. Definitions alone; nothing is claimed here. -/
import Derived.Calls
import Derived.Orders
import Derived.Scope
import Derived.Below
import Derived.Laws.Entries
import Derived.Laws.Cells
import Derived.Laws.World
namespace Go.Ev

/-- abstract values: addresses are numbers of abstract blocks; a slice's capacity is known only where it was cut -/
inductive AV where
  | bool (b : Bool)
  | int (k : IntKind) (n : Int)
  | float (k : FloatKind) (n : Nat)
  | str (s : List UInt8)
  | nilptr
  | ptr (b off : Nat)
  | nilsl
  | sl (b off len : Nat) (cap : Option Nat) (size : Nat)
  | agg (cs : List AV)
  | tup (vs : List AV)
  | nilfn
  | fn (f : Nat) (first captured : List AV)
  | niliface
  | iface (t : Nat) (v : AV)
  | sym (k : IntKind) (n : Int) (lo hi : Option Int)
  | symb (b : Bool)
  | syms (s : List UInt8)

/-- 'sym', 'symb', 'syms' are an integer (with bounds, if they are known), a bool, a string whose value is open: what is computed of them stays marked, so that a test of them is seen -/
def AV.plain : AV → AV
  | .sym k n _ _ => .int k n
  | .symb b => .bool b
  | .syms s => .str s
  | v => v

def AV.marked : AV → Bool
  | .sym _ _ _ _ | .symb _ | .syms _ => true
  | _ => false

def AV.mark (m : Bool) (v : AV) : AV := bif m then (match v with
  | .int k n => .sym k n none none
  | .bool b => .symb b
  | .str s => .syms s
  | v => v) else v

instance : Inhabited AV := ⟨.tup []⟩

/-- the cells of a value -/
def AV.cells : AV → List AV
  | .agg cs => cs
  | v => [v]

/-- a value of one cell -/
def AV.one : AV → Bool
  | .agg _ => false
  | .tup _ => false
  | _ => true

/-- no address inside -/
def AV.scalar : AV → Bool
  | .bool _ | .int _ _ | .float _ _ | .str _ | .nilptr | .nilsl | .nilfn | .niliface | .sym _ _ _ _ | .symb _ | .syms _ => true
  | _ => false

def AV.free : AV → Bool
  | .agg cs => cs.all AV.scalar
  | .tup vs => vs.all fun v => match v with
    | .agg cs => cs.all AV.scalar
    | v => v.scalar
  | .fn _ first captured => first.all AV.scalar && captured.all AV.scalar
  | v => v.scalar

/-! ### the heap, the registers: trees by the bits of the number -/
inductive Tr (α : Type) where
  | nil
  | nd (v : Option α) (l r : Tr α)

def Tr.get {α : Type} : Tr α → Nat → Option α
  | .nil, _ => none
  | .nd v l r, k => bif k.beq 0 then v else bif (Nat.mod k 2).beq 1 then l.get (Nat.div k 2) else r.get (Nat.sub (Nat.div k 2) 1)

def Tr.set {α : Type} : Nat → Tr α → Nat → Option α → Tr α
  | 0, t, _, _ => t
  | f + 1, .nil, k, x => bif k.beq 0 then .nd x .nil .nil else
    bif (Nat.mod k 2).beq 1 then .nd none (Tr.set f .nil (Nat.div k 2) x) .nil else .nd none .nil (Tr.set f .nil (Nat.sub (Nat.div k 2) 1) x)
  | f + 1, .nd v l r, k, x => bif k.beq 0 then .nd x l r else
    bif (Nat.mod k 2).beq 1 then .nd v (Tr.set f l (Nat.div k 2) x) r else .nd v l (Tr.set f r (Nat.sub (Nat.div k 2) 1) x)

/-- the heap: the next block's number; blocks below 'ro' may not be written; the blocks; which were written -/
structure Heap where
  next : Nat
  ro : Nat
  tr : Tr (List AV)
  log : List Nat

def Heap.empty : Heap := ⟨0, 0, .nil, []⟩
def Heap.get (h : Heap) (b : Nat) : Option (List AV) := h.tr.get b
def Heap.setTo (h : Heap) (b : Nat) (x : Option (List AV)) : Heap := ⟨h.next, h.ro, h.tr.set (b + 1) b x, b :: h.log⟩
def Heap.push (h : Heap) (cs : List AV) : Heap := ⟨h.next + 1, h.ro, h.tr.set (h.next + 1) h.next (some cs), h.log⟩
def Heap.frz (h : Heap) : Heap := ⟨h.next, h.next, h.tr, h.log⟩
def Heap.withLog (h : Heap) (l : List Nat) : Heap := ⟨h.next, h.ro, h.tr, l⟩

/-! ### operands and registers -/
abbrev Env := Tr AV

def lk (e : Env) (k : Nat) : Option AV := e.get k

inductive Opd where
  | t (n : Nat)
  | c (v : AV)

def Opd.get (e : Env) : Opd → Option AV
  | .t n => lk e n
  | .c v => some v

def getAll (e : Env) : List Opd → Option (List AV)
  | [] => some []
  | x :: r => match x.get e with
    | some v => match getAll e r with
      | some vs => some (v :: vs)
      | none => none
    | none => none

/-! ### operations -/
inductive AOp where
  | mv (x : Opd)
  | pick (c a b : Opd)
  | un (op : UnOp) (x : Opd)
  | bin (op : BinOp) (x y : Opd)
  | eqB (neg : Bool) (x y : Opd)
  | eqN (kind : Nat) (neg : Bool) (x y : Opd)
  | eqA (ks : List Nat) (neg : Bool) (x y : Opd)
  | convI (k : IntKind) (x : Opd)
  | same (x : Opd)
  | nilck (x : Opd)
  | faddr (off : Nat) (x : Opd)
  | iaddrA (len size : Nat) (x i : Opd)
  | iaddrS (size : Nat) (x i : Opd)
  | field (off size : Nat) (agg : Bool) (x : Opd)
  | index (len size : Nat) (agg : Bool) (x i : Opd)
  | indexStr (x i : Opd)
  | load (n : Nat) (agg : Bool) (x : Opd)
  | store (n : Nat) (x v : Opd)
  | alloc (zero : List AV)
  | box (x : Opd)
  | build (zero : List AV) (parts : List (Nat × Nat × Opd))
  | buildSl (size n : Nat) (zero : List AV) (parts : List (Nat × Nat × Opd))
  | mkSl (size bytes : Nat) (zero : List AV) (len cap : Opd)
  | sliceS (size : Nat) (x : Opd) (lo hi mx : Option Opd)
  | sliceStr (x : Opd) (lo hi : Option Opd)
  | sliceA (n size : Nat) (x : Opd) (lo hi mx : Option Opd)
  | extract (x : Opd) (k : Nat)
  | call (f : Nat) (args : List Opd)
  | callv (x : Opd) (args : List Opd)
  | len (str : Bool) (x : Opd)
  | lenC (n : Nat)
  | append (size bytes : Nat) (x y : Opd)
  | copy (size : Nat) (x y : Opd)
  | minmax (mx : Bool) (xs : List Opd)
  | mkfn (f : Nat) (first captured : List Opd)
  | toStr (x : Opd)
  | toBytes (x : Opd)

def two (n : Nat) : Int := (2 ^ n : Nat)

/-- operators on two integers or two strings -/
def binop (op : BinOp) : AV → AV → Option AV
  | .int k a, .int k' b =>
    match op with
    | .shl => bif decide (b < 0) then none else some (.int k (k.wrap (a * 2 ^ (min b.toNat k.bits))))
    | .shr => bif decide (b < 0) then none else some (.int k (a.fdiv (2 ^ (min b.toNat k.bits))))
    | _ => bif decide (k ≠ k') then none else
      match op with
      | .add => some (.int k (k.wrap (a + b)))
      | .sub => some (.int k (k.wrap (a - b)))
      | .mul => some (.int k (k.wrap (a * b)))
      | .quo => bif decide (b = 0) then none else some (.int k (k.wrap (a.tdiv b)))
      | .rem => bif decide (b = 0) then none else some (.int k (a.tmod b))
      | .and => some (.int k (bits .and k a b))
      | .or => some (.int k (bits .or k a b))
      | .xor => some (.int k (bits .xor k a b))
      | .andNot => some (.int k (bits .andNot k a b))
      | .eql => some (.bool (a == b))
      | .neq => some (.bool (a != b))
      | .lss => some (.bool (decide (a < b)))
      | .leq => some (.bool (decide (a ≤ b)))
      | .gtr => some (.bool (decide (a > b)))
      | .geq => some (.bool (decide (a ≥ b)))
      | _ => none
  | .str a, .str b =>
    match op with
    | .add => bif decide (a.length + b.length ≤ 9223372036854775807) then some (.str (a ++ b)) else none
    | .eql => some (.bool (a == b))
    | .neq => some (.bool (!(a == b)))
    | .lss => some (.bool (Op.bytesLess a b))
    | .leq => some (.bool (Op.bytesLess a b || a == b))
    | .gtr => some (.bool (!(Op.bytesLess a b || a == b)))
    | .geq => some (.bool (!(Op.bytesLess a b)))
    | _ => none
  | _, _ => none

def unop (op : UnOp) : AV → Option AV
  | .int k n => match op with
    | .neg => some (.int k (k.wrap (0 - n)))
    | .xor => some (.int k (bits .xor k (if k.signed then -1 else k.max) n))
    | _ => none
  | .bool b => match op with
    | .not => some (.bool !b)
    | _ => none
  | _ => none

abbrev Rng := Option Int × Option Int

def AV.rng : AV → Rng
  | .int _ n => (some n, some n)
  | .sym _ _ lo hi => (lo, hi)
  | _ => (none, none)

def optLt (a b : Option Int) : Bool := match a, b with
  | some a, some b => decide (a < b)
  | _, _ => false

def optLe (a b : Option Int) : Bool := match a, b with
  | some a, some b => decide (a ≤ b)
  | _, _ => false

/-- does a bound tell a comparison's outcome? -/
def cmpOf (op : BinOp) (x y : Rng) : Option Bool :=
  match op with
  | .lss => bif optLt x.2 y.1 then some true else bif optLe y.2 x.1 then some false else none
  | .leq => bif optLe x.2 y.1 then some true else bif optLt y.2 x.1 then some false else none
  | .gtr => bif optLt y.2 x.1 then some true else bif optLe x.2 y.1 then some false else none
  | .geq => bif optLe y.2 x.1 then some true else bif optLt x.2 y.1 then some false else none
  | .eql => bif optLt x.2 y.1 || optLt y.2 x.1 then some false else bif optLe x.2 y.1 && optLe y.2 x.1 then some true else none
  | .neq => bif optLt x.2 y.1 || optLt y.2 x.1 then some true else bif optLe x.2 y.1 && optLe y.2 x.1 then some false else none
  | _ => none

def fitRng (k : IntKind) (lo hi : Int) : Rng := bif decide (k.min ≤ lo) && decide (hi ≤ k.max) then (some lo, some hi) else (none, none)

/-- bounds of a result -/
def rngOf (op : BinOp) (k : IntKind) (x y : Rng) : Rng :=
  match op, x, y with
  | .add, (some a, some b), (some c, some d) => fitRng k (a + c) (b + d)
  | .sub, (some a, some b), (some c, some d) => fitRng k (a - d) (b - c)
  | .rem, (some a, _), (some c, some d) => bif decide (0 ≤ a) && decide (c = d) && decide (0 < c) then (some 0, some (c - 1)) else (none, none)
  | _, _, _ => (none, none)

def tell (op : BinOp) (v : AV) (x y : Rng) : AV :=
  match v with
  | .int k n => .sym k n (rngOf op k x y).1 (rngOf op k x y).2
  | .bool b => (match cmpOf op x y with
    | some t => .bool t
    | none => .symb b)
  | .str s => .syms s
  | v => v

def binopM (op : BinOp) (x y : AV) : Option AV :=
  match binop op x.plain y.plain with
  | some v => some (bif x.marked || y.marked then tell op v x.rng y.rng else v)
  | none => none

def convRng (k : IntKind) : Rng → Rng
  | (some a, some b) => fitRng k a b
  | _ => (none, none)

def unopM (op : UnOp) (x : AV) : Option AV :=
  match unop op x.plain with
  | some v => some (v.mark x.marked)
  | none => none

/-- is it nil? of pointers (0), slices (1), functions (2), interface values (3) -/
def nilOf : Nat → AV → Option Bool
  | 0, .nilptr => some true
  | 0, .ptr _ _ => some false
  | 1, .nilsl => some true
  | 1, .sl _ _ _ _ _ => some false
  | 2, .nilfn => some true
  | 2, .fn _ _ _ => some false
  | 3, .niliface => some true
  | 3, .iface _ _ => some false
  | _, _ => none

def eqNil (k : Nat) (x y : AV) : Option Bool :=
  match nilOf k x, nilOf k y with
  | some true, some b => some b
  | some false, some true => some false
  | _, _ => none

/-- cells of bools (0), integers (1), strings (2) -/
def eqCell : Nat → AV → AV → Option Bool
  | 0, .bool a, .bool b => some (a == b)
  | 1, .int k a, .int k' b => bif decide (k = k') then some (a == b) else none
  | 2, .str a, .str b => some (a == b)
  | _, _, _ => none

def eqCells : List Nat → List AV → List AV → Option Bool
  | [], [], [] => some true
  | k :: ks, x :: xs, y :: ys => match eqCell k x y with
    | some true => eqCells ks xs ys
    | some false => some false
    | none => none
  | _, _, _ => none

/-- the same, all cells looked at -/
def eqCellsS : List Nat → List AV → List AV → Option Bool
  | [], [], [] => some true
  | k :: ks, x :: xs, y :: ys => match eqCell k x.plain y.plain with
    | some a => match eqCellsS ks xs ys with
      | some b => some (a && b)
      | none => none
    | none => none
  | _, _, _ => none

def eqBM (neg : Bool) (a b : AV) : Option AV :=
  match a.plain, b.plain with
  | .bool p, .bool q => some ((AV.bool ((p == q) != neg)).mark (a.marked || b.marked))
  | _, _ => none

def eqAM (ks : List Nat) (neg : Bool) (a b : AV) : Option AV :=
  match a, b with
  | .agg p, .agg q => bif p.length.beq ks.length && q.length.beq ks.length then (match eqCellsS ks p q with
    | some t => some ((AV.bool (t != neg)).mark (p.any AV.marked || q.any AV.marked))
    | none => none) else none
  | _, _ => none

def convM (k : IntKind) (v : AV) : Option AV :=
  match v.plain with
  | .int _ n => some (bif v.marked then .sym k (k.wrap n) (convRng k v.rng).1 (convRng k v.rng).2 else .int k (k.wrap n))
  | _ => none

/-- parts laid into cells -/
def fillIn (cells : List AV) : List (Nat × Nat × AV) → Option (List AV)
  | [] => some cells
  | (off, size, v) :: rest =>
    bif decide (v.cells.length = size) && decide (off + size ≤ cells.length) then
      fillIn (cells.take off ++ (v.cells ++ cells.drop (off + size))) rest
    else none

def getParts (e : Env) : List (Nat × Nat × Opd) → Option (List (Nat × Nat × AV))
  | [] => some []
  | (a, b, x) :: r => match x.get e with
    | some v => match getParts e r with
      | some vs => some ((a, b, v) :: vs)
      | none => none
    | none => none

def rep (n : Nat) (l : List AV) : List AV := match n with
  | 0 => []
  | n + 1 => l ++ rep n l

def natOf : AV → Option Nat
  | .int _ n => bif decide (0 ≤ n) then some n.toNat else none
  | _ => none

/-- a bound of a slice expression: the one given, or the one that holds without -/
def bound (e : Env) (d : Nat) : Option Opd → Option Nat
  | none => some d
  | some x => match x.get e with
    | some v => natOf v
    | none => none

def loadAt (h : Heap) (b off n : Nat) : Option (List AV) :=
  match h.get b with
  | some cs => bif decide (off + n ≤ cs.length) then some ((cs.drop off).take n) else none
  | none => none

def storeAt (h : Heap) (b off : Nat) (vs : List AV) : Option Heap :=
  bif decide (h.ro ≤ b) && vs.all AV.one then
    match h.get b with
    | some cs => bif decide (off + vs.length ≤ cs.length) then some (h.setTo b (some (cs.take off ++ (vs ++ cs.drop (off + vs.length))))) else none
    | none => none
  else none

def bytesOfStr (s : List UInt8) : List AV := s.map fun b => .int .u8 b.toNat

def strOfBytes : List AV → Option (List UInt8)
  | [] => some []
  | .int .u8 n :: r => match strOfBytes r with
    | some s => some (UInt8.ofNat n.toNat :: s)
    | none => none
  | _ => none

/-- the cells that a slice (or a string) has -/
def cellsOf (h : Heap) (size : Nat) : AV → Option (List AV)
  | .nilsl => some []
  | .sl b off len _ _ => loadAt h b off (len * size)
  | .str s => bif size.beq 1 then some (bytesOfStr s) else none
  | _ => none

def minmax2 (mx : Bool) : AV → AV → Option AV
  | .int k a, .int _ b => some (.int k (bif mx then (if b > a then b else a) else (if b < a then b else a)))
  | _, _ => none

def minmaxL (mx : Bool) : AV → List AV → Option AV
  | x, [] => some x
  | x, y :: r => match minmax2 mx x.plain y.plain with
    | some z => minmaxL mx (z.mark (x.marked || y.marked)) r
    | none => none

def appendTo (h : Heap) (size bytes : Nat) (x : AV) (new : List AV) (n : Nat) : Option (AV × Heap) :=
  match x with
  | .nilsl =>
    bif n.beq 0 then some (.nilsl, h) else
    bif decide (n * bytes ≤ 140737488355328) then some (.sl h.next 0 n none size, h.push new) else none
  | .sl b off len cap z =>
    bif n.beq 0 then some (x, h) else
    bif decide ((len + n) * bytes ≤ 140737488355328) && z.beq size then
      match loadAt h b off (len * size), cap with
      | some old, some m =>
        bif decide (m ≤ len) && decide (m * bytes ≤ 140737488355328) then some (.sl h.next 0 (len + n) none size, h.push (old ++ new))
        else none
      | some old, none =>
        bif decide (h.ro ≤ b) then some (.sl h.next 0 (len + n) none size, (h.setTo b none).push (old ++ new)) else none
      | none, _ => none
    else none
  | _ => none

def lenOf : AV → Option Nat
  | .nilsl => some 0
  | .sl _ _ n _ _ => some n
  | .str s => some s.length
  | _ => none

abbrev CallF := Nat → List AV → Heap → Option (AV × Heap)

def opt2 (x y : Option AV) (f : AV → AV → Option (AV × Heap)) : Option (AV × Heap) :=
  match x with
  | some a => match y with
    | some b => f a b
    | none => none
  | none => none

def on1 (x : Option AV) (f : AV → Option (AV × Heap)) : Option (AV × Heap) :=
  match x with
  | some a => f a
  | none => none

def pureR (h : Heap) : Option AV → Option (AV × Heap)
  | some v => some (v, h)
  | none => none

def pureB (h : Heap) (neg : Bool) : Option Bool → Option (AV × Heap)
  | some b => some (.bool (b != neg), h)
  | none => none

/-- the element of an array or of a struct's cells at a place -/
def partOf (cs : List AV) (off size : Nat) (agg : Bool) : Option AV :=
  bif agg then (bif decide (off + size ≤ cs.length) then some (.agg ((cs.drop off).take size)) else none) else cs[off]?

def capAfter (cap mo : Option Nat) (l : Nat) : Option Nat :=
  match mo with
  | some m => some (m - l)
  | none => match cap with
    | some c => some (c - l)
    | none => none

def sliceOf (size : Nat) (b off len : Nat) (cap : Option Nat) (z : Nat) (l hh : Nat) (m : Option Nat) : Option AV :=
  bif decide (l ≤ hh) && decide (hh ≤ len) && (match m with | some m => decide (hh ≤ m) && decide (m ≤ len) | none => true) && z.beq size && decide (0 < size) then
    some (.sl b (off + l * size) (hh - l) (capAfter cap m l) size)
  else none

def AOp.run (callF : CallF) (e : Env) (h : Heap) : AOp → Option (AV × Heap)
  | .mv x => pureR h (x.get e)
  | .same x => on1 (x.get e) fun v => match v with
    | .str s => some (.str s, h)
    | _ => none
  | .pick c a b => on1 (c.get e) fun v => match v with
    | .bool t => pureR h (bif t then a.get e else b.get e)
    | .symb t => pureR h (bif t then a.get e else b.get e)
    | _ => none
  | .un op x => on1 (x.get e) fun v => pureR h (unopM op v)
  | .bin op x y => opt2 (x.get e) (y.get e) fun a b => pureR h (binopM op a b)
  | .eqB neg x y => opt2 (x.get e) (y.get e) fun a b => pureR h (eqBM neg a b)
  | .eqN k neg x y => opt2 (x.get e) (y.get e) fun a b => pureB h neg (eqNil k a b)
  | .eqA ks neg x y => opt2 (x.get e) (y.get e) fun a b => pureR h (eqAM ks neg a b)
  | .convI k x => on1 (x.get e) fun v => pureR h (convM k v)
  | .nilck x => on1 (x.get e) fun v => match v with
    | .ptr b o => some (.ptr b o, h)
    | .fn f a c => some (.fn f a c, h)
    | _ => none
  | .faddr off x => on1 (x.get e) fun v => match v with
    | .ptr b o => some (.ptr b (o + off), h)
    | _ => none
  | .iaddrA ln size x i => opt2 (x.get e) (i.get e) fun v n => match v, n with
    | .ptr b o, .int _ n => bif decide (0 ≤ n) && decide (n < (ln : Int)) then some (.ptr b (o + n.toNat * size), h) else none
    | _, _ => none
  | .iaddrS size x i => opt2 (x.get e) (i.get e) fun v n => match v, n with
    | .sl b o ln _ _, .int _ n => bif decide (0 ≤ n) && decide (n < (ln : Int)) then some (.ptr b (o + n.toNat * size), h) else none
    | _, _ => none
  | .field off size agg x => on1 (x.get e) fun v => match v with
    | .agg cs => pureR h (partOf cs off size agg)
    | _ => none
  | .index ln size agg x i => opt2 (x.get e) (i.get e) fun v n => match v, n with
    | .agg cs, .int _ n => bif decide (0 ≤ n) && decide (n < (ln : Int)) then pureR h (partOf cs (n.toNat * size) size agg) else none
    | _, _ => none
  | .indexStr x i => opt2 (x.get e) (i.get e) fun v n => match v, n with
    | .str s, .int _ n => bif decide (0 ≤ n) then (match s[n.toNat]? with
      | some b => some (.int .u8 b.toNat, h)
      | none => none) else none
    | _, _ => none
  | .load n agg x => on1 (x.get e) fun v => match v with
    | .ptr b o => (match loadAt h b o n with
      | some cs => bif agg then some (.agg cs, h) else (match cs with
        | [c] => some (c, h)
        | _ => none)
      | none => none)
    | _ => none
  | .store n x v => opt2 (x.get e) (v.get e) fun a v => match a with
    | .ptr b o => bif decide (v.cells.length = n) then (match storeAt h b o v.cells with
      | some h' => some (.tup [], h')
      | none => none) else none
    | _ => none
  | .alloc zero => some (.ptr h.next 0, h.push zero)
  | .box x => on1 (x.get e) fun v => bif v.cells.all AV.one then some (.ptr h.next 0, h.push v.cells) else none
  | .build zero parts => match getParts e parts with
    | some ps => (match fillIn zero ps with
      | some cs => some (.agg cs, h)
      | none => none)
    | none => none
  | .buildSl size n zero parts => match getParts e parts with
    | some ps => (match fillIn (rep n zero) ps with
      | some cs => bif cs.all AV.one then some (.sl h.next 0 n none size, h.push cs) else none
      | none => none)
    | none => none
  | .mkSl size bytes zero ln cap => opt2 (ln.get e) (cap.get e) fun a b => match natOf a, natOf b with
    | some l, some c => bif decide (l ≤ c) && decide (bytes * c ≤ 140737488355328) && decide (c ≤ 140737488355328) && l.beq c then
        some (.sl h.next 0 l none size, h.push (rep l zero)) else none
    | _, _ => none
  | .sliceS size x lo hi mx => on1 (x.get e) fun v => match v with
    | .sl b off ln cap z => (match bound e 0 lo, bound e ln hi, mx with
      | some l, some hh, none => pureR h (sliceOf size b off ln cap z l hh none)
      | some l, some hh, some mo => (match bound e 0 (some mo) with
        | some m => pureR h (sliceOf size b off ln cap z l hh (some m))
        | none => none)
      | _, _, _ => none)
    | .nilsl => (match bound e 0 lo, bound e 0 hi, mx with
      | some 0, some 0, none => some (.nilsl, h)
      | some 0, some 0, some mo => (match bound e 0 (some mo) with
        | some 0 => some (.nilsl, h)
        | _ => none)
      | _, _, _ => none)
    | _ => none
  | .sliceStr x lo hi => on1 (x.get e) fun v => match v with
    | .str s => (match bound e 0 lo, bound e s.length hi with
      | some l, some hh => bif decide (l ≤ hh) && decide (hh ≤ s.length) then some (.str ((s.drop l).take (hh - l)), h) else none
      | _, _ => none)
    | _ => none
  | .sliceA n size x lo hi mx => on1 (x.get e) fun v => match v with
    | .ptr b off => bif (match h.get b with | some cs => decide (off + n * size ≤ cs.length) | none => false) then (match bound e 0 lo, bound e n hi, mx with
      | some l, some hh, none => bif decide (l ≤ hh) && decide (hh ≤ n) && decide (0 < size) then some (.sl b (off + l * size) (hh - l) (some (n - l)) size, h) else none
      | some l, some hh, some mo => (match bound e 0 (some mo) with
        | some m => bif decide (l ≤ hh) && decide (hh ≤ m) && decide (m ≤ n) && decide (0 < size) then some (.sl b (off + l * size) (hh - l) (some (m - l)) size, h) else none
        | none => none)
      | _, _, _ => none) else none
    | _ => none
  | .extract x k => on1 (x.get e) fun v => match v with
    | .tup vs => pureR h vs[k]?
    | _ => none
  | .call f args => match getAll e args with
    | some vs => callF f vs h
    | none => none
  | .callv x args => on1 (x.get e) fun v => match v with
    | .fn f first captured => (match getAll e args with
      | some vs => callF f (first ++ vs ++ captured) h
      | none => none)
    | _ => none
  | .len str x => on1 (x.get e) fun v => match str, v with
    | true, .str s => some (.int .i64 s.length, h)
    | false, .nilsl => some (.int .i64 0, h)
    | false, .sl _ _ n _ _ => some (.int .i64 n, h)
    | _, _ => none
  | .lenC n => some (.int .i64 n, h)
  | .append size bytes x y => opt2 (x.get e) (y.get e) fun a b => match cellsOf h size b, lenOf b with
    | some new, some n => bif new.all AV.one then appendTo h size bytes a new n else none
    | _, _ => none
  | .copy size x y => opt2 (x.get e) (y.get e) fun a b => match lenOf a, lenOf b with
    | some m, some n => (match cellsOf h size b with
      | some new => (match a with
        | .sl bb off _ _ _ => (match storeAt h bb off (new.take (min n m * size)) with
          | some h' => some (.int .i64 (min n m : Nat), h')
          | none => none)
        | .nilsl => some (.int .i64 0, h)
        | _ => none)
      | none => none)
    | _, _ => none
  | .minmax mx xs => match getAll e xs with
    | some (v :: vs) => pureR h (minmaxL mx v vs)
    | _ => none
  | .mkfn f first captured => match getAll e first, getAll e captured with
    | some a, some b => some (.fn f a b, h)
    | _, _ => none
  | .toStr x => on1 (x.get e) fun v => match v with
    | .str _ => none
    | v => (match cellsOf h 1 v with
      | some cs => (match strOfBytes cs with
        | some s => some (.str s, h)
        | none => none)
      | none => none)
  | .toBytes x => on1 (x.get e) fun v => match v with
    | .str s => bif decide (s.length ≤ 140737488355328) then some (.sl h.next 0 s.length none 1, h.push (bytesOfStr s)) else none
    | _ => none

/-! ### instructions, code -/
structure AIns where
  dst : Option Nat
  guard : Option (Nat × Bool)
  op : AOp

def putE (e : Env) (dst : Option Nat) (v : AV) : Env :=
  match dst with
  | some d => e.set (d + 1) d (some v)
  | none => e

def AIns.wanted (i : AIns) (e : Env) : Option Bool :=
  match i.guard with
  | none => some true
  | some (t, b) => match lk e t with
    | some (.bool x) => some (x == b)
    | some (.symb x) => some (x == b)
    | some _ => some false
    | none => none

def AIns.step (callF : CallF) (i : AIns) (e : Env) (h : Heap) : Option (Env × Heap) :=
  match i.wanted e with
  | some true => (match i.op.run callF e h with
    | some (v, h') => some (putE e i.dst v, h')
    | none => none)
  | some false => some (putE e i.dst (.tup []), h)
  | none => none

def runIns (callF : CallF) : List AIns → Env → Heap → Option (Env × Heap)
  | [], e, h => some (e, h)
  | i :: r, e, h => match i.step callF e h with
    | some (e', h') => runIns callF r e' h'
    | none => none

inductive ACode where
  | skip
  | region (ins : List AIns)
  | regionD (ins : List AIns) (conf : List Nat)
  | seq (a b : ACode)
  | cond (c : Opd) (a b : ACode)
  | block (id : Nat) (b : ACode)
  | loop (b : ACode)
  | exit (id : Nat)
  | ret

inductive AEx where
  | normal
  | exit (id : Nat)
  | ret

abbrev Out := Option (AEx × Env × Heap)

def loopN (body : Env → Heap → Out) : Nat → Env → Heap → Out
  | 0, _, _ => none
  | n + 1, e, h => match body e h with
    | some (.normal, e', h') => loopN body n e' h'
    | r => r

/-- were the blocks at these addresses there, and not written? -/
def okConf (e : Env) (n : Nat) (log : List Nat) : List Nat → Bool
  | [] => true
  | t :: r => (match lk e t with
    | some (.ptr b _) => Nat.blt b n && log.all (fun x => !(x.beq b))
    | _ => true) && okConf e n log r

def evC (callF : CallF) (fuel : Nat) : ACode → Env → Heap → Out
  | .skip, e, h => some (.normal, e, h)
  | .ret, e, h => some (.ret, e, h)
  | .exit id, e, h => some (.exit id, e, h)
  | .region ins, e, h => match runIns callF ins e h with
    | some (e', h') => some (.normal, e', h')
    | none => none
  | .regionD ins conf, e, h => match runIns callF ins e (h.withLog []) with
    | some (e', h') => bif okConf e' h.next h'.log conf then some (.normal, e', h'.withLog (h'.log ++ h.log)) else none
    | none => none
  | .seq a b, e, h => match evC callF fuel a e h with
    | some (.normal, e', h') => evC callF fuel b e' h'
    | r => r
  | .cond c a b, e, h => match c.get e with
    | some (.bool t) => bif t then evC callF fuel a e h else evC callF fuel b e h
    | some (.symb t) => bif t then evC callF fuel a e h else evC callF fuel b e h
    | _ => none
  | .block id b, e, h => match evC callF fuel b e h with
    | some (.exit id', e', h') => bif id'.beq id then some (.normal, e', h') else some (.exit id', e', h')
    | r => r
  | .loop b, e, h => loopN (fun e h => evC callF fuel b e h) fuel e h

/-- how a call is made: 0 in the caller's heap; 1 the heap may not be written and no address comes back: the heap is as it was;
    2 the same in an empty heap; 3 like 1, but a slice of its own comes back, of elements of so many cells -/
structure AFunc where
  mode : Nat
  size : Nat
  results : List (Nat × Option (Nat × Bool))
  body : ACode

def params : Nat → List AV → Env
  | _, [] => .nil
  | n, v :: r => (params (n + 1) r).set (n + 1) n (some v)

def resOf (e : Env) (h : Heap) : List (Nat × Option (Nat × Bool)) → Option (List AV)
  | [] => some []
  | (t, c) :: r => match lk e t with
    | some v => (match (match c with
        | none => some v
        | some (n, agg) => (match v with
          | .ptr b o => (match loadAt h b o n with
            | some cs => bif agg then some (.agg cs) else (match cs with
              | [c] => some c
              | _ => none)
            | none => none)
          | _ => none)) with
      | some v => (match resOf e h r with
        | some vs => some (v :: vs)
        | none => none)
      | none => none)
    | none => none

def single : List AV → AV
  | [v] => v
  | vs => .tup vs

def evBody (callF : CallF) (fuel : Nat) (F : AFunc) (args : List AV) (h : Heap) : Option (AV × Heap) :=
  match evC callF fuel F.body (params 0 args) h with
  | some (.normal, e, h') => (match resOf e h' F.results with
    | some vs => some (single vs, h')
    | none => none)
  | some (.ret, e, h') => (match resOf e h' F.results with
    | some vs => some (single vs, h')
    | none => none)
  | _ => none

def newSl (h : Heap) (size : Nat) (h' : Heap) : AV → Option (AV × Heap)
  | .nilsl => some (.nilsl, h)
  | .sl b off len none z => bif decide (h.next ≤ b) && z.beq size then (match loadAt h' b off (len * size) with
    | some cs => bif cs.all AV.scalar then some (.sl h.next 0 len none size, h.push cs) else none
    | none => none) else none
  | _ => none

/-- a call of a function of the table, where nothing is said of it -/
def evT (T : Nat → Option AFunc) (callF : CallF) (n f : Nat) (args : List AV) (h : Heap) : Option (AV × Heap) :=
  match T f with
  | none => none
  | some F => match F.mode with
    | 0 => evBody callF n F args h
    | 1 => (match evBody callF n F args h.frz with
      | some (v, _) => bif v.free then some (v, h) else none
      | none => none)
    | 2 => bif args.all AV.free then (match evBody callF n F args Heap.empty with
      | some (v, _) => bif v.free then some (v, h) else none
      | none => none) else none
    | 3 => (match evBody callF n F args h.frz with
      | some (v, h') => newSl h F.size h' v
      | none => none)
    | _ => none

/-- the functions, and what is known already of calls (they leave the heap) -/
structure Tab where
  fn : Nat → Option AFunc
  sp : Nat → List AV → Option AV

def evF (T : Tab) : Nat → Nat → List AV → Heap → Option (AV × Heap)
  | 0, _, _, _ => none
  | n + 1, f, args, h => match T.sp f args with
    | some v => some (v, h)
    | none => evT T.fn (evF T n) n f args h

end Go.Ev
