/- The abstract evaluator: values, heap, operations, code. Definitions alone; nothing is claimed here. -/
import Derived.Calls
import Derived.Orders
import Derived.Scope
import Derived.Below
import Derived.Laws.Entries
import Derived.Laws.Cells
import Derived.Laws.World
import Derived.Laws.Tables
import Derived.Laws.Strings
import Derived.Laws.Concat
import Derived.ChangeKeysEq
namespace Go.Ev

/-- abstract values: addresses are numbers of abstract blocks; a slice's capacity is known only where it was cut -/
inductive AV where
  | bool (b : Bool)
  | int (k : IntKind) (n : Int)
  | float (k : FloatKind) (n : Nat)
  | str (s : List UInt8)
  | nilptr
  | ptr (b off : Nat)
  | nilsl
  | sl (b off len : Nat) (cap : Option Nat) (size : Nat)
  | agg (cs : List AV)
  | tup (vs : List AV)
  | nilfn
  | fn (f : Nat) (first captured : List AV)
  | niliface
  | iface (t : Nat) (v : AV)
  | ifaceX
  | yv (b : Nat)
  | sym (k : IntKind) (n : Int) (lo hi : Option Int)
  | symb (b : Bool)
  | syms (s : List UInt8)

/-- 'yv' is what a range over a function hands its function; 'ifaceX' is an interface value that is not nil, of which nothing else is known; 'sym', 'symb', 'syms' are an integer (with bounds, if they are known), a bool, a string whose value is open: what is computed of them stays marked, so that a test of them is seen -/
def AV.plain : AV → AV
  | .sym k n _ _ => .int k n
  | .symb b => .bool b
  | .syms s => .str s
  | v => v

def AV.marked : AV → Bool
  | .sym _ _ _ _ | .symb _ | .syms _ => true
  | _ => false

def AV.mark (m : Bool) (v : AV) : AV := bif m then (match v with
  | .int k n => .sym k n none none
  | .bool b => .symb b
  | .str s => .syms s
  | v => v) else v

instance : Inhabited AV := ⟨.tup []⟩

/-- the cells of a value -/
def AV.cells : AV → List AV
  | .agg cs => cs
  | v => [v]

/-- a value of one cell -/
def AV.one : AV → Bool
  | .agg _ => false
  | .tup _ => false
  | _ => true

/-- no address inside -/
def AV.scalar : AV → Bool
  | .bool _ | .int _ _ | .float _ _ | .str _ | .nilptr | .nilsl | .nilfn | .niliface | .ifaceX | .sym _ _ _ _ | .symb _ | .syms _ => true
  | _ => false

def AV.free : AV → Bool
  | .agg cs => cs.all AV.scalar
  | .tup vs => vs.all fun v => match v with
    | .agg cs => cs.all AV.scalar
    | v => v.scalar
  | .fn _ first captured => first.all AV.scalar && captured.all AV.scalar
  | v => v.scalar

/-! ### the heap, the registers: trees by the bits of the number -/
inductive Tr (α : Type) where
  | nil
  | nd (v : Option α) (l r : Tr α)

def Tr.get {α : Type} : Tr α → Nat → Option α
  | .nil, _ => none
  | .nd v l r, k => bif k.beq 0 then v else bif (Nat.mod k 2).beq 1 then l.get (Nat.div k 2) else r.get (Nat.sub (Nat.div k 2) 1)

def Tr.set {α : Type} : Nat → Tr α → Nat → Option α → Tr α
  | 0, t, _, _ => t
  | f + 1, .nil, k, x => bif k.beq 0 then .nd x .nil .nil else
    bif (Nat.mod k 2).beq 1 then .nd none (Tr.set f .nil (Nat.div k 2) x) .nil else .nd none .nil (Tr.set f .nil (Nat.sub (Nat.div k 2) 1) x)
  | f + 1, .nd v l r, k, x => bif k.beq 0 then .nd x l r else
    bif (Nat.mod k 2).beq 1 then .nd v (Tr.set f l (Nat.div k 2) x) r else .nd v l (Tr.set f r (Nat.sub (Nat.div k 2) 1) x)

/-- a block's number: even ones for blocks without a kind; odd ones for the kinds 0 to 7, each of which counts its own -/
def nbS (n : Nat) : Nat := Nat.mul 2 n
def nbA (a i : Nat) : Nat := Nat.add (Nat.mul 2 (Nat.add (Nat.mul 8 i) a)) 1
def bIdx (b : Nat) : Nat := bif (Nat.mod b 2).beq 0 then Nat.div b 2 else Nat.div b 16
def bKind (b : Nat) : Nat := Nat.mod (Nat.div b 2) 8

def cntOf (t : Tr Nat) (a : Nat) : Nat := match t.get a with
  | some n => n
  | none => 0

/-- the heap: how many blocks there are without a kind, and how many of these may not be written; the same of each kind; the blocks; which were written -/
structure Heap where
  next : Nat
  ro : Nat
  an : Tr Nat
  aro : Tr Nat
  tr : Tr (List AV)
  log : List Nat

def Heap.empty : Heap := ⟨0, 0, .nil, .nil, .nil, []⟩
def Heap.get (h : Heap) (b : Nat) : Option (List AV) := h.tr.get b
/-- is there a block of this number (or was there)? may it be written? -/
def Heap.has (h : Heap) (b : Nat) : Bool := Nat.blt (bIdx b) (bif (Nat.mod b 2).beq 0 then h.next else cntOf h.an (bKind b))
def Heap.wr (h : Heap) (b : Nat) : Bool := Nat.ble (bif (Nat.mod b 2).beq 0 then h.ro else cntOf h.aro (bKind b)) (bIdx b)
/-- the next one's number -/
def Heap.nb (h : Heap) : Nat := nbS h.next
def Heap.na (h : Heap) (a : Nat) : Nat := nbA a (cntOf h.an a)
def Heap.setTo (h : Heap) (b : Nat) (x : Option (List AV)) : Heap := ⟨h.next, h.ro, h.an, h.aro, h.tr.set (b + 1) b x, b :: h.log⟩
def Heap.push (h : Heap) (cs : List AV) : Heap := ⟨h.next + 1, h.ro, h.an, h.aro, h.tr.set (h.nb + 1) h.nb (some cs), h.log⟩
def Heap.pushA (h : Heap) (a : Nat) (cs : List AV) : Heap := ⟨h.next, h.ro, h.an.set (a + 1) a (some (cntOf h.an a + 1)), h.aro, h.tr.set (h.na a + 1) (h.na a) (some cs), h.log⟩
def Heap.frz (h : Heap) : Heap := ⟨h.next, h.next, h.an, h.an, h.tr, h.log⟩
def Heap.withLog (h : Heap) (l : List Nat) : Heap := ⟨h.next, h.ro, h.an, h.aro, h.tr, l⟩

/-! ### operands and registers -/
abbrev Env := Tr AV

def lk (e : Env) (k : Nat) : Option AV := e.get k

inductive Opd where
  | t (n : Nat)
  | c (v : AV)

def Opd.get (e : Env) : Opd → Option AV
  | .t n => lk e n
  | .c v => some v

def getAll (e : Env) : List Opd → Option (List AV)
  | [] => some []
  | x :: r => match x.get e with
    | some v => match getAll e r with
      | some vs => some (v :: vs)
      | none => none
    | none => none

/-! ### operations -/
inductive AOp where
  | mv (x : Opd)
  | pick (c a b : Opd)
  | un (op : UnOp) (x : Opd)
  | bin (op : BinOp) (x y : Opd)
  | eqB (neg : Bool) (x y : Opd)
  | eqN (kind : Nat) (neg : Bool) (x y : Opd)
  | eqA (ks : List Nat) (neg : Bool) (x y : Opd)
  | convI (k : IntKind) (x : Opd)
  | same (x : Opd)
  | nilck (x : Opd)
  | faddr (off : Nat) (x : Opd)
  | iaddrA (len size : Nat) (x i : Opd)
  | iaddrS (size : Nat) (x i : Opd)
  | field (off size : Nat) (agg : Bool) (x : Opd)
  | index (len size : Nat) (agg : Bool) (x i : Opd)
  | indexStr (x i : Opd)
  | load (n : Nat) (agg : Bool) (x : Opd)
  | store (n : Nat) (x v : Opd)
  | alloc (zero : List AV)
  | box (x : Opd)
  | build (zero : List AV) (parts : List (Nat × Nat × Opd))
  | buildSl (size n : Nat) (zero : List AV) (parts : List (Nat × Nat × Opd))
  | mkSl (size bytes : Nat) (zero : List AV) (len cap : Opd)
  | sliceS (size : Nat) (x : Opd) (lo hi mx : Option Opd)
  | sliceStr (x : Opd) (lo hi : Option Opd)
  | sliceA (n size : Nat) (x : Opd) (lo hi mx : Option Opd)
  | extract (x : Opd) (k : Nat)
  | call (f : Nat) (args : List Opd)
  | callv (x : Opd) (args : List Opd)
  | len (str : Bool) (x : Opd)
  | lenC (n : Nat)
  | append (size bytes : Nat) (x y : Opd)
  | copy (size : Nat) (x y : Opd)
  | minmax (mx : Bool) (xs : List Opd)
  | mkfn (f : Nat) (first captured : List Opd)
  | toStr (x : Opd)
  | toBytes (x : Opd)

def two (n : Nat) : Int := (2 ^ n : Nat)

/-- operators on two integers or two strings -/
def binop (op : BinOp) : AV → AV → Option AV
  | .int k a, .int k' b =>
    match op with
    | .shl => bif decide (b < 0) then none else some (.int k (k.wrap (a * 2 ^ (min b.toNat k.bits))))
    | .shr => bif decide (b < 0) then none else some (.int k (a.fdiv (2 ^ (min b.toNat k.bits))))
    | _ => bif decide (k ≠ k') then none else
      match op with
      | .add => some (.int k (k.wrap (a + b)))
      | .sub => some (.int k (k.wrap (a - b)))
      | .mul => some (.int k (k.wrap (a * b)))
      | .quo => bif decide (b = 0) then none else some (.int k (k.wrap (a.tdiv b)))
      | .rem => bif decide (b = 0) then none else some (.int k (a.tmod b))
      | .and => some (.int k (bits .and k a b))
      | .or => some (.int k (bits .or k a b))
      | .xor => some (.int k (bits .xor k a b))
      | .andNot => some (.int k (bits .andNot k a b))
      | .eql => some (.bool (a == b))
      | .neq => some (.bool (a != b))
      | .lss => some (.bool (decide (a < b)))
      | .leq => some (.bool (decide (a ≤ b)))
      | .gtr => some (.bool (decide (a > b)))
      | .geq => some (.bool (decide (a ≥ b)))
      | _ => none
  | .str a, .str b =>
    match op with
    | .add => bif decide (a.length + b.length ≤ 9223372036854775807) then some (.str (a ++ b)) else none
    | .eql => some (.bool (a == b))
    | .neq => some (.bool (!(a == b)))
    | .lss => some (.bool (Op.bytesLess a b))
    | .leq => some (.bool (Op.bytesLess a b || a == b))
    | .gtr => some (.bool (!(Op.bytesLess a b || a == b)))
    | .geq => some (.bool (!(Op.bytesLess a b)))
    | _ => none
  | _, _ => none

def unop (op : UnOp) : AV → Option AV
  | .int k n => match op with
    | .neg => some (.int k (k.wrap (0 - n)))
    | .xor => some (.int k (bits .xor k (if k.signed then -1 else k.max) n))
    | _ => none
  | .bool b => match op with
    | .not => some (.bool !b)
    | _ => none
  | _ => none

abbrev Rng := Option Int × Option Int

def AV.rng : AV → Rng
  | .int _ n => (some n, some n)
  | .sym _ _ lo hi => (lo, hi)
  | _ => (none, none)

def optLt (a b : Option Int) : Bool := match a, b with
  | some a, some b => decide (a < b)
  | _, _ => false

def optLe (a b : Option Int) : Bool := match a, b with
  | some a, some b => decide (a ≤ b)
  | _, _ => false

/-- does a bound tell a comparison's outcome? -/
def cmpOf (op : BinOp) (x y : Rng) : Option Bool :=
  match op with
  | .lss => bif optLt x.2 y.1 then some true else bif optLe y.2 x.1 then some false else none
  | .leq => bif optLe x.2 y.1 then some true else bif optLt y.2 x.1 then some false else none
  | .gtr => bif optLt y.2 x.1 then some true else bif optLe x.2 y.1 then some false else none
  | .geq => bif optLe y.2 x.1 then some true else bif optLt x.2 y.1 then some false else none
  | .eql => bif optLt x.2 y.1 || optLt y.2 x.1 then some false else bif optLe x.2 y.1 && optLe y.2 x.1 then some true else none
  | .neq => bif optLt x.2 y.1 || optLt y.2 x.1 then some true else bif optLe x.2 y.1 && optLe y.2 x.1 then some false else none
  | _ => none

def fitRng (k : IntKind) (lo hi : Int) : Rng := bif decide (k.min ≤ lo) && decide (hi ≤ k.max) then (some lo, some hi) else (none, none)

/-- bounds of a result -/
def rngOf (op : BinOp) (k : IntKind) (x y : Rng) : Rng :=
  match op, x, y with
  | .add, (some a, some b), (some c, some d) => fitRng k (a + c) (b + d)
  | .sub, (some a, some b), (some c, some d) => fitRng k (a - d) (b - c)
  | .rem, (some a, _), (some c, some d) => bif decide (0 ≤ a) && decide (c = d) && decide (0 < c) then (some 0, some (c - 1)) else (none, none)
  | _, _, _ => (none, none)

def tell (op : BinOp) (v : AV) (x y : Rng) : AV :=
  match v with
  | .int k n => .sym k n (rngOf op k x y).1 (rngOf op k x y).2
  | .bool b => (match cmpOf op x y with
    | some t => .bool t
    | none => .symb b)
  | .str s => .syms s
  | v => v

def binopM (op : BinOp) (x y : AV) : Option AV :=
  match binop op x.plain y.plain with
  | some v => some (bif x.marked || y.marked then tell op v x.rng y.rng else v)
  | none => none

def convRng (k : IntKind) : Rng → Rng
  | (some a, some b) => fitRng k a b
  | _ => (none, none)

def unopM (op : UnOp) (x : AV) : Option AV :=
  match unop op x.plain with
  | some v => some (v.mark x.marked)
  | none => none

/-- is it nil? of pointers (0), slices (1), functions (2), interface values (3) -/
def nilOf : Nat → AV → Option Bool
  | 0, .nilptr => some true
  | 0, .ptr _ _ => some false
  | 1, .nilsl => some true
  | 1, .sl _ _ _ _ _ => some false
  | 2, .nilfn => some true
  | 2, .fn _ _ _ => some false
  | 3, .niliface => some true
  | 3, .iface _ _ => some false
  | 3, .ifaceX => some false
  | _, _ => none

def eqNil (k : Nat) (x y : AV) : Option Bool :=
  match nilOf k x, nilOf k y with
  | some true, some b => some b
  | some false, some true => some false
  | _, _ => none

/-- cells of bools (0), integers (1), strings (2) -/
def eqCell : Nat → AV → AV → Option Bool
  | 0, .bool a, .bool b => some (a == b)
  | 1, .int k a, .int k' b => bif decide (k = k') then some (a == b) else none
  | 2, .str a, .str b => some (a == b)
  | _, _, _ => none

def eqCells : List Nat → List AV → List AV → Option Bool
  | [], [], [] => some true
  | k :: ks, x :: xs, y :: ys => match eqCell k x y with
    | some true => eqCells ks xs ys
    | some false => some false
    | none => none
  | _, _, _ => none

/-- the same, all cells looked at -/
def eqCellsS : List Nat → List AV → List AV → Option Bool
  | [], [], [] => some true
  | k :: ks, x :: xs, y :: ys => match eqCell k x.plain y.plain with
    | some a => match eqCellsS ks xs ys with
      | some b => some (a && b)
      | none => none
    | none => none
  | _, _, _ => none

def eqBM (neg : Bool) (a b : AV) : Option AV :=
  match a.plain, b.plain with
  | .bool p, .bool q => some ((AV.bool ((p == q) != neg)).mark (a.marked || b.marked))
  | _, _ => none

def eqAM (ks : List Nat) (neg : Bool) (a b : AV) : Option AV :=
  match a, b with
  | .agg p, .agg q => bif p.length.beq ks.length && q.length.beq ks.length then (match eqCellsS ks p q with
    | some t => some ((AV.bool (t != neg)).mark (p.any AV.marked || q.any AV.marked))
    | none => none) else none
  | _, _ => none

def convM (k : IntKind) (v : AV) : Option AV :=
  match v.plain with
  | .int _ n => some (bif v.marked then .sym k (k.wrap n) (convRng k v.rng).1 (convRng k v.rng).2 else .int k (k.wrap n))
  | _ => none

/-- parts laid into cells -/
def fillIn (cells : List AV) : List (Nat × Nat × AV) → Option (List AV)
  | [] => some cells
  | (off, size, v) :: rest =>
    bif decide (v.cells.length = size) && decide (off + size ≤ cells.length) then
      fillIn (cells.take off ++ (v.cells ++ cells.drop (off + size))) rest
    else none

def getParts (e : Env) : List (Nat × Nat × Opd) → Option (List (Nat × Nat × AV))
  | [] => some []
  | (a, b, x) :: r => match x.get e with
    | some v => match getParts e r with
      | some vs => some ((a, b, v) :: vs)
      | none => none
    | none => none

def rep (n : Nat) (l : List AV) : List AV := match n with
  | 0 => []
  | n + 1 => l ++ rep n l

def natOf : AV → Option Nat
  | .int _ n => bif decide (0 ≤ n) then some n.toNat else none
  | _ => none

/-- a bound of a slice expression: the one given, or the one that holds without -/
def bound (e : Env) (d : Nat) : Option Opd → Option Nat
  | none => some d
  | some x => match x.get e with
    | some v => natOf v
    | none => none

def loadAt (h : Heap) (b off n : Nat) : Option (List AV) :=
  match h.get b with
  | some cs => bif decide (off + n ≤ cs.length) then some ((cs.drop off).take n) else none
  | none => none

def storeAt (h : Heap) (b off : Nat) (vs : List AV) : Option Heap :=
  bif h.wr b && vs.all AV.one then
    match h.get b with
    | some cs => bif decide (off + vs.length ≤ cs.length) then some (h.setTo b (some (cs.take off ++ (vs ++ cs.drop (off + vs.length))))) else none
    | none => none
  else none

def bytesOfStr (s : List UInt8) : List AV := s.map fun b => .int .u8 b.toNat

def strOfBytes : List AV → Option (List UInt8)
  | [] => some []
  | .int .u8 n :: r => match strOfBytes r with
    | some s => some (UInt8.ofNat n.toNat :: s)
    | none => none
  | _ => none

/-- the cells that a slice (or a string) has -/
def cellsOf (h : Heap) (size : Nat) : AV → Option (List AV)
  | .nilsl => some []
  | .sl b off len _ _ => loadAt h b off (len * size)
  | .str s => bif size.beq 1 then some (bytesOfStr s) else none
  | _ => none

def minmax2 (mx : Bool) : AV → AV → Option AV
  | .int k a, .int _ b => some (.int k (bif mx then (if b > a then b else a) else (if b < a then b else a)))
  | _, _ => none

def minmaxL (mx : Bool) : AV → List AV → Option AV
  | x, [] => some x
  | x, y :: r => match minmax2 mx x.plain y.plain with
    | some z => minmaxL mx (z.mark (x.marked || y.marked)) r
    | none => none

def appendTo (h : Heap) (size bytes : Nat) (x : AV) (new : List AV) (n : Nat) : Option (AV × Heap) :=
  match x with
  | .nilsl =>
    bif n.beq 0 then some (.nilsl, h) else
    bif decide (n * bytes ≤ 140737488355328) then some (.sl h.nb 0 n none size, h.push new) else none
  | .sl b off len cap z =>
    bif n.beq 0 then some (x, h) else
    bif decide ((len + n) * bytes ≤ 140737488355328) && z.beq size then
      match loadAt h b off (len * size), cap with
      | some old, some m =>
        bif decide (m ≤ len) && decide (m * bytes ≤ 140737488355328) then some (.sl h.nb 0 (len + n) none size, h.push (old ++ new))
        else none
      | some old, none =>
        bif h.wr b then some (.sl h.nb 0 (len + n) none size, (h.setTo b none).push (old ++ new)) else none
      | none, _ => none
    else none
  | _ => none

def lenOf : AV → Option Nat
  | .nilsl => some 0
  | .sl _ _ n _ _ => some n
  | .str s => some s.length
  | _ => none

abbrev CallF := Nat → List AV → Heap → Option (AV × Heap)

def opt2 (x y : Option AV) (f : AV → AV → Option (AV × Heap)) : Option (AV × Heap) :=
  match x with
  | some a => match y with
    | some b => f a b
    | none => none
  | none => none

def on1 (x : Option AV) (f : AV → Option (AV × Heap)) : Option (AV × Heap) :=
  match x with
  | some a => f a
  | none => none

def pureR (h : Heap) : Option AV → Option (AV × Heap)
  | some v => some (v, h)
  | none => none

def pureB (h : Heap) (neg : Bool) : Option Bool → Option (AV × Heap)
  | some b => some (.bool (b != neg), h)
  | none => none

/-- the element of an array or of a struct's cells at a place -/
def partOf (cs : List AV) (off size : Nat) (agg : Bool) : Option AV :=
  bif agg then (bif decide (off + size ≤ cs.length) then some (.agg ((cs.drop off).take size)) else none) else cs[off]?

def capAfter (cap mo : Option Nat) (l : Nat) : Option Nat :=
  match mo with
  | some m => some (m - l)
  | none => match cap with
    | some c => some (c - l)
    | none => none

def sliceOf (size : Nat) (b off len : Nat) (cap : Option Nat) (z : Nat) (l hh : Nat) (m : Option Nat) : Option AV :=
  bif decide (l ≤ hh) && decide (hh ≤ len) && (match m with | some m => decide (hh ≤ m) && decide (m ≤ len) | none => true) && z.beq size && decide (0 < size) then
    some (.sl b (off + l * size) (hh - l) (capAfter cap m l) size)
  else none

def AOp.run (callF : CallF) (e : Env) (h : Heap) : AOp → Option (AV × Heap)
  | .mv x => pureR h (x.get e)
  | .same x => on1 (x.get e) fun v => match v with
    | .str s => some (.str s, h)
    | _ => none
  | .pick c a b => on1 (c.get e) fun v => match v with
    | .bool t => pureR h (bif t then a.get e else b.get e)
    | .symb t => pureR h (bif t then a.get e else b.get e)
    | _ => none
  | .un op x => on1 (x.get e) fun v => pureR h (unopM op v)
  | .bin op x y => opt2 (x.get e) (y.get e) fun a b => pureR h (binopM op a b)
  | .eqB neg x y => opt2 (x.get e) (y.get e) fun a b => pureR h (eqBM neg a b)
  | .eqN k neg x y => opt2 (x.get e) (y.get e) fun a b => pureB h neg (eqNil k a b)
  | .eqA ks neg x y => opt2 (x.get e) (y.get e) fun a b => pureR h (eqAM ks neg a b)
  | .convI k x => on1 (x.get e) fun v => pureR h (convM k v)
  | .nilck x => on1 (x.get e) fun v => match v with
    | .ptr b o => some (.ptr b o, h)
    | .fn f a c => some (.fn f a c, h)
    | _ => none
  | .faddr off x => on1 (x.get e) fun v => match v with
    | .ptr b o => some (.ptr b (o + off), h)
    | _ => none
  | .iaddrA ln size x i => opt2 (x.get e) (i.get e) fun v n => match v, n with
    | .ptr b o, .int _ n => bif decide (0 ≤ n) && decide (n < (ln : Int)) then some (.ptr b (o + n.toNat * size), h) else none
    | _, _ => none
  | .iaddrS size x i => opt2 (x.get e) (i.get e) fun v n => match v, n with
    | .sl b o ln _ _, .int _ n => bif decide (0 ≤ n) && decide (n < (ln : Int)) then some (.ptr b (o + n.toNat * size), h) else none
    | _, _ => none
  | .field off size agg x => on1 (x.get e) fun v => match v with
    | .agg cs => pureR h (partOf cs off size agg)
    | _ => none
  | .index ln size agg x i => opt2 (x.get e) (i.get e) fun v n => match v, n with
    | .agg cs, .int _ n => bif decide (0 ≤ n) && decide (n < (ln : Int)) then pureR h (partOf cs (n.toNat * size) size agg) else none
    | _, _ => none
  | .indexStr x i => opt2 (x.get e) (i.get e) fun v n => match v, n with
    | .str s, .int _ n => bif decide (0 ≤ n) then (match s[n.toNat]? with
      | some b => some (.int .u8 b.toNat, h)
      | none => none) else none
    | _, _ => none
  | .load n agg x => on1 (x.get e) fun v => match v with
    | .ptr b o => (match loadAt h b o n with
      | some cs => bif agg then some (.agg cs, h) else (match cs with
        | [c] => some (c, h)
        | _ => none)
      | none => none)
    | _ => none
  | .store n x v => opt2 (x.get e) (v.get e) fun a v => match a with
    | .ptr b o => bif decide (v.cells.length = n) then (match storeAt h b o v.cells with
      | some h' => some (.tup [], h')
      | none => none) else none
    | _ => none
  | .alloc zero => some (.ptr h.nb 0, h.push zero)
  | .box x => on1 (x.get e) fun v => bif v.cells.all AV.one then some (.ptr h.nb 0, h.push v.cells) else none
  | .build zero parts => match getParts e parts with
    | some ps => (match fillIn zero ps with
      | some cs => some (.agg cs, h)
      | none => none)
    | none => none
  | .buildSl size n zero parts => match getParts e parts with
    | some ps => (match fillIn (rep n zero) ps with
      | some cs => bif cs.all AV.one then some (.sl h.nb 0 n none size, h.push cs) else none
      | none => none)
    | none => none
  | .mkSl size bytes zero ln cap => opt2 (ln.get e) (cap.get e) fun a b => match natOf a, natOf b with
    | some l, some c => bif decide (l ≤ c) && decide (bytes * c ≤ 140737488355328) && decide (c ≤ 140737488355328) && l.beq c then
        some (.sl h.nb 0 l none size, h.push (rep l zero)) else none
    | _, _ => none
  | .sliceS size x lo hi mx => on1 (x.get e) fun v => match v with
    | .sl b off ln cap z => (match bound e 0 lo, bound e ln hi, mx with
      | some l, some hh, none => pureR h (sliceOf size b off ln cap z l hh none)
      | some l, some hh, some mo => (match bound e 0 (some mo) with
        | some m => pureR h (sliceOf size b off ln cap z l hh (some m))
        | none => none)
      | _, _, _ => none)
    | .nilsl => (match bound e 0 lo, bound e 0 hi, mx with
      | some 0, some 0, none => some (.nilsl, h)
      | some 0, some 0, some mo => (match bound e 0 (some mo) with
        | some 0 => some (.nilsl, h)
        | _ => none)
      | _, _, _ => none)
    | _ => none
  | .sliceStr x lo hi => on1 (x.get e) fun v => match v with
    | .str s => (match bound e 0 lo, bound e s.length hi with
      | some l, some hh => bif decide (l ≤ hh) && decide (hh ≤ s.length) then some (.str ((s.drop l).take (hh - l)), h) else none
      | _, _ => none)
    | _ => none
  | .sliceA n size x lo hi mx => on1 (x.get e) fun v => match v with
    | .ptr b off => bif (match h.get b with | some cs => decide (off + n * size ≤ cs.length) | none => false) then (match bound e 0 lo, bound e n hi, mx with
      | some l, some hh, none => bif decide (l ≤ hh) && decide (hh ≤ n) && decide (0 < size) then some (.sl b (off + l * size) (hh - l) (some (n - l)) size, h) else none
      | some l, some hh, some mo => (match bound e 0 (some mo) with
        | some m => bif decide (l ≤ hh) && decide (hh ≤ m) && decide (m ≤ n) && decide (0 < size) then some (.sl b (off + l * size) (hh - l) (some (m - l)) size, h) else none
        | none => none)
      | _, _, _ => none) else none
    | _ => none
  | .extract x k => on1 (x.get e) fun v => match v with
    | .tup vs => pureR h vs[k]?
    | _ => none
  | .call f args => match getAll e args with
    | some vs => callF f vs h
    | none => none
  | .callv x args => on1 (x.get e) fun v => match v with
    | .fn f first captured => (match getAll e args with
      | some vs => callF f (first ++ vs ++ captured) h
      | none => none)
    | _ => none
  | .len str x => on1 (x.get e) fun v => match str, v with
    | true, .str s => some (.int .i64 s.length, h)
    | false, .nilsl => some (.int .i64 0, h)
    | false, .sl _ _ n _ _ => some (.int .i64 n, h)
    | _, _ => none
  | .lenC n => some (.int .i64 n, h)
  | .append size bytes x y => opt2 (x.get e) (y.get e) fun a b => match cellsOf h size b, lenOf b with
    | some new, some n => bif new.all AV.one then appendTo h size bytes a new n else none
    | _, _ => none
  | .copy size x y => opt2 (x.get e) (y.get e) fun a b => match lenOf a, lenOf b with
    | some m, some n => (match cellsOf h size b with
      | some new => (match a with
        | .sl bb off _ _ _ => (match storeAt h bb off (new.take (min n m * size)) with
          | some h' => some (.int .i64 (min n m : Nat), h')
          | none => none)
        | .nilsl => some (.int .i64 0, h)
        | _ => none)
      | none => none)
    | _, _ => none
  | .minmax mx xs => match getAll e xs with
    | some (v :: vs) => pureR h (minmaxL mx v vs)
    | _ => none
  | .mkfn f first captured => match getAll e first, getAll e captured with
    | some a, some b => some (.fn f a b, h)
    | _, _ => none
  | .toStr x => on1 (x.get e) fun v => match v with
    | .str _ => none
    | v => (match cellsOf h 1 v with
      | some cs => (match strOfBytes cs with
        | some s => some (.str s, h)
        | none => none)
      | none => none)
  | .toBytes x => on1 (x.get e) fun v => match v with
    | .str s => bif decide (s.length ≤ 140737488355328) then some (.sl h.nb 0 s.length none 1, h.push (bytesOfStr s)) else none
    | _ => none

/-! ### instructions, code -/
structure AIns where
  dst : Option Nat
  guard : Option (Nat × Bool)
  op : AOp

def putE (e : Env) (dst : Option Nat) (v : AV) : Env :=
  match dst with
  | some d => e.set (d + 1) d (some v)
  | none => e

def AIns.wanted (i : AIns) (e : Env) : Option Bool :=
  match i.guard with
  | none => some true
  | some (t, b) => match lk e t with
    | some (.bool x) => some (x == b)
    | some (.symb x) => some (x == b)
    | some _ => some false
    | none => none

def AIns.step (callF : CallF) (i : AIns) (e : Env) (h : Heap) : Option (Env × Heap) :=
  match i.wanted e with
  | some true => (match i.op.run callF e h with
    | some (v, h') => some (putE e i.dst v, h')
    | none => none)
  | some false => some (putE e i.dst (.tup []), h)
  | none => none

def runIns (callF : CallF) : List AIns → Env → Heap → Option (Env × Heap)
  | [], e, h => some (e, h)
  | i :: r, e, h => match i.step callF e h with
    | some (e', h') => runIns callF r e' h'
    | none => none

inductive ACode where
  | skip
  | region (ins : List AIns)
  | regionD (ins : List AIns) (conf : List Nat)
  | seq (a b : ACode)
  | cond (c : Opd) (a b : ACode)
  | block (id : Nat) (b : ACode)
  | loop (b : ACode)
  | exit (id : Nat)
  | ret

inductive AEx where
  | normal
  | exit (id : Nat)
  | ret

abbrev Out := Option (AEx × Env × Heap)

def loopN (body : Env → Heap → Out) : Nat → Env → Heap → Out
  | 0, _, _ => none
  | n + 1, e, h => match body e h with
    | some (.normal, e', h') => loopN body n e' h'
    | r => r

/-- were the blocks at these addresses there, and not written? -/
def okConf (e : Env) (h : Heap) (log : List Nat) : List Nat → Bool
  | [] => true
  | t :: r => (match lk e t with
    | some (.ptr b _) => h.has b && log.all (fun x => !(x.beq b))
    | _ => true) && okConf e h log r

def evC (callF : CallF) (fuel : Nat) : ACode → Env → Heap → Out
  | .skip, e, h => some (.normal, e, h)
  | .ret, e, h => some (.ret, e, h)
  | .exit id, e, h => some (.exit id, e, h)
  | .region ins, e, h => match runIns callF ins e h with
    | some (e', h') => some (.normal, e', h')
    | none => none
  | .regionD ins conf, e, h => match runIns callF ins e (h.withLog []) with
    | some (e', h') => bif okConf e' h h'.log conf then some (.normal, e', h'.withLog (h'.log ++ h.log)) else none
    | none => none
  | .seq a b, e, h => match evC callF fuel a e h with
    | some (.normal, e', h') => evC callF fuel b e' h'
    | r => r
  | .cond c a b, e, h => match c.get e with
    | some (.bool t) => bif t then evC callF fuel a e h else evC callF fuel b e h
    | some (.symb t) => bif t then evC callF fuel a e h else evC callF fuel b e h
    | _ => none
  | .block id b, e, h => match evC callF fuel b e h with
    | some (.exit id', e', h') => bif id'.beq id then some (.normal, e', h') else some (.exit id', e', h')
    | r => r
  | .loop b, e, h => loopN (fun e h => evC callF fuel b e h) fuel e h

/-- how a call is made: 0 in the caller's heap; 1 the heap may not be written and no address comes back: the heap is as it was;
    2 the same in an empty heap; 3 like 1, but a slice of its own comes back, of elements of so many cells -/
structure AFunc where
  mode : Nat
  size : Nat
  results : List (Nat × Option (Nat × Bool))
  body : ACode

def params : Nat → List AV → Env
  | _, [] => .nil
  | n, v :: r => (params (n + 1) r).set (n + 1) n (some v)

def resOf (e : Env) (h : Heap) : List (Nat × Option (Nat × Bool)) → Option (List AV)
  | [] => some []
  | (t, c) :: r => match lk e t with
    | some v => (match (match c with
        | none => some v
        | some (n, agg) => (match v with
          | .ptr b o => (match loadAt h b o n with
            | some cs => bif agg then some (.agg cs) else (match cs with
              | [c] => some c
              | _ => none)
            | none => none)
          | _ => none)) with
      | some v => (match resOf e h r with
        | some vs => some (v :: vs)
        | none => none)
      | none => none)
    | none => none

def single : List AV → AV
  | [v] => v
  | vs => .tup vs

def evBody (callF : CallF) (fuel : Nat) (F : AFunc) (args : List AV) (h : Heap) : Option (AV × Heap) :=
  match evC callF fuel F.body (params 0 args) h with
  | some (.normal, e, h') => (match resOf e h' F.results with
    | some vs => some (single vs, h')
    | none => none)
  | some (.ret, e, h') => (match resOf e h' F.results with
    | some vs => some (single vs, h')
    | none => none)
  | _ => none

def newSl (h : Heap) (size : Nat) (h' : Heap) : AV → Option (AV × Heap)
  | .nilsl => some (.nilsl, h)
  | .sl b off len none z => bif !(h.has b) && z.beq size then (match loadAt h' b off (len * size) with
    | some cs => bif cs.all AV.scalar then some (.sl h.nb 0 len none size, h.push cs) else none
    | none => none) else none
  | _ => none

/-- a call of a function of the table, where nothing is said of it -/
def evT (T : Nat → Option AFunc) (callF : CallF) (n f : Nat) (args : List AV) (h : Heap) : Option (AV × Heap) :=
  match T f with
  | none => none
  | some F => match F.mode with
    | 0 => evBody callF n F args h
    | 1 => (match evBody callF n F args h.frz with
      | some (v, _) => bif v.free then some (v, h) else none
      | none => none)
    | 2 => bif args.all AV.free then (match evBody callF n F args Heap.empty with
      | some (v, _) => bif v.free then some (v, h) else none
      | none => none) else none
    | 3 => (match evBody callF n F args h.frz with
      | some (v, h') => newSl h F.size h' v
      | none => none)
    | _ => none

/-- the functions; what is known already of calls (they leave the heap); functions with an evaluator of their own -/
structure Tab where
  fn : Nat → Option AFunc
  sp : Nat → List AV → Option AV
  hx : Nat → Option (CallF → Nat → List AV → Heap → Option (AV × Heap)) := fun _ => none

def evF (T : Tab) : Nat → Nat → List AV → Heap → Option (AV × Heap)
  | 0, _, _, _ => none
  | n + 1, f, args, h => match T.sp f args with
    | some v => some (v, h)
    | none => match T.hx f with
      | some g => g (evF T n) n args h
      | none => evT T.fn (evF T n) n f args h

end Go.Ev

/- The relation between abstract and loaded memory, and its first lemmas. -/

namespace Go.Ev
set_option linter.unusedSectionVars false

structure Loc where
  blk : Nat
  off : Nat
  ext : Nat

abbrev JM := Nat → Option Loc

/-- the concrete slice of an abstract one -/
def SlR (j : JM) (b off len : Nat) (cap : Option Nat) (size : Nat) (c : Value) : Prop :=
  ∃ loc cap', j b = some loc ∧ len ≤ cap' ∧ off + cap' * size ≤ loc.ext ∧ (∀ m, cap = some m → cap' = m) ∧
    (c = .slice (some ⟨loc.blk, loc.off + off, none⟩) len cap' ∨ (cap' = 0 ∧ ∃ a, c = .slice (some a) len cap'))

/-- within bounds, as far as they are known -/
def InR (n : Int) (r : Rng) : Prop := (∀ l, r.1 = some l → l ≤ n) ∧ ∀ h, r.2 = some h → n ≤ h

theorem InR.none (n : Int) : InR n (none, none) := ⟨fun _ h => by simp at h, fun _ h => by simp at h⟩

mutual
def VR (j : JM) : AV → Value → Prop
  | .bool b, c => c = .bool b
  | .int k n, c => c = .int k n
  | .float k n, c => c = .float k n
  | .str s, c => c = .string ⟨s.toArray⟩
  | .nilptr, c => c = .pointer none
  | .ptr b off, c => ∃ loc, j b = some loc ∧ c = .pointer (some ⟨loc.blk, loc.off + off, none⟩)
  | .nilsl, c => c = .slice none 0 0
  | .sl b off len cap size, c => SlR j b off len cap size c
  | .agg cs, c => ∃ l, c = .agg l.toArray ∧ VRs j cs l
  | .tup vs, c => ∃ l, c = .tuple l.toArray ∧ VRs j vs l
  | .nilfn, c => c = .nilFunc
  | .fn f first captured, c => ∃ l m, c = .func (.func f) l.toArray m.toArray ∧ VRs j first l ∧ VRs j captured m
  | .niliface, c => c = .nilIface
  | .iface t v, c => ∃ u, c = .iface t u ∧ VR j v u
  | .ifaceX, c => ∃ t u, c = .iface t u
  | .yv b, c => ∃ loc, j b = some loc ∧ c = .func (.yield loc.blk) #[] #[]
  | .sym k n lo hi, c => c = .int k n ∧ InR n (lo, hi)
  | .symb b, c => c = .bool b
  | .syms s, c => c = .string ⟨s.toArray⟩
def VRs (j : JM) : List AV → List Value → Prop
  | [], l => l = []
  | v :: vs, l => ∃ c cs, l = c :: cs ∧ VR j v c ∧ VRs j vs cs
end

def Ext (j j' : JM) : Prop := ∀ b loc, j b = some loc → j' b = some loc

theorem Ext.refl (j : JM) : Ext j j := fun _ _ h => h
theorem Ext.trans {a b c : JM} (h : Ext a b) (k : Ext b c) : Ext a c := fun x l e => k x l (h x l e)

theorem SlR.mono {j j' : JM} (h : Ext j j') {b off len : Nat} {cap : Option Nat} {size : Nat} {c : Value} (r : SlR j b off len cap size c) :
    SlR j' b off len cap size c := by
  obtain ⟨loc, cap', h1, h2⟩ := r
  exact ⟨loc, cap', h _ _ h1, h2⟩

mutual
theorem VR.mono {j j' : JM} (h : Ext j j') : ∀ {v : AV} {c : Value}, VR j v c → VR j' v c
  | .bool _, _, r => r
  | .int _ _, _, r => r
  | .float _ _, _, r => r
  | .str _, _, r => r
  | .nilptr, _, r => r
  | .ptr _ _, _, ⟨loc, a, b⟩ => ⟨loc, h _ _ a, b⟩
  | .nilsl, _, r => r
  | .sl .., _, r => SlR.mono h r
  | .agg _, _, ⟨l, a, b⟩ => ⟨l, a, VRs.mono h b⟩
  | .tup _, _, ⟨l, a, b⟩ => ⟨l, a, VRs.mono h b⟩
  | .nilfn, _, r => r
  | .fn .., _, ⟨l, m, a, b, c⟩ => ⟨l, m, a, VRs.mono h b, VRs.mono h c⟩
  | .niliface, _, r => r
  | .iface _ _, _, ⟨u, a, b⟩ => ⟨u, a, VR.mono h b⟩
  | .ifaceX, _, r => r
  | .yv _, _, ⟨loc, a, b⟩ => ⟨loc, h _ _ a, b⟩
  | .sym _ _ _ _, _, r => r
  | .symb _, _, r => r
  | .syms _, _, r => r
theorem VRs.mono {j j' : JM} (h : Ext j j') : ∀ {vs : List AV} {l : List Value}, VRs j vs l → VRs j' vs l
  | [], _, r => r
  | _ :: _, _, ⟨c, cs, a, b, d⟩ => ⟨c, cs, a, VR.mono h b, VRs.mono h d⟩
end

theorem VR.plain {j : JM} {v : AV} {c : Value} (h : VR j v c) : VR j v.plain c := by
  cases v
  case sym => exact h.1
  all_goals exact h

theorem VR.mark {j : JM} {v : AV} {c : Value} (m : Bool) (h : VR j v c) : VR j (v.mark m) c := by
  cases m
  · exact h
  · cases v
    case int => exact ⟨h, InR.none _⟩
    all_goals exact h

theorem VR.inR {j : JM} {v : AV} {c : Value} {k : IntKind} {n : Int} (h : VR j v c) (hp : v.plain = .int k n) : InR n v.rng := by
  cases v <;> simp [AV.plain] at hp
  · obtain ⟨rfl, rfl⟩ := hp
    exact ⟨fun l hl => by simp [AV.rng] at hl; omega, fun l hl => by simp [AV.rng] at hl; omega⟩
  · obtain ⟨rfl, rfl⟩ := hp
    exact h.2

theorem VR.scalar {j j' : JM} : ∀ {v : AV} {c : Value}, v.scalar = true → VR j v c → VR j' v c := by
  intro v c hs r
  cases v <;> simp [AV.scalar] at hs <;> exact r

theorem VRs.scalar {j j' : JM} : ∀ {vs : List AV} {l : List Value}, vs.all AV.scalar = true → VRs j vs l → VRs j' vs l
  | [], _, _, r => r
  | v :: vs, _, hs, ⟨c, cs, a, b, d⟩ => by
    simp only [List.all_cons, Bool.and_eq_true] at hs
    exact ⟨c, cs, a, VR.scalar hs.1 b, VRs.scalar hs.2 d⟩

theorem VRs.frees {j j' : JM} : ∀ {vs : List AV} {l : List Value}, (vs.all fun v => match v with
    | .agg cs => cs.all AV.scalar
    | v => v.scalar) = true → VRs j vs l → VRs j' vs l
  | [], _, _, r => r
  | v :: vs, _, hs, ⟨c, cs, a, b, d⟩ => by
    simp only [List.all_cons, Bool.and_eq_true] at hs
    refine ⟨c, cs, a, ?_, VRs.frees hs.2 d⟩
    cases v with
    | agg cs => obtain ⟨l, e, f⟩ := b; exact ⟨l, e, VRs.scalar hs.1 f⟩
    | _ => exact VR.scalar hs.1 b

theorem VR.frees {j j' : JM} {v : AV} {c : Value} (hs : v.free = true) (r : VR j v c) : VR j' v c := by
  cases v with
  | agg cs => obtain ⟨l, e, f⟩ := r; exact ⟨l, e, VRs.scalar hs f⟩
  | tup vs => obtain ⟨l, e, f⟩ := r; exact ⟨l, e, VRs.frees hs f⟩
  | fn f a b =>
    simp only [AV.free, Bool.and_eq_true] at hs
    obtain ⟨l, m, e, f, g⟩ := r
    exact ⟨l, m, e, VRs.scalar hs.1 f, VRs.scalar hs.2 g⟩
  | _ => exact VR.scalar hs r

theorem VRs.allFree {j j' : JM} : ∀ {vs : List AV} {l : List Value}, vs.all AV.free = true → VRs j vs l → VRs j' vs l
  | [], _, _, r => r
  | v :: vs, _, hs, ⟨c, cs, a, b, d⟩ => by
    simp only [List.all_cons, Bool.and_eq_true] at hs
    exact ⟨c, cs, a, VR.frees hs.1 b, VRs.allFree hs.2 d⟩

theorem VRs.length {j : JM} : ∀ {vs : List AV} {l : List Value}, VRs j vs l → l.length = vs.length
  | [], _, r => by simp only [VRs] at r; simp [r]
  | _ :: _, _, ⟨c, cs, a, _, d⟩ => by subst a; simp [VRs.length d]

theorem VRs.get {j : JM} : ∀ {vs : List AV} {l : List Value}, VRs j vs l → ∀ (i : Nat) (v : AV), vs[i]? = some v → ∃ c, l[i]? = some c ∧ VR j v c
  | [], _, _, i, v, h => by simp at h
  | _ :: _, _, ⟨c, cs, a, b, d⟩, i, v, h => by
    subst a
    cases i with
    | zero => simp only [List.getElem?_cons_zero, Option.some.injEq] at h; subst h; exact ⟨c, rfl, b⟩
    | succ i => simp only [List.getElem?_cons_succ] at h ⊢; exact VRs.get d i v h

theorem VRs.mk {j : JM} : ∀ {vs : List AV} {l : List Value}, l.length = vs.length → (∀ (i : Nat) (v : AV), vs[i]? = some v → ∃ c, l[i]? = some c ∧ VR j v c) → VRs j vs l
  | [], l, hl, _ => by simp only [VRs]; exact List.eq_nil_of_length_eq_zero hl
  | v :: vs, [], hl, _ => by simp at hl
  | v :: vs, c :: cs, hl, h => by
    obtain ⟨c', hc, hv⟩ := h 0 v rfl
    simp only [List.getElem?_cons_zero, Option.some.injEq] at hc
    subst hc
    exact ⟨c, cs, rfl, hv, VRs.mk (by simpa using hl) (fun i v' hi => by simpa using h (i + 1) v' (by simpa using hi))⟩

theorem VRs.append {j : JM} {a b : List AV} {l m : List Value} (h : VRs j a l) (k : VRs j b m) : VRs j (a ++ b) (l ++ m) := by
  induction a generalizing l with
  | nil => simp only [VRs] at h; subst h; exact k
  | cons v vs ih => obtain ⟨c, cs, e, hv, hr⟩ := h; subst e; exact ⟨c, cs ++ m, rfl, hv, ih hr⟩

theorem VRs.take {j : JM} : ∀ {vs : List AV} {l : List Value} (n : Nat), VRs j vs l → VRs j (vs.take n) (l.take n)
  | [], _, n, h => by simp only [VRs] at h; subst h; simp [VRs]
  | _ :: _, _, 0, _ => by simp [VRs]
  | _ :: _, _, n + 1, ⟨c, cs, a, b, d⟩ => by subst a; exact ⟨c, cs.take n, rfl, b, VRs.take n d⟩

theorem VRs.drop {j : JM} : ∀ {vs : List AV} {l : List Value} (n : Nat), VRs j vs l → VRs j (vs.drop n) (l.drop n)
  | [], _, n, h => by simp only [VRs] at h; subst h; simp [VRs]
  | _ :: _, _, 0, h => by simpa using h
  | _ :: _, _, n + 1, ⟨c, cs, a, _, d⟩ => by subst a; simpa using VRs.drop n d

theorem VR.cells {j : JM} {v : AV} {c : Value} (h : VR j v c) : VRs j v.cells c.cells.toList := by
  cases v with
  | agg cs => obtain ⟨l, e, f⟩ := h; subst e; exact f
  | sl b off len cap size =>
    have h0 := h
    obtain ⟨loc, cap', _, _, _, _, e | ⟨_, a, e⟩⟩ := h <;> subst e <;> exact ⟨_, [], rfl, h0, rfl⟩
  | ptr b off => have h0 := h; obtain ⟨loc, _, e⟩ := h; subst e; exact ⟨_, [], rfl, h0, rfl⟩
  | tup vs => have h0 := h; obtain ⟨l, e, _⟩ := h; subst e; exact ⟨_, [], rfl, h0, rfl⟩
  | fn f a b => have h0 := h; obtain ⟨l, m, e, _⟩ := h; subst e; exact ⟨_, [], rfl, h0, rfl⟩
  | iface t v => have h0 := h; obtain ⟨u, e, _⟩ := h; subst e; exact ⟨_, [], rfl, h0, rfl⟩
  | ifaceX => have h0 := h; obtain ⟨t, u, e⟩ := h; subst e; exact ⟨_, [], rfl, h0, rfl⟩
  | yv b => have h0 := h; obtain ⟨loc, _, e⟩ := h; subst e; exact ⟨_, [], rfl, h0, rfl⟩
  | sym k n lo hi => have h0 := h; obtain ⟨e, _⟩ := h; subst e; exact ⟨_, [], rfl, h0, rfl⟩
  | _ => have h0 := h; simp only [VR] at h; subst h; exact ⟨_, [], rfl, h0, rfl⟩

theorem VR.one {j : JM} {v : AV} {c : Value} (h : VR j v c) (ho : v.one = true) : c.oneCell' = true := by
  cases v with
  | agg cs => simp [AV.one] at ho
  | sl b off len cap size =>
    obtain ⟨loc, cap', _, _, _, _, e | ⟨_, a, e⟩⟩ := h <;> subst e <;> rfl
  | ptr b off => obtain ⟨loc, _, e⟩ := h; subst e; rfl
  | tup vs => simp [AV.one] at ho
  | fn f a b => obtain ⟨l, m, e, _⟩ := h; subst e; rfl
  | iface t v => obtain ⟨u, e, _⟩ := h; subst e; rfl
  | ifaceX => obtain ⟨t, u, e⟩ := h; subst e; rfl
  | yv b => obtain ⟨loc, _, e⟩ := h; subst e; rfl
  | sym k n lo hi => obtain ⟨e, _⟩ := h; subst e; rfl
  | _ => simp only [VR] at h; subst h; rfl

theorem VR.one_cells {j : JM} {v : AV} {c : Value} (h : VR j v c) (ho : v.one = true) : c.cells = #[c] ∧ v.cells = [v] := by
  constructor
  · have := VR.one h ho
    cases c <;> simp [Value.oneCell'] at this <;> rfl
  · cases v <;> simp [AV.one] at ho <;> rfl

/-! ### the heap's tree -/
theorem Tr.get_nil {α : Type} (k : Nat) : (Tr.nil : Tr α).get k = none := rfl

theorem Tr.get_nd {α : Type} (v : Option α) (l r : Tr α) (k : Nat) : (Tr.nd v l r).get k = if k = 0 then v else if k % 2 = 1 then l.get (k / 2) else r.get (k / 2 - 1) := by
  simp only [Tr.get, cond_eq_ite, Nat.beq_eq]
  rfl

theorem Tr.set_nd {α : Type} (f : Nat) (v : Option α) (l r : Tr α) (k : Nat) (x : Option α) : (Tr.nd v l r).set (f + 1) k x =
    if k = 0 then .nd x l r else if k % 2 = 1 then .nd v (l.set f (k / 2) x) r else .nd v l (r.set f (k / 2 - 1) x) := by
  simp only [Tr.set, cond_eq_ite, Nat.beq_eq]
  rfl

theorem Tr.set_nil {α : Type} (f : Nat) (k : Nat) (x : Option α) : (Tr.nil : Tr α).set (f + 1) k x =
    if k = 0 then .nd x .nil .nil else if k % 2 = 1 then .nd none (Tr.nil.set f (k / 2) x) .nil else .nd none .nil (Tr.nil.set f (k / 2 - 1) x) := by
  simp only [Tr.set, cond_eq_ite, Nat.beq_eq]
  rfl

theorem Tr.get_set {α : Type} : ∀ (f : Nat) (t : Tr α) (k : Nat) (x : Option α) (m : Nat), k < f → (t.set f k x).get m = if m = k then x else t.get m
  | 0, _, _, _, _, h => by omega
  | f + 1, .nil, k, x, m, h => by
    rw [Tr.set_nil]
    by_cases hk : k = 0
    · subst hk
      simp only [if_true, Tr.get_nd, Tr.get_nil]
      by_cases hm : m = 0 <;> simp [hm]
    · rw [if_neg hk]
      by_cases ho : k % 2 = 1
      · simp only [ho, if_true, Tr.get_nd, Tr.get_nil]
        by_cases hm : m = 0
        · subst hm; simp; omega
        · by_cases hmo : m % 2 = 1
          · simp only [hm, hmo, if_true, if_false]
            rw [Tr.get_set f .nil _ x _ (by omega)]
            simp only [Tr.get_nil]
            by_cases e : m = k
            · subst e; simp
            · rw [if_neg (by omega), if_neg e]
          · simp only [hm, hmo, if_false]
            rw [if_neg (by omega)]
      · simp only [ho, if_false, Tr.get_nd, Tr.get_nil]
        by_cases hm : m = 0
        · subst hm; simp; omega
        · by_cases hmo : m % 2 = 1
          · simp only [hm, hmo, if_true, if_false]
            rw [if_neg (by omega)]
          · simp only [hm, hmo, if_false]
            rw [Tr.get_set f .nil _ x _ (by omega)]
            simp only [Tr.get_nil]
            by_cases e : m = k
            · subst e; simp
            · rw [if_neg (by omega), if_neg e]
  | f + 1, .nd v l r, k, x, m, h => by
    rw [Tr.set_nd]
    by_cases hk : k = 0
    · subst hk
      simp only [if_true, Tr.get_nd]
      by_cases hm : m = 0 <;> simp [hm]
    · rw [if_neg hk]
      by_cases ho : k % 2 = 1
      · simp only [ho, if_true, Tr.get_nd]
        by_cases hm : m = 0
        · subst hm; simp; omega
        · by_cases hmo : m % 2 = 1
          · simp only [hm, hmo, if_true, if_false]
            rw [Tr.get_set f l _ x _ (by omega)]
            by_cases e : m = k
            · subst e; simp
            · rw [if_neg (by omega), if_neg e]
          · simp only [hm, hmo, if_false]
            rw [if_neg (by omega)]
      · simp only [ho, if_false, Tr.get_nd]
        by_cases hm : m = 0
        · subst hm; simp; omega
        · by_cases hmo : m % 2 = 1
          · simp only [hm, hmo, if_true, if_false]
            rw [if_neg (by omega)]
          · simp only [hm, hmo, if_false]
            rw [Tr.get_set f r _ x _ (by omega)]
            by_cases e : m = k
            · subst e; simp
            · rw [if_neg (by omega), if_neg e]

@[simp] theorem Heap.get_setTo (h : Heap) (b : Nat) (x : Option (List AV)) (m : Nat) : (h.setTo b x).get m = if m = b then x else h.get m :=
  Tr.get_set _ _ _ _ _ (by omega)
@[simp] theorem Heap.get_push (h : Heap) (cs : List AV) (m : Nat) : (h.push cs).get m = if m = h.nb then some cs else h.get m :=
  Tr.get_set _ _ _ _ _ (by omega)
@[simp] theorem Heap.get_pushA (h : Heap) (a : Nat) (cs : List AV) (m : Nat) : (h.pushA a cs).get m = if m = h.na a then some cs else h.get m :=
  Tr.get_set _ _ _ _ _ (by omega)
@[simp] theorem Heap.has_setTo (h : Heap) (b : Nat) (x : Option (List AV)) (m : Nat) : (h.setTo b x).has m = h.has m := rfl
@[simp] theorem Heap.wr_setTo (h : Heap) (b : Nat) (x : Option (List AV)) (m : Nat) : (h.setTo b x).wr m = h.wr m := rfl
@[simp] theorem Heap.nb_setTo (h : Heap) (b : Nat) (x : Option (List AV)) : (h.setTo b x).nb = h.nb := rfl
@[simp] theorem Heap.na_setTo (h : Heap) (b : Nat) (x : Option (List AV)) (a : Nat) : (h.setTo b x).na a = h.na a := rfl
@[simp] theorem Heap.wr_push (h : Heap) (cs : List AV) (m : Nat) : (h.push cs).wr m = h.wr m := rfl
@[simp] theorem Heap.wr_pushA (h : Heap) (a : Nat) (cs : List AV) (m : Nat) : (h.pushA a cs).wr m = h.wr m := rfl

theorem nbS_is (n : Nat) : nbS n = 2 * n := rfl
theorem nbA_is (a i : Nat) : nbA a i = 2 * (8 * i + a) + 1 := rfl
theorem bIdx_is (b : Nat) : bIdx b = if b % 2 = 0 then b / 2 else b / 16 := by
  unfold bIdx
  rw [cond_eq_ite]
  simp only [Nat.beq_eq]
  rfl
theorem bKind_is (b : Nat) : bKind b = b / 2 % 8 := rfl
theorem has_is (h : Heap) (b : Nat) : h.has b = true ↔ if b % 2 = 0 then b / 2 < h.next else b / 16 < cntOf h.an (b / 2 % 8) := by
  unfold Heap.has bIdx
  rw [Nat.blt_eq]
  simp only [cond_eq_ite, Nat.beq_eq, bKind_is]
  show (if b % 2 = 0 then b / 2 else b / 16) < (if b % 2 = 0 then h.next else cntOf h.an (b / 2 % 8)) ↔ _
  split <;> exact Iff.rfl
theorem wr_is (h : Heap) (b : Nat) : h.wr b = true ↔ if b % 2 = 0 then h.ro ≤ b / 2 else cntOf h.aro (b / 2 % 8) ≤ b / 16 := by
  unfold Heap.wr bIdx
  rw [Nat.ble_eq]
  simp only [cond_eq_ite, Nat.beq_eq, bKind_is]
  show (if b % 2 = 0 then h.ro else cntOf h.aro (b / 2 % 8)) ≤ (if b % 2 = 0 then b / 2 else b / 16) ↔ _
  split <;> exact Iff.rfl

theorem nb_even (h : Heap) : h.nb % 2 = 0 := by unfold Heap.nb; rw [nbS_is]; omega
theorem not_has_nb (h : Heap) : h.has h.nb = false := by
  rw [Bool.eq_false_iff]
  intro e
  rw [has_is, if_pos (nb_even h)] at e
  unfold Heap.nb at e
  rw [nbS_is] at e
  omega
theorem has_push_nb (h : Heap) (cs : List AV) : (h.push cs).has h.nb = true := by
  rw [has_is, if_pos (nb_even h)]
  unfold Heap.nb Heap.push
  rw [nbS_is]
  simp only
  omega
theorem has_push {h : Heap} {b : Nat} (cs : List AV) (hb : h.has b = true) : (h.push cs).has b = true := by
  rw [has_is] at hb ⊢
  unfold Heap.push
  simp only
  split at hb
  · rename_i e; rw [if_pos e]; omega
  · rename_i e; rw [if_neg e]; exact hb
theorem has_push_inv {h : Heap} {b : Nat} {cs : List AV} (hb : (h.push cs).has b = true) (hne : b ≠ h.nb) : h.has b = true := by
  rw [has_is] at hb ⊢
  unfold Heap.push at hb
  unfold Heap.nb at hne
  rw [nbS_is] at hne
  simp only at hb
  split at hb
  · rename_i e; rw [if_pos e]; omega
  · rename_i e; rw [if_neg e]; exact hb
theorem ne_nb {h : Heap} {b : Nat} (hb : h.has b = true) : b ≠ h.nb := by
  rintro rfl
  rw [not_has_nb] at hb
  simp at hb

theorem cnt_set (t : Tr Nat) (a n b : Nat) : cntOf (t.set (a + 1) a (some n)) b = if b = a then n else cntOf t b := by
  unfold cntOf
  rw [Tr.get_set _ _ _ _ _ (by omega)]
  by_cases e : b = a
  · rw [if_pos e, if_pos e]
  · rw [if_neg e, if_neg e]
theorem na_odd (h : Heap) (a : Nat) : h.na a % 2 = 1 := by unfold Heap.na; rw [nbA_is]; omega
theorem na_kind {a : Nat} (ha : a < 8) (h : Heap) : h.na a / 2 % 8 = a := by unfold Heap.na; rw [nbA_is]; omega
theorem na_idx {a : Nat} (ha : a < 8) (h : Heap) : h.na a / 16 = cntOf h.an a := by unfold Heap.na; rw [nbA_is]; omega
theorem not_has_na {a : Nat} (ha : a < 8) (h : Heap) : h.has (h.na a) = false := by
  rw [Bool.eq_false_iff]
  intro e
  rw [has_is, if_neg (by have := na_odd h a; omega), na_kind ha, na_idx ha] at e
  omega
theorem has_pushA_na {a : Nat} (ha : a < 8) (h : Heap) (cs : List AV) : (h.pushA a cs).has (h.na a) = true := by
  rw [has_is, if_neg (by have := na_odd h a; omega), na_kind ha, na_idx ha]
  unfold Heap.pushA
  simp only
  rw [cnt_set, if_pos rfl]
  omega
theorem has_pushA {h : Heap} {b : Nat} (a : Nat) (cs : List AV) (hb : h.has b = true) : (h.pushA a cs).has b = true := by
  rw [has_is] at hb ⊢
  unfold Heap.pushA
  simp only
  split at hb
  · rename_i e; rw [if_pos e]; exact hb
  · rename_i e
    rw [if_neg e, cnt_set]
    split
    · rename_i e2; rw [e2] at hb; omega
    · exact hb
theorem has_pushA_inv {h : Heap} {a b : Nat} {cs : List AV} (hb : (h.pushA a cs).has b = true) (hne : b ≠ h.na a) : h.has b = true := by
  rw [has_is] at hb ⊢
  unfold Heap.pushA at hb
  unfold Heap.na at hne
  rw [nbA_is] at hne
  simp only at hb
  split at hb
  · rename_i e; rw [if_pos e]; exact hb
  · rename_i e
    rw [if_neg e]
    rw [cnt_set] at hb
    split at hb
    · rename_i e2; rw [e2]; omega
    · exact hb
theorem ne_na {h : Heap} {a b : Nat} (ha : a < 8) (hb : h.has b = true) : b ≠ h.na a := by
  rintro rfl
  rw [not_has_na ha] at hb
  simp at hb
@[simp] theorem Heap.get_frz (h : Heap) (m : Nat) : h.frz.get m = h.get m := rfl
@[simp] theorem Heap.has_frz (h : Heap) (m : Nat) : h.frz.has m = h.has m := rfl
@[simp] theorem Heap.nb_frz (h : Heap) : h.frz.nb = h.nb := rfl
@[simp] theorem Heap.na_frz (h : Heap) (a : Nat) : h.frz.na a = h.na a := rfl
theorem wr_frz (h : Heap) (m : Nat) : h.frz.wr m = !(h.has m) := by
  have e1 := wr_is h.frz m
  have e2 := has_is h m
  unfold Heap.frz at e1
  simp only at e1
  cases hw : h.frz.wr m <;> cases hh : h.has m <;> try rfl
  · exfalso
    have n1 : ¬ (h.frz.wr m = true) := by rw [hw]; simp
    have n2 : ¬ (h.has m = true) := by rw [hh]; simp
    unfold Heap.frz at n1
    rw [e1] at n1
    rw [e2] at n2
    split at n1
    · rename_i e; rw [if_pos e] at n2; omega
    · rename_i e; rw [if_neg e] at n2; omega
  · exfalso
    unfold Heap.frz at hw
    rw [e1] at hw
    rw [e2] at hh
    split at hw
    · rename_i e; rw [if_pos e] at hh; omega
    · rename_i e; rw [if_neg e] at hh; omega
@[simp] theorem Heap.get_withLog (h : Heap) (l : List Nat) (m : Nat) : (h.withLog l).get m = h.get m := rfl
@[simp] theorem Heap.has_withLog (h : Heap) (l : List Nat) (m : Nat) : (h.withLog l).has m = h.has m := rfl
@[simp] theorem Heap.wr_withLog (h : Heap) (l : List Nat) (m : Nat) : (h.withLog l).wr m = h.wr m := rfl
@[simp] theorem Heap.nb_withLog (h : Heap) (l : List Nat) : (h.withLog l).nb = h.nb := rfl
@[simp] theorem Heap.log_withLog (h : Heap) (l : List Nat) : (h.withLog l).log = l := rfl
@[simp] theorem Heap.log_push (h : Heap) (cs : List AV) : (h.push cs).log = h.log := rfl
@[simp] theorem Heap.log_setTo (h : Heap) (b : Nat) (x : Option (List AV)) : (h.setTo b x).log = b :: h.log := rfl
@[simp] theorem Heap.log_frz (h : Heap) : h.frz.log = h.log := rfl
@[simp] theorem Heap.get_empty (m : Nat) : Heap.empty.get m = none := rfl
theorem has_empty (m : Nat) : Heap.empty.has m = false := by
  rw [Bool.eq_false_iff]
  intro e
  rw [has_is] at e
  split at e
  · exact absurd e (Nat.not_lt_zero _)
  · exact absurd e (Nat.not_lt_zero _)
theorem wr_empty (m : Nat) : Heap.empty.wr m = true := by
  rw [wr_is]
  split
  · exact Nat.zero_le _
  · exact Nat.zero_le _

/-! ### memory -/
/-- what is so of memory besides: it hangs on the blocks below G alone, which nothing here writes (package variables and what they lead to) -/
class Home where
  G : Nat
  I : World → Prop
  keep : ∀ w w', I w → w.heap.size ≤ w'.heap.size → (∀ k, k < G → w'.heap[k]? = w.heap[k]?) → I w'

variable [Home]

structure WR (j : JM) (H : Heap) (w : World) : Prop where
  dom : ∀ b loc, j b = some loc → H.has b = true
  hdom : ∀ b cs, H.get b = some cs → H.has b = true
  cell : ∀ b cs, H.get b = some cs → ∃ loc, j b = some loc ∧ loc.blk < w.heap.size ∧ cs.length ≤ loc.ext ∧
    ∀ i x, cs[i]? = some x → ∃ c, w.cell? ⟨loc.blk, loc.off + i, none⟩ = some c ∧ VR j x c
  own : ∀ b cs loc, H.wr b = true → H.get b = some cs → j b = some loc → ∀ i, i < loc.ext →
    (∃ c, w.cell? ⟨loc.blk, loc.off + i, none⟩ = some c) ∧ w.frozen? ⟨loc.blk, loc.off + i, none⟩ = false
  apart : ∀ b b' cs cs' loc loc', H.wr b = true → b ≠ b' → H.get b = some cs → H.get b' = some cs' → j b = some loc → j b' = some loc' → loc.blk ≠ loc'.blk
  gsz : Home.G ≤ w.heap.size
  inv : Home.I w
  lo : ∀ b cs loc, H.wr b = true → H.get b = some cs → j b = some loc → Home.G ≤ loc.blk

def Own (j : JM) (H : Heap) (k : Nat) : Prop := ∃ b cs loc, H.wr b = true ∧ H.get b = some cs ∧ j b = some loc ∧ loc.blk = k

structure Trans (j : JM) (H : Heap) (w : World) (j' : JM) (H' : Heap) (w' : World) : Prop where
  ext : Ext j j'
  wr : WR j' H' w'
  ro : ∀ b, H'.wr b = H.wr b
  next : ∀ b, H.has b = true → H'.has b = true
  os : w'.os = w.os
  tape : w'.tape = w.tape
  output : w'.output = w.output
  size : w.heap.size ≤ w'.heap.size
  keep : ∀ k, k < w.heap.size → ¬ Own j H k → w'.heap[k]? = w.heap[k]?
  grow : ∀ k, k < w.heap.size → Own j' H' k → Own j H k
  old : ∀ b, H.has b = true → j b = none → j' b = none

theorem Trans.refl {j : JM} {H : Heap} {w : World} (h : WR j H w) : Trans j H w j H w :=
  ⟨Ext.refl j, h, fun _ => rfl, fun _ h => h, rfl, rfl, rfl, Nat.le_refl _, fun _ _ _ => rfl, fun _ _ h => h, fun _ _ h => h⟩

theorem Trans.trans {j j1 j2 : JM} {H H1 H2 : Heap} {w w1 w2 : World} (a : Trans j H w j1 H1 w1) (b : Trans j1 H1 w1 j2 H2 w2) : Trans j H w j2 H2 w2 where
  ext := a.ext.trans b.ext
  wr := b.wr
  ro := fun x => (b.ro x).trans (a.ro x)
  next := fun x h => b.next x (a.next x h)
  os := b.os.trans a.os
  tape := b.tape.trans a.tape
  output := b.output.trans a.output
  size := Nat.le_trans a.size b.size
  keep := fun k hk hn => (b.keep k (Nat.lt_of_lt_of_le hk a.size) (fun ho => hn (a.grow k hk ho))).trans (a.keep k hk hn)
  grow := fun k hk ho => a.grow k hk (b.grow k (Nat.lt_of_lt_of_le hk a.size) ho)
  old := fun x hx hn => b.old x (a.next x hx) (a.old x hx hn)

theorem cell?_of_heap {w w' : World} {a : Addr} (h : w'.heap[a.block]? = w.heap[a.block]?) : w'.cell? a = w.cell? a := by
  simp only [World.cell?, h]
theorem frozen?_of_heap {w w' : World} {a : Addr} (h : w'.heap[a.block]? = w.heap[a.block]?) : w'.frozen? a = w.frozen? a := by
  simp only [World.frozen?, h]

/-- a world whose old blocks that matter are as they were -/
theorem WR.of_heap {j : JM} {H : Heap} {w w' : World} (h : WR j H w) (hs : w.heap.size ≤ w'.heap.size)
    (hk : ∀ b cs loc, H.get b = some cs → j b = some loc → w'.heap[loc.blk]? = w.heap[loc.blk]?) (hi : Home.I w') : WR j H w' where
  dom := h.dom
  hdom := h.hdom
  cell := fun b cs hb => by
    obtain ⟨loc, hj, hl, he, hc⟩ := h.cell b cs hb
    refine ⟨loc, hj, Nat.lt_of_lt_of_le hl hs, he, fun i x hx => ?_⟩
    obtain ⟨c, h1, h2⟩ := hc i x hx
    exact ⟨c, by rw [cell?_of_heap (hk b cs loc hb hj)]; exact h1, h2⟩
  own := fun b cs loc hr hb hj i hi => by
    obtain ⟨h1, h2⟩ := h.own b cs loc hr hb hj i hi
    exact ⟨by rw [cell?_of_heap (hk b cs loc hb hj)]; exact h1, by rw [frozen?_of_heap (hk b cs loc hb hj)]; exact h2⟩
  apart := h.apart
  gsz := Nat.le_trans h.gsz hs
  inv := hi
  lo := h.lo

theorem WR.empty (w : World) (hg : Home.G ≤ w.heap.size) (hi : Home.I w) : WR (fun _ => none) Heap.empty w where
  dom := fun _ _ h => by simp at h
  hdom := fun _ _ h => by simp at h
  cell := fun _ _ h => by simp at h
  own := fun _ _ _ _ h => by simp at h
  apart := fun _ _ _ _ _ _ _ _ h => by simp at h
  gsz := hg
  inv := hi
  lo := fun _ _ _ _ h => by simp at h

theorem WR.frz {j : JM} {H : Heap} {w : World} (h : WR j H w) : WR j H.frz w where
  dom := h.dom
  hdom := h.hdom
  cell := h.cell
  own := fun b cs loc hr hb => by have := h.hdom b cs hb; rw [wr_frz, this] at hr; simp at hr
  apart := fun b b' cs cs' loc loc' hr hne hb => by have := h.hdom b cs hb; rw [wr_frz, this] at hr; simp at hr
  gsz := h.gsz
  inv := h.inv
  lo := fun b cs loc hr hb => by have := h.hdom b cs hb; rw [wr_frz, this] at hr; simp at hr

def upd (j : JM) (b : Nat) (loc : Loc) : JM := fun k => if k = b then some loc else j k

theorem j_none {j : JM} {H : Heap} {w : World} (h : WR j H w) {b : Nat} (hb : H.has b = false) : j b = none := by
  cases e : j b with
  | none => rfl
  | some x => have := h.dom _ _ e; rw [hb] at this; simp at this

theorem upd_ext0 {j : JM} {b0 : Nat} (h : j b0 = none) (loc : Loc) : Ext j (upd j b0 loc) := by
  intro b l hb
  simp only [upd]
  rw [if_neg (fun e => by rw [e, h] at hb; simp at hb)]
  exact hb

theorem upd_ext {j : JM} {H : Heap} {w : World} (h : WR j H w) (loc : Loc) : Ext j (upd j H.nb loc) := upd_ext0 (j_none h (not_has_nb H)) loc

/-- a new block, under a number that is free -/
theorem lay_all {j : JM} {H H2 : Heap} {w w' : World} (h : WR j H w) (b0 : Nat) (hb0 : j b0 = none) (cs : List AV) (hget : ∀ m, H2.get m = if m = b0 then some cs else H.get m) (hn : H2.has b0 = true) (hn2 : ∀ b, H.has b = true → H2.has b = true) (hro : ∀ b, H2.wr b = H.wr b)
    (l : List Value) (ext : List Value) (elem : TypeId) (fz : Nat × Nat)
    (hl : VRs j cs l) (hh : w'.heap = w.heap.push (.cells (l ++ ext).toArray elem fz)) (hfz : fz.2 ≤ fz.1 ∨ (l ++ ext).length ≤ fz.1) :
    Ext j (upd j b0 ⟨w.heap.size, 0, (l ++ ext).length⟩) ∧ WR (upd j b0 ⟨w.heap.size, 0, (l ++ ext).length⟩) H2 w' ∧ w.heap.size ≤ w'.heap.size ∧ (∀ k, k < w.heap.size → w'.heap[k]? = w.heap[k]?) ∧
      ∀ k, k < w.heap.size → Own (upd j b0 ⟨w.heap.size, 0, (l ++ ext).length⟩) H2 k → Own j H k := by
  have hlen := VRs.length hl
  have hnew : w'.heap[w.heap.size]? = some (.cells (l ++ ext).toArray elem fz) := by rw [hh]; simp
  have hold : ∀ k, k < w.heap.size → w'.heap[k]? = w.heap[k]? := fun k hk => by rw [hh]; exact Array.getElem?_push_lt hk ▸ (Array.getElem?_eq_getElem hk).symm ▸ rfl
  have hsz : w'.heap.size = w.heap.size + 1 := by rw [hh]; simp
  have hext := upd_ext0 hb0 ⟨w.heap.size, 0, (l ++ ext).length⟩
  have blk_lt : ∀ b cs0 loc, H.get b = some cs0 → upd j b0 ⟨w.heap.size, 0, (l ++ ext).length⟩ b = some loc → b ≠ b0 → j b = some loc ∧ loc.blk < w.heap.size := by
    intro b cs0 loc hb hj hne
    simp only [upd, hne, if_false] at hj
    obtain ⟨loc', hj', hl', _⟩ := h.cell b cs0 hb
    rw [hj] at hj'
    obtain rfl := Option.some.inj hj'
    exact ⟨hj, hl'⟩
  refine ⟨hext, ⟨?_, ?_, ?_, ?_, ?_, by have := h.gsz; omega, Home.keep w w' h.inv (by omega) (fun k hk => hold k (by have := h.gsz; omega)), ?_⟩, by omega, hold, ?_⟩
  · intro b loc hb
    simp only [upd] at hb
    split at hb
    · rename_i e; rw [e]; exact hn
    · exact hn2 _ (h.dom b loc hb)
  · intro b cs0 hb
    simp only [hget] at hb
    split at hb
    · rename_i e; rw [e]; exact hn
    · exact hn2 _ (h.hdom b cs0 hb)
  · intro b cs0 hb
    simp only [hget] at hb
    split at hb
    · rename_i e
      subst e
      obtain rfl := Option.some.inj hb
      refine ⟨⟨w.heap.size, 0, (l ++ ext).length⟩, by simp [upd], by show w.heap.size < w'.heap.size; omega, by simp [hlen], fun i x hx => ?_⟩
      obtain ⟨c, hc, hv⟩ := VRs.get hl i x hx
      refine ⟨c, ?_, VR.mono hext hv⟩
      have hi : i < l.length := by
        rcases Nat.lt_or_ge i l.length with hlt | hge
        · exact hlt
        · rw [List.getElem?_eq_none hge] at hc; simp at hc
      simp only [World.cell?, hnew, Nat.zero_add, Option.isSome_none, Bool.false_eq_true, if_false, List.getElem?_toArray]
      rw [List.getElem?_append_left hi]
      exact hc
    · rename_i e
      obtain ⟨loc, hj, hlt, he, hc⟩ := h.cell b cs0 hb
      refine ⟨loc, by simp [upd, e, hj], by omega, he, fun i x hx => ?_⟩
      obtain ⟨c, h1, h2⟩ := hc i x hx
      exact ⟨c, by rw [cell?_of_heap (hold _ hlt)]; exact h1, VR.mono hext h2⟩
  · intro b cs0 loc hr hb hj i hi
    simp only [hget] at hb
    split at hb
    · rename_i e
      subst e
      simp only [upd, if_true] at hj
      obtain rfl := Option.some.inj hj
      simp only at hi
      refine ⟨⟨(l ++ ext)[i], ?_⟩, ?_⟩
      · simp only [World.cell?, hnew, Nat.zero_add, Option.isSome_none, Bool.false_eq_true, if_false, List.getElem?_toArray]
        exact List.getElem?_eq_getElem hi
      · simp only [World.frozen?, hnew, Nat.zero_add]
        rcases hfz with hz | hz
        · have : ¬ (fz.1 ≤ i ∧ i < fz.2) := by omega
          simp; omega
        · simp; omega
    · rename_i e
      obtain ⟨hj', hlt⟩ := blk_lt b cs0 loc hb hj e
      obtain ⟨h1, h2⟩ := h.own b cs0 loc (hro _ ▸ hr) hb hj' i hi
      exact ⟨by rw [cell?_of_heap (hold _ hlt)]; exact h1, by rw [frozen?_of_heap (hold _ hlt)]; exact h2⟩
  · intro b b' cs1 cs2 loc loc' hr hne hb hb' hj hj'
    simp only [hget] at hb hb'
    split at hb
    · rename_i e
      split at hb'
      · omega
      · rename_i e'
        obtain ⟨_, hlt⟩ := blk_lt b' cs2 loc' hb' hj' e'
        subst e
        simp only [upd, if_true] at hj
        obtain rfl := Option.some.inj hj
        simp only
        omega
    · rename_i e
      obtain ⟨hj1, hlt⟩ := blk_lt b cs1 loc hb hj e
      split at hb'
      · rename_i e'
        subst e'
        simp only [upd, if_true] at hj'
        obtain rfl := Option.some.inj hj'
        simp only
        omega
      · rename_i e'
        obtain ⟨hj2, _⟩ := blk_lt b' cs2 loc' hb' hj' e'
        exact h.apart b b' cs1 cs2 loc loc' (hro _ ▸ hr) hne hb hb' hj1 hj2
  · intro b cs0 loc hr hb hj
    simp only [hget] at hb
    split at hb
    · rename_i e
      subst e
      simp only [upd, if_true] at hj
      obtain rfl := Option.some.inj hj
      exact h.gsz
    · rename_i e
      exact h.lo b cs0 loc (hro _ ▸ hr) hb (blk_lt b cs0 loc hb hj e).1
  · rintro k hk ⟨b, cs0, loc, hr, hb, hj, rfl⟩
    simp only [hget] at hb
    split at hb
    · rename_i e
      subst e
      simp only [upd, if_true] at hj
      obtain rfl := Option.some.inj hj
      simp only at hk
      omega
    · rename_i e
      obtain ⟨hj', _⟩ := blk_lt b cs0 loc hb hj e
      exact ⟨b, cs0, loc, hro _ ▸ hr, hb, hj', rfl⟩

/-- a new block -/
theorem Trans.push {j : JM} {H : Heap} {w w' : World} (h : WR j H w) (cs : List AV) (l : List Value) (ext : List Value) (elem : TypeId) (fz : Nat × Nat)
    (hl : VRs j cs l) (hh : w'.heap = w.heap.push (.cells (l ++ ext).toArray elem fz)) (hfz : fz.2 ≤ fz.1 ∨ (l ++ ext).length ≤ fz.1) (hos : w'.os = w.os) (ht : w'.tape = w.tape) (ho : w'.output = w.output) :
    Trans j H w (upd j H.nb ⟨w.heap.size, 0, (l ++ ext).length⟩) (H.push cs) w' := by
  obtain ⟨a1, a2, a3, a4, a5⟩ := lay_all (H2 := H.push cs) h H.nb (j_none h (not_has_nb H)) cs (fun m => Heap.get_push ..) (has_push_nb H cs) (fun b hb => has_push cs hb) (fun _ => rfl) l ext elem fz hl hh hfz
  exact ⟨a1, a2, fun _ => rfl, fun b hb => has_push cs hb, hos, ht, ho, a3, fun k hk _ => a4 k hk, a5, fun b hb hn => by simp only [upd]; rw [if_neg (ne_nb hb)]; exact hn⟩

/-- a new block of a kind -/
theorem Trans.pushA {j : JM} {H : Heap} {w w' : World} (h : WR j H w) {a : Nat} (ha : a < 8) (cs : List AV) (l : List Value) (ext : List Value) (elem : TypeId) (fz : Nat × Nat)
    (hl : VRs j cs l) (hh : w'.heap = w.heap.push (.cells (l ++ ext).toArray elem fz)) (hfz : fz.2 ≤ fz.1 ∨ (l ++ ext).length ≤ fz.1) (hos : w'.os = w.os) (ht : w'.tape = w.tape) (ho : w'.output = w.output) :
    Trans j H w (upd j (H.na a) ⟨w.heap.size, 0, (l ++ ext).length⟩) (H.pushA a cs) w' := by
  obtain ⟨a1, a2, a3, a4, a5⟩ := lay_all (H2 := H.pushA a cs) h (H.na a) (j_none h (not_has_na ha H)) cs (fun m => Heap.get_pushA ..) (has_pushA_na ha H cs) (fun b hb => has_pushA a cs hb) (fun _ => rfl) l ext elem fz hl hh hfz
  exact ⟨a1, a2, fun _ => rfl, fun b hb => has_pushA a cs hb, hos, ht, ho, a3, fun k hk _ => a4 k hk, a5, fun b hb hn => by simp only [upd]; rw [if_neg (ne_na ha hb)]; exact hn⟩

/-- the same under a number that was kept back, behind what went before -/
theorem Trans.laid {j0 j : JM} {H0 H H2 : Heap} {w0 w w' : World} (T : Trans j0 H0 w0 j H w) (b0 : Nat) (hb0 : j b0 = none) (hb : H0.has b0 = false) (cs : List AV) (hget : ∀ m, H2.get m = if m = b0 then some cs else H.get m) (hn : H2.has b0 = true) (hn2 : ∀ b, H2.has b = H.has b) (hro : ∀ b, H2.wr b = H.wr b)
    (l : List Value) (ext : List Value) (elem : TypeId) (fz : Nat × Nat)
    (hl : VRs j cs l) (hh : w'.heap = w.heap.push (.cells (l ++ ext).toArray elem fz)) (hfz : fz.2 ≤ fz.1 ∨ (l ++ ext).length ≤ fz.1) (hos : w'.os = w.os) (ht : w'.tape = w.tape) (ho : w'.output = w.output) :
    Trans j0 H0 w0 (upd j b0 ⟨w.heap.size, 0, (l ++ ext).length⟩) H2 w' := by
  obtain ⟨a1, a2, a3, a4, a5⟩ := lay_all T.wr b0 hb0 cs hget hn (fun b hb => by rw [hn2]; exact hb) hro l ext elem fz hl hh hfz
  refine ⟨T.ext.trans a1, a2, fun b => (hro b).trans (T.ro b), fun b hb => by rw [hn2]; exact T.next b hb, hos.trans T.os, ht.trans T.tape, ho.trans T.output, Nat.le_trans T.size a3, fun k hk hno => ?_, fun k hk ho => T.grow k hk (a5 k (Nat.lt_of_lt_of_le hk T.size) ho), fun b hlt hnone => ?_⟩
  · rw [a4 k (Nat.lt_of_lt_of_le hk T.size)]; exact T.keep k hk hno
  · simp only [upd]; rw [if_neg (fun e => by rw [e, hb] at hlt; simp at hlt)]; exact T.old b hlt hnone

end Go.Ev

/- Memory operations of the abstract evaluator against the loaded memory. -/

namespace Go.Ev
set_option linter.unusedSectionVars false
variable [Home]
set_option linter.unusedVariables false
set_option linter.unusedSimpArgs false
open Go

theorem add_lit (b o n : Nat) : Addr.add ⟨b, o, none⟩ n = ⟨b, o + n, none⟩ := Addr.add_lit b o n

theorem exists_list {j : JM} {f : Nat → Option Value} : ∀ (cs : List AV) (k : Nat), (∀ (i : Nat) (x : AV), cs[i]? = some x → ∃ c, f (k + i) = some c ∧ VR j x c) →
    ∃ l, VRs j cs l ∧ ∀ (i : Nat) (v : Value), l[i]? = some v → f (k + i) = some v
  | [], _, _ => ⟨[], rfl, fun i v h => by simp at h⟩
  | x :: xs, k, h => by
    obtain ⟨c, h1, h2⟩ := h 0 x rfl
    obtain ⟨l, h3, h4⟩ := exists_list xs (k + 1) (fun i y hy => by
      have := h (i + 1) y (by simpa using hy)
      rwa [show k + (i + 1) = k + 1 + i by omega] at this)
    refine ⟨c :: l, ⟨c, l, rfl, h2, h3⟩, fun i v hv => ?_⟩
    cases i with
    | zero => simp only [List.getElem?_cons_zero, Option.some.injEq] at hv; subst hv; exact h1
    | succ i =>
      have := h4 i v (by simpa using hv)
      rwa [show k + (i + 1) = k + 1 + i by omega]

theorem loadAt_some {H : Heap} {b off n : Nat} {cs : List AV} (h : loadAt H b off n = some cs) :
    ∃ L, H.get b = some L ∧ off + n ≤ L.length ∧ cs = (L.drop off).take n := by
  unfold loadAt at h
  split at h
  · rename_i L hL
    simp only [cond_eq_ite, decide_eq_true_eq] at h
    split at h
    · rename_i hle; exact ⟨L, hL, hle, (Option.some.inj h).symm⟩
    · simp at h
  · simp at h

theorem loadAt_length {H : Heap} {b off n : Nat} {cs : List AV} (h : loadAt H b off n = some cs) : cs.length = n := by
  obtain ⟨L, _, hle, rfl⟩ := loadAt_some h
  simp; omega

/-- what is read -/
theorem load_sound {P : Program} {j : JM} {H : Heap} {w : World} (hw : WR j H w) {b off n : Nat} {cs : List AV} {loc : Loc}
    (h : loadAt H b off n = some cs) (hj : j b = some loc) :
    ∃ l, VRs j cs l ∧ (loadCells ⟨loc.blk, loc.off + off, none⟩ n).run P w = .ok l.toArray w ∧ (∀ (i : Nat) (v : Value), l[i]? = some v → w.cell? ⟨loc.blk, loc.off + off + i, none⟩ = some v) := by
  obtain ⟨L, hL, hle, rfl⟩ := loadAt_some h
  obtain ⟨loc', hj', _, _, hc⟩ := hw.cell b L hL
  rw [hj] at hj'
  obtain rfl := Option.some.inj hj'
  obtain ⟨l, hl, hf⟩ := exists_list (j := j) (f := fun i => w.cell? ⟨loc.blk, loc.off + off + i, none⟩) ((L.drop off).take n) 0 (fun i x hx => by
    have hx' : L[off + i]? = some x := by
      rw [List.getElem?_take] at hx
      split at hx
      · rw [List.getElem?_drop] at hx; exact hx
      · simp at hx
    obtain ⟨c, h1, h2⟩ := hc (off + i) x hx'
    exact ⟨c, by rw [Nat.zero_add, Nat.add_assoc]; exact h1, h2⟩)
  have hlen : l.length = n := by rw [VRs.length hl]; simp; omega
  refine ⟨l, hl, ?_, fun i v hv => by simpa using hf i v hv⟩
  rw [← hlen]
  refine run_loadCells_list w _ l (fun i v hv => ?_)
  have := hf i v hv
  rw [add_lit]
  simpa using this

/-- one cell that is written -/
theorem run_store_cell {P : Program} {w : World} {blk off : Nat} {v c : Value} (hv : v.oneCell' = true) (hc : w.cell? ⟨blk, off, none⟩ = some c)
    (hf : w.frozen? ⟨blk, off, none⟩ = false) : (store ⟨blk, off, none⟩ v).run P w = .ok () (w.setCell ⟨blk, off, none⟩ v) := by
  rw [run_store P w _ v _ hv]
  simp [hc, hf]

theorem run_storeCells {P : Program} (blk off : Nat) : ∀ (vs : List Value) (i : Nat) (w : World),
    (∀ k, k < vs.length → (∃ c, w.cell? ⟨blk, off + i + k, none⟩ = some c) ∧ w.frozen? ⟨blk, off + i + k, none⟩ = false) →
    (∀ v ∈ vs, v.oneCell' = true) →
    ∃ w', (storeCells ⟨blk, off, none⟩ vs i).run P w = .ok () w' ∧ w'.heap.size = w.heap.size ∧ w'.os = w.os ∧ w'.tape = w.tape ∧ w'.output = w.output ∧
      (∀ k, k ≠ blk → w'.heap[k]? = w.heap[k]?) ∧ (∀ a, w'.frozen? a = w.frozen? a) ∧
      (∀ o, w'.cell? ⟨blk, o, none⟩ = if off + i ≤ o ∧ o < off + i + vs.length then vs[o - (off + i)]? else w.cell? ⟨blk, o, none⟩)
  | [], i, w, _, _ => ⟨w, by simp [storeCells], rfl, rfl, rfl, rfl, fun _ _ => rfl, fun _ => rfl, fun o => by rw [if_neg (by simp)]⟩
  | v :: vs, i, w, h, hv => by
    obtain ⟨⟨c, hc⟩, hf⟩ := h 0 (by simp)
    simp only [Nat.add_zero] at hc hf
    have h1 := run_store_cell (P := P) (hv v (by simp)) hc hf
    obtain ⟨w', r, e1, e2, e3, e4, e5, e6, e7⟩ := run_storeCells (P := P) blk off vs (i + 1) (w.setCell ⟨blk, off + i, none⟩ v) (fun k hk => by
      obtain ⟨⟨c', hc'⟩, hf'⟩ := h (k + 1) (by simp; omega)
      rw [show off + i + (k + 1) = off + (i + 1) + k by omega] at hc' hf'
      refine ⟨⟨c', ?_⟩, by rw [World.frozen?_setCell]; exact hf'⟩
      rw [World.cell?_setCell_other _ _ _ _ (by simp; omega)]
      exact hc') (fun u hu => hv u (by simp [hu]))
    refine ⟨w', ?_, by rw [e1]; simp, e2, e3, e4, fun k hk => by rw [e5 k hk, RowKit.Below.heap_setCell _ _ _ _ hk], fun a => by rw [e6, World.frozen?_setCell], fun o => ?_⟩
    · simp only [storeCells, add_lit, Sem.run_bind, h1, Result.andThen_ok]
      exact r
    · rw [e7]
      by_cases ho : o = off + i
      · subst ho
        rw [if_neg (by omega), if_pos (by simp)]
        simp [World.cell?_setCell_same _ _ _ hc]
      · rw [World.cell?_setCell_other _ _ _ _ (by simp; omega)]
        by_cases hin : off + (i + 1) ≤ o ∧ o < off + (i + 1) + vs.length
        · rw [if_pos hin, if_pos (by simp; omega)]
          rw [show o - (off + i) = (o - (off + (i + 1))) + 1 by omega]
          simp
        · rw [if_neg hin, if_neg (by simp; omega)]

theorem storeAt_some {H H' : Heap} {b off : Nat} {vs : List AV} (h : storeAt H b off vs = some H') :
    ∃ L, H.wr b = true ∧ vs.all AV.one = true ∧ H.get b = some L ∧ off + vs.length ≤ L.length ∧ H' = H.setTo b (some (L.take off ++ (vs ++ L.drop (off + vs.length)))) := by
  unfold storeAt at h
  simp only [cond_eq_ite, Bool.and_eq_true, decide_eq_true_eq] at h
  split at h
  · rename_i hh
    split at h
    · rename_i L hL
      split at h
      · rename_i hle; exact ⟨L, hh.1, hh.2, hL, hle, (Option.some.inj h).symm⟩
      · simp at h
    · simp at h
  · simp at h

theorem VRs.ones {j : JM} : ∀ {vs : List AV} {l : List Value}, VRs j vs l → vs.all AV.one = true → ∀ v ∈ l, v.oneCell' = true
  | [], _, r, _, v, hv => by simp only [VRs] at r; subst r; simp at hv
  | _ :: _, _, ⟨c, cs, a, b, d⟩, h, v, hv => by
    subst a
    simp only [List.all_cons, Bool.and_eq_true] at h
    rcases List.mem_cons.1 hv with e | e
    · subst e; exact VR.one b h.1
    · exact VRs.ones d h.2 v e

/-- what is written -/
theorem store_sound {P : Program} {j : JM} {H H' : Heap} {w : World} (hw : WR j H w) {b off : Nat} {vs : List AV} {l : List Value} {loc : Loc}
    (h : storeAt H b off vs = some H') (hj : j b = some loc) (hl : VRs j vs l) :
    ∃ w', (storeCells ⟨loc.blk, loc.off + off, none⟩ l).run P w = .ok () w' ∧ Trans j H w j H' w' := by
  obtain ⟨L, hro, hone, hL, hle, rfl⟩ := storeAt_some h
  have hlen := VRs.length hl
  obtain ⟨loc', hj', hlt, hext, hc⟩ := hw.cell b L hL
  rw [hj] at hj'
  obtain rfl := Option.some.inj hj'
  have hown := hw.own b L loc hro hL hj
  obtain ⟨w', r, e1, e2, e3, e4, e5, e6, e7⟩ := run_storeCells (P := P) loc.blk (loc.off + off) l 0 w (fun k hk => by
    have := hown (off + k) (by omega)
    simpa [Nat.add_assoc] using this) (VRs.ones hl hone)
  have hblk := hw.lo b L loc hro hL hj
  refine ⟨w', r, Ext.refl j, ⟨hw.dom, ?_, ?_, ?_, ?_, by have := hw.gsz; omega, Home.keep w w' hw.inv (by omega) (fun k hk => e5 k (by omega)), ?_⟩, fun _ => rfl, fun _ h => h, e2, e3, e4, by omega, ?_, ?_, fun _ _ h => h⟩
  · intro b' cs hb'
    simp only [Heap.get_setTo] at hb'
    split at hb'
    · rename_i e; subst e; exact hw.hdom b' L hL
    · exact hw.hdom b' cs hb'
  · intro b' cs hb'
    simp only [Heap.get_setTo] at hb'
    split at hb'
    · rename_i e
      subst e
      obtain rfl := Option.some.inj hb'
      refine ⟨loc, hj, by omega, by simp; omega, fun i x hx => ?_⟩
      rw [e7]
      by_cases h1 : i < off
      · rw [List.getElem?_append_left (by simp; omega), List.getElem?_take, if_pos h1] at hx
        obtain ⟨c, h2, h3⟩ := hc i x hx
        exact ⟨c, by rw [if_neg (by omega)]; exact h2, h3⟩
      · rw [List.getElem?_append_right (by simp; omega)] at hx
        have hto : (L.take off).length = off := by simp; omega
        rw [hto] at hx
        by_cases h2 : i < off + vs.length
        · rw [List.getElem?_append_left (by omega)] at hx
          obtain ⟨c, h3, h4⟩ := VRs.get hl _ x hx
          refine ⟨c, ?_, h4⟩
          rw [if_pos (by omega), ← h3]
          congr 1; omega
        · rw [List.getElem?_append_right (by omega), List.getElem?_drop] at hx
          obtain ⟨c, h3, h4⟩ := hc _ x hx
          refine ⟨c, ?_, h4⟩
          rw [if_neg (by omega), ← h3]
          congr 2; omega
    · rename_i e
      obtain ⟨loc2, hj2, hlt2, hext2, hc2⟩ := hw.cell b' cs hb'
      have hne : loc2.blk ≠ loc.blk := (hw.apart b b' L cs loc loc2 hro (Ne.symm e) hL hb' hj hj2).symm
      refine ⟨loc2, hj2, by omega, hext2, fun i x hx => ?_⟩
      obtain ⟨c, h1, h2⟩ := hc2 i x hx
      exact ⟨c, by rw [cell?_of_heap (e5 _ hne)]; exact h1, h2⟩
  · intro b' cs loc2 hr hb' hj2 i hi
    simp only [Heap.get_setTo] at hb'
    split at hb'
    · rename_i e
      subst e
      rw [hj] at hj2
      obtain rfl := Option.some.inj hj2
      obtain ⟨⟨c, h1⟩, h2⟩ := hown i hi
      refine ⟨?_, by rw [e6]; exact h2⟩
      rw [e7]
      split
      · rename_i hin
        exact ⟨l[loc.off + i - (loc.off + off + 0)]'(by omega), List.getElem?_eq_getElem (by omega)⟩
      · exact ⟨c, h1⟩
    · rename_i e
      have hne : loc2.blk ≠ loc.blk := (hw.apart b b' L cs loc loc2 hro (Ne.symm e) hL hb' hj hj2).symm
      obtain ⟨h1, h2⟩ := hw.own b' cs loc2 hr hb' hj2 i hi
      exact ⟨by rw [cell?_of_heap (e5 _ hne)]; exact h1, by rw [e6]; exact h2⟩
  · intro b1 b2 cs1 cs2 loc1 loc2 hr hne h1 h2 hj1 hj2
    have get' : ∀ b' cs, (H.setTo b (some (L.take off ++ (vs ++ L.drop (off + vs.length))))).get b' = some cs → ∃ cs', H.get b' = some cs' := by
      intro b' cs hb'
      simp only [Heap.get_setTo] at hb'
      split at hb'
      · rename_i e; subst e; exact ⟨L, hL⟩
      · exact ⟨cs, hb'⟩
    obtain ⟨c1, g1⟩ := get' b1 cs1 h1
    obtain ⟨c2, g2⟩ := get' b2 cs2 h2
    exact hw.apart b1 b2 c1 c2 loc1 loc2 hr hne g1 g2 hj1 hj2
  · intro b' cs loc2 hr hb' hj2
    simp only [Heap.get_setTo] at hb'
    split at hb'
    · rename_i e; subst e; exact hw.lo b' L loc2 hr hL hj2
    · exact hw.lo b' cs loc2 hr hb' hj2
  · intro k hk hn
    refine e5 k (fun e => hn ?_)
    subst e
    exact ⟨b, L, loc, hro, hL, hj, rfl⟩
  · rintro k hk ⟨b', cs, loc2, hr, hb', hj2, rfl⟩
    simp only [Heap.get_setTo] at hb'
    split at hb'
    · rename_i e; subst e; exact ⟨b', L, loc2, hr, hL, hj2, rfl⟩
    · exact ⟨b', cs, loc2, hr, hb', hj2, rfl⟩

/-- a block that is done with -/
theorem Trans.kill {j : JM} {H : Heap} {w : World} (hw : WR j H w) (b : Nat) : Trans j H w j (H.setTo b none) w := by
  have g : ∀ b' cs, (H.setTo b none).get b' = some cs → H.get b' = some cs := by
    intro b' cs h
    simp only [Heap.get_setTo] at h
    split at h
    · simp at h
    · exact h
  refine ⟨Ext.refl j, ⟨hw.dom, fun b' cs h => hw.hdom b' cs (g b' cs h), fun b' cs h => hw.cell b' cs (g b' cs h), fun b' cs loc hr h => hw.own b' cs loc hr (g b' cs h),
    fun b1 b2 c1 c2 l1 l2 hr hne h1 h2 => hw.apart b1 b2 c1 c2 l1 l2 hr hne (g _ _ h1) (g _ _ h2), hw.gsz, hw.inv,
    fun b' cs loc hr h => hw.lo b' cs loc hr (g b' cs h)⟩, fun _ => rfl, fun _ h => h, rfl, rfl, rfl, Nat.le_refl _, fun _ _ _ => rfl, ?_, fun _ _ h => h⟩
  rintro k hk ⟨b', cs, loc, hr, hb, hj, e⟩
  exact ⟨b', cs, loc, hr, g _ _ hb, hj, e⟩

/-- an append that finds room: its cells go on in the block that it was called with, which is done with -/
theorem Trans.inplaceG {P : Program} {j : JM} {H H2 : Heap} {w : World} (hw : WR j H w) {b off m : Nat} {old new : List AV} {lnew : List Value} {loc : Loc} {e : Nat}
    (hro : H.wr b = true) (h : loadAt H b off m = some old) (hj : j b = some loc) (hl : VRs j new lnew) (hone : new.all AV.one = true)
    (hm : m + new.length ≤ e) (he : off + e ≤ loc.ext) {b0 : Nat} (h00 : H.has b0 = false) (hget : ∀ x, H2.get x = if x = b0 then some (old ++ new) else if x = b then none else H.get x)
    (h01 : H2.has b0 = true) (h02 : ∀ x, H.has x = true → H2.has x = true) (hwr : ∀ x, H2.wr x = H.wr x) :
    ∃ w', (storeCells ⟨loc.blk, loc.off + off + m, none⟩ lnew).run P w = .ok () w' ∧
      Trans j H w (upd j b0 ⟨loc.blk, loc.off + off, e⟩) H2 w' := by
  obtain ⟨L, hL, hle, rfl⟩ := loadAt_some h
  have hlen := VRs.length hl
  obtain ⟨loc', hj', hlt, hext, hc⟩ := hw.cell b L hL
  rw [hj] at hj'
  obtain rfl := Option.some.inj hj'
  have hown := hw.own b L loc hro hL hj
  obtain ⟨w', r, e1, e2, e3, e4, e5, e6, e7⟩ := run_storeCells (P := P) loc.blk (loc.off + off + m) lnew 0 w (fun k hk => by
    have := hown (off + m + k) (by omega)
    simpa [Nat.add_assoc] using this) (VRs.ones hl hone)
  have hex := upd_ext0 (j_none hw h00) ⟨loc.blk, loc.off + off, e⟩
  have hx0 : ∀ x, H.has x = true → x ≠ b0 := fun x hx e => by rw [e, h00] at hx; simp at hx
  have hbn : b ≠ b0 := hx0 b (hw.hdom b L hL)
  have gold : ∀ b' cs, b' ≠ b0 → H2.get b' = some cs → b' ≠ b ∧ H.get b' = some cs := by
    intro b' cs hne hb'
    rw [hget, if_neg hne] at hb'
    split at hb'
    · simp at hb'
    · rename_i e'; exact ⟨e', hb'⟩
  have jold : ∀ b', b' ≠ b0 → upd j b0 ⟨loc.blk, loc.off + off, e⟩ b' = j b' := fun b' hne => by simp [upd, hne]
  have jnew : upd j b0 ⟨loc.blk, loc.off + off, e⟩ b0 = some ⟨loc.blk, loc.off + off, e⟩ := by simp [upd]
  have hblk := hw.lo b L loc hro hL hj
  refine ⟨w', r, hex, ⟨?_, ?_, ?_, ?_, ?_, by have := hw.gsz; omega, Home.keep w w' hw.inv (by omega) (fun k hk => e5 k (by omega)), ?_⟩, hwr, h02, e2, e3, e4, by omega, ?_, ?_, fun x hx hn => by simp only [upd]; rw [if_neg (hx0 x hx)]; exact hn⟩
  · intro b' loc' hb'
    simp only [upd] at hb'
    split at hb'
    · rename_i e'; rw [e']; exact h01
    · exact h02 _ (hw.dom b' loc' hb')
  · intro b' cs hb'
    by_cases hne : b' = b0
    · rw [hne]; exact h01
    · exact h02 _ (hw.hdom b' cs (gold b' cs hne hb').2)
  · intro b' cs hb'
    by_cases hne : b' = b0
    · subst hne
      rw [hget, if_pos rfl] at hb'
      obtain rfl := Option.some.inj hb'
      refine ⟨_, jnew, by simp only; omega, by simp; omega, fun i x hx => ?_⟩
      simp only
      rw [e7]
      have hto : ((L.drop off).take m).length = m := by simp; omega
      by_cases h1 : i < m
      · rw [List.getElem?_append_left (by omega), List.getElem?_take, if_pos h1, List.getElem?_drop] at hx
        obtain ⟨c, h2, h3⟩ := hc _ x hx
        refine ⟨c, ?_, VR.mono hex h3⟩
        rw [if_neg (by omega), ← h2]
        congr 2; omega
      · rw [List.getElem?_append_right (by omega), hto] at hx
        obtain ⟨c, h2, h3⟩ := VRs.get hl _ x hx
        refine ⟨c, ?_, VR.mono hex h3⟩
        have hi : i - m < lnew.length := by
          rcases Nat.lt_or_ge (i - m) lnew.length with hlt' | hge
          · exact hlt'
          · rw [List.getElem?_eq_none hge] at h2; simp at h2
        rw [if_pos (by omega), ← h2]
        congr 1; omega
    · obtain ⟨hnb, hb2⟩ := gold b' cs hne hb'
      obtain ⟨loc2, hj2, hlt2, hext2, hc2⟩ := hw.cell b' cs hb2
      have hneq : loc2.blk ≠ loc.blk := (hw.apart b b' L cs loc loc2 hro (Ne.symm hnb) hL hb2 hj hj2).symm
      refine ⟨loc2, by rw [jold b' hne]; exact hj2, by omega, hext2, fun i x hx => ?_⟩
      obtain ⟨c, h1, h2⟩ := hc2 i x hx
      exact ⟨c, by rw [cell?_of_heap (e5 _ hneq)]; exact h1, VR.mono hex h2⟩
  · intro b' cs loc2 hr hb' hj2 i hi
    by_cases hne : b' = b0
    · subst hne
      rw [jnew] at hj2
      obtain rfl := Option.some.inj hj2
      simp only at hi ⊢
      obtain ⟨⟨c, h1⟩, h2⟩ := hown (off + i) (by omega)
      rw [show loc.off + (off + i) = loc.off + off + i by omega] at h1 h2
      refine ⟨?_, by rw [e6]; exact h2⟩
      rw [e7]
      split
      · rename_i hin
        exact ⟨lnew[loc.off + off + i - (loc.off + off + m + 0)]'(by omega), List.getElem?_eq_getElem (by omega)⟩
      · exact ⟨c, h1⟩
    · obtain ⟨hnb, hb2⟩ := gold b' cs hne hb'
      rw [jold b' hne] at hj2
      have hneq : loc2.blk ≠ loc.blk := (hw.apart b b' L cs loc loc2 hro (Ne.symm hnb) hL hb2 hj hj2).symm
      obtain ⟨h1, h2⟩ := hw.own b' cs loc2 (by rw [← hwr]; exact hr) hb2 hj2 i hi
      exact ⟨by rw [cell?_of_heap (e5 _ hneq)]; exact h1, by rw [e6]; exact h2⟩
  · intro b1 b2 cs1 cs2 loc1 loc2 hr hne h1 h2 hj1 hj2
    have hr' : H.wr b1 = true := by rw [← hwr]; exact hr
    by_cases n1 : b1 = b0
    · have n2 : b2 ≠ b0 := fun e' => hne (n1.trans e'.symm)
      obtain ⟨hnb, g2⟩ := gold b2 cs2 n2 h2
      rw [n1, jnew] at hj1
      rw [jold b2 n2] at hj2
      obtain rfl := Option.some.inj hj1
      exact hw.apart b b2 L cs2 loc loc2 hro (Ne.symm hnb) hL g2 hj hj2
    · obtain ⟨hnb, g1⟩ := gold b1 cs1 n1 h1
      rw [jold b1 n1] at hj1
      by_cases n2 : b2 = b0
      · rw [n2, jnew] at hj2
        obtain rfl := Option.some.inj hj2
        exact (hw.apart b b1 L cs1 loc loc1 hro (Ne.symm hnb) hL g1 hj hj1).symm
      · obtain ⟨_, g2⟩ := gold b2 cs2 n2 h2
        rw [jold b2 n2] at hj2
        exact hw.apart b1 b2 cs1 cs2 loc1 loc2 hr' hne g1 g2 hj1 hj2
  · intro b' cs loc2 hr hb' hj2
    by_cases hne : b' = b0
    · subst hne
      rw [jnew] at hj2
      obtain rfl := Option.some.inj hj2
      exact hblk
    · obtain ⟨hnb, hb2⟩ := gold b' cs hne hb'
      rw [jold b' hne] at hj2
      exact hw.lo b' cs loc2 (by rw [← hwr]; exact hr) hb2 hj2
  · intro k hk hn
    refine e5 k (fun e' => hn ?_)
    subst e'
    exact ⟨b, L, loc, hro, hL, hj, rfl⟩
  · rintro k hk ⟨b', cs, loc2, hr, hb', hj2, rfl⟩
    by_cases hne : b' = b0
    · subst hne
      rw [jnew] at hj2
      obtain rfl := Option.some.inj hj2
      exact ⟨b, L, loc, hro, hL, hj, rfl⟩
    · obtain ⟨_, g⟩ := gold b' cs hne hb'
      rw [jold b' hne] at hj2
      exact ⟨b', cs, loc2, by rw [← hwr]; exact hr, g, hj2, rfl⟩

theorem Trans.inplace {P : Program} {j : JM} {H : Heap} {w : World} (hw : WR j H w) {b off m : Nat} {old new : List AV} {lnew : List Value} {loc : Loc} {e : Nat}
    (hro : H.wr b = true) (h : loadAt H b off m = some old) (hj : j b = some loc) (hl : VRs j new lnew) (hone : new.all AV.one = true)
    (hm : m + new.length ≤ e) (he : off + e ≤ loc.ext) :
    ∃ w', (storeCells ⟨loc.blk, loc.off + off + m, none⟩ lnew).run P w = .ok () w' ∧
      Trans j H w (upd j H.nb ⟨loc.blk, loc.off + off, e⟩) ((H.setTo b none).push (old ++ new)) w' :=
  Trans.inplaceG hw hro h hj hl hone hm he (not_has_nb H) (fun x => by rw [Heap.get_push, Heap.nb_setTo, Heap.get_setTo]) (has_push_nb (H.setTo b none) _) (fun x hx => has_push _ hx) (fun _ => rfl)

theorem Trans.inplaceA {P : Program} {j : JM} {H : Heap} {w : World} (hw : WR j H w) {a : Nat} (ha : a < 8) {b off m : Nat} {old new : List AV} {lnew : List Value} {loc : Loc} {e : Nat}
    (hro : H.wr b = true) (h : loadAt H b off m = some old) (hj : j b = some loc) (hl : VRs j new lnew) (hone : new.all AV.one = true)
    (hm : m + new.length ≤ e) (he : off + e ≤ loc.ext) :
    ∃ w', (storeCells ⟨loc.blk, loc.off + off + m, none⟩ lnew).run P w = .ok () w' ∧
      Trans j H w (upd j (H.na a) ⟨loc.blk, loc.off + off, e⟩) ((H.setTo b none).pushA a (old ++ new)) w' :=
  Trans.inplaceG hw hro h hj hl hone hm he (not_has_na ha H) (fun x => by rw [Heap.get_pushA, Heap.na_setTo, Heap.get_setTo]) (has_pushA_na ha (H.setTo b none) _) (fun x hx => has_pushA a _ hx) (fun _ => rfl)

end Go.Ev

/- The code of a loaded function, brought into the evaluator's form. -/

namespace Go.Ev
set_option linter.unusedSectionVars false
variable [Home]
set_option linter.unusedVariables false
set_option linter.unusedSimpArgs false
open Go

/-! ### values, operands -/
def ofS : Value → Option AV
  | .bool b => some (.bool b)
  | .int k n => some (.int k n)
  | .float k n => some (.float k n)
  | .string s => some (.str s.data.toList)
  | .pointer none => some .nilptr
  | .slice none 0 0 => some .nilsl
  | .nilFunc => some .nilfn
  | .nilIface => some .niliface
  | _ => none

def ofSs : List Value → Option (List AV)
  | [] => some []
  | v :: r => match ofS v with
    | some x => match ofSs r with
      | some xs => some (x :: xs)
      | none => none
    | none => none

def ofV : Value → Option AV
  | .agg cs => (ofSs cs.toList).map .agg
  | .tuple cs => (ofSs cs.toList).map .tup
  | .func (.func f) a c => if a.isEmpty && c.isEmpty then some (.fn f [] []) else none
  | v => ofS v

theorem ofS_sound {j : JM} {c : Value} {v : AV} (h : ofS c = some v) : VR j v c := by
  unfold ofS at h
  split at h <;> (try simp at h; done) <;> (obtain rfl := Option.some.inj h) <;> simp [VR]

theorem ofSs_sound {j : JM} : ∀ {l : List Value} {vs : List AV}, ofSs l = some vs → VRs j vs l
  | [], vs, h => by simp only [ofSs, Option.some.injEq] at h; subst h; rfl
  | c :: cs, vs, h => by
    simp only [ofSs] at h
    split at h
    · rename_i x hx
      split at h
      · rename_i xs hxs
        obtain rfl := Option.some.inj h
        exact ⟨c, cs, rfl, ofS_sound hx, ofSs_sound hxs⟩
      · simp at h
    · simp at h

theorem ofSs_ones : ∀ {l : List Value} {vs : List AV}, ofSs l = some vs → vs.all AV.one = true
  | [], vs, h => by simp only [ofSs, Option.some.injEq] at h; subst h; rfl
  | c :: cs, vs, h => by
    simp only [ofSs] at h
    split at h
    · rename_i x hx
      split at h
      · rename_i xs hxs
        obtain rfl := Option.some.inj h
        simp only [List.all_cons, Bool.and_eq_true]
        refine ⟨?_, ofSs_ones hxs⟩
        unfold ofS at hx
        split at hx <;> (try simp at hx; done) <;> (obtain rfl := Option.some.inj hx) <;> rfl
      · simp at h
    · simp at h

theorem ofV_sound {j : JM} {c : Value} {v : AV} (h : ofV c = some v) : VR j v c := by
  unfold ofV at h
  split at h
  · rename_i cs
    simp only [Option.map_eq_some_iff] at h
    obtain ⟨a, h1, rfl⟩ := h
    exact ⟨cs.toList, by simp, ofSs_sound h1⟩
  · rename_i cs
    simp only [Option.map_eq_some_iff] at h
    obtain ⟨a, h1, rfl⟩ := h
    exact ⟨cs.toList, by simp, ofSs_sound h1⟩
  · rename_i f a c
    split at h
    · rename_i he
      obtain rfl := Option.some.inj h
      simp only [Bool.and_eq_true, Array.isEmpty_iff] at he
      exact ⟨[], [], by simp [he.1, he.2], rfl, rfl⟩
    · simp at h
  · exact ofS_sound h

def cOpd : Operand → Option Opd
  | .tmp t => some (.t t)
  | .const v => (ofV v).map .c
  | .func f => some (.c (.fn f [] []))
  | .global _ => none

def cOpds : List Operand → Option (List Opd)
  | [] => some []
  | x :: r => match cOpd x with
    | some y => match cOpds r with
      | some ys => some (y :: ys)
      | none => none
    | none => none

def cOpt : Option Operand → Option (Option Opd)
  | none => some none
  | some x => (cOpd x).map some

def ER (j : JM) (e : Env) (tmps : Array Value) : Prop := ∀ t v, lk e t = some v → VR j v (tmps.getD t undef)

theorem ER.mono {j j' : JM} (h : Ext j j') {e : Env} {tmps : Array Value} (r : ER j e tmps) : ER j' e tmps := fun t v hv => VR.mono h (r t v hv)

theorem opd_sound {j : JM} {e : Env} {a : Act} (hE : ER j e a.tmps) {x : Operand} {y : Opd} {v : AV} (h : cOpd x = some y) (hv : y.get e = some v) : VR j v (a.eval x) := by
  cases x with
  | tmp t => simp only [cOpd, Option.some.injEq] at h; subst h; exact hE t v hv
  | const c =>
    simp only [cOpd, Option.map_eq_some_iff] at h
    obtain ⟨u, h1, rfl⟩ := h
    simp only [Opd.get, Option.some.injEq] at hv
    subst hv
    exact ofV_sound h1
  | global g => simp [cOpd] at h
  | func f =>
    simp only [cOpd, Option.some.injEq] at h
    subst h
    simp only [Opd.get, Option.some.injEq] at hv
    subst hv
    exact ⟨[], [], rfl, rfl, rfl⟩

theorem opds_sound {j : JM} {e : Env} {a : Act} (hE : ER j e a.tmps) : ∀ {xs : List Operand} {ys : List Opd} {vs : List AV}, cOpds xs = some ys → getAll e ys = some vs → VRs j vs (xs.map a.eval)
  | [], ys, vs, h, hv => by
    simp only [cOpds, Option.some.injEq] at h
    subst h
    simp only [getAll, Option.some.injEq] at hv
    subst hv
    rfl
  | x :: xs, ys, vs, h, hv => by
    simp only [cOpds] at h
    split at h
    · rename_i y hy
      split at h
      · rename_i ys' hys
        obtain rfl := Option.some.inj h
        simp only [getAll] at hv
        split at hv
        · rename_i v hv1
          split at hv
          · rename_i vs' hvs
            obtain rfl := Option.some.inj hv
            exact ⟨_, _, rfl, opd_sound hE hy hv1, opds_sound hE hys hvs⟩
          · simp at hv
        · simp at hv
      · simp at h
    · simp at h

/-! ### types -/
def isAgg? (P : Program) (t : TypeId) : Option Bool :=
  match P.underlying t with
  | some (.struct _) => some true
  | some (.array _ _) => some true
  | some _ => some false
  | none => none

def size? (P : Program) (t : TypeId) : Option Nat := (P.info? t).map (·.size)
def bytes? (P : Program) (t : TypeId) : Option Nat := (P.info? t).map (·.bytes)

def zeroV? (P : Program) (t : TypeId) : Option Value := (P.info? t).bind (·.zero)
def zero? (P : Program) (t : TypeId) : Option (List AV) := (zeroV? P t).bind fun z => ofSs z.cells.toList

theorem run_isAgg {P : Program} {t : TypeId} {b : Bool} (h : isAgg? P t = some b) (w : World) : (isAgg t).run P w = .ok b w := by
  unfold isAgg? at h
  unfold isAgg
  cases hu : P.underlying t with
  | none => simp [hu] at h
  | some d =>
    simp only [hu] at h
    simp only [Sem.run_bind, run_underlying hu, Result.andThen_ok]
    cases d <;> simp at h <;> subst h <;> rfl

theorem run_sizeOf {P : Program} {t : TypeId} {n : Nat} (h : size? P t = some n) (w : World) : (sizeOf t).run P w = .ok n w := by
  simp only [size?, Option.map_eq_some_iff] at h
  obtain ⟨i, h1, rfl⟩ := h
  simp [sizeOf, typeInfo, h1]

theorem run_bytes {P : Program} {t : TypeId} {n : Nat} (h : bytes? P t = some n) (w : World) : ∃ i, (typeInfo t).run P w = .ok i w ∧ i.bytes = n := by
  simp only [bytes?, Option.map_eq_some_iff] at h
  obtain ⟨i, h1, rfl⟩ := h
  exact ⟨i, by simp [typeInfo, h1], rfl⟩

theorem run_zeroV {P : Program} {t : TypeId} {z : Value} (h : zeroV? P t = some z) (w : World) : (zeroValue t).run P w = .ok z w := by
  simp only [zeroV?, Option.bind_eq_some_iff] at h
  obtain ⟨i, h1, h2⟩ := h
  simp [zeroValue, typeInfo, h1, h2]

theorem zero_sound {P : Program} {t : TypeId} {zs : List AV} (h : zero? P t = some zs) : ∃ z, zeroV? P t = some z ∧ (∀ j, VRs j zs z.cells.toList) ∧ zs.all AV.one = true := by
  simp only [zero?, Option.bind_eq_some_iff] at h
  obtain ⟨z, h1, h2⟩ := h
  exact ⟨z, h1, fun j => ofSs_sound h2, ofSs_ones h2⟩

/-- the leaves of a type, one behind the other, all of them bools (0), integers (1) and strings (2), none of them named '_' -/
def flatFs (P : Program) (go : TypeId → Option (List Nat)) : List Field → Nat → Option (List Nat)
  | [], _ => some []
  | f :: fs, n => if f.offset = n ∧ f.name ≠ "_" then (match go f.type with
      | some ks => if size? P f.type = some ks.length then (match flatFs P go fs (n + ks.length) with
        | some rest => some (ks ++ rest)
        | none => none) else none
      | none => none) else none

def flatN (P : Program) : Nat → TypeId → Option (List Nat)
  | 0, _ => none
  | d + 1, t => match P.underlying t with
    | some .bool => some [0]
    | some (.int _) => some [1]
    | some .string => some [2]
    | some (.struct fs) => if P.stoodInHeld t then none else flatFs P (flatN P d) fs.toList 0
    | some (.array n e) => match flatN P d e with
      | some ks => if size? P e = some ks.length then some (List.replicate n ks).flatten else none
      | none => none
    | _ => none

/-! ### operations -/
def elemOf? (P : Program) (t : TypeId) : Option TypeId :=
  match P.underlying t with
  | some (.slice e) => some e
  | _ => none

def field? (P : Program) (t : TypeId) (f : Nat) : Option Field :=
  match P.underlying t with
  | some (.struct fs) => fs[f]?
  | _ => none

def isU8 (P : Program) (t : TypeId) : Bool :=
  match P.underlying t with
  | some (.int .u8) => true
  | _ => false

def isConstOpd : Operand → Bool
  | .const _ => true
  | _ => false

def cParts (place : Nat → Option (Nat × Nat)) : List (Nat × Operand) → Option (List (Nat × Nat × Opd))
  | [] => some []
  | (i, x) :: r => match place i with
    | some (off, size) => match cOpd x with
      | some y => match cParts place r with
        | some ys => some ((off, size, y) :: ys)
        | none => none
      | none => none
    | none => none

def cEq (P : Program) (neg : Bool) (op : BinOp) (t : TypeId) (x y : Operand) (a b : Opd) : Option AOp :=
  match P.underlying t with
  | some .bool => some (.eqB neg a b)
  | some (.int _) => some (.bin op a b)
  | some .string => some (.bin op a b)
  | some (.pointer _) => some (.eqN 0 neg a b)
  | some (.slice _) => some (.eqN 1 neg a b)
  | some (.func _ _ _) => some (.eqN 2 neg a b)
  | some (.interface _) => if isConstOpd x || isConstOpd y then some (.eqN 3 neg a b) else none
  | some (.struct _) => if P.eqGuardType P.depth t then none else (flatN P 50 t).map fun ks => .eqA ks neg a b
  | some (.array _ _) => if P.eqGuardType P.depth t then none else (flatN P 50 t).map fun ks => .eqA ks neg a b
  | _ => none

def cBin (P : Program) (op : BinOp) (t : TypeId) (x y : Operand) (a b : Opd) : Option AOp :=
  match op with
  | .eql => cEq P false .eql t x y a b
  | .neq => cEq P true .neq t x y a b
  | op => some (.bin op a b)

def cConv (P : Program) (s d : TypeId) (a : Opd) : Option AOp :=
  match P.underlying s, P.underlying d with
  | some _, some (.int k) => some (.convI k a)
  | some .string, some .string => some (.same a)
  | some (.slice e), some .string => if isU8 P e then some (.toStr a) else none
  | some .string, some (.slice e) => if isU8 P e && size? P e == some 1 then some (.toBytes a) else none
  | _, _ => none

def cSlice (P : Program) (t : TypeId) (a : Opd) (lo hi mx : Option Opd) : Option AOp :=
  if mx.isSome && hi.isNone then none else
  match P.underlying t with
  | some (.array n e) => (size? P e).map fun s => .sliceA n s a lo hi mx
  | some .string => if mx.isNone then some (.sliceStr a lo hi) else none
  | some (.slice e) => (size? P e).map fun s => .sliceS s a lo hi mx
  | _ => none

def cBuild (P : Program) (t : TypeId) (parts : List (Nat × Operand)) : Option AOp :=
  match P.underlying t with
  | some (.struct fs) => match fs.toList.mapM (fun f => (P.info? f.type).map fun i => (f.offset, i.size)) with
    | some places => (zero? P t).bind fun z => (cParts (places.toArray[·]?) parts).map (.build z)
    | none => none
  | some (.array _ e) => match size? P e with
    | some s => (zero? P t).bind fun z => (cParts (fun i => some (i * s, s)) parts).map (.build z)
    | none => none
  | _ => none

def cCall (P : Program) (c : Call) : Option AOp :=
  match c.callee with
  | .value (.func f) => (cOpds c.args.toList).map (.call f)
  | .value (.tmp t) => (cOpds c.args.toList).map (.callv (.t t))
  | .value _ => none
  | .invoke _ _ => none
  | .builtin b => match b, c.args.toList, c.argTypes.toList with
    | .len, [x], [t] => match P.underlying t, cOpd x with
      | some .string, some a => some (.len true a)
      | some (.slice _), some a => some (.len false a)
      | some (.array n _), _ => some (.lenC n)
      | _, _ => none
    | .append, [x, y], [t, u] => match elemOf? P t, P.underlying u, cOpd x, cOpd y with
      | some e, some (.slice _), some a, some b => (size? P e).bind fun s => (bytes? P e).bind fun z => if 0 < s ∧ 0 < z ∧ (zeroV? P e).any (fun v => v.cells.size == s) = true then some (.append s z a b) else none
      | some e, some .string, some a, some b => (size? P e).bind fun s => (bytes? P e).bind fun z => if 0 < s ∧ 0 < z ∧ (zeroV? P e).any (fun v => v.cells.size == s) = true then some (.append s z a b) else none
      | _, _, _, _ => none
    | .copy, [x, y], [t, _] => match elemOf? P t, cOpd x, cOpd y with
      | some e, some a, some b => (size? P e).bind fun s => if 0 < s then some (.copy s a b) else none
      | _, _, _ => none
    | .min, xs, _ => (cOpds xs).map (.minmax false)
    | .max, xs, _ => (cOpds xs).map (.minmax true)
    | _, _, _ => none

def cOp (P : Program) : Op → Option AOp
  | .move x => (cOpd x).map .mv
  | .assign x => (cOpd x).map .mv
  | .pick c a b => (cOpd c).bind fun c => (cOpd a).bind fun a => (cOpd b).map fun b => .pick c a b
  | .unOp op _ x => (cOpd x).map (.un op)
  | .binOp op t x y _ => (cOpd x).bind fun a => (cOpd y).bind fun b => cBin P op t x y a b
  | .convert s d x => (cOpd x).bind fun a => cConv P s d a
  | .nilCheck x => (cOpd x).map .nilck
  | .fieldAddr s x f => (field? P s f).bind fun f => (size? P f.type).bind fun n => if 0 < n then (cOpd x).map (.faddr f.offset) else none
  | .indexAddr t x i => match P.underlying t with
    | some (.array n e) => (size? P e).bind fun s => (cOpd x).bind fun a => (cOpd i).map fun b => .iaddrA n s a b
    | some (.slice e) => (size? P e).bind fun s => (cOpd x).bind fun a => (cOpd i).map fun b => .iaddrS s a b
    | _ => none
  | .field s x f => (field? P s f).bind fun f => (size? P f.type).bind fun n => (isAgg? P f.type).bind fun g => (cOpd x).map (.field f.offset n g)
  | .index t x i => match P.underlying t with
    | some (.array n e) => (size? P e).bind fun s => (isAgg? P e).bind fun g => (cOpd x).bind fun a => (cOpd i).map fun b => .index n s g a b
    | some .string => (cOpd x).bind fun a => (cOpd i).map fun b => .indexStr a b
    | _ => none
  | .load t x => (size? P t).bind fun n => (isAgg? P t).bind fun g => if g = true ∨ n = 1 then (cOpd x).map (.load n g) else none
  | .store t x v => (size? P t).bind fun n => (cOpd x).bind fun a => (cOpd v).map fun b => .store n a b
  | .alloc t => (zero? P t).map .alloc
  | .box _ x => (cOpd x).map .box
  | .build t parts => cBuild P t parts.toList
  | .buildSlice t n parts => (elemOf? P t).bind fun e => (size? P e).bind fun s => (zero? P e).bind fun z =>
      if 0 < s ∧ z.length = s ∧ n * s ≤ 16777216 then (cParts (fun i => some (i * s, s)) parts.toList).map (.buildSl s n z) else none
  | .makeSlice t l c => (elemOf? P t).bind fun e => (size? P e).bind fun s => (bytes? P e).bind fun b => (zero? P e).bind fun z =>
      if 0 < s ∧ z.length = s then (cOpd l).bind fun l => (cOpd c).map fun c => .mkSl s b z l c else none
  | .slice t x lo hi mx => (cOpd x).bind fun a => (cOpt lo).bind fun lo => (cOpt hi).bind fun hi => (cOpt mx).bind fun mx => cSlice P t a lo hi mx
  | .extract x k => (cOpd x).map fun a => .extract a k
  | .call c => cCall P c
  | .makeFunc (.func f) first captured => (cOpds first.toList).bind fun a => (cOpds captured.toList).map fun b => .mkfn f a b
  | _ => none

def cIns (P : Program) (nt : Nat) (ops : Array Oper) (o : Oper) : Option AIns :=
  match cOp P o.op with
  | none => none
  | some p =>
    if (match o.dst with | some d => decide (d < nt) | none => true) then
      match o.guard with
      | none => some ⟨o.dst, none, p⟩
      | some (j, b) => match (ops[j]?).bind (·.dst) with
        | some t => if t < nt then some ⟨o.dst, some (t, b), p⟩ else none
        | none => none
    else none

def cInss (P : Program) (nt : Nat) (ops : Array Oper) : List Oper → Option (List AIns)
  | [] => some []
  | o :: r => match cIns P nt ops o with
    | some i => match cInss P nt ops r with
      | some is => some (i :: is)
      | none => none
    | none => none

/-! ### statements whose order is open -/
def depsOf (o : Oper) : List Nat := (o.after.toList.filter (Region.binds .any)).map (·.on)

def orAll (ms : List Nat) : List Nat → Nat
  | [] => 0
  | d :: r => 2 ^ d ||| (ms.getD d 0 ||| orAll ms r)

def masks : List (List Nat) → List Nat → List Nat
  | [], acc => acc
  | ds :: r, acc => masks r (acc ++ [orAll acc ds])

def allBelow (n : Nat) (f : Nat → Bool) : Bool := match n with
  | 0 => true
  | n + 1 => f n && allBelow n f

theorem allBelow_spec {f : Nat → Bool} : ∀ {n : Nat}, allBelow n f = true → ∀ i, i < n → f i = true
  | 0, _, i, hi => by omega
  | n + 1, h, i, hi => by
    simp only [allBelow, Bool.and_eq_true] at h
    by_cases e : i = n
    · rw [e]; exact h.1
    · exact allBelow_spec h.2 i (by omega)

end Go.Ev

/- Each operation of the evaluator against the loaded one. -/

namespace Go.Ev
set_option linter.unusedSectionVars false
variable [Home]
set_option linter.unusedVariables false
set_option linter.unusedSimpArgs false
open Go

theorem on1_some {x : Option AV} {f : AV → Option (AV × Heap)} {r : AV × Heap} (h : on1 x f = some r) : ∃ a, x = some a ∧ f a = some r := by
  cases x with
  | none => simp [on1] at h
  | some a => exact ⟨a, rfl, h⟩
theorem opt2_some {x y : Option AV} {f : AV → AV → Option (AV × Heap)} {r : AV × Heap} (h : opt2 x y f = some r) : ∃ a b, x = some a ∧ y = some b ∧ f a b = some r := by
  cases x with
  | none => simp [opt2] at h
  | some a => cases y with
    | none => simp [opt2] at h
    | some b => exact ⟨a, b, rfl, rfl, h⟩
theorem pureR_some {H H' : Heap} {x : Option AV} {v : AV} (h : pureR H x = some (v, H')) : x = some v ∧ H' = H := by
  cases x with
  | none => simp [pureR] at h
  | some a => simp only [pureR, Option.some.injEq, Prod.mk.injEq] at h; obtain ⟨rfl, rfl⟩ := h; exact ⟨rfl, rfl⟩
theorem pureB_some {H H' : Heap} {n : Bool} {x : Option Bool} {v : AV} (h : pureB H n x = some (v, H')) : ∃ b, x = some b ∧ v = .bool (b != n) ∧ H' = H := by
  cases x with
  | none => simp [pureB] at h
  | some a => simp only [pureB, Option.some.injEq, Prod.mk.injEq] at h; obtain ⟨rfl, rfl⟩ := h; exact ⟨a, rfl, rfl, rfl⟩
theorem bif_some {α : Type} {b : Bool} {x : Option α} {r : α} (h : (bif b then x else none) = some r) : b = true ∧ x = some r := by
  cases b <;> simp at h ⊢; exact h
theorem nif_some {α : Type} {b : Bool} {x : Option α} {r : α} (h : (bif b then none else x) = some r) : b = false ∧ x = some r := by
  cases b <;> simp at h ⊢; exact h
theorem if_some {α : Type} {b : Prop} [Decidable b] {x : Option α} {r : α} (h : (if b then x else none) = some r) : b ∧ x = some r := by
  split at h
  · exact ⟨‹_›, h⟩
  · simp at h

def Does (P : Program) (a : Act) (o : Oper) (j : JM) (H : Heap) (w : World) (v : AV) (H' : Heap) : Prop :=
  ∃ j' c w', Trans j H w j' H' w' ∧ VR j' v c ∧ ((execOp a.eval o).run P w = .ok (.value c) w' ∨ ((execOp a.eval o).run P w = .ok .skip w' ∧ c = undef))

theorem Does.pure {P : Program} {a : Act} {o : Oper} {j : JM} {H : Heap} {w : World} {v : AV} {c : Value} (hw : WR j H w) (hv : VR j v c)
    (hr : (execOp a.eval o).run P w = .ok (.value c) w) : Does P a o j H w v H := ⟨j, c, w, Trans.refl hw, hv, .inl hr⟩

section
variable {P : Program} {a : Act} {o : Oper} {j : JM} {H H' : Heap} {w : World} {e : Env} {v : AV} {callF : CallF}

theorem does_move {x : Operand} {p : AOp} (ho : o.op = .move x ∨ o.op = .assign x) (hc : (cOpd x).map .mv = some p) (hw : WR j H w) (hE : ER j e a.tmps)
    (hr : p.run callF e H = some (v, H')) : Does P a o j H w v H' := by
  simp only [Option.map_eq_some_iff] at hc
  obtain ⟨y, hy, rfl⟩ := hc
  obtain ⟨h1, rfl⟩ := pureR_some hr
  refine Does.pure hw (opd_sound hE hy h1) ?_
  rcases ho with ho | ho <;> simp [execOp, ho]

theorem does_pick {c x y : Operand} {p : AOp} (ho : o.op = .pick c x y) (hc : cOp P (.pick c x y) = some p) (hw : WR j H w) (hE : ER j e a.tmps)
    (hr : p.run callF e H = some (v, H')) : Does P a o j H w v H' := by
  simp only [cOp, Option.bind_eq_some_iff, Option.map_eq_some_iff] at hc
  obtain ⟨c', hc', x', hx', y', hy', rfl⟩ := hc
  obtain ⟨u, hu, h1⟩ := on1_some hr
  have hcr := opd_sound hE hc' hu
  cases u with
  | bool t =>
    simp only [VR] at hcr
    cases t with
    | true =>
      obtain ⟨h2, rfl⟩ := pureR_some h1
      exact Does.pure hw (opd_sound hE hx' h2) (by simp [execOp, ho, hcr, asBool])
    | false =>
      obtain ⟨h2, rfl⟩ := pureR_some h1
      exact Does.pure hw (opd_sound hE hy' h2) (by simp [execOp, ho, hcr, asBool])
  | symb t =>
    simp only [VR] at hcr
    cases t with
    | true =>
      obtain ⟨h2, rfl⟩ := pureR_some h1
      exact Does.pure hw (opd_sound hE hx' h2) (by simp [execOp, ho, hcr, asBool])
    | false =>
      obtain ⟨h2, rfl⟩ := pureR_some h1
      exact Does.pure hw (opd_sound hE hy' h2) (by simp [execOp, ho, hcr, asBool])
  | _ => simp at h1

theorem unop_sound {op : UnOp} {x r : AV} {c : Value} (h : unop op x = some r) (hx : VR j x c) : ∃ d, VR j r d ∧ (Op.unary op c).run P w = .ok d w := by
  cases x <;> simp only [unop] at h <;> (try simp at h; done)
  · simp only [VR] at hx
    subst hx
    cases op <;> simp at h
    subst h
    exact ⟨_, rfl, by simp [Op.unary]⟩
  · simp only [VR] at hx
    subst hx
    cases op <;> simp at h <;> subst h
    · exact ⟨_, rfl, by simp [Op.unary, Op.intArith]⟩
    · exact ⟨_, rfl, by simp only [Op.unary, intBits_xor]; rfl⟩

theorem binop_sound {op : BinOp} {t : TypeId} {x y r : AV} {c d : Value} (h : binop op x y = some r) (hx : VR j x c) (hy : VR j y d) (xo yo : Operand) :
    ∃ u, VR j r u ∧ (do eqGuard op t xo yo c d; Go.binOp op t c d : Sem Value).run P w = .ok u w := by
  cases x <;> cases y <;> simp only [binop] at h <;> (try simp at h; done)
  · simp only [VR] at hx hy
    subst hx; subst hy
    rename_i k n k' m
    have hg : eqGuard op t xo yo (.int k n) (.int k' m) = pure () := eqGuard_at_int ..
    rw [hg]
    cases op
    case shl =>
      obtain ⟨h1, h2⟩ := nif_some h
      obtain rfl := Option.some.inj h2
      simp only [decide_eq_false_iff_not] at h1
      exact ⟨_, rfl, by simp [Go.binOp, Op.shift, h1]⟩
    case shr =>
      obtain ⟨h1, h2⟩ := nif_some h
      obtain rfl := Option.some.inj h2
      simp only [decide_eq_false_iff_not] at h1
      exact ⟨_, rfl, by simp [Go.binOp, Op.shift, h1]⟩
    all_goals
      obtain ⟨h1, h2⟩ := nif_some h
      simp only [decide_eq_false_iff_not, ne_eq, Decidable.not_not] at h1
      subst h1
      first
        | (simp at h2; done)
        | (obtain ⟨h3, h4⟩ := nif_some h2
           simp only [decide_eq_false_iff_not] at h3
           obtain rfl := Option.some.inj h4
           refine ⟨_, rfl, ?_⟩
           simp [Go.binOp, Op.intDiv, h3])
        | (obtain rfl := Option.some.inj h2
           refine ⟨_, rfl, ?_⟩
           simp [Go.binOp, Op.intArith, Op.intCmp]; done)
        | (obtain rfl := Option.some.inj h2
           refine ⟨_, rfl, ?_⟩
           simp only [pure_bind, binOp_and, binOp_or, binOp_xor, binOp_andNot, intBits_and, intBits_or, intBits_xor, intBits_andNot]; rfl)
  · simp only [VR] at hx hy
    subst hx; subst hy
    rename_i s s'
    have hg : eqGuard op t xo yo (.string ⟨s.toArray⟩) (.string ⟨s'.toArray⟩) = pure () := eqGuard_at_string ..
    rw [hg]
    cases op <;> simp only [] at h <;> (try simp at h; done)
    case add =>
      obtain ⟨h1, h2⟩ := bif_some h
      obtain rfl := Option.some.inj h2
      simp only [decide_eq_true_eq] at h1
      refine ⟨_, rfl, ?_⟩
      have : ¬ ((9223372036854775807 : Int) < (s.length : Int) + (s'.length : Int)) := by omega
      simp [Go.binOp, Op.stringOp, ByteArray.mk_append_mk, ByteArray.size, this]
    all_goals
      obtain rfl := Option.some.inj h
      exact ⟨_, rfl, by simp [Go.binOp, Op.stringOp]⟩

theorem eqIn_ptr (d : Nat) {t e : TypeId} (hu : P.underlying t = some (.pointer e)) (x y : Option Addr) (h : x = none ∨ y = none) :
    (Op.equalIn (d + 1) t (.pointer x) (.pointer y)).run P w = .ok (x.isNone && y.isNone) w := by
  rcases h with rfl | rfl
  · simp [Op.equalIn, run_underlying hu]
  · cases x <;> simp [Op.equalIn, run_underlying hu]
theorem eqIn_sl (d : Nat) {t e : TypeId} (hu : P.underlying t = some (.slice e)) (x y : Option Addr) (n m n' m' : Nat) (h : x = none ∨ y = none) :
    (Op.equalIn (d + 1) t (.slice x n m) (.slice y n' m')).run P w = .ok (x.isNone && y.isNone) w := by
  rcases h with rfl | rfl
  · simp [Op.equalIn, run_underlying hu]
  · cases x <;> simp [Op.equalIn, run_underlying hu]

def nilB : Value → Bool
  | .pointer none => true
  | .slice none _ _ => true
  | .nilFunc => true
  | .nilIface => true
  | _ => false

def kindOf : Value → Nat
  | .pointer _ => 0
  | .slice _ _ _ => 1
  | .func _ _ _ => 2
  | .nilFunc => 2
  | .iface _ _ => 3
  | .nilIface => 3
  | _ => 4

theorem nilOf_sound {k : Nat} {x : AV} {c : Value} {b : Bool} (h : nilOf k x = some b) (hx : VR j x c) : nilB c = b ∧ kindOf c = k := by
  unfold nilOf at h
  split at h <;> simp at h <;> subst h <;> simp only [VR] at hx
  · subst hx; exact ⟨rfl, rfl⟩
  · obtain ⟨_, _, rfl⟩ := hx; exact ⟨rfl, rfl⟩
  · subst hx; exact ⟨rfl, rfl⟩
  · obtain ⟨_, _, _, _, _, _, rfl | ⟨_, _, rfl⟩⟩ := hx <;> exact ⟨rfl, rfl⟩
  · subst hx; exact ⟨rfl, rfl⟩
  · obtain ⟨_, _, rfl, _⟩ := hx; exact ⟨rfl, rfl⟩
  · subst hx; exact ⟨rfl, rfl⟩
  · obtain ⟨_, rfl, _⟩ := hx; exact ⟨rfl, rfl⟩
  · obtain ⟨_, _, rfl⟩ := hx; exact ⟨rfl, rfl⟩

theorem eqIn_nil (d : Nat) {k : Nat} {t : TypeId} {x y : Value} (hx : kindOf x = k) (hy : kindOf y = k) (hn : nilB x = true ∨ nilB y = true)
    (ht : (k = 0 ∧ ∃ e, P.underlying t = some (.pointer e)) ∨ (k = 1 ∧ ∃ e, P.underlying t = some (.slice e)) ∨ (k = 2 ∧ ∃ p q r, P.underlying t = some (.func p q r)) ∨
      (k = 3 ∧ ∃ m, P.underlying t = some (.interface m))) : (Op.equalIn (d + 1) t x y).run P w = .ok (nilB x && nilB y) w := by
  rcases ht with ⟨rfl, e, hu⟩ | ⟨rfl, e, hu⟩ | ⟨rfl, p, q, r, hu⟩ | ⟨rfl, m, hu⟩
  · cases x <;> simp [kindOf] at hx
    cases y <;> simp [kindOf] at hy
    rename_i a b
    rw [eqIn_ptr d hu a b (by cases a <;> cases b <;> simp [nilB] at hn ⊢)]
    cases a <;> cases b <;> rfl
  · cases x <;> simp [kindOf] at hx
    cases y <;> simp [kindOf] at hy
    rename_i a n m b n' m'
    rw [eqIn_sl d hu a b _ _ _ _ (by cases a <;> cases b <;> simp [nilB] at hn ⊢)]
    cases a <;> cases b <;> rfl
  · cases x <;> simp [kindOf] at hx <;> cases y <;> simp [kindOf] at hy <;> simp [nilB] at hn <;> simp [Op.equalIn, run_underlying hu, nilB]
  · cases x <;> simp [kindOf] at hx <;> cases y <;> simp [kindOf] at hy <;> simp [nilB] at hn <;> simp [Op.equalIn, run_underlying hu, nilB]

theorem eqGuard_nil {k : Nat} {op : BinOp} {t : TypeId} {c d : Value} (xo yo : Operand) (hx : kindOf c = k) (hk : k < 4) (hy : kindOf d = k)
    (hi : k = 3 → (isConstOpd xo || isConstOpd yo) = true) : eqGuard op t xo yo c d = pure () := by
  cases c <;> simp [kindOf] at hx <;> (try omega) <;> (try (cases op <;> rfl))
  subst hx
  cases d <;> simp [kindOf] at hy
  · cases op <;> rfl
  · have := hi rfl
    cases xo <;> cases yo <;> simp [isConstOpd] at this <;> cases op <;> rfl

theorem binOp_nil {k : Nat} {op : BinOp} {neg : Bool} {t : TypeId} {c d : Value} (hx : kindOf c = k) (hk : k < 4) (hop : (op = .eql ∧ neg = false) ∨ (op = .neq ∧ neg = true)) :
    Go.binOp op t c d = (do pure (.bool ((← Op.equal t c d) != neg))) := by
  rcases hop with ⟨rfl, rfl⟩ | ⟨rfl, rfl⟩ <;> cases c <;> simp [kindOf] at hx <;> (try omega) <;> cases d <;> simp [Go.binOp]

theorem eqNil_sound {k : Nat} {t : TypeId} {op : BinOp} {neg : Bool} {x y : AV} {c d : Value} {b : Bool} (h : eqNil k x y = some b) (hx : VR j x c) (hy : VR j y d) (xo yo : Operand)
    (hop : (op = .eql ∧ neg = false) ∨ (op = .neq ∧ neg = true))
    (ht : (k = 0 ∧ ∃ e, P.underlying t = some (.pointer e)) ∨ (k = 1 ∧ ∃ e, P.underlying t = some (.slice e)) ∨ (k = 2 ∧ ∃ p q r, P.underlying t = some (.func p q r)) ∨
      (k = 3 ∧ ∃ m, P.underlying t = some (.interface m)))
    (hi : k = 3 → (isConstOpd xo || isConstOpd yo) = true) :
    (do eqGuard op t xo yo c d; Go.binOp op t c d : Sem Value).run P w = .ok (.bool (b != neg)) w := by
  have hk : k < 4 := by omega
  unfold eqNil at h
  split at h
  · rename_i r h1 h2
    obtain rfl := Option.some.inj h
    obtain ⟨n1, k1⟩ := nilOf_sound h1 hx
    obtain ⟨n2, k2⟩ := nilOf_sound h2 hy
    rw [eqGuard_nil xo yo k1 hk k2 hi, binOp_nil k1 hk hop]
    have := eqIn_nil (P := P) (w := w) 9999 k1 k2 (.inl n1) ht
    simp only [n1, n2, Bool.true_and] at this
    simp [Op.equal, Op.maxDepth, this]
  · rename_i h1 h2
    obtain rfl := Option.some.inj h
    obtain ⟨n1, k1⟩ := nilOf_sound h1 hx
    obtain ⟨n2, k2⟩ := nilOf_sound h2 hy
    rw [eqGuard_nil xo yo k1 hk k2 hi, binOp_nil k1 hk hop]
    have := eqIn_nil (P := P) (w := w) 9999 k1 k2 (.inr n2) ht
    simp only [n1, n2, Bool.false_and] at this
    simp [Op.equal, Op.maxDepth, this]
  · simp at h

/-! ### '==' of aggregates -/
def val (g : Bool) (l : List Value) : Value := if g then .agg l.toArray else l.headD undef

theorem run_part {t : TypeId} {g : Bool} {n off : Nat} {l : List Value} (hg : isAgg? P t = some g) (hs : size? P t = some n) (h1 : g = false → n = 1) (hl : off + n ≤ l.length) :
    (part t l.toArray off).run P w = .ok (val g ((l.drop off).take n)) w := by
  unfold part
  simp only [Sem.run_bind, run_isAgg hg, Result.andThen_ok]
  cases g with
  | true =>
    simp [run_sizeOf hs, val]
  | false =>
    obtain rfl := h1 rfl
    have hlt : off < l.length := by omega
    simp only [Bool.false_eq_true, if_false, List.getElem?_toArray, List.getElem?_eq_getElem hlt, val]
    rw [List.drop_eq_getElem_cons hlt]
    rfl

theorem eqCells_append : ∀ {ks ls : List Nat} {a b c d : List AV} {r : Bool}, a.length = ks.length → c.length = ks.length → eqCells (ks ++ ls) (a ++ b) (c ++ d) = some r →
    (eqCells ks a c = some false ∧ r = false) ∨ (eqCells ks a c = some true ∧ eqCells ls b d = some r)
  | [], ls, [], b, [], d, r, _, _, h => .inr ⟨by simp [eqCells], by simpa using h⟩
  | k :: ks, ls, x :: a, b, y :: c, d, r, hl, hm, h => by
    simp only [List.cons_append, eqCells] at h ⊢
    cases he : eqCell k x y with
    | none => simp [he] at h
    | some t => cases t with
      | false => simp only [he, Option.some.injEq] at h ⊢; exact .inl ⟨trivial, h.symm⟩
      | true => simp only [he] at h ⊢; exact eqCells_append (by simpa using hl) (by simpa using hm) h
  | [], _, _ :: _, _, _, _, _, hl, _, _ => by simp at hl
  | [], _, [], _, _ :: _, _, _, _, hm, _ => by simp at hm
  | _ :: _, _, [], _, _, _, _, hl, _, _ => by simp at hl
  | _ :: _, _, _ :: _, _, [], _, _, _, hm, _ => by simp at hm

theorem eqCells_length : ∀ {ks : List Nat} {a b : List AV} {r : Bool}, eqCells ks a b = some r → r = true → a.length = ks.length ∧ b.length = ks.length
  | [], [], [], _, _, _ => ⟨rfl, rfl⟩
  | k :: ks, x :: a, y :: b, r, h, hr => by
    simp only [eqCells] at h
    split at h
    · have := eqCells_length h hr; simp [this.1, this.2]
    · simp only [Option.some.injEq] at h; rw [hr] at h; simp at h
    · simp at h
  | [], _ :: _, _, _, h, _ => by simp [eqCells] at h
  | [], [], _ :: _, _, h, _ => by simp [eqCells] at h
  | _ :: _, [], _, _, h, _ => by simp [eqCells] at h
  | _ :: _, _ :: _, [], _, h, _ => by simp [eqCells] at h

theorem eqCellsS_eqCells : ∀ {ks : List Nat} {a b : List AV} {r : Bool}, eqCellsS ks a b = some r → eqCells ks (a.map AV.plain) (b.map AV.plain) = some r
  | [], [], [], r, h => h
  | k :: ks, x :: a, y :: b, r, h => by
    simp only [eqCellsS] at h
    split at h
    · rename_i t ht
      split at h
      · rename_i u hu
        obtain rfl := Option.some.inj h
        simp only [List.map_cons, eqCells, ht]
        cases t
        · rfl
        · simpa using eqCellsS_eqCells hu
      · simp at h
    · simp at h
  | [], _ :: _, _, _, h => by simp [eqCellsS] at h
  | [], [], _ :: _, _, h => by simp [eqCellsS] at h
  | _ :: _, [], _, _, h => by simp [eqCellsS] at h
  | _ :: _, _ :: _, [], _, h => by simp [eqCellsS] at h

theorem VRs.plain : ∀ {vs : List AV} {l : List Value}, VRs j vs l → VRs j (vs.map AV.plain) l
  | [], _, h => h
  | _ :: _, _, ⟨c, cs, e, h1, h2⟩ => ⟨c, cs, e, h1.plain, VRs.plain h2⟩

theorem flatN_agg {d : Nat} {t : TypeId} {ks : List Nat} (h : flatN P d t = some ks) : ∃ g, isAgg? P t = some g ∧ (g = false → ks.length = 1) := by
  cases d with
  | zero => simp [flatN] at h
  | succ d =>
    simp only [flatN] at h
    unfold isAgg?
    cases hu : P.underlying t with
    | none => simp [hu] at h
    | some u => cases u <;> simp [hu] at h ⊢ <;> subst h <;> rfl

theorem cut_at (xs : List AV) (n k : Nat) : xs.drop n = (xs.drop n).take k ++ xs.drop (n + k) := by
  rw [← List.drop_drop]; exact (List.take_append_drop k (xs.drop n)).symm

theorem eqFlat : ∀ (d D : Nat) (t : TypeId) (ks : List Nat), d ≤ D → flatN P d t = some ks → ∀ (g : Bool), isAgg? P t = some g → ∀ (xs ys : List AV) (l m : List Value) (b : Bool), xs.length = ks.length → ys.length = ks.length →
    VRs j xs l → VRs j ys m → eqCells ks xs ys = some b → (Op.equalIn D t (val g l) (val g m)).run P w = .ok b w
  | 0, _, _, _, _, h, _, _, _, _, _, _, _, _, _, _, _, _ => by simp [flatN] at h
  | d + 1, 0, _, _, hD, _, _, _, _, _, _, _, _, _, _, _, _, _ => by omega
  | d + 1, D + 1, t, ks, hD, h, g, hg, xs, ys, l, m, b, hx, hy, hl, hm, he => by
    have leaf : ∀ k, ks = [k] → g = false → (∀ p q c c', VR j p c → VR j q c' → eqCell k p q = some b → (Op.equalIn (D + 1) t c c').run P w = .ok b w) → (Op.equalIn (D + 1) t (val g l) (val g m)).run P w = .ok b w := by
      intro k0 hn hgf k
      subst hn; subst hgf
      obtain ⟨p, rfl⟩ := List.length_eq_one_iff.1 hx
      obtain ⟨q, rfl⟩ := List.length_eq_one_iff.1 hy
      obtain ⟨c, _, rfl, hv, rfl⟩ := hl
      obtain ⟨c', _, rfl, hv', rfl⟩ := hm
      refine k p q c c' hv hv' ?_
      simp only [eqCells] at he
      cases hh : eqCell k0 p q with
      | none => simp [hh] at he
      | some r => cases r <;> simp [hh] at he <;> simp [he]
    simp only [flatN] at h
    cases hu : P.underlying t with
    | none => simp [hu] at h
    | some u =>
      simp only [isAgg?, hu] at hg
      cases u <;> simp only [hu] at h <;> (try simp at h; done) <;> simp only [Option.some.injEq] at hg
      case bool =>
        obtain rfl := Option.some.inj h
        refine leaf 0 rfl hg.symm (fun p q c c' hv hv' hq => ?_)
        cases p <;> cases q <;> simp only [eqCell] at hq <;> (try simp at hq; done)
        simp only [VR] at hv hv'; subst hv; subst hv'
        obtain rfl := Option.some.inj hq
        exact run_equalIn_bool' w D t _ _ hu
      case int =>
        obtain rfl := Option.some.inj h
        refine leaf 1 rfl hg.symm (fun p q c c' hv hv' hq => ?_)
        cases p <;> cases q <;> simp only [eqCell] at hq <;> (try simp at hq; done)
        simp only [VR] at hv hv'; subst hv; subst hv'
        obtain ⟨hk, hq2⟩ := bif_some hq
        simp only [decide_eq_true_eq] at hk
        subst hk
        obtain rfl := Option.some.inj hq2
        exact run_equalIn_int w D t _ _ _ _ hu
      case string =>
        obtain rfl := Option.some.inj h
        refine leaf 2 rfl hg.symm (fun p q c c' hv hv' hq => ?_)
        cases p <;> cases q <;> simp only [eqCell] at hq <;> (try simp at hq; done)
        simp only [VR] at hv hv'; subst hv; subst hv'
        obtain rfl := Option.some.inj hq
        rw [run_equalIn_string w D t _ _ hu]
        simp
      case array len e =>
        subst hg
        split at h
        · rename_i ke hk
          obtain ⟨hs, h⟩ := if_some h
          obtain rfl := Option.some.inj h
          obtain ⟨ge, hge, hge1⟩ := flatN_agg hk
          have hinfo : ∃ i, P.info? e = some i ∧ i.size = ke.length := by simpa [size?] using hs
          obtain ⟨i, hi, hik⟩ := hinfo
          have hc : P.cellsOf e = ke.length := by simp [Program.cellsOf, hi, hik]
          have hll := VRs.length hl
          have hml := VRs.length hm
          have hlen : ((List.replicate len ke).flatten).length = len * ke.length := by simp
          rw [hlen] at hx hy
          simp only [val, if_true]
          rw [run_equalIn_array w D _ _ hu hi, hc, List.range_eq_range']
          have key : ∀ (cnt s : Nat), (s + cnt) * ke.length = len * ke.length → ∀ b, eqCells ((List.replicate cnt ke).flatten) (xs.drop (s * ke.length)) (ys.drop (s * ke.length)) = some b →
              (Op.eqItems D e ke.length l.toArray m.toArray (List.range' s cnt)).run P w = .ok b w := by
            intro cnt
            induction cnt with
            | zero =>
              intro s hsk b hb
              have h1 : xs.drop (s * ke.length) = [] := List.drop_eq_nil_of_le (by rw [hx, ← hsk]; simp)
              have h2 : ys.drop (s * ke.length) = [] := List.drop_eq_nil_of_le (by rw [hy, ← hsk]; simp)
              rw [h1, h2] at hb
              simp only [List.replicate_zero, List.flatten_nil, eqCells, Option.some.injEq] at hb
              subst hb
              simp [Op.eqItems]
            | succ cnt ih =>
              intro s hsk b hb
              have hle : s * ke.length + ke.length ≤ len * ke.length := by
                rw [← hsk, show s * ke.length + ke.length = (s + 1) * ke.length by rw [Nat.add_mul]; omega]
                exact Nat.mul_le_mul_right _ (by omega)
              rw [cut_at xs (s * ke.length) ke.length, cut_at ys (s * ke.length) ke.length, List.replicate_succ, List.flatten_cons] at hb
              rw [List.range'_succ]
              simp only [Op.eqItems, Sem.run_bind, run_part hge hs hge1 (show s * ke.length + ke.length ≤ l.length by omega), run_part hge hs hge1 (show s * ke.length + ke.length ≤ m.length by omega), Result.andThen_ok]
              have hrec := fun b hb => eqFlat d D e ke (by omega) hk ge hge ((xs.drop (s * ke.length)).take ke.length) ((ys.drop (s * ke.length)).take ke.length) ((l.drop (s * ke.length)).take ke.length) ((m.drop (s * ke.length)).take ke.length) b (by simp; omega) (by simp; omega)
                (VRs.take _ (VRs.drop _ hl)) (VRs.take _ (VRs.drop _ hm)) hb
              rcases eqCells_append (by simp; omega) (by simp; omega) hb with ⟨h1, rfl⟩ | ⟨h1, h2⟩
              · rw [hrec _ h1]; simp
              · rw [hrec _ h1]
                simp only [Result.andThen_ok, Bool.not_true, Bool.false_eq_true, if_false]
                have := ih (s + 1) (by rw [← hsk]; congr 1; omega) b (by rw [show (s + 1) * ke.length = s * ke.length + ke.length by rw [Nat.add_mul]; omega]; exact h2)
                simpa using this
          exact key len 0 (by simp) b (by simpa using he)
        · simp at h
      case struct fs =>
        subst hg
        split at h
        · simp at h
        rename_i hst
        have hfo : P.fieldsOf t = fs := by simp [Program.fieldsOf, hu]
        have hll := VRs.length hl
        have hml := VRs.length hm
        simp only [val, if_true]
        rw [run_equalIn_struct w D t _ _ (by rw [hfo]; exact hu) (by simpa using hst), hfo]
        have key : ∀ (fs : List Field) (n0 : Nat) (kr : List Nat), flatFs P (flatN P d) fs n0 = some kr → n0 + kr.length = ks.length → ∀ b, eqCells kr (xs.drop n0) (ys.drop n0) = some b →
            (Op.eqFields D l.toArray m.toArray fs).run P w = .ok b w := by
          intro fs
          induction fs with
          | nil =>
            intro n0 kr hn hsum b hb
            simp only [flatFs, Option.some.injEq] at hn
            subst hn
            simp only [List.length_nil] at hsum
            have h1 : xs.drop n0 = [] := List.drop_eq_nil_of_le (by omega)
            have h2 : ys.drop n0 = [] := List.drop_eq_nil_of_le (by omega)
            rw [h1, h2] at hb
            simp only [eqCells, Option.some.injEq] at hb
            subst hb
            simp [Op.eqFields]
          | cons f fs ih =>
            intro n0 kr hn hsum b hb
            simp only [flatFs] at hn
            obtain ⟨⟨ho, hname⟩, hn⟩ := if_some hn
            split at hn
            · rename_i k hk
              obtain ⟨hs, hn⟩ := if_some hn
              split at hn
              · rename_i rest hrest
                obtain rfl := Option.some.inj hn
                simp only [List.length_append] at hsum
                obtain ⟨ge, hge, hge1⟩ := flatN_agg hk
                rw [cut_at xs n0 k.length, cut_at ys n0 k.length] at hb
                simp only [Op.eqFields, hname, ne_eq, not_false_eq_true, if_true, Sem.run_bind, ho, run_part hge hs hge1 (show n0 + k.length ≤ l.length by omega), run_part hge hs hge1 (show n0 + k.length ≤ m.length by omega), Result.andThen_ok]
                have hrec := fun b hb => eqFlat d D f.type k (by omega) hk ge hge ((xs.drop n0).take k.length) ((ys.drop n0).take k.length) ((l.drop n0).take k.length) ((m.drop n0).take k.length) b (by simp; omega) (by simp; omega)
                  (VRs.take _ (VRs.drop _ hl)) (VRs.take _ (VRs.drop _ hm)) hb
                rcases eqCells_append (by simp; omega) (by simp; omega) hb with ⟨h1, rfl⟩ | ⟨h1, h2⟩
                · rw [hrec _ h1]; simp
                · rw [hrec _ h1]
                  simpa using ih (n0 + k.length) rest hrest (by omega) b h2
              · simp at hn
            · simp at hn
        exact key fs.toList 0 ks h (by simp) b (by simpa using he)

end
end Go.Ev

/- Each operation of the evaluator against the loaded one (two). -/

namespace Go.Ev
set_option linter.unusedSectionVars false
variable [Home]
set_option linter.unusedVariables false
set_option linter.unusedSimpArgs false
open Go

section
variable {P : Program} {a : Act} {o : Oper} {j : JM} {H H' : Heap} {w : World} {e : Env} {v : AV} {callF : CallF}

theorem optLt_spec {a b : Option Int} (h : optLt a b = true) : ∃ x y, a = some x ∧ b = some y ∧ x < y := by
  cases a <;> cases b <;> simp [optLt] at h
  exact ⟨_, _, rfl, rfl, h⟩

theorem optLe_spec {a b : Option Int} (h : optLe a b = true) : ∃ x y, a = some x ∧ b = some y ∧ x ≤ y := by
  cases a <;> cases b <;> simp [optLe] at h
  exact ⟨_, _, rfl, rfl, h⟩

theorem lt_of_opt {m n : Int} {x y : Rng} (hx : InR m x) (hy : InR n y) (h : optLt x.2 y.1 = true) : m < n := by
  obtain ⟨a, b, h1, h2, h3⟩ := optLt_spec h
  have := hx.2 a h1
  have := hy.1 b h2
  omega

theorem le_of_opt {m n : Int} {x y : Rng} (hx : InR m x) (hy : InR n y) (h : optLe x.2 y.1 = true) : m ≤ n := by
  obtain ⟨a, b, h1, h2, h3⟩ := optLe_spec h
  have := hx.2 a h1
  have := hy.1 b h2
  omega

theorem cmpOf_sound {op : BinOp} {k k' : IntKind} {m n : Int} {x y : Rng} {b t : Bool} (hx : InR m x) (hy : InR n y) (h : binop op (.int k m) (.int k' n) = some (.bool b)) (hc : cmpOf op x y = some t) : b = t := by
  simp only [binop] at h
  cases op <;> simp only [cond_eq_ite] at h <;> (try split at h) <;> (try simp at h; done) <;> simp only [Option.some.injEq, AV.bool.injEq] at h <;> subst h <;> simp only [cmpOf, cond_eq_ite] at hc <;>
    (split at hc
     · rename_i h1
       obtain rfl := Option.some.inj hc
       first
        | (have := lt_of_opt hx hy h1; simp; omega)
        | (have := le_of_opt hx hy h1; simp; omega)
        | (have := lt_of_opt hy hx h1; simp; omega)
        | (have := le_of_opt hy hx h1; simp; omega)
        | (rw [Bool.or_eq_true] at h1; rcases h1 with h1 | h1
           · have := lt_of_opt hx hy h1; simp; omega
           · have := lt_of_opt hy hx h1; simp; omega)
     · split at hc
       · rename_i h1
         obtain rfl := Option.some.inj hc
         first
          | (have := lt_of_opt hx hy h1; simp; omega)
          | (have := le_of_opt hx hy h1; simp; omega)
          | (have := lt_of_opt hy hx h1; simp; omega)
          | (have := le_of_opt hy hx h1; simp; omega)
          | (rw [Bool.and_eq_true] at h1
             have := le_of_opt hx hy h1.1
             have := le_of_opt hy hx h1.2
             simp; omega)
       · simp at hc)

theorem wrap_fits {k : IntKind} {n : Int} (h1 : k.min ≤ n) (h2 : n ≤ k.max) : k.wrap n = n := by
  cases k <;> simp [IntKind.min, IntKind.max, IntKind.signed, IntKind.bits, IntKind.wrap] at h1 h2 ⊢ <;> (try split) <;> omega

theorem fitRng_sound {k : IntKind} {lo hi n : Int} (h1 : lo ≤ n) (h2 : n ≤ hi) : InR (k.wrap n) (fitRng k lo hi) := by
  unfold fitRng
  cases hb : decide (k.min ≤ lo) && decide (hi ≤ k.max) with
  | false => exact InR.none _
  | true =>
    simp only [Bool.and_eq_true, decide_eq_true_eq] at hb
    rw [wrap_fits (by omega) (by omega)]
    exact ⟨fun l hl => by simp at hl; omega, fun l hl => by simp at hl; omega⟩

theorem rngOf_sound {op : BinOp} {k k' kr : IntKind} {m n r : Int} {x y : Rng} (hx : InR m x) (hy : InR n y) (h : binop op (.int k m) (.int k' n) = some (.int kr r)) : InR r (rngOf op kr x y) := by
  unfold rngOf
  split
  · rename_i a b c d
    simp only [binop, cond_eq_ite] at h
    split at h <;> (try simp at h; done)
    simp only [Option.some.injEq, AV.int.injEq] at h
    obtain ⟨rfl, rfl⟩ := h
    have := hx.1 a rfl; have := hx.2 b rfl; have := hy.1 c rfl; have := hy.2 d rfl
    exact fitRng_sound (by omega) (by omega)
  · rename_i a b c d
    simp only [binop, cond_eq_ite] at h
    split at h <;> (try simp at h; done)
    simp only [Option.some.injEq, AV.int.injEq] at h
    obtain ⟨rfl, rfl⟩ := h
    have := hx.1 a rfl; have := hx.2 b rfl; have := hy.1 c rfl; have := hy.2 d rfl
    exact fitRng_sound (by omega) (by omega)
  · rename_i a b c d
    cases hb : decide (0 ≤ a) && decide (c = d) && decide (0 < c) with
    | false => exact InR.none _
    | true =>
      simp only [Bool.and_eq_true, decide_eq_true_eq] at hb
      simp only [binop, cond_eq_ite] at h
      split at h <;> (try simp at h; done)
      split at h <;> (try simp at h; done)
      simp only [Option.some.injEq, AV.int.injEq] at h
      obtain ⟨rfl, rfl⟩ := h
      have h1 := hx.1 a rfl; have h2 := hy.1 c rfl; have h3 := hy.2 d rfl
      have hn : n = c := by omega
      subst hn
      rw [Int.tmod_eq_emod_of_nonneg (by omega)]
      have := Int.emod_nonneg m (show n ≠ 0 by omega)
      have := Int.emod_lt_of_pos m (show 0 < n by omega)
      exact ⟨fun l hl => by simp at hl; omega, fun l hl => by simp at hl; omega⟩
  · exact InR.none _

theorem tell_sound {op : BinOp} {x y v : AV} {cx cy c : Value} (h : binop op x.plain y.plain = some v) (hx : VR j x cx) (hy : VR j y cy) (hv : VR j v c) : VR j (tell op v x.rng y.rng) c := by
  cases v <;> try exact hv
  · rename_i b
    simp only [tell]
    split
    · rename_i t ht
      cases hpx : x.plain <;> cases hpy : y.plain <;> rw [hpx, hpy] at h <;> (try simp [binop] at h; done)
      · obtain rfl := cmpOf_sound (hx.inR hpx) (hy.inR hpy) h ht
        exact hv
      · exfalso
        have e1 : x.rng = (none, none) := by cases x <;> simp [AV.plain] at hpx <;> rfl
        have e2 : y.rng = (none, none) := by cases y <;> simp [AV.plain] at hpy <;> rfl
        rw [e1, e2] at ht
        cases op <;> simp [cmpOf, optLt, optLe] at ht
    · exact hv
  · rename_i k n
    refine ⟨hv, ?_⟩
    cases hpx : x.plain <;> cases hpy : y.plain <;> rw [hpx, hpy] at h <;> (try simp [binop] at h; done)
    · exact rngOf_sound (hx.inR hpx) (hy.inR hpy) h
    · exfalso
      simp only [binop] at h
      cases op <;> simp only [cond_eq_ite] at h <;> (try split at h) <;> simp at h

theorem does_un {op : UnOp} {t : TypeId} {x : Operand} {p : AOp} (ho : o.op = .unOp op t x) (hc : cOp P (.unOp op t x) = some p) (hw : WR j H w) (hE : ER j e a.tmps)
    (hr : p.run callF e H = some (v, H')) : Does P a o j H w v H' := by
  simp only [cOp, Option.map_eq_some_iff] at hc
  obtain ⟨y, hy, rfl⟩ := hc
  obtain ⟨u, hu, h1⟩ := on1_some hr
  obtain ⟨h2, rfl⟩ := pureR_some h1
  unfold unopM at h2
  split at h2 <;> (try simp at h2; done)
  rename_i v0 h2'
  obtain rfl := Option.some.inj h2
  obtain ⟨d, hd, h3⟩ := unop_sound (P := P) (w := w) h2' (opd_sound hE hy hu).plain
  replace hd := hd.mark u.marked
  exact Does.pure hw hd (by simp [execOp, ho, h3])

theorem does_bin {op : BinOp} {t t' : TypeId} {x y : Operand} {p : AOp} (ho : o.op = .binOp op t x y t') (hc : cOp P (.binOp op t x y t') = some p) (hw : WR j H w) (hE : ER j e a.tmps)
    (hr : p.run callF e H = some (v, H')) : Does P a o j H w v H' := by
  simp only [cOp, Option.bind_eq_some_iff] at hc
  obtain ⟨xa, hxa, ya, hya, hc⟩ := hc
  have fin : ∀ c, VR j v c → H' = H → (do eqGuard op t x y (a.eval x) (a.eval y); Go.binOp op t (a.eval x) (a.eval y) : Sem Value).run P w = .ok c w → Does P a o j H w v H' := by
    intro c hv hH hrun
    subst hH
    refine Does.pure hw hv ?_
    simp only [execOp, ho]
    rw [Sem.run_bind, hrun]
    rfl
  have bincase : p = .bin op xa ya → Does P a o j H w v H' := by
    rintro rfl
    obtain ⟨u1, u2, h1, h2, h3⟩ := opt2_some hr
    obtain ⟨h4, hH⟩ := pureR_some h3
    unfold binopM at h4
    split at h4 <;> (try simp at h4; done)
    rename_i v0 h4'
    obtain rfl := Option.some.inj h4
    obtain ⟨c, hv, hrun⟩ := binop_sound (P := P) (w := w) (t := t) h4' (opd_sound hE hxa h1).plain (opd_sound hE hya h2).plain x y
    refine fin c ?_ hH hrun
    cases hm : u1.marked || u2.marked with
    | false => exact hv
    | true => exact tell_sound h4' (opd_sound hE hxa h1) (opd_sound hE hya h2) hv
  have eqcase : ∀ neg, ((op = .eql ∧ neg = false) ∨ (op = .neq ∧ neg = true)) → cEq P neg op t x y xa ya = some p → Does P a o j H w v H' := by
    intro neg hop hq
    unfold cEq at hq
    have nilcase : ∀ k, p = .eqN k neg xa ya → ((k = 0 ∧ ∃ e, P.underlying t = some (.pointer e)) ∨ (k = 1 ∧ ∃ e, P.underlying t = some (.slice e)) ∨ (k = 2 ∧ ∃ p q r, P.underlying t = some (.func p q r)) ∨
        (k = 3 ∧ ∃ m, P.underlying t = some (.interface m))) → (k = 3 → (isConstOpd x || isConstOpd y) = true) → Does P a o j H w v H' := by
      rintro k rfl ht hi
      obtain ⟨u1, u2, h1, h2, h3⟩ := opt2_some hr
      obtain ⟨b, h4, rfl, hH⟩ := pureB_some h3
      exact fin _ rfl hH (eqNil_sound h4 (opd_sound hE hxa h1) (opd_sound hE hya h2) x y hop ht hi)
    have aggcase : ∀ ks, P.eqGuardType P.depth t = false → flatN P 50 t = some ks → isAgg? P t = some true → p = .eqA ks neg xa ya → Does P a o j H w v H' := by
      rintro ks hgd hfl hag rfl
      obtain ⟨u1, u2, h1, h2, h3⟩ := opt2_some hr
      obtain ⟨h3', hH⟩ := pureR_some h3
      clear h3
      cases u1 <;> (try simp [eqAM] at h3'; done)
      cases u2 <;> (try simp [eqAM] at h3'; done)
      rename_i xs ys
      simp only [eqAM] at h3'
      obtain ⟨hlen, h3⟩ := bif_some h3'
      clear h3'
      simp only [Bool.and_eq_true, Nat.beq_eq] at hlen
      split at h3 <;> (try simp at h3; done)
      rename_i b h4
      obtain rfl := Option.some.inj h3
      obtain ⟨l, e1, hl⟩ := opd_sound hE hxa h1
      obtain ⟨m, e2, hm⟩ := opd_sound hE hya h2
      refine fin (.bool (b != neg)) (VR.mark _ rfl) hH ?_
      rw [e1, e2, Sem.run_bind, run_eqGuard_agg w op t x y _ _ hgd]
      have key := eqFlat (P := P) (w := w) 50 10000 t ks (by omega) hfl true hag (xs.map AV.plain) (ys.map AV.plain) l m b (by simpa using hlen.1) (by simpa using hlen.2) hl.plain hm.plain (eqCellsS_eqCells h4)
      simp only [val, if_true] at key
      rcases hop with ⟨rfl, rfl⟩ | ⟨rfl, rfl⟩
      · simp only [Result.andThen_ok, run_eql_struct, key]; simp
      · simp only [Result.andThen_ok, run_neq_struct, key]; simp
    split at hq
    · obtain rfl := Option.some.inj hq
      rename_i hu
      obtain ⟨u1, u2, h1, h2, h3⟩ := opt2_some hr
      have e1 := (opd_sound hE hxa h1).plain
      have e2 := (opd_sound hE hya h2).plain
      obtain ⟨h3', hH⟩ := pureR_some h3
      clear h3
      have h3 := h3'
      clear h3'
      unfold eqBM at h3
      split at h3 <;> (try simp at h3; done)
      rename_i p1 q1 hp1 hq1
      rw [hp1] at e1
      rw [hq1] at e2
      obtain rfl := Option.some.inj h3
      simp only [VR] at e1 e2
      refine fin (.bool ((p1 == q1) != neg)) (VR.mark _ rfl) hH ?_
      rw [e1, e2, eqGuard_at_bool]
      have := run_equalIn_bool' (P := P) w 9999 t
      rcases hop with ⟨rfl, rfl⟩ | ⟨rfl, rfl⟩ <;> simp [Go.binOp, Op.equal, Op.maxDepth, this _ _ hu]
    · exact bincase (Option.some.inj hq).symm
    · exact bincase (Option.some.inj hq).symm
    · rename_i e' hu; exact nilcase 0 (Option.some.inj hq).symm (.inl ⟨rfl, e', hu⟩) (by simp)
    · rename_i e' hu; exact nilcase 1 (Option.some.inj hq).symm (.inr (.inl ⟨rfl, e', hu⟩)) (by simp)
    · rename_i p' q' r' hu; exact nilcase 2 (Option.some.inj hq).symm (.inr (.inr (.inl ⟨rfl, p', q', r', hu⟩))) (by simp)
    · rename_i m' hu
      obtain ⟨hk, hq⟩ := if_some hq
      exact nilcase 3 (Option.some.inj hq).symm (.inr (.inr (.inr ⟨rfl, m', hu⟩))) (fun _ => hk)
    · rename_i fs hu
      split at hq
      · simp at hq
      · rename_i hgd
        simp only [Option.map_eq_some_iff] at hq
        obtain ⟨ks, hks, rfl⟩ := hq
        exact aggcase ks (by simpa using hgd) hks (by simp [isAgg?, hu]) rfl
    · rename_i n' e' hu
      split at hq
      · simp at hq
      · rename_i hgd
        simp only [Option.map_eq_some_iff] at hq
        obtain ⟨ks, hks, rfl⟩ := hq
        exact aggcase ks (by simpa using hgd) hks (by simp [isAgg?, hu]) rfl
    · simp at hq
  unfold cBin at hc
  split at hc
  · exact eqcase false (.inl ⟨rfl, rfl⟩) hc
  · exact eqcase true (.inr ⟨rfl, rfl⟩) hc
  · exact bincase (Option.some.inj hc).symm

theorem does_nilck {x : Operand} {p : AOp} (ho : o.op = .nilCheck x) (hc : cOp P (.nilCheck x) = some p) (hw : WR j H w) (hE : ER j e a.tmps)
    (hr : p.run callF e H = some (v, H')) : Does P a o j H w v H' := by
  simp only [cOp, Option.map_eq_some_iff] at hc
  obtain ⟨y, hy, rfl⟩ := hc
  obtain ⟨u, hu, h1⟩ := on1_some hr
  have hv := opd_sound hE hy hu
  cases u <;> simp at h1
  · obtain ⟨rfl, rfl⟩ := h1
    have hv0 := hv
    obtain ⟨loc, _, he⟩ := hv
    exact Does.pure hw (by rw [he] at hv0; exact hv0) (by simp [execOp, ho, he])
  · obtain ⟨rfl, rfl⟩ := h1
    have hv0 := hv
    obtain ⟨l, m, he, _⟩ := hv
    exact Does.pure hw (by rw [he] at hv0; exact hv0) (by simp [execOp, ho, he])

theorem does_faddr {s : TypeId} {x : Operand} {f : Nat} {p : AOp} (ho : o.op = .fieldAddr s x f) (hc : cOp P (.fieldAddr s x f) = some p) (hw : WR j H w) (hE : ER j e a.tmps)
    (hr : p.run callF e H = some (v, H')) : Does P a o j H w v H' := by
  simp only [cOp, Option.bind_eq_some_iff] at hc
  obtain ⟨fd, hf, n, hn, hc⟩ := hc
  obtain ⟨hpos, hc⟩ := if_some hc
  simp only [Option.map_eq_some_iff] at hc
  obtain ⟨y, hy, rfl⟩ := hc
  obtain ⟨u, hu, h1⟩ := on1_some hr
  have hv := opd_sound hE hy hu
  cases u <;> simp at h1
  obtain ⟨rfl, rfl⟩ := h1
  obtain ⟨loc, hl, he⟩ := hv
  refine Does.pure (c := .pointer (some ⟨loc.blk, loc.off + _, none⟩)) hw ⟨loc, hl, rfl⟩ ?_
  unfold field? at hf
  cases hun : P.underlying s with
  | none => simp [hun] at hf
  | some d =>
    cases d <;> simp [hun] at hf
    rename_i fs
    have hz : ¬ n = 0 := by omega
    simp [execOp, ho, he, Instr.fieldAt, run_underlying hun, hf, Instr.sureAddr, fieldPlace, run_sizeOf hn, hz, add_lit, Nat.add_assoc]

theorem does_iaddr {t : TypeId} {x i : Operand} {p : AOp} (ho : o.op = .indexAddr t x i) (hc : cOp P (.indexAddr t x i) = some p) (hw : WR j H w) (hE : ER j e a.tmps)
    (hr : p.run callF e H = some (v, H')) : Does P a o j H w v H' := by
  simp only [cOp] at hc
  split at hc
  · rename_i n el hun
    simp only [Option.bind_eq_some_iff, Option.map_eq_some_iff] at hc
    obtain ⟨s, hs, xa, hxa, ia, hia, rfl⟩ := hc
    obtain ⟨u1, u2, h1, h2, h3⟩ := opt2_some hr
    have e1 := opd_sound hE hxa h1
    have e2 := opd_sound hE hia h2
    cases u1 <;> (try simp at h3; done)
    cases u2 <;> (try simp at h3; done)
    obtain ⟨hb, h3⟩ := bif_some h3
    simp only [Bool.and_eq_true, decide_eq_true_eq] at hb
    simp only [Option.some.injEq, Prod.mk.injEq] at h3
    obtain ⟨rfl, rfl⟩ := h3
    obtain ⟨loc, hl, he⟩ := e1
    simp only [VR] at e2
    refine Does.pure (c := .pointer (some ⟨loc.blk, loc.off + _, none⟩)) hw ⟨loc, hl, rfl⟩ ?_
    simp [execOp, ho, he, e2, Instr.indexAt, asIntOf, run_underlying hun, Instr.sureAddr, hb, run_sizeOf hs, add_lit, Nat.add_assoc]
  · rename_i el hun
    simp only [Option.bind_eq_some_iff, Option.map_eq_some_iff] at hc
    obtain ⟨s, hs, xa, hxa, ia, hia, rfl⟩ := hc
    obtain ⟨u1, u2, h1, h2, h3⟩ := opt2_some hr
    have e1 := opd_sound hE hxa h1
    have e2 := opd_sound hE hia h2
    cases u1 <;> (try simp at h3; done)
    cases u2 <;> (try simp at h3; done)
    obtain ⟨hb, h3⟩ := bif_some h3
    simp only [Bool.and_eq_true, decide_eq_true_eq] at hb
    simp only [Option.some.injEq, Prod.mk.injEq] at h3
    obtain ⟨rfl, rfl⟩ := h3
    rename_i bb off ln cap size k n
    obtain ⟨loc, cap', hl, hle, _, _, he⟩ := e1
    simp only [VR] at e2
    have he' : a.eval x = .slice (some ⟨loc.blk, loc.off + off, none⟩) ln cap' := by
      rcases he with he | ⟨h0, _⟩
      · exact he
      · omega
    refine Does.pure (c := .pointer (some ⟨loc.blk, loc.off + _, none⟩)) hw ⟨loc, hl, rfl⟩ ?_
    simp [execOp, ho, he', e2, Instr.indexAt, asIntOf, run_underlying hun, hb, run_sizeOf hs, add_lit, Nat.add_assoc]
  · simp at hc

theorem part_sound {t : TypeId} {g : Bool} {n off : Nat} {cs : List AV} {l : List Value} {r : AV} (hg : isAgg? P t = some g) (hs : size? P t = some n) (hl : VRs j cs l) (h : partOf cs off n g = some r) :
    ∃ c, VR j r c ∧ (part t l.toArray off).run P w = .ok c w := by
  unfold partOf at h
  unfold part
  simp only [Sem.run_bind, run_isAgg hg, Result.andThen_ok]
  cases g with
  | true =>
    simp only [cond_true] at h
    obtain ⟨_, h⟩ := bif_some h
    obtain rfl := Option.some.inj h
    exact ⟨.agg ((l.drop off).take n).toArray, ⟨_, rfl, VRs.take _ (VRs.drop _ hl)⟩, by simp [run_sizeOf hs]⟩
  | false =>
    simp only [cond_false] at h
    obtain ⟨c, h1, h2⟩ := VRs.get hl off r h
    exact ⟨c, h2, by simp [h1]⟩

theorem does_field {s : TypeId} {x : Operand} {f : Nat} {p : AOp} (ho : o.op = .field s x f) (hc : cOp P (.field s x f) = some p) (hw : WR j H w) (hE : ER j e a.tmps)
    (hr : p.run callF e H = some (v, H')) : Does P a o j H w v H' := by
  simp only [cOp, Option.bind_eq_some_iff, Option.map_eq_some_iff] at hc
  obtain ⟨fd, hf, n, hn, g, hg, xa, hxa, rfl⟩ := hc
  obtain ⟨u, hu, h1⟩ := on1_some hr
  have hv := opd_sound hE hxa hu
  cases u <;> (try simp at h1; done)
  obtain ⟨h2, rfl⟩ := pureR_some h1
  obtain ⟨l, he, hl⟩ := hv
  obtain ⟨c, hc1, hc2⟩ := part_sound (P := P) (w := w) hg hn hl h2
  refine Does.pure hw hc1 ?_
  unfold field? at hf
  cases hun : P.underlying s with
  | none => simp [hun] at hf
  | some d =>
    cases d <;> simp [hun] at hf
    simp [execOp, ho, he, Instr.field, run_underlying hun, hf, asAgg, hc2]

theorem does_index {t : TypeId} {x i : Operand} {p : AOp} (ho : o.op = .index t x i) (hc : cOp P (.index t x i) = some p) (hw : WR j H w) (hE : ER j e a.tmps)
    (hr : p.run callF e H = some (v, H')) : Does P a o j H w v H' := by
  simp only [cOp] at hc
  split at hc
  · rename_i n el hun
    simp only [Option.bind_eq_some_iff, Option.map_eq_some_iff] at hc
    obtain ⟨s, hs, g, hg, xa, hxa, ia, hia, rfl⟩ := hc
    obtain ⟨u1, u2, h1, h2, h3⟩ := opt2_some hr
    have e1 := opd_sound hE hxa h1
    have e2 := opd_sound hE hia h2
    cases u1 <;> (try simp at h3; done)
    cases u2 <;> (try simp at h3; done)
    obtain ⟨hb, h3⟩ := bif_some h3
    simp only [Bool.and_eq_true, decide_eq_true_eq] at hb
    obtain ⟨h4, rfl⟩ := pureR_some h3
    obtain ⟨l, he, hl⟩ := e1
    simp only [VR] at e2
    obtain ⟨c, hc1, hc2⟩ := part_sound (P := P) (w := w) hg hs hl h4
    refine Does.pure hw hc1 ?_
    simp [execOp, ho, he, e2, Instr.index, asIntOf, run_underlying hun, hb, run_sizeOf hs, hc2]
  · rename_i hun
    simp only [Option.bind_eq_some_iff, Option.map_eq_some_iff] at hc
    obtain ⟨xa, hxa, ia, hia, rfl⟩ := hc
    obtain ⟨u1, u2, h1, h2, h3⟩ := opt2_some hr
    have e1 := opd_sound hE hxa h1
    have e2 := opd_sound hE hia h2
    cases u1 <;> (try simp at h3; done)
    rename_i s
    cases u2 <;> (try simp at h3; done)
    rename_i k n
    obtain ⟨hb, h3⟩ := bif_some h3
    simp only [decide_eq_true_eq] at hb
    split at h3
    · rename_i b hs
      simp only [Option.some.injEq, Prod.mk.injEq] at h3
      obtain ⟨rfl, rfl⟩ := h3
      simp only [VR] at e1 e2
      refine Does.pure (c := .int .u8 b.toNat) hw rfl ?_
      have hlt : n.toNat < s.length := by
        rcases Nat.lt_or_ge n.toNat s.length with h | h
        · exact h
        · rw [List.getElem?_eq_none h] at hs; simp at hs
      have hb2 : (⟨s.toArray⟩ : ByteArray)[n.toNat]? = some b := by
        have hsz : n.toNat < (⟨s.toArray⟩ : ByteArray).size := by simpa [ByteArray.size] using hlt
        rw [getElem?_pos (⟨s.toArray⟩ : ByteArray) n.toNat hsz]
        rw [List.getElem?_eq_getElem hlt] at hs
        simp only [Option.some.injEq] at hs ⊢
        rw [← hs]; rfl
      simp [execOp, ho, e1, e2, Instr.index, asIntOf, run_underlying hun, hb, hb2]
    · simp at h3
  · simp at hc

theorem does_load {t : TypeId} {x : Operand} {p : AOp} (ho : o.op = .load t x) (hc : cOp P (.load t x) = some p) (hw : WR j H w) (hE : ER j e a.tmps)
    (hr : p.run callF e H = some (v, H')) : Does P a o j H w v H' := by
  simp only [cOp, Option.bind_eq_some_iff] at hc
  obtain ⟨n, hn, g, hg, hc⟩ := hc
  obtain ⟨hgn, hc⟩ := if_some hc
  simp only [Option.map_eq_some_iff] at hc
  obtain ⟨xa, hxa, rfl⟩ := hc
  obtain ⟨u, hu, h1⟩ := on1_some hr
  have hv := opd_sound hE hxa hu
  cases u <;> (try simp at h1; done)
  simp only at h1
  split at h1
  · rename_i b off cs hcs
    obtain ⟨loc, hl, he⟩ := hv
    obtain ⟨l, hvl, hrun, hcell⟩ := load_sound (P := P) hw hcs hl
    cases g with
    | true =>
      simp only [cond_true, Option.some.injEq, Prod.mk.injEq] at h1
      obtain ⟨rfl, rfl⟩ := h1
      refine Does.pure hw ⟨l, rfl, hvl⟩ ?_
      simp [execOp, ho, he, Instr.loadAt, Instr.sureAddr, loadVar, run_isAgg hg, run_sizeOf hn, hrun]
    | false =>
      simp only [cond_false] at h1
      split at h1
      · rename_i c0
        simp only [Option.some.injEq, Prod.mk.injEq] at h1
        obtain ⟨rfl, rfl⟩ := h1
        obtain ⟨c, _, rfl, hvc, rfl⟩ := hvl
        have := hcell 0 c rfl
        simp only [Nat.add_zero] at this
        refine Does.pure hw hvc ?_
        simp [execOp, ho, he, Instr.loadAt, Instr.sureAddr, loadVar, run_isAgg hg, this]
      · simp at h1
  · simp at h1

theorem does_store {t : TypeId} {x y : Operand} {p : AOp} (ho : o.op = .store t x y) (hc : cOp P (.store t x y) = some p) (hw : WR j H w) (hE : ER j e a.tmps)
    (hr : p.run callF e H = some (v, H')) : Does P a o j H w v H' := by
  simp only [cOp, Option.bind_eq_some_iff, Option.map_eq_some_iff] at hc
  obtain ⟨n, hn, xa, hxa, ya, hya, rfl⟩ := hc
  obtain ⟨u1, u2, h1, h2, h3⟩ := opt2_some hr
  have e1 := opd_sound hE hxa h1
  have e2 := opd_sound hE hya h2
  cases u1 <;> (try simp at h3; done)
  obtain ⟨hb, h3⟩ := bif_some h3
  simp only [decide_eq_true_eq] at hb
  split at h3
  · rename_i H2 hst
    simp only [Option.some.injEq, Prod.mk.injEq] at h3
    obtain ⟨rfl, rfl⟩ := h3
    obtain ⟨loc, hl, he⟩ := e1
    have hcells := VR.cells e2
    obtain ⟨w', hrun, htr⟩ := store_sound (P := P) hw hst hl hcells
    refine ⟨j, undef, w', htr, ⟨[], rfl, rfl⟩, .inr ⟨?_, rfl⟩⟩
    have hsz : (a.eval y).cells.size = n := by
      have := VRs.length hcells
      simp at this
      omega
    simp [execOp, ho, he, Instr.storeAt, Instr.sureAddr, storeVar, run_sizeOf hn, hsz, hrun]
  · simp at h3

end
end Go.Ev
