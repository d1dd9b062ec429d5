/- The shallow reading of code: typed values, blocks of cells, operations with continuations. Definitions alone; nothing is claimed here. -/
import Derived.Test.YtipdancojcdioaaEvU
namespace Go.Sh
open Go Go.Ev

/-! ### types of flat data -/
inductive Ty where
  | int (k : IntKind)
  | flt (k : FloatKind)
  | bool
  | str
  | unit
  | one (a : Ty)
  | pair (a b : Ty)
  | arr (n : Nat) (t : Ty)
  deriving DecidableEq

@[reducible] def Ty.den : Ty → Type
  | .int _ => Int
  | .flt _ => Nat
  | .bool => Bool
  | .str => List UInt8
  | .unit => Unit
  | .one a => a.den
  | .pair a b => a.den × b.den
  | .arr _ t => List t.den

def Ty.dflt : (t : Ty) → t.den
  | .int _ => (0 : Int)
  | .flt _ => (0 : Nat)
  | .bool => false
  | .str => ([] : List UInt8)
  | .unit => ()
  | .one a => a.dflt
  | .pair a b => (a.dflt, b.dflt)
  | .arr n t => List.replicate n t.dflt

def Ty.size : Ty → Nat
  | .int _ => 1
  | .flt _ => 1
  | .bool => 1
  | .str => 1
  | .unit => 0
  | .one a => a.size
  | .pair a b => a.size + b.size
  | .arr n t => n * t.size

def Ty.agg : Ty → Bool
  | .unit => true
  | .one _ => true
  | .pair _ _ => true
  | .arr _ _ => true
  | _ => false

def cellsN {α : Type} (f : α → List AV) (d : α) : Nat → List α → List AV
  | 0, _ => []
  | n + 1, [] => f d ++ cellsN f d n []
  | n + 1, x :: r => f x ++ cellsN f d n r

def Ty.cells : (t : Ty) → t.den → List AV
  | .int k, n => [.int k n]
  | .flt k, n => [.float k n]
  | .bool, b => [.bool b]
  | .str, s => [.str s]
  | .unit, _ => []
  | .one a, x => a.cells x
  | .pair a b, x => a.cells x.1 ++ b.cells x.2
  | .arr n t, xs => cellsN t.cells t.dflt n xs

/-- a list with another element at a place (it grows, if need be) -/
def setD {α : Type} (d : α) : List α → Nat → α → List α
  | [], 0, v => [v]
  | [], i + 1, v => d :: setD d [] i v
  | _ :: r, 0, v => v :: r
  | x :: r, i + 1, v => x :: setD d r i v

/-- a place in an array (or, 'el', in a slice's block): of m, each of s cells, the i-th; and behind it so many cells -/
structure Ix where
  el : Bool
  m : Nat
  s : Nat
  i : Nat
  off : Nat

def offP : List Ix → Nat
  | [] => 0
  | x :: r => x.i * x.s + x.off + offP r

/-! ### values, blocks -/
/-- what is known of a window's capacity: none told; so much; none told or the window's end; nothing -/
inductive Cp where
  | non
  | kn (c : Nat)
  | tail
  | any

/-- of a whole slice: none told; none told or its end; nothing -/
inductive Ex where
  | yes
  | no
  | any

def Ex.cp : Ex → Cp
  | .yes => .non
  | .no => .tail
  | .any => .any

inductive SV where
  | ty (t : Ty) (x : t.den)
  | nilp
  | ptr (b o : Nat) (p : List Ix)
  | nils
  | sla (b : Nat) (ex : Ex)
  | slw (b o len : Nat) (cap : Cp)
  | segs (l : List SV)
  | tup (l : List SV)
  | nilf
  | fn (f : Nat) (first captured : List SV)

inductive Cont where
  | one (v : SV)
  | many (t : Ty) (xs : List t.den)

structure Blk where
  own : Bool
  c : Cont

structure St where
  env : Tr SV
  heap : Tr Blk
  next : Nat
  start : Nat
  log : List Nat

def St.put (s : St) (dst : Option Nat) (v : SV) : St :=
  match dst with
  | some d => { s with env := s.env.set (d + 1) d (some v) }
  | none => s

def St.setB (s : St) (b : Nat) (x : Option Blk) : St := { s with heap := s.heap.set (b + 1) b x, log := b :: s.log }
def St.push (s : St) (x : Blk) : St := { s with heap := s.heap.set (s.next + 1) s.next (some x), next := s.next + 1 }

/-! ### from constants; types of what is known cell by cell -/
def const1 : AV → Option SV
  | .bool b => some (.ty .bool b)
  | .int k n => some (.ty (.int k) n)
  | .float k n => some (.ty (.flt k) n)
  | .str s => some (.ty .str s)
  | .nilptr => some .nilp
  | .nilsl => some .nils
  | .nilfn => some .nilf
  | _ => none

def consts : List AV → Option (List SV)
  | [] => some []
  | v :: r => match const1 v with
    | some x => match consts r with
      | some l => some (x :: l)
      | none => none
    | none => none

def constS : AV → Option SV
  | .agg cs => match consts cs with
    | some l => some (.segs l)
    | none => none
  | .fn f [] [] => some (.fn f [] [])
  | v => const1 v

def opdS (s : St) : Opd → Option SV
  | .t n => s.env.get n
  | .c v => constS v

def castT (t t' : Ty) (x : t.den) : Option t'.den :=
  match decEq t t' with
  | isTrue h => some (h ▸ x)
  | isFalse _ => none

/-- the parts of a value -/
def SV.flat : SV → List SV
  | .segs l => l
  | v => [v]

def takeN {α : Type} (f : List SV → Option (α × List SV)) : Nat → List SV → Option (List α × List SV)
  | 0, l => some ([], l)
  | n + 1, l => match f l with
    | some (x, r) => match takeN f n r with
      | some (xs, r) => some (x :: xs, r)
      | none => none
    | none => none

def headT (t : Ty) : List SV → Option (t.den × List SV)
  | .ty t' x :: r => match castT t' t x with
    | some y => some (y, r)
    | none => none
  | _ => none

/-- a typed value out of parts, one behind the other -/
def takeT : (t : Ty) → List SV → Option (t.den × List SV)
  | .one a, l => match headT (.one a) l with
    | some r => some r
    | none => takeT a l
  | .pair a b, l => match headT (.pair a b) l with
    | some r => some r
    | none => match takeT a l with
      | some (x, r) => match takeT b r with
        | some (y, r) => some ((x, y), r)
        | none => none
      | none => none
  | .arr n t, l => match headT (.arr n t) l with
    | some r => some r
    | none => takeN (takeT t) n l
  | .unit, l => some ((), l)
  | .int k, l => headT (.int k) l
  | .flt k, l => headT (.flt k) l
  | .bool, l => headT .bool l
  | .str, l => headT .str l

def asT (t : Ty) (v : SV) : Option t.den :=
  match takeT t v.flat with
  | some (x, []) => some x
  | _ => none

/-- how many cells -/
def SV.size : SV → Nat
  | .ty t _ => t.size
  | .segs _ => 0
  | _ => 1

/-- the part of a typed value at a place, of so many cells, an aggregate or not -/
def getT : (t : Ty) → t.den → Nat → List Ix → Nat → Bool → Option SV
  | .one a, x, o, p, n, g =>
    bif g && o.beq 0 && p.isEmpty && n.beq a.size then some (.ty (.one a) x) else getT a x o p n g
  | .pair a b, x, o, p, n, g =>
    bif g && o.beq 0 && p.isEmpty && n.beq (a.size + b.size) then some (.ty (.pair a b) x) else
    bif Nat.blt o a.size then getT a x.1 o p n g else getT b x.2 (o - a.size) p n g
  | .arr m t, xs, o, p, n, g =>
    bif g && o.beq 0 && p.isEmpty && n.beq (m * t.size) then some (.ty (.arr m t) xs) else
    match p with
    | [] => bif Nat.blt (o / t.size) m then getT t (xs.getD (o / t.size) t.dflt) (o % t.size) [] n g else none
    | ix :: r => bif o.beq 0 && !ix.el && ix.m.beq m && ix.s.beq t.size then getT t (xs.getD ix.i t.dflt) ix.off r n g else
      bif Nat.blt (o / t.size) m then getT t (xs.getD (o / t.size) t.dflt) (o % t.size) (ix :: r) n g else none
  | .int k, x, o, p, n, g => bif !g && o.beq 0 && p.isEmpty && n.beq 1 then some (.ty (.int k) x) else none
  | .flt k, x, o, p, n, g => bif !g && o.beq 0 && p.isEmpty && n.beq 1 then some (.ty (.flt k) x) else none
  | .bool, x, o, p, n, g => bif !g && o.beq 0 && p.isEmpty && n.beq 1 then some (.ty .bool x) else none
  | .str, x, o, p, n, g => bif !g && o.beq 0 && p.isEmpty && n.beq 1 then some (.ty .str x) else none
  | .unit, _, _, _, _, _ => none

/-- the same with another part there -/
def setT : (t : Ty) → t.den → Nat → List Ix → Nat → SV → Option t.den
  | .one a, x, o, p, n, w => setT a x o p n w
  | .pair a b, x, o, p, n, w =>
    bif o.beq 0 && p.isEmpty && n.beq (a.size + b.size) then asT (.pair a b) w else
    bif Nat.blt o a.size then (match setT a x.1 o p n w with
      | some y => some (y, x.2)
      | none => none)
    else (match setT b x.2 (o - a.size) p n w with
      | some y => some (x.1, y)
      | none => none)
  | .arr m t, xs, o, p, n, w =>
    bif o.beq 0 && p.isEmpty && n.beq (m * t.size) then asT (.arr m t) w else
    match p with
    | [] => bif Nat.blt (o / t.size) m then (match setT t (xs.getD (o / t.size) t.dflt) (o % t.size) [] n w with
      | some y => some (setD t.dflt xs (o / t.size) y)
      | none => none) else none
    | ix :: r => bif o.beq 0 && !ix.el && ix.m.beq m && ix.s.beq t.size then (match setT t (xs.getD ix.i t.dflt) ix.off r n w with
      | some y => some (setD t.dflt xs ix.i y)
      | none => none) else
      bif Nat.blt (o / t.size) m then (match setT t (xs.getD (o / t.size) t.dflt) (o % t.size) (ix :: r) n w with
      | some y => some (setD t.dflt xs (o / t.size) y)
      | none => none) else none
  | .int k, _, o, p, n, w => bif o.beq 0 && p.isEmpty && n.beq 1 then asT (.int k) w else none
  | .flt k, _, o, p, n, w => bif o.beq 0 && p.isEmpty && n.beq 1 then asT (.flt k) w else none
  | .bool, _, o, p, n, w => bif o.beq 0 && p.isEmpty && n.beq 1 then asT .bool w else none
  | .str, _, o, p, n, w => bif o.beq 0 && p.isEmpty && n.beq 1 then asT .str w else none
  | .unit, _, _, _, _, _ => none

/-- parts without the first cells; the first ones -/
def dropS : List SV → Nat → Option (List SV)
  | l, 0 => some l
  | [], _ + 1 => none
  | v :: l, n + 1 => bif Nat.ble v.size (n + 1) && Nat.blt 0 v.size then dropS l (n + 1 - v.size) else none
def takeS : List SV → Nat → Option (List SV)
  | _, 0 => some []
  | [], _ + 1 => none
  | v :: l, n + 1 => bif Nat.ble v.size (n + 1) && Nat.blt 0 v.size then (match takeS l (n + 1 - v.size) with
    | some r => some (v :: r)
    | none => none) else none

def isRef : SV → Bool
  | .ty _ _ => false
  | .segs _ => false
  | .tup _ => false
  | _ => true

def getL : List SV → Nat → List Ix → Nat → Bool → Option SV
  | [], _, _, _, _ => none
  | v :: l, o, p, n, g => bif Nat.blt o v.size then (match v with
      | .ty t x => getT t x o p n g
      | v => bif isRef v && !g && o.beq 0 && p.isEmpty && n.beq 1 then some v else none)
    else bif Nat.blt 0 v.size then getL l (o - v.size) p n g else none

def getV (v : SV) (o : Nat) (p : List Ix) (n : Nat) (g : Bool) : Option SV :=
  match v with
  | .ty t x => getT t x o p n g
  | .segs l => (match getL l o p n g with
    | some w => some w
    | none => bif g && p.isEmpty then (match dropS l o with
      | some r => (match takeS r n with
        | some q => some (.segs q)
        | none => none)
      | none => none) else none)
  | v => bif isRef v && !g && o.beq 0 && p.isEmpty && n.beq 1 then some v else none

/-- how many cells parts have, each at least one -/
def sizeL : List SV → Option Nat
  | [] => some 0
  | v :: l => bif Nat.blt 0 v.size then (match sizeL l with
    | some n => some (v.size + n)
    | none => none) else none

def sizeIs (l : List SV) (n : Nat) : Bool :=
  match sizeL l with
  | some m => m.beq n
  | none => false

def setL : List SV → Nat → List Ix → Nat → SV → Option (List SV)
  | [], _, _, _, _ => none
  | v :: l, o, p, n, w => bif Nat.blt o v.size then (match v with
      | .ty t x => (match setT t x o p n w with
        | some y => some (.ty t y :: l)
        | none => none)
      | _ => none)
    else bif Nat.blt 0 v.size then (match setL l (o - v.size) p n w with
      | some r => some (v :: r)
      | none => none) else none

def setV (v : SV) (o : Nat) (p : List Ix) (n : Nat) (w : SV) : Option SV :=
  match v with
  | .ty t x => (match setT t x o p n w with
    | some y => some (.ty t y)
    | none => none)
  | .segs l => (match setL l o p n w with
    | some r => some (.segs r)
    | none => bif p.isEmpty && sizeIs w.flat n then (match takeS l o, dropS l (o + n) with
      | some a, some b => some (.segs (a ++ (w.flat ++ b)))
      | _, _ => none) else none)
  | v => bif isRef v && isRef w && o.beq 0 && p.isEmpty && n.beq 1 then some w else none

/-! ### operations on numbers and texts -/
/-- a condition, and what comes if it holds -/
def binI (op : BinOp) (k : IntKind) (a : Int) (k' : IntKind) (b : Int) : Option (Bool × SV) :=
  match op with
  | .shl => some (decide (0 ≤ b), .ty (.int k) (k.wrap (a * 2 ^ (min b.toNat k.bits))))
  | .shr => some (decide (0 ≤ b), .ty (.int k) (a.fdiv (2 ^ (min b.toNat k.bits))))
  | _ => bif decide (k = k') then (match op with
    | .add => some (true, .ty (.int k) (k.wrap (a + b)))
    | .sub => some (true, .ty (.int k) (k.wrap (a - b)))
    | .mul => some (true, .ty (.int k) (k.wrap (a * b)))
    | .quo => some (!decide (b = 0), .ty (.int k) (k.wrap (a.tdiv b)))
    | .rem => some (!decide (b = 0), .ty (.int k) (a.tmod b))
    | .and => some (true, .ty (.int k) (bits .and k a b))
    | .or => some (true, .ty (.int k) (bits .or k a b))
    | .xor => some (true, .ty (.int k) (bits .xor k a b))
    | .andNot => some (true, .ty (.int k) (bits .andNot k a b))
    | .eql => some (true, .ty .bool (decide (a = b)))
    | .neq => some (true, .ty .bool (!decide (a = b)))
    | .lss => some (true, .ty .bool (decide (a < b)))
    | .leq => some (true, .ty .bool (decide (a ≤ b)))
    | .gtr => some (true, .ty .bool (decide (b < a)))
    | .geq => some (true, .ty .bool (decide (b ≤ a)))
    | _ => none) else none

def binStr (op : BinOp) (a b : List UInt8) : Option (Bool × SV) :=
  match op with
  | .add => some (decide (a.length + b.length ≤ 9223372036854775807), .ty .str (a ++ b))
  | .eql => some (true, .ty .bool (a == b))
  | .neq => some (true, .ty .bool (!(a == b)))
  | .lss => some (true, .ty .bool (Op.bytesLess a b))
  | .leq => some (true, .ty .bool (Op.bytesLess a b || a == b))
  | .gtr => some (true, .ty .bool (!(Op.bytesLess a b || a == b)))
  | .geq => some (true, .ty .bool (!(Op.bytesLess a b)))
  | _ => none

def binS (op : BinOp) : SV → SV → Option (Bool × SV)
  | .ty (.int k) a, .ty (.int k') b => binI op k a k' b
  | .ty .str a, .ty .str b => binStr op a b
  | _, _ => none

def unS (op : UnOp) : SV → Option SV
  | .ty (.int k) n => (match op with
    | .neg => some (.ty (.int k) (k.wrap (0 - n)))
    | .xor => some (.ty (.int k) (bits .xor k (if k.signed then -1 else k.max) n))
    | _ => none)
  | .ty .bool b => (match op with
    | .not => some (.ty .bool (!b))
    | _ => none)
  | _ => none

/-! ### equality -/
def eqN {α : Type} (f : α → α → Bool) (d : α) : Nat → List α → List α → Bool
  | 0, _, _ => true
  | n + 1, xs, ys => f (xs.headD d) (ys.headD d) && eqN f d n xs.tail ys.tail

def Ty.eq : (t : Ty) → t.den → t.den → Bool
  | .int _, a, b => decide ((a : Int) = b)
  | .flt _, a, b => Nat.beq a b
  | .bool, a, b => (a == b)
  | .str, a, b => (a : List UInt8) == b
  | .unit, _, _ => true
  | .one a, x, y => a.eq x y
  | .pair a b, x, y => a.eq x.1 y.1 && b.eq x.2 y.2
  | .arr n t, xs, ys => eqN t.eq t.dflt n xs ys

def repK (n : Nat) (l : List Nat) : List Nat := match n with
  | 0 => []
  | n + 1 => l ++ repK n l

/-- cells' kinds, as the evaluator names them -/
def Ty.kinds : Ty → Option (List Nat)
  | .int _ => some [1]
  | .flt _ => none
  | .bool => some [0]
  | .str => some [2]
  | .unit => some []
  | .one a => a.kinds
  | .pair a b => match a.kinds, b.kinds with
    | some x, some y => some (x ++ y)
    | _, _ => none
  | .arr n t => match t.kinds with
    | some x => some (repK n x)
    | none => none

def eqTy (ks : List Nat) (neg : Bool) (t : Ty) (x y : t.den) : Option SV :=
  match t.kinds with
  | some l => bif l == ks then some (.ty .bool (bif neg then !(t.eq x y) else t.eq x y)) else none
  | none => none

def eqAS (ks : List Nat) (neg : Bool) : SV → SV → Option SV
  | .ty t x, .ty t' y => bif t.agg then (match castT t' t y with
    | some y => eqTy ks neg t x y
    | none => none) else none
  | .ty t x, .segs l => bif t.agg then (match asT t (.segs l) with
    | some y => eqTy ks neg t x y
    | none => none) else none
  | .segs l, .ty t y => bif t.agg then (match asT t (.segs l) with
    | some x => eqTy ks neg t x y
    | none => none) else none
  | _, _ => none

/-- is it nil? where that is known -/
def nilS : Nat → SV → Option Bool
  | 0, .nilp => some true
  | 0, .ptr _ _ _ => some false
  | 1, .nils => some true
  | 2, .nilf => some true
  | 2, .fn _ _ _ => some false
  | _, _ => none

def eqNilS (k : Nat) (neg : Bool) (x y : SV) : Option SV :=
  match nilS k x, nilS k y with
  | some true, some b => some (.ty .bool (bif neg then !b else b))
  | some false, some true => some (.ty .bool neg)
  | _, _ => none

end Go.Sh
