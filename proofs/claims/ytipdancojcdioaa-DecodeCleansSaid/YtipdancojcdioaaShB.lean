/- The shallow reading of code, second part: operations, shapes of states, code. Definitions alone; nothing is claimed here. -/
import Derived.Test.YtipdancojcdioaaShA
namespace Go.Sh
open Go Go.Ev

variable {ρ : Type}

/-- go on, if it holds -/
def chk (c : Bool) (r : Option ρ) : Option ρ := bif c then r else none
/-- two ways -/
def br (c : Bool) (a b : Option ρ) : Option ρ := bif c then a else b
/-- a place where ways meet -/
def jp {α : Type} (k : α → Option ρ) (body : (α → Option ρ) → Option ρ) : Option ρ := body k
/-- a loop -/
def fixN {σ : Type} : Nat → ((σ → Option ρ) → σ → Option ρ) → σ → Option ρ
  | 0, _, _ => none
  | n + 1, F, x => F (fixN n F) x
/-- a call -/
def bindS {α : Type} (r : Option α) (k : α → Option ρ) : Option ρ :=
  match r with
  | some x => k x
  | none => none

def orNone {α : Type} (x : Option α) (k : α → Option ρ) : Option ρ :=
  match x with
  | some v => k v
  | none => none

/-! ### memory -/
def loadS (s : St) (v : SV) (n : Nat) (g : Bool) (κ : SV → Option ρ) : Option ρ :=
  match v with
  | .ptr b o p => (match s.heap.get b with
    | some ⟨_, .one w⟩ => orNone (getV w o p n g) κ
    | some ⟨_, .many t xs⟩ => (match p with
      | ix :: r => bif ix.el && ix.s.beq t.size && o.beq 0 then orNone (getT t (xs.getD ix.i t.dflt) ix.off r n g) κ else none
      | [] => none)
    | none => none)
  | _ => none

/-- each part a single cell, or typed -/
def oneS : SV → Bool
  | .tup _ => false
  | .segs l => l.all fun v => match v with
    | .tup _ => false
    | .segs _ => false
    | _ => true
  | _ => true

def storeS (s : St) (a : SV) (n : Nat) (v : SV) (κ : SV → St → Option ρ) : Option ρ :=
  bif oneS v then match a with
  | .ptr b o p => (match s.heap.get b with
    | some ⟨true, .one w⟩ => orNone (setV w o p n v) fun w' => κ (.tup []) (s.setB b (some ⟨true, .one w'⟩))
    | some ⟨true, .many t xs⟩ => (match p with
      | ix :: r => bif ix.el && ix.s.beq t.size && o.beq 0 then
          orNone (setT t (xs.getD ix.i t.dflt) ix.off r n v) fun y => κ (.tup []) (s.setB b (some ⟨true, .many t (xs.set ix.i y)⟩)) else none
      | [] => none)
    | _ => none)
  | _ => none
  else none

def addOff : List Ix → Nat → List Ix
  | [], _ => []
  | [ix], n => [⟨ix.el, ix.m, ix.s, ix.i, ix.off + n⟩]
  | ix :: r, n => ix :: addOff r n

def faddrS (off : Nat) : SV → Option SV
  | .ptr b o [] => some (.ptr b (o + off) [])
  | .ptr b o p => some (.ptr b o (addOff p off))
  | _ => none

/-- the elements of a slice -/
structure SC where
  t : Ty
  xs : List t.den

def sliceC (s : St) : SV → Option SC
  | .sla b _ => (match s.heap.get b with
    | some ⟨_, .many t xs⟩ => some ⟨t, xs⟩
    | _ => none)
  | .slw b o l _ => (match s.heap.get b with
    | some ⟨_, .many t xs⟩ => some ⟨t, (xs.drop o).take l⟩
    | _ => none)
  | .ty .str x => some ⟨.int .u8, (x : List UInt8).map fun c => (c.toNat : Int)⟩
  | _ => none

def lenS (s : St) : SV → Option Nat
  | .nils => some 0
  | .sla b _ => (match s.heap.get b with
    | some ⟨_, .many _ xs⟩ => some xs.length
    | _ => none)
  | .slw b _ l _ => (match s.heap.get b with
    | some ⟨_, .many _ _⟩ => some l
    | _ => none)
  | _ => none

def lim : Nat := 140737488355328

/-- the elements brought to a type -/
def castL (t t' : Ty) (x : List t.den) : Option (List t'.den) :=
  match decEq t t' with
  | isTrue h => some (h ▸ x)
  | isFalse _ => none

def okEx : Ex → Bool
  | .any => false
  | _ => true

def appendSla (s : St) (bytes b : Nat) (ex : Ex) (ys : SC) (κ : SV → St → Option ρ) : Option ρ :=
  match s.heap.get b with
  | some ⟨true, .many t xs⟩ => bif okEx ex then orNone (castL ys.t t ys.xs) fun zs =>
      chk (decide ((xs.length + zs.length) * bytes ≤ lim)) (κ (.sla s.next ex) ((s.setB b none).push ⟨true, .many t (xs ++ zs)⟩)) else none
  | _ => none

def appendSlw (s : St) (bytes b o l : Nat) (c : Cp) (ys : SC) (κ : SV → St → Option ρ) : Option ρ :=
  match s.heap.get b with
  | some ⟨own, .many t xs⟩ => orNone (castL ys.t t ys.xs) fun zs => (match c with
    | .non => bif own then chk (Nat.blt 0 zs.length && decide ((l + zs.length) * bytes ≤ lim)) (κ (.sla s.next .yes) ((s.setB b none).push ⟨true, .many t ((xs.drop o).take l ++ zs)⟩)) else none
    | .kn m => chk (Nat.blt 0 zs.length && decide ((l + zs.length) * bytes ≤ lim) && decide (m ≤ l)) (κ (.sla s.next .yes) (s.push ⟨true, .many t ((xs.drop o).take l ++ zs)⟩))
    | _ => none)
  | _ => none

def appendC (s : St) (bytes : Nat) (x : SV) (ys : SC) (κ : SV → St → Option ρ) : Option ρ :=
  match x with
  | .nils => chk (decide (ys.xs.length * bytes ≤ lim)) (κ (.sla s.next .yes) (s.push ⟨true, .many ys.t ys.xs⟩))
  | .sla b ex => appendSla s bytes b ex ys κ
  | .slw b o l c => appendSlw s bytes b o l c ys κ
  | _ => none

def append0 (s : St) (x : SV) (κ : SV → St → Option ρ) : Option ρ :=
  match x with
  | .nils => κ .nils s
  | .sla b ex => κ (.sla b ex) s
  | .slw b o l c => κ (.slw b o l c) s
  | _ => none

def appendS (s : St) (size bytes : Nat) (x y : SV) (κ : SV → St → Option ρ) : Option ρ :=
  match y with
  | .nils => append0 s x κ
  | y => orNone (sliceC s y) fun ys => bif ys.t.size.beq size && Nat.blt 0 size then appendC s bytes x ys κ else none

/-- a bound: a condition, and what it is -/
def boundS (s : St) (d : Nat) : Option Opd → Option (Bool × Nat)
  | none => some (true, d)
  | some x => match opdS s x with
    | some (.ty (.int _) n) => some (decide (0 ≤ (n : Int)), (n : Int).toNat)
    | _ => none

def capS (c : Cp) (hi : Bool) (l : Nat) : Cp :=
  match c with
  | .non => .non
  | .kn c => .kn (c - l)
  | .tail => bif hi then .any else .tail
  | .any => .any

def sliceWS (s : St) (b o len : Nat) (c : Cp) (lo hi mx : Option Opd) (κ : SV → Option ρ) : Option ρ :=
  orNone (boundS s 0 lo) fun l => orNone (boundS s len hi) fun h => match mx with
  | none => chk (l.1 && h.1 && Nat.ble l.2 h.2 && Nat.ble h.2 len) (κ (.slw b (o + l.2) (h.2 - l.2) (capS c hi.isSome l.2)))
  | some m => orNone (boundS s 0 (some m)) fun m =>
      chk (l.1 && h.1 && m.1 && Nat.ble l.2 h.2 && Nat.ble h.2 m.2 && Nat.ble m.2 len) (κ (.slw b (o + l.2) (h.2 - l.2) (.kn (m.2 - l.2))))

def sliceS (s : St) (size : Nat) (x : SV) (lo hi mx : Option Opd) (κ : SV → Option ρ) : Option ρ :=
  match x with
  | .sla b ex => (match s.heap.get b with
    | some ⟨_, .many t xs⟩ => bif t.size.beq size && Nat.blt 0 size then sliceWS s b 0 xs.length ex.cp lo hi mx κ else none
    | _ => none)
  | .slw b o l c => (match s.heap.get b with
    | some ⟨_, .many t _⟩ => bif t.size.beq size && Nat.blt 0 size then sliceWS s b o l c lo hi mx κ else none
    | _ => none)
  | .nils => (match mx with
    | none => orNone (boundS s 0 lo) fun l => orNone (boundS s 0 hi) fun h => chk (l.1 && h.1 && l.2.beq 0 && h.2.beq 0) (κ .nils)
    | _ => none)
  | _ => none

def sliceStrS (s : St) (x : SV) (lo hi : Option Opd) (κ : SV → Option ρ) : Option ρ :=
  match x with
  | .ty .str t => orNone (boundS s 0 lo) fun l => orNone (boundS s (t : List UInt8).length hi) fun h =>
      chk (l.1 && h.1 && Nat.ble l.2 h.2 && Nat.ble h.2 (t : List UInt8).length) (κ (.ty .str (((t : List UInt8).drop l.2).take (h.2 - l.2))))
  | _ => none

def copyC (s : St) (x : SV) (ys : SC) (κ : SV → St → Option ρ) : Option ρ :=
  match x with
  | .sla b _ => (match s.heap.get b with
    | some ⟨true, .many t xs⟩ => orNone (castL ys.t t ys.xs) fun zs =>
        κ (.ty (.int .i64) ((min zs.length xs.length : Nat) : Int)) (s.setB b (some ⟨true, .many t (zs.take (min zs.length xs.length) ++ xs.drop (min zs.length xs.length))⟩))
    | _ => none)
  | .slw b o l _ => (match s.heap.get b with
    | some ⟨true, .many t xs⟩ => orNone (castL ys.t t ys.xs) fun zs =>
        κ (.ty (.int .i64) ((min zs.length l : Nat) : Int)) (s.setB b (some ⟨true, .many t (xs.take o ++ (zs.take (min zs.length l) ++ xs.drop (o + min zs.length l)))⟩))
    | _ => none)
  | _ => none

def copyS (s : St) (size : Nat) (x y : SV) (κ : SV → St → Option ρ) : Option ρ :=
  orNone (sliceC s y) fun ys => bif ys.t.size.beq size && Nat.blt 0 size then copyC s x ys κ else none

/-- parts laid over parts -/
def fillS (l : List SV) : List (Nat × Nat × SV) → Option (List SV)
  | [] => some l
  | (off, size, v) :: rest => match takeS l off, dropS l (off + size) with
    | some a, some b => fillS (a ++ (v.flat ++ b)) rest
    | _, _ => none

def partsS (s : St) : List (Nat × Nat × Opd) → Option (List (Nat × Nat × SV))
  | [] => some []
  | (a, b, x) :: r => match opdS s x with
    | some v => match partsS s r with
      | some vs => some ((a, b, v) :: vs)
      | none => none
    | none => none

/-- do the parts fit their sizes? -/
def partsFit : List (Nat × Nat × SV) → Bool
  | [] => true
  | (_, size, v) :: r => sizeIs v.flat size && partsFit r

def argsS (s : St) : List Opd → Option (List SV)
  | [] => some []
  | x :: r => match opdS s x with
    | some v => match argsS s r with
      | some vs => some (v :: vs)
      | none => none
    | none => none

def minmaxS (mx : Bool) : SV → List SV → Option SV
  | x, [] => some x
  | .ty (.int k) a, .ty (.int _) b :: r => minmaxS mx (.ty (.int k) (bif mx then (if (b : Int) > a then b else a) else (if (b : Int) < a then b else a))) r
  | _, _ => none

/-- a hint: of what type is what is made; or of what types its parts are -/
inductive Hn where
  | ty (t : Ty)
  | parts (l : List (Option Ty))

/-- a place in a row of unlike parts: no path, the plain offset -/
def flatH : Option Hn → Bool
  | some (.parts []) => true
  | _ => false

def takeParts : List (Option Ty) → List SV → Option (List SV)
  | [], [] => some []
  | none :: r, v :: l => (match takeParts r l with
    | some m => some (v :: m)
    | none => none)
  | some t :: r, l => (match takeT t l with
    | some (x, l) => (match takeParts r l with
      | some m => some (.ty t x :: m)
      | none => none)
    | none => none)
  | _, _ => none

def hnTy : Option Hn → Option Ty
  | some (.ty t) => some t
  | _ => none

def typed (t : Option Hn) (l : List SV) : Option SV :=
  match t with
  | none => some (.segs l)
  | some (.parts ps) => (match takeParts ps l with
    | some m => some (.segs m)
    | none => none)
  | some (.ty t) => match asT t (.segs l) with
    | some x => bif t.agg then some (.ty t x) else some (.segs [.ty t x])
    | none => none

/-! ### operations -/
abbrev CallS (ρ : Type) := Nat → List SV → St → (SV → St → Option ρ) → Option ρ

/-- a part of a row of unlike parts, by its place: a way for each -/
def pickS (f : Nat → Option SV) (n : Nat) (κ : SV → Option ρ) : Nat → Nat → Option ρ
  | 0, _ => none
  | m + 1, j => bif m.beq 0 then orNone (f j) κ else br (n.beq j) (orNone (f j) κ) (pickS f n κ m (j + 1))

def opS (callS : CallS ρ) (hint : Option Hn) (s : St) (op : AOp) (κ : SV → St → Option ρ) : Option ρ :=
  match op with
  | .mv x => orNone (opdS s x) fun v => κ v s
  | .same x => orNone (opdS s x) fun v => (match v with
    | .ty .str t => κ (.ty .str t) s
    | _ => none)
  | .pick c a b => orNone (opdS s c) fun v => (match v with
    | .ty .bool t => orNone (opdS s a) fun x => orNone (opdS s b) fun y => (match x, y with
      | .ty t1 x, .ty t2 y => orNone (castT t2 t1 y) fun y => κ (.ty t1 (bif t then x else y)) s
      | x, y => br t (κ x s) (κ y s))
    | _ => none)
  | .un op x => orNone (opdS s x) fun v => orNone (unS op v) fun r => κ r s
  | .bin op x y => orNone (opdS s x) fun a => orNone (opdS s y) fun b => orNone (binS op a b) fun r => chk r.1 (κ r.2 s)
  | .eqB neg x y => orNone (opdS s x) fun a => orNone (opdS s y) fun b => (match a, b with
    | .ty .bool p, .ty .bool q => κ (.ty .bool (bif neg then !((p : Bool) == q) else ((p : Bool) == q))) s
    | _, _ => none)
  | .eqN k neg x y => orNone (opdS s x) fun a => orNone (opdS s y) fun b => orNone (eqNilS k neg a b) fun r => κ r s
  | .eqA ks neg x y => orNone (opdS s x) fun a => orNone (opdS s y) fun b => orNone (eqAS ks neg a b) fun r => κ r s
  | .convI k x => orNone (opdS s x) fun v => (match v with
    | .ty (.int _) n => κ (.ty (.int k) (k.wrap n)) s
    | _ => none)
  | .nilck x => orNone (opdS s x) fun v => (match v with
    | .ptr b o p => κ (.ptr b o p) s
    | .fn f a c => κ (.fn f a c) s
    | _ => none)
  | .faddr off x => orNone (opdS s x) fun v => orNone (faddrS off v) fun r => κ r s
  | .iaddrA ln size x i => orNone (opdS s x) fun v => orNone (opdS s i) fun n => (match v, n with
    | .ptr b o p, .ty (.int _) n => chk (decide (0 ≤ (n : Int)) && decide ((n : Int) < (ln : Int))) (bif flatH hint && p.isEmpty then κ (.ptr b (o + (n : Int).toNat * size) []) s else κ (.ptr b o (p ++ [⟨false, ln, size, (n : Int).toNat, 0⟩])) s)
    | _, _ => none)
  | .iaddrS size x i => orNone (opdS s x) fun v => orNone (opdS s i) fun n => (match v, n with
    | .sla b ex, .ty (.int _) n => orNone (lenS s (.sla b ex)) fun l =>
        chk (decide (0 ≤ (n : Int)) && decide ((n : Int) < (l : Int))) (κ (.ptr b 0 [⟨true, 0, size, (n : Int).toNat, 0⟩]) s)
    | .slw b o l _, .ty (.int _) n => (match s.heap.get b with
      | some ⟨_, .many t _⟩ => bif t.size.beq size then
        chk (decide (0 ≤ (n : Int)) && decide ((n : Int) < (l : Int))) (κ (.ptr b 0 [⟨true, 0, size, o + (n : Int).toNat, 0⟩]) s) else none
      | _ => none)
    | _, _ => none)
  | .field off size agg x => orNone (opdS s x) fun v => (match v with
    | .ty t y => bif t.agg then orNone (getT t y off [] size agg) fun r => κ r s else none
    | .segs l => orNone (getV (.segs l) off [] size agg) fun r => κ r s
    | _ => none)
  | .index ln size agg x i => orNone (opdS s x) fun v => orNone (opdS s i) fun n => (match v, n with
    | .ty t y, .ty (.int _) n => bif t.agg then chk (decide (0 ≤ (n : Int)) && decide ((n : Int) < (ln : Int))) (orNone (getT t y 0 [⟨false, ln, size, (n : Int).toNat, 0⟩] size agg) fun r => κ r s) else none
    | .segs l, .ty (.int _) n => chk (decide (0 ≤ (n : Int)) && decide ((n : Int) < (ln : Int))) (pickS (fun j => getV (.segs l) (j * size) [] size agg) (n : Int).toNat (fun r => κ r s) ln 0)
    | _, _ => none)
  | .indexStr x i => orNone (opdS s x) fun v => orNone (opdS s i) fun n => (match v, n with
    | .ty .str t, .ty (.int _) n => chk (decide (0 ≤ (n : Int)) && decide ((n : Int) < ((t : List UInt8).length : Int))) (κ (.ty (.int .u8) (((t : List UInt8).getD (n : Int).toNat 0).toNat : Int)) s)
    | _, _ => none)
  | .load n agg x => orNone (opdS s x) fun v => loadS s v n agg fun r => κ r s
  | .store n x v => orNone (opdS s x) fun a => orNone (opdS s v) fun v => storeS s a n v κ
  | .alloc zero => orNone (consts zero) fun zs => orNone (typed hint zs) fun v => κ (.ptr s.next 0 []) (s.push ⟨true, .one v⟩)
  | .box x => orNone (opdS s x) fun v => bif oneS v then κ (.ptr s.next 0 []) (s.push ⟨true, .one (.segs v.flat)⟩) else none
  | .build zero parts => orNone (partsS s parts) fun ps => bif partsFit ps then orNone (consts zero) fun zs => orNone (fillS zs ps) fun l => orNone (typed hint l) fun v => (match v with
    | .ty t x => bif t.agg then κ (.ty t x) s else none
    | v => κ v s) else none
  | .buildSl size n zero parts => orNone (hnTy hint) fun t => orNone (partsS s parts) fun ps => bif partsFit ps && t.size.beq size && Nat.blt 0 size then
      orNone (consts (rep n zero)) fun zs => orNone (fillS zs ps) fun l => (match takeN (takeT t) n l with
      | some (xs, []) => κ (.sla s.next .yes) (s.push ⟨true, .many t xs⟩)
      | _ => none) else none
  | .mkSl size bytes zero ln cap => orNone (hnTy hint) fun t => orNone (opdS s ln) fun a => orNone (opdS s cap) fun b => (match a, b with
    | .ty (.int _) l, .ty (.int _) c => bif t.size.beq size && Nat.blt 0 size then orNone (consts zero) fun zs => orNone (asT t (.segs zs)) fun z =>
        chk (decide (0 ≤ (l : Int)) && decide (0 ≤ (c : Int)) && decide (bytes * (c : Int).toNat ≤ lim) && decide ((c : Int).toNat ≤ lim) && decide ((l : Int).toNat = (c : Int).toNat))
          (κ (.sla s.next .yes) (s.push ⟨true, .many t (List.replicate (l : Int).toNat z)⟩)) else none
    | _, _ => none)
  | .sliceS size x lo hi mx => orNone (opdS s x) fun v => sliceS s size v lo hi mx fun r => κ r s
  | .sliceStr x lo hi => orNone (opdS s x) fun v => sliceStrS s v lo hi fun r => κ r s
  | .sliceA _ _ _ _ _ _ => none
  | .extract x k => orNone (opdS s x) fun v => (match v with
    | .tup vs => orNone vs[k]? fun r => κ r s
    | _ => none)
  | .call f args => orNone (argsS s args) fun vs => callS f vs s κ
  | .callv x args => orNone (opdS s x) fun v => (match v with
    | .fn f first captured => orNone (argsS s args) fun vs => callS f (first ++ vs ++ captured) s κ
    | _ => none)
  | .len true x => orNone (opdS s x) fun v => (match v with
    | .ty .str t => κ (.ty (.int .i64) ((t : List UInt8).length : Int)) s
    | _ => none)
  | .len false x => orNone (opdS s x) fun v => orNone (lenS s v) fun n => κ (.ty (.int .i64) (n : Int)) s
  | .lenC n => κ (.ty (.int .i64) (n : Int)) s
  | .append size bytes x y => orNone (opdS s x) fun a => orNone (opdS s y) fun b => appendS s size bytes a b κ
  | .copy size x y => orNone (opdS s x) fun a => orNone (opdS s y) fun b => copyS s size a b κ
  | .minmax mx xs => orNone (argsS s xs) fun vs => (match vs with
    | v :: r => orNone (minmaxS mx v r) fun x => κ x s
    | [] => none)
  | .mkfn f first captured => orNone (argsS s first) fun a => orNone (argsS s captured) fun b => κ (.fn f a b) s
  | .toStr x => orNone (opdS s x) fun v => (match v with
    | .ty .str _ => none
    | v => orNone (sliceC s v) fun c => orNone (castL c.t (.int .u8) c.xs) fun l => κ (.ty .str (l.map fun n => UInt8.ofNat (n : Int).toNat)) s)
  | .toBytes x => orNone (opdS s x) fun v => (match v with
    | .ty .str t => chk (decide ((t : List UInt8).length ≤ lim)) (κ (.sla s.next .yes) (s.push ⟨true, .many (.int .u8) ((t : List UInt8).map fun c => (c.toNat : Int))⟩))
    | _ => none)

end Go.Sh
