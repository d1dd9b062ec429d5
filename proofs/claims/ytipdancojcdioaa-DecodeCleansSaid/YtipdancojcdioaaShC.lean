/- The shallow reading of code, third part: shapes of states, calls, code. Definitions alone; nothing is claimed here. -/
import Derived.Test.YtipdancojcdioaaShB
namespace Go.Sh
open Go Go.Ev

variable {ρ : Type}

/-! ### shapes -/
inductive VT where
  | ty (t : Ty)
  | lst (t : Ty)
  | nat

@[reducible] def VT.den : VT → Type
  | .ty t => t.den
  | .lst t => List t.den
  | .nat => Nat

structure Dyn where
  vt : VT
  x : vt.den

@[reducible] def HL : List VT → Type
  | [] => Unit
  | [a] => a.den
  | a :: b :: r => a.den × HL (b :: r)

def VT.cast : (a : VT) → Dyn → Option a.den
  | .ty t, ⟨.ty t', x⟩ => castT t' t x
  | .lst t, ⟨.lst t', x⟩ => castL t' t x
  | .nat, ⟨.nat, x⟩ => some x
  | _, _ => none

def toHL : (sig : List VT) → List Dyn → Option (HL sig)
  | [], [] => some ()
  | [a], [d] => a.cast d
  | a :: b :: r, d :: ds => match a.cast d, toHL (b :: r) ds with
    | some x, some y => some (x, y)
    | _, _ => none
  | _, _ => none

def ofHL : (sig : List VT) → HL sig → List Dyn
  | [], _ => []
  | [a], x => [⟨a, x⟩]
  | a :: b :: r, x => ⟨a, x.1⟩ :: ofHL (b :: r) x.2

inductive RSh where
  | ty (t : Ty)
  | nilp
  | ptr (k : Nat)
  | nils
  | sla (k : Nat) (ex : Ex)
  | slw (k : Nat)
  | segs (l : List RSh)
  | tup (l : List RSh)
  | nilf
  | fn (f : Nat) (first captured : List RSh)
  | cst (k : IntKind) (n : Int)

inductive CSh where
  | one (r : RSh)
  | many (t : Ty)

structure BSh where
  own : Bool
  c : CSh

mutual
def RSh.sig : RSh → List VT
  | .ty t => [.ty t]
  | .slw _ => [.nat, .nat]
  | .segs l => sigs l
  | .tup l => sigs l
  | .fn _ a c => sigs a ++ sigs c
  | _ => []
def sigs : List RSh → List VT
  | [] => []
  | r :: l => r.sig ++ sigs l
end

mutual
/-- the blocks that are named -/
def RSh.refs : RSh → List Nat
  | .ptr k => [k]
  | .sla k _ => [k]
  | .slw k => [k]
  | .segs l => refsL l
  | .tup l => refsL l
  | .fn _ a c => refsL a ++ refsL c
  | _ => []
def refsL : List RSh → List Nat
  | [] => []
  | r :: l => r.refs ++ refsL l
end

def CSh.refs : CSh → List Nat
  | .one r => r.refs
  | .many _ => []

def refsO : List (Nat × CSh) → List Nat
  | [] => []
  | x :: l => x.2.refs ++ refsO l

def refsB : List BSh → List Nat
  | [] => []
  | x :: l => x.c.refs ++ refsB l

def CSh.sig : CSh → List VT
  | .one r => r.sig
  | .many t => [.lst t]

def bsig : List BSh → List VT
  | [] => []
  | b :: l => b.c.sig ++ bsig l

/-- where a shape's block comes from: a block; a part of one; nowhere (no elements) -/
inductive Src where
  | blk (b : Nat)
  | win (b o l : Nat)
  | nil

/-- the blocks found so far -/
abbrev Fnd := Tr Src

def addM (M : Fnd) (k : Nat) (x : Src) : Option Fnd :=
  match M.get k with
  | none => some (M.set (k + 1) k (some x))
  | some (.blk b) => (match x with
    | .blk b' => bif b.beq b' then some M else none
    | _ => none)
  | some _ => none

/-- blocks below 'base' keep their numbers -/
def addB (base : Nat) (M : Fnd) (k : Nat) (x : Src) : Option Fnd :=
  bif Nat.blt k base then (match x with
    | .blk b => bif b.beq k then some M else none
    | _ => none)
  else addM M k x

structure Ab where
  g : Bool
  ds : List Dyn
  M : Fnd

def leEx : Ex → Ex → Bool
  | _, .any => true
  | .yes, _ => true
  | .no, .no => true
  | _, _ => false

/-- is it an aggregate? -/
def aggS : SV → Bool
  | .ty t _ => t.agg
  | .segs _ => true
  | _ => false

mutual
def absR (s : St) (base : Nat) : RSh → SV → Fnd → Option Ab
  | .ty t, v, M => bif aggS v == t.agg then (match asT t v with
    | some x => some ⟨true, [⟨.ty t, x⟩], M⟩
    | none => none) else none
  | .nilp, .nilp, M => some ⟨true, [], M⟩
  | .nils, .nils, M => some ⟨true, [], M⟩
  | .nilf, .nilf, M => some ⟨true, [], M⟩
  | .cst k n, v, M => (match v with
    | .ty t x => (match castT t (.int k) x with
      | some y => bif decide ((y : Int) = n) then some ⟨true, [], M⟩ else none
      | none => none)
    | _ => none)
  | .ptr k, .ptr b o p, M => bif o.beq 0 && p.isEmpty then (match addB base M k (.blk b) with
    | some M => some ⟨true, [], M⟩
    | none => none) else none
  | .sla k ex, v, M => (match v with
    | .sla b ex' => bif leEx ex' ex then (match addB base M k (.blk b) with
      | some M => some ⟨true, [], M⟩
      | none => none) else none
    | .nils => (match addB base M k .nil with
      | some M => some ⟨true, [], M⟩
      | none => none)
    | .slw b o l c => (match addB base M k (.win b o l) with
      | some M => (match c with
        | .non => some ⟨true, [], M⟩
        | .tail => (match ex with
          | .yes => none
          | _ => some ⟨true, [], M⟩)
        | .kn c => (match ex with
          | .yes => none
          | .no => some ⟨decide (c = l), [], M⟩
          | .any => some ⟨true, [], M⟩)
        | .any => (match ex with
          | .any => some ⟨true, [], M⟩
          | _ => none))
      | none => none)
    | _ => none)
  | .slw k, v, M => (match v with
    | .slw b o l _ => (match addB base M k (.blk b) with
      | some M => some ⟨true, [⟨.nat, o⟩, ⟨.nat, l⟩], M⟩
      | none => none)
    | .sla b ex => (match addB base M k (.blk b), lenS s (.sla b ex) with
      | some M, some l => some ⟨true, [⟨.nat, (0 : Nat)⟩, ⟨.nat, l⟩], M⟩
      | _, _ => none)
    | _ => none)
  | .segs rs, v, M => bif aggS v then absRs s base rs v.flat M else none
  | .tup rs, .tup vs, M => absRs s base rs vs M
  | .fn f a c, .fn f' a' c', M => bif f.beq f' then (match absRs s base a a' M with
    | some x => (match absRs s base c c' x.M with
      | some y => some ⟨x.g && y.g, x.ds ++ y.ds, y.M⟩
      | none => none)
    | none => none) else none
  | _, _, _ => none
def absRs (s : St) (base : Nat) : List RSh → List SV → Fnd → Option Ab
  | [], [], M => some ⟨true, [], M⟩
  | r :: rs, v :: vs, M => (match absR s base r v M with
    | some x => (match absRs s base rs vs x.M with
      | some y => some ⟨x.g && y.g, x.ds ++ y.ds, y.M⟩
      | none => none)
    | none => none)
  | _, _, _ => none
end

/-- a block's content out of its source -/
def absC (s : St) (base : Nat) (own : Bool) : CSh → Src → Fnd → Option Ab
  | .one r, .blk b, M => (match s.heap.get b with
    | some ⟨own', .one v⟩ => bif !own || own' then absR s base r v M else none
    | _ => none)
  | .many t, .blk b, M => (match s.heap.get b with
    | some ⟨own', .many t' xs⟩ => bif !own || own' then (match castL t' t xs with
      | some ys => some ⟨true, [⟨.lst t, ys⟩], M⟩
      | none => none) else none
    | _ => none)
  | .many t, .win b o l, M => (match s.heap.get b with
    | some ⟨own', .many t' xs⟩ => bif !own || own' then (match castL t' t xs with
      | some ys => some ⟨true, [⟨.lst t, (ys.drop o).take l⟩], M⟩
      | none => none) else none
    | _ => none)
  | .many t, .nil, M => bif Nat.blt 0 t.size then some ⟨true, [⟨.lst t, []⟩], M⟩ else none
  | _, _, _ => none

def absOld (s : St) (base : Nat) : List (Nat × CSh) → Fnd → Option Ab
  | [], M => some ⟨true, [], M⟩
  | (b, c) :: r, M => (match absC s base true c (.blk b) M with
    | some x => (match absOld s base r x.M with
      | some y => some ⟨x.g && y.g, x.ds ++ y.ds, y.M⟩
      | none => none)
    | none => none)

def absBs (s : St) (base : Nat) : Nat → List BSh → Fnd → Option Ab
  | _, [], M => some ⟨true, [], M⟩
  | k, b :: r, M => match M.get k with
    | some src => (match absC s base b.own b.c src M with
      | some x => (match absBs s base (k + 1) r x.M with
        | some y => some ⟨x.g && y.g, x.ds ++ y.ds, y.M⟩
        | none => none)
      | none => none)
    | none => none

def srcB : Src → Option Nat
  | .blk b => some b
  | .win b _ _ => some b
  | .nil => none

def inL (l : List Nat) (x : Nat) : Bool := l.any fun y => y.beq x

/-- no block that is owned comes from where another one comes from, too, or from one that is kept -/
def apartM (s : St) (base : Nat) (gone : List Nat) (M : Fnd) : Nat → List BSh → List (Nat × Bool) → Bool
  | _, [], _ => true
  | k, b :: r, seen => match M.get k with
    | some src => (match srcB src with
      | some c => (seen.all fun x => !(x.1.beq c) || (!x.2 && !b.own)) &&
          (Nat.ble base c || inL gone c || (!b.own && (match s.heap.get c with
            | some ⟨own, _⟩ => !own
            | none => false))) &&
          apartM s base gone M (k + 1) r ((c, b.own) :: seen)
      | none => apartM s base gone M (k + 1) r seen)
    | none => false

/-- what is told anew of a state: registers; blocks that keep their numbers; blocks that are gone; new blocks. All other registers that were not written, and all other blocks, are as they were. -/
structure Shape where
  regs : List (Nat × RSh)
  old : List (Nat × CSh)
  gone : List Nat
  new : List BSh

def osig : List (Nat × CSh) → List VT
  | [] => []
  | x :: l => x.2.sig ++ osig l

def Shape.sig (sh : Shape) : List VT := sigs (sh.regs.map (·.2)) ++ (osig sh.old ++ bsig sh.new)

def getRegs (s : St) : List (Nat × RSh) → Option (List SV)
  | [] => some []
  | (t, _) :: r => match s.env.get t with
    | some v => match getRegs s r with
      | some vs => some (v :: vs)
      | none => none
    | none => none

def nodupN : List Nat → Bool
  | [] => true
  | x :: r => !(inL r x) && nodupN r

def Shape.refs (sh : Shape) : List Nat := refsL (sh.regs.map (·.2)) ++ (refsO sh.old ++ refsB sh.new)

/-- what may have been written since 's0' is told -/
def logOk (s0 s : St) (told : List Nat) : Bool :=
  (s.log.take (s.log.length - s0.log.length)).all fun x => Nat.ble s0.next x || inL told x

def absS (s0 s : St) (sh : Shape) : Option (Bool × HL sh.sig) :=
  match getRegs s sh.regs with
  | none => none
  | some vs => match absRs s s0.next (sh.regs.map (·.2)) vs .nil with
    | none => none
    | some x => match absOld s s0.next sh.old x.M with
      | none => none
      | some y => match absBs s s0.next s0.next sh.new y.M with
        | none => none
        | some z => bif sh.refs.all (fun k => Nat.blt k (s0.next + sh.new.length)) && apartM s s0.next sh.gone z.M s0.next sh.new [] && logOk s0 s (sh.old.map (·.1) ++ sh.gone) && nodupN (sh.old.map (·.1) ++ sh.gone) && (sh.old.map (·.1) ++ sh.gone).all (fun x => Nat.blt x s0.next) then
            (match toHL sh.sig (x.ds ++ (y.ds ++ z.ds)) with
            | some h => some (x.g && (y.g && z.g), h)
            | none => none) else none

mutual
def conR (rn : Nat → Nat) : RSh → List Dyn → Option (SV × List Dyn)
  | .ty t, d :: r => (match (VT.ty t).cast d with
    | some x => some (.ty t x, r)
    | none => none)
  | .nilp, r => some (.nilp, r)
  | .nils, r => some (.nils, r)
  | .nilf, r => some (.nilf, r)
  | .cst k n, r => some (.ty (.int k) n, r)
  | .ptr k, r => some (.ptr (rn k) 0 [], r)
  | .sla k ex, r => some (.sla (rn k) ex, r)
  | .slw k, d :: e :: r => (match VT.nat.cast d, VT.nat.cast e with
    | some o, some l => some (.slw (rn k) o l .any, r)
    | _, _ => none)
  | .segs rs, r => (match conRs rn rs r with
    | some (vs, r) => some (.segs vs, r)
    | none => none)
  | .tup rs, r => (match conRs rn rs r with
    | some (vs, r) => some (.tup vs, r)
    | none => none)
  | .fn f a c, r => (match conRs rn a r with
    | some (vs, r) => (match conRs rn c r with
      | some (ws, r) => some (.fn f vs ws, r)
      | none => none)
    | none => none)
  | _, _ => none
def conRs (rn : Nat → Nat) : List RSh → List Dyn → Option (List SV × List Dyn)
  | [], r => some ([], r)
  | x :: l, r => (match conR rn x r with
    | some (v, r) => (match conRs rn l r with
      | some (vs, r) => some (v :: vs, r)
      | none => none)
    | none => none)
end

def conC (rn : Nat → Nat) : CSh → List Dyn → Option (Cont × List Dyn)
  | .one r, ds => (match conR rn r ds with
    | some (v, ds) => some (.one v, ds)
    | none => none)
  | .many t, d :: ds => (match (VT.lst t).cast d with
    | some xs => some (.many t xs, ds)
    | none => none)
  | _, _ => none

def conOld (rn : Nat → Nat) : List (Nat × CSh) → List Dyn → Tr Blk → Option (Tr Blk × List Dyn)
  | [], ds, h => some (h, ds)
  | (b, c) :: r, ds, h => (match conC rn c ds with
    | some (c, ds) => conOld rn r ds (h.set (rn b + 1) (rn b) (some ⟨true, c⟩))
    | none => none)

def conBs (rn : Nat → Nat) : Nat → List BSh → List Dyn → Tr Blk → Option (Tr Blk)
  | _, [], [], h => some h
  | k, b :: r, ds, h => (match conC rn b.c ds with
    | some (c, ds) => conBs rn (k + 1) r ds (h.set (rn k + 1) (rn k) (some ⟨b.own, c⟩))
    | none => none)
  | _, _, _, _ => none

def conE : List (Nat × RSh) → List SV → Tr SV → Tr SV
  | (t, _) :: r, v :: vs, e => conE r vs (e.set (t + 1) t (some v))
  | _, _, e => e

def delE : List Nat → Tr SV → Tr SV
  | [], e => e
  | t :: r, e => delE r (e.set (t + 1) t none)

def delB (rn : Nat → Nat) : List Nat → Tr Blk → Tr Blk
  | [], h => h
  | b :: r, h => delB rn r (h.set (rn b + 1) (rn b) none)

def conS (s0 : St) (kill : List Nat) (sh : Shape) (y : HL sh.sig) : Option St :=
  match conRs id (sh.regs.map (·.2)) (ofHL sh.sig y) with
  | none => none
  | some (vs, ds) => match conOld id sh.old ds (delB id sh.gone s0.heap) with
    | none => none
    | some (h, ds) => match conBs id s0.next sh.new ds h with
      | none => none
      | some h => some ⟨conE sh.regs vs (delE kill s0.env), h, s0.next + sh.new.length, s0.start, (sh.old.map (·.1) ++ sh.gone) ++ s0.log⟩

/-- to a shape, and on -/
def toSh (s0 : St) (sh : Shape) (s : St) (K : HL sh.sig → Option ρ) : Option ρ :=
  match absS s0 s sh with
  | some (g, y) => chk g (K y)
  | none => none

def ofSh (s0 : St) (kill : List Nat) (sh : Shape) (y : HL sh.sig) (k : St → Option ρ) : Option ρ :=
  match conS s0 kill sh y with
  | some s => k s
  | none => none

/-! ### instructions, code -/
def runS (callS : CallS ρ) (hint : Nat → Option Hn) : List AIns → St → (St → Option ρ) → Option ρ
  | [], s, κ => κ s
  | i :: r, s, κ =>
    let h := match i.dst with
      | some d => hint d
      | none => none
    match i.guard with
    | none => opS callS h s i.op fun v s => runS callS hint r (s.put i.dst v) κ
    | some (t, b) => match s.env.get t with
      | some (.ty .bool x) =>
        let yes := fun (s : St) => opS callS h s i.op fun v s => runS callS hint r (s.put i.dst v) κ
        let no := fun (s : St) => runS callS hint r (s.put i.dst (.tup [])) κ
        br x (bif b then yes (s.put (some t) (.ty .bool true)) else no (s.put (some t) (.ty .bool true)))
          (bif b then no (s.put (some t) (.ty .bool false)) else yes (s.put (some t) (.ty .bool false)))
      | some (.tup l) => (match l with
        | [] => runS callS hint r (s.put i.dst (.tup [])) κ
        | _ => none)
      | _ => none

def okS (s : St) : List Nat → Bool
  | [] => true
  | t :: r => (match s.env.get t with
    | some (.ptr b _ _) => (match s.heap.get b with
      | some _ => Nat.blt b s.start && s.log.all (fun x => !(x.beq b))
      | none => false)
    | some _ => true
    | none => false) && okS s r

abbrev KS (ρ : Type) := AEx → St → Option ρ

def setC (s : St) (c : Opd) (b : Bool) : St :=
  match c with
  | .t t => s.put (some t) (.ty .bool b)
  | .c _ => s

/-- how many pairs, conditions, blocks, loops -/
def cnt : ACode → Nat
  | .seq a b => cnt a + cnt b + 1
  | .cond _ a b => cnt a + cnt b + 1
  | .block _ b => cnt b + 1
  | .loop b => cnt b + 1
  | _ => 0

def asgI : List AIns → List Nat
  | [] => []
  | i :: r => match i.dst with
    | some d => d :: asgI r
    | none => asgI r

/-- the registers that code writes -/
def asg : ACode → List Nat
  | .region ins => asgI ins
  | .regionD ins _ => asgI ins
  | .seq a b => asg a ++ asg b
  | .cond _ a b => asg a ++ asg b
  | .block _ b => asg b
  | .loop b => asg b
  | _ => []

def den (N : Nat) (callS : CallS ρ) (hint : Nat → Option Hn) (an : Nat → Option Shape) : Nat → ACode → St → KS ρ → Option ρ
  | _, .skip, s, k => k .normal s
  | _, .ret, s, k => k .ret s
  | _, .exit id, s, k => k (.exit id) s
  | _, .region ins, s, k => runS callS hint ins s fun s => k .normal s
  | _, .regionD ins conf, s, k => runS callS hint ins { s with start := s.next, log := [] } fun s' =>
      bif okS s' conf then k .normal { s' with start := s.start, log := s'.log ++ s.log } else none
  | i, .seq a b, s, k => (match an i with
    | none => den N callS hint an (i + 1) a s fun x s' => match x with
      | .normal => den N callS hint an (i + 1 + cnt a) b s' k
      | x => k x s'
    | some sh => jp (fun y => ofSh s (asg a) sh y fun s' => den N callS hint an (i + 1 + cnt a) b s' k) fun K =>
        den N callS hint an (i + 1) a s fun x s' => match x with
        | .normal => toSh s sh s' K
        | x => k x s')
  | i, .cond c a b, s, k => orNone (opdS s c) fun v => (match v with
    | .ty .bool x => (match an i with
      | none => br x (den N callS hint an (i + 1) a (setC s c true) k) (den N callS hint an (i + 1 + cnt a) b (setC s c false) k)
      | some sh => jp (fun y => ofSh s (asg a ++ asg b) sh y fun s' => k .normal s') (fun K =>
          br x (den N callS hint an (i + 1) a (setC s c true) (fun x s' => match x with
            | .normal => toSh s sh s' K
            | x => k x s'))
          (den N callS hint an (i + 1 + cnt a) b (setC s c false) (fun x s' => match x with
            | .normal => toSh s sh s' K
            | x => k x s'))))
    | _ => none)
  | i, .block id b, s, k => (match an i with
    | none => den N callS hint an (i + 1) b s fun x s' => match x with
      | .exit id' => bif id'.beq id then k .normal s' else k (.exit id') s'
      | x => k x s'
    | some sh => jp (fun y => ofSh s (asg b) sh y fun s' => k .normal s') fun K =>
        den N callS hint an (i + 1) b s fun x s' => match x with
        | .exit id' => bif id'.beq id then toSh s sh s' K else k (.exit id') s'
        | .normal => toSh s sh s' K
        | x => k x s')
  | i, .loop b, s, k => orNone (an i) fun sh => toSh s sh s fun y =>
      fixN N (fun again y => ofSh s (asg b) sh y fun s' => den N callS hint an (i + 1) b s' fun x s' => match x with
        | .normal => toSh s sh s' again
        | x => k x s') y

/-! ### functions -/
structure Note where
  hint : Nat → Option Hn
  an : Nat → Option Shape

def paramsS : Nat → List SV → Tr SV
  | _, [] => .nil
  | n, v :: r => (paramsS (n + 1) r).set (n + 1) n (some v)

def resS (s : St) : List (Nat × Option (Nat × Bool)) → (List SV → Option ρ) → Option ρ
  | [], κ => κ []
  | (t, c) :: r, κ => orNone (s.env.get t) fun v => match c with
    | none => resS s r fun vs => κ (v :: vs)
    | some (n, g) => loadS s v n g fun v => resS s r fun vs => κ (v :: vs)

def singleS : List SV → SV
  | [v] => v
  | vs => .tup vs

/-- a body, its arguments in the state's registers -/
def bodyS (N : Nat) (callS : CallS ρ) (F : AFunc) (nt : Note) (s : St) (κ : SV → St → Option ρ) : Option ρ :=
  den N callS nt.hint nt.an 0 F.body s fun x s' => match x with
    | .exit _ => none
    | _ => resS s' F.results fun vs => κ (singleS vs) s'

/-- a contract: the arguments' shape, with their blocks; what is told anew behind the call: the result, blocks that keep their numbers, blocks that are gone, new ones -/
structure Sg where
  args : List RSh
  blks : List BSh
  out : Shape

@[reducible] def Sg.inp (c : Sg) : Type := HL (sigs c.args ++ bsig c.blks)
@[reducible] def Sg.res (c : Sg) : Type := HL c.out.sig

structure Ctr where
  sg : Sg
  fn : Nat → sg.inp → Option sg.res

/-- the number of a contract's block in the caller's state -/
def rnOf (M : Fnd) (m base : Nat) (k : Nat) : Nat :=
  bif Nat.blt k m then (match M.get k with
    | some (.blk b) => b
    | _ => 0) else base + (k - m)

/-- is a contract's shape right? -/
def Sg.ok (c : Sg) : Bool :=
  c.out.refs.all (fun k => Nat.ble c.blks.length k && Nat.blt k (c.blks.length + c.out.new.length)) && c.out.new.all (fun b => b.own) && c.out.regs.length.beq 1 && (nodupN (c.out.old.map (·.1) ++ c.out.gone) && c.out.gone.all (fun j => Nat.blt j c.blks.length)) &&
  (List.range c.blks.length).all (fun j => (match c.blks[j]? with | some b => !b.own | none => true) || inL (c.out.old.map (·.1) ++ c.out.gone) j)

/-- may the blocks that are told anew be so? -/
def lentOk (blks : List BSh) (M : Fnd) : List Nat → Bool
  | [] => true
  | j :: r => (match blks[j]?, M.get j with
    | some b, some (.blk _) => b.own
    | _, _ => false) && lentOk blks M r

/-- the caller's blocks that are gone -/
def goneN (M : Fnd) : List Nat → List Nat
  | [] => []
  | j :: r => match M.get j with
    | some src => (match srcB src with
      | some b => b :: goneN M r
      | none => goneN M r)
    | none => goneN M r

def callC (N : Nat) (c : Sg) (fn : Nat → c.inp → Option c.res) (svs : List SV) (s : St) (κ : SV → St → Option ρ) : Option ρ :=
  match absRs s 0 c.args svs .nil with
  | none => none
  | some x => match absBs s 0 0 c.blks x.M with
    | none => none
    | some z => bif (refsL c.args ++ refsB c.blks).all (fun k => Nat.blt k c.blks.length) && apartM s 0 [] z.M 0 c.blks [] && lentOk c.blks z.M (c.out.old.map (·.1)) then
        (match toHL (sigs c.args ++ bsig c.blks) (x.ds ++ z.ds) with
        | some h => chk (x.g && z.g) (bindS (fn N h) fun y =>
            match conRs (rnOf z.M c.blks.length s.next) (c.out.regs.map (·.2)) (ofHL _ y) with
            | some ([v], ds) => (match conOld (rnOf z.M c.blks.length s.next) c.out.old ds (delB id (goneN z.M c.out.gone) s.heap) with
              | some (hp, ds) => (match conBs (rnOf z.M c.blks.length s.next) c.blks.length c.out.new ds hp with
                | some hp => κ v { s with heap := hp, next := s.next + c.out.new.length, log := ((c.out.old.map (·.1)).map (rnOf z.M c.blks.length s.next) ++ goneN z.M c.out.gone) ++ s.log }
                | none => none)
              | none => none)
            | _ => none)
        | none => none) else none

abbrev CTab := Nat → List SV → Option Ctr

def callK (N : Nat) (K : CTab) : CallS ρ := fun f svs s κ => match K f svs with
  | some c => callC N c.sg c.fn svs s κ
  | none => none

def startS (c : Sg) (x : c.inp) : Option St :=
  match conRs id c.args (ofHL _ x) with
  | some (svs, ds) => (match conBs id 0 c.blks ds .nil with
    | some h => some ⟨paramsS 0 svs, h, c.blks.length, 0, []⟩
    | none => none)
  | none => none

/-- what a body comes to, by a contract's shapes: the result is told as the register 0 -/
def fnS (N : Nat) (K : CTab) (F : AFunc) (nt : Note) (c : Sg) (x : c.inp) : Option c.res :=
  match startS c x with
  | some s => bodyS N (callK N K) F nt s fun v s' => toSh s c.out { s' with env := Tr.nil.set 1 0 (some v) } fun y => some y
  | none => none

end Go.Sh
