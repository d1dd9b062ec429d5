/- The code of a loaded function, brought into the evaluator's form. -/
import Derived.Test.YtipdancojcdioaaEvC
import Derived.Laws.Tables
import Derived.Laws.Strings
import Derived.Laws.Concat
namespace Go.Ev
set_option linter.unusedVariables false
set_option linter.unusedSimpArgs false
open Go

/-! ### values, operands -/
def ofS : Value → Option AV
  | .bool b => some (.bool b)
  | .int k n => some (.int k n)
  | .float k n => some (.float k n)
  | .string s => some (.str s.data.toList)
  | .pointer none => some .nilptr
  | .slice none 0 0 => some .nilsl
  | .nilFunc => some .nilfn
  | .nilIface => some .niliface
  | _ => none

def ofSs : List Value → Option (List AV)
  | [] => some []
  | v :: r => match ofS v with
    | some x => match ofSs r with
      | some xs => some (x :: xs)
      | none => none
    | none => none

def ofV : Value → Option AV
  | .agg cs => (ofSs cs.toList).map .agg
  | .tuple cs => (ofSs cs.toList).map .tup
  | .func (.func f) a c => if a.isEmpty && c.isEmpty then some (.fn f [] []) else none
  | v => ofS v

theorem ofS_sound {j : JM} {c : Value} {v : AV} (h : ofS c = some v) : VR j v c := by
  unfold ofS at h
  split at h <;> (try simp at h; done) <;> (obtain rfl := Option.some.inj h) <;> simp [VR]

theorem ofSs_sound {j : JM} : ∀ {l : List Value} {vs : List AV}, ofSs l = some vs → VRs j vs l
  | [], vs, h => by simp only [ofSs, Option.some.injEq] at h; subst h; rfl
  | c :: cs, vs, h => by
    simp only [ofSs] at h
    split at h
    · rename_i x hx
      split at h
      · rename_i xs hxs
        obtain rfl := Option.some.inj h
        exact ⟨c, cs, rfl, ofS_sound hx, ofSs_sound hxs⟩
      · simp at h
    · simp at h

theorem ofSs_ones : ∀ {l : List Value} {vs : List AV}, ofSs l = some vs → vs.all AV.one = true
  | [], vs, h => by simp only [ofSs, Option.some.injEq] at h; subst h; rfl
  | c :: cs, vs, h => by
    simp only [ofSs] at h
    split at h
    · rename_i x hx
      split at h
      · rename_i xs hxs
        obtain rfl := Option.some.inj h
        simp only [List.all_cons, Bool.and_eq_true]
        refine ⟨?_, ofSs_ones hxs⟩
        unfold ofS at hx
        split at hx <;> (try simp at hx; done) <;> (obtain rfl := Option.some.inj hx) <;> rfl
      · simp at h
    · simp at h

theorem ofV_sound {j : JM} {c : Value} {v : AV} (h : ofV c = some v) : VR j v c := by
  unfold ofV at h
  split at h
  · rename_i cs
    simp only [Option.map_eq_some_iff] at h
    obtain ⟨a, h1, rfl⟩ := h
    exact ⟨cs.toList, by simp, ofSs_sound h1⟩
  · rename_i cs
    simp only [Option.map_eq_some_iff] at h
    obtain ⟨a, h1, rfl⟩ := h
    exact ⟨cs.toList, by simp, ofSs_sound h1⟩
  · rename_i f a c
    split at h
    · rename_i he
      obtain rfl := Option.some.inj h
      simp only [Bool.and_eq_true, Array.isEmpty_iff] at he
      exact ⟨[], [], by simp [he.1, he.2], rfl, rfl⟩
    · simp at h
  · exact ofS_sound h

def cOpd : Operand → Option Opd
  | .tmp t => some (.t t)
  | .const v => (ofV v).map .c
  | .func f => some (.c (.fn f [] []))
  | .global _ => none

def cOpds : List Operand → Option (List Opd)
  | [] => some []
  | x :: r => match cOpd x with
    | some y => match cOpds r with
      | some ys => some (y :: ys)
      | none => none
    | none => none

def cOpt : Option Operand → Option (Option Opd)
  | none => some none
  | some x => (cOpd x).map some

def ER (j : JM) (e : Env) (tmps : Array Value) : Prop := ∀ t v, lk e t = some v → VR j v (tmps.getD t undef)

theorem ER.mono {j j' : JM} (h : Ext j j') {e : Env} {tmps : Array Value} (r : ER j e tmps) : ER j' e tmps := fun t v hv => VR.mono h (r t v hv)

theorem opd_sound {j : JM} {e : Env} {a : Act} (hE : ER j e a.tmps) {x : Operand} {y : Opd} {v : AV} (h : cOpd x = some y) (hv : y.get e = some v) : VR j v (a.eval x) := by
  cases x with
  | tmp t => simp only [cOpd, Option.some.injEq] at h; subst h; exact hE t v hv
  | const c =>
    simp only [cOpd, Option.map_eq_some_iff] at h
    obtain ⟨u, h1, rfl⟩ := h
    simp only [Opd.get, Option.some.injEq] at hv
    subst hv
    exact ofV_sound h1
  | global g => simp [cOpd] at h
  | func f =>
    simp only [cOpd, Option.some.injEq] at h
    subst h
    simp only [Opd.get, Option.some.injEq] at hv
    subst hv
    exact ⟨[], [], rfl, rfl, rfl⟩

theorem opds_sound {j : JM} {e : Env} {a : Act} (hE : ER j e a.tmps) : ∀ {xs : List Operand} {ys : List Opd} {vs : List AV}, cOpds xs = some ys → getAll e ys = some vs → VRs j vs (xs.map a.eval)
  | [], ys, vs, h, hv => by
    simp only [cOpds, Option.some.injEq] at h
    subst h
    simp only [getAll, Option.some.injEq] at hv
    subst hv
    rfl
  | x :: xs, ys, vs, h, hv => by
    simp only [cOpds] at h
    split at h
    · rename_i y hy
      split at h
      · rename_i ys' hys
        obtain rfl := Option.some.inj h
        simp only [getAll] at hv
        split at hv
        · rename_i v hv1
          split at hv
          · rename_i vs' hvs
            obtain rfl := Option.some.inj hv
            exact ⟨_, _, rfl, opd_sound hE hy hv1, opds_sound hE hys hvs⟩
          · simp at hv
        · simp at hv
      · simp at h
    · simp at h

/-! ### types -/
def isAgg? (P : Program) (t : TypeId) : Option Bool :=
  match P.underlying t with
  | some (.struct _) => some true
  | some (.array _ _) => some true
  | some _ => some false
  | none => none

def size? (P : Program) (t : TypeId) : Option Nat := (P.info? t).map (·.size)
def bytes? (P : Program) (t : TypeId) : Option Nat := (P.info? t).map (·.bytes)

def zeroV? (P : Program) (t : TypeId) : Option Value := (P.info? t).bind (·.zero)
def zero? (P : Program) (t : TypeId) : Option (List AV) := (zeroV? P t).bind fun z => ofSs z.cells.toList

theorem run_isAgg {P : Program} {t : TypeId} {b : Bool} (h : isAgg? P t = some b) (w : World) : (isAgg t).run P w = .ok b w := by
  unfold isAgg? at h
  unfold isAgg
  cases hu : P.underlying t with
  | none => simp [hu] at h
  | some d =>
    simp only [hu] at h
    simp only [Sem.run_bind, run_underlying hu, Result.andThen_ok]
    cases d <;> simp at h <;> subst h <;> rfl

theorem run_sizeOf {P : Program} {t : TypeId} {n : Nat} (h : size? P t = some n) (w : World) : (sizeOf t).run P w = .ok n w := by
  simp only [size?, Option.map_eq_some_iff] at h
  obtain ⟨i, h1, rfl⟩ := h
  simp [sizeOf, typeInfo, h1]

theorem run_bytes {P : Program} {t : TypeId} {n : Nat} (h : bytes? P t = some n) (w : World) : ∃ i, (typeInfo t).run P w = .ok i w ∧ i.bytes = n := by
  simp only [bytes?, Option.map_eq_some_iff] at h
  obtain ⟨i, h1, rfl⟩ := h
  exact ⟨i, by simp [typeInfo, h1], rfl⟩

theorem run_zeroV {P : Program} {t : TypeId} {z : Value} (h : zeroV? P t = some z) (w : World) : (zeroValue t).run P w = .ok z w := by
  simp only [zeroV?, Option.bind_eq_some_iff] at h
  obtain ⟨i, h1, h2⟩ := h
  simp [zeroValue, typeInfo, h1, h2]

theorem zero_sound {P : Program} {t : TypeId} {zs : List AV} (h : zero? P t = some zs) : ∃ z, zeroV? P t = some z ∧ (∀ j, VRs j zs z.cells.toList) ∧ zs.all AV.one = true := by
  simp only [zero?, Option.bind_eq_some_iff] at h
  obtain ⟨z, h1, h2⟩ := h
  exact ⟨z, h1, fun j => ofSs_sound h2, ofSs_ones h2⟩

/-- the leaves of a type, one behind the other, all of them bools (0), integers (1) and strings (2), none of them named '_' -/
def flatFs (P : Program) (go : TypeId → Option (List Nat)) : List Field → Nat → Option (List Nat)
  | [], _ => some []
  | f :: fs, n => if f.offset = n ∧ f.name ≠ "_" then (match go f.type with
      | some ks => if size? P f.type = some ks.length then (match flatFs P go fs (n + ks.length) with
        | some rest => some (ks ++ rest)
        | none => none) else none
      | none => none) else none

def flatN (P : Program) : Nat → TypeId → Option (List Nat)
  | 0, _ => none
  | d + 1, t => match P.underlying t with
    | some .bool => some [0]
    | some (.int _) => some [1]
    | some .string => some [2]
    | some (.struct fs) => if P.stoodInHeld t then none else flatFs P (flatN P d) fs.toList 0
    | some (.array n e) => match flatN P d e with
      | some ks => if size? P e = some ks.length then some (List.replicate n ks).flatten else none
      | none => none
    | _ => none

/-! ### operations -/
def elemOf? (P : Program) (t : TypeId) : Option TypeId :=
  match P.underlying t with
  | some (.slice e) => some e
  | _ => none

def field? (P : Program) (t : TypeId) (f : Nat) : Option Field :=
  match P.underlying t with
  | some (.struct fs) => fs[f]?
  | _ => none

def isU8 (P : Program) (t : TypeId) : Bool :=
  match P.underlying t with
  | some (.int .u8) => true
  | _ => false

def isConstOpd : Operand → Bool
  | .const _ => true
  | _ => false

def cParts (place : Nat → Option (Nat × Nat)) : List (Nat × Operand) → Option (List (Nat × Nat × Opd))
  | [] => some []
  | (i, x) :: r => match place i with
    | some (off, size) => match cOpd x with
      | some y => match cParts place r with
        | some ys => some ((off, size, y) :: ys)
        | none => none
      | none => none
    | none => none

def cEq (P : Program) (neg : Bool) (op : BinOp) (t : TypeId) (x y : Operand) (a b : Opd) : Option AOp :=
  match P.underlying t with
  | some .bool => some (.eqB neg a b)
  | some (.int _) => some (.bin op a b)
  | some .string => some (.bin op a b)
  | some (.pointer _) => some (.eqN 0 neg a b)
  | some (.slice _) => some (.eqN 1 neg a b)
  | some (.func _ _ _) => some (.eqN 2 neg a b)
  | some (.interface _) => if isConstOpd x || isConstOpd y then some (.eqN 3 neg a b) else none
  | some (.struct _) => if P.eqGuardType P.depth t then none else (flatN P 50 t).map fun ks => .eqA ks neg a b
  | some (.array _ _) => if P.eqGuardType P.depth t then none else (flatN P 50 t).map fun ks => .eqA ks neg a b
  | _ => none

def cBin (P : Program) (op : BinOp) (t : TypeId) (x y : Operand) (a b : Opd) : Option AOp :=
  match op with
  | .eql => cEq P false .eql t x y a b
  | .neq => cEq P true .neq t x y a b
  | op => some (.bin op a b)

def cConv (P : Program) (s d : TypeId) (a : Opd) : Option AOp :=
  match P.underlying s, P.underlying d with
  | some _, some (.int k) => some (.convI k a)
  | some .string, some .string => some (.same a)
  | some (.slice e), some .string => if isU8 P e then some (.toStr a) else none
  | some .string, some (.slice e) => if isU8 P e && size? P e == some 1 then some (.toBytes a) else none
  | _, _ => none

def cSlice (P : Program) (t : TypeId) (a : Opd) (lo hi mx : Option Opd) : Option AOp :=
  if mx.isSome && hi.isNone then none else
  match P.underlying t with
  | some (.array n e) => (size? P e).map fun s => .sliceA n s a lo hi mx
  | some .string => if mx.isNone then some (.sliceStr a lo hi) else none
  | some (.slice e) => (size? P e).map fun s => .sliceS s a lo hi mx
  | _ => none

def cBuild (P : Program) (t : TypeId) (parts : List (Nat × Operand)) : Option AOp :=
  match P.underlying t with
  | some (.struct fs) => match fs.toList.mapM (fun f => (P.info? f.type).map fun i => (f.offset, i.size)) with
    | some places => (zero? P t).bind fun z => (cParts (places.toArray[·]?) parts).map (.build z)
    | none => none
  | some (.array _ e) => match size? P e with
    | some s => (zero? P t).bind fun z => (cParts (fun i => some (i * s, s)) parts).map (.build z)
    | none => none
  | _ => none

def cCall (P : Program) (c : Call) : Option AOp :=
  match c.callee with
  | .value (.func f) => (cOpds c.args.toList).map (.call f)
  | .value (.tmp t) => (cOpds c.args.toList).map (.callv (.t t))
  | .value _ => none
  | .invoke _ _ => none
  | .builtin b => match b, c.args.toList, c.argTypes.toList with
    | .len, [x], [t] => match P.underlying t, cOpd x with
      | some .string, some a => some (.len true a)
      | some (.slice _), some a => some (.len false a)
      | some (.array n _), _ => some (.lenC n)
      | _, _ => none
    | .append, [x, y], [t, u] => match elemOf? P t, P.underlying u, cOpd x, cOpd y with
      | some e, some (.slice _), some a, some b => (size? P e).bind fun s => (bytes? P e).bind fun z => if 0 < s ∧ 0 < z ∧ (zeroV? P e).any (fun v => v.cells.size == s) = true then some (.append s z a b) else none
      | some e, some .string, some a, some b => (size? P e).bind fun s => (bytes? P e).bind fun z => if 0 < s ∧ 0 < z ∧ (zeroV? P e).any (fun v => v.cells.size == s) = true then some (.append s z a b) else none
      | _, _, _, _ => none
    | .copy, [x, y], [t, _] => match elemOf? P t, cOpd x, cOpd y with
      | some e, some a, some b => (size? P e).bind fun s => if 0 < s then some (.copy s a b) else none
      | _, _, _ => none
    | .min, xs, _ => (cOpds xs).map (.minmax false)
    | .max, xs, _ => (cOpds xs).map (.minmax true)
    | _, _, _ => none

def cOp (P : Program) : Op → Option AOp
  | .move x => (cOpd x).map .mv
  | .assign x => (cOpd x).map .mv
  | .pick c a b => (cOpd c).bind fun c => (cOpd a).bind fun a => (cOpd b).map fun b => .pick c a b
  | .unOp op _ x => (cOpd x).map (.un op)
  | .binOp op t x y _ => (cOpd x).bind fun a => (cOpd y).bind fun b => cBin P op t x y a b
  | .convert s d x => (cOpd x).bind fun a => cConv P s d a
  | .nilCheck x => (cOpd x).map .nilck
  | .fieldAddr s x f => (field? P s f).bind fun f => (size? P f.type).bind fun n => if 0 < n then (cOpd x).map (.faddr f.offset) else none
  | .indexAddr t x i => match P.underlying t with
    | some (.array n e) => (size? P e).bind fun s => (cOpd x).bind fun a => (cOpd i).map fun b => .iaddrA n s a b
    | some (.slice e) => (size? P e).bind fun s => (cOpd x).bind fun a => (cOpd i).map fun b => .iaddrS s a b
    | _ => none
  | .field s x f => (field? P s f).bind fun f => (size? P f.type).bind fun n => (isAgg? P f.type).bind fun g => (cOpd x).map (.field f.offset n g)
  | .index t x i => match P.underlying t with
    | some (.array n e) => (size? P e).bind fun s => (isAgg? P e).bind fun g => (cOpd x).bind fun a => (cOpd i).map fun b => .index n s g a b
    | some .string => (cOpd x).bind fun a => (cOpd i).map fun b => .indexStr a b
    | _ => none
  | .load t x => (size? P t).bind fun n => (isAgg? P t).bind fun g => if g = true ∨ n = 1 then (cOpd x).map (.load n g) else none
  | .store t x v => (size? P t).bind fun n => (cOpd x).bind fun a => (cOpd v).map fun b => .store n a b
  | .alloc t => (zero? P t).map .alloc
  | .box _ x => (cOpd x).map .box
  | .build t parts => cBuild P t parts.toList
  | .buildSlice t n parts => (elemOf? P t).bind fun e => (size? P e).bind fun s => (zero? P e).bind fun z =>
      if 0 < s ∧ z.length = s ∧ n * s ≤ 16777216 then (cParts (fun i => some (i * s, s)) parts.toList).map (.buildSl s n z) else none
  | .makeSlice t l c => (elemOf? P t).bind fun e => (size? P e).bind fun s => (bytes? P e).bind fun b => (zero? P e).bind fun z =>
      if 0 < s ∧ z.length = s then (cOpd l).bind fun l => (cOpd c).map fun c => .mkSl s b z l c else none
  | .slice t x lo hi mx => (cOpd x).bind fun a => (cOpt lo).bind fun lo => (cOpt hi).bind fun hi => (cOpt mx).bind fun mx => cSlice P t a lo hi mx
  | .extract x k => (cOpd x).map fun a => .extract a k
  | .call c => cCall P c
  | .makeFunc (.func f) first captured => (cOpds first.toList).bind fun a => (cOpds captured.toList).map fun b => .mkfn f a b
  | _ => none

def cIns (P : Program) (nt : Nat) (ops : Array Oper) (o : Oper) : Option AIns :=
  match cOp P o.op with
  | none => none
  | some p =>
    if (match o.dst with | some d => decide (d < nt) | none => true) then
      match o.guard with
      | none => some ⟨o.dst, none, p⟩
      | some (j, b) => match (ops[j]?).bind (·.dst) with
        | some t => if t < nt then some ⟨o.dst, some (t, b), p⟩ else none
        | none => none
    else none

def cInss (P : Program) (nt : Nat) (ops : Array Oper) : List Oper → Option (List AIns)
  | [] => some []
  | o :: r => match cIns P nt ops o with
    | some i => match cInss P nt ops r with
      | some is => some (i :: is)
      | none => none
    | none => none

/-! ### statements whose order is open -/
def depsOf (o : Oper) : List Nat := (o.after.toList.filter (Region.binds .any)).map (·.on)

def orAll (ms : List Nat) : List Nat → Nat
  | [] => 0
  | d :: r => 2 ^ d ||| (ms.getD d 0 ||| orAll ms r)

def masks : List (List Nat) → List Nat → List Nat
  | [], acc => acc
  | ds :: r, acc => masks r (acc ++ [orAll acc ds])

def allBelow (n : Nat) (f : Nat → Bool) : Bool := match n with
  | 0 => true
  | n + 1 => f n && allBelow n f

theorem allBelow_spec {f : Nat → Bool} : ∀ {n : Nat}, allBelow n f = true → ∀ i, i < n → f i = true
  | 0, _, i, hi => by omega
  | n + 1, h, i, hi => by
    simp only [allBelow, Bool.and_eq_true] at h
    by_cases e : i = n
    · rw [e]; exact h.1
    · exact allBelow_spec h.2 i (by omega)

end Go.Ev
