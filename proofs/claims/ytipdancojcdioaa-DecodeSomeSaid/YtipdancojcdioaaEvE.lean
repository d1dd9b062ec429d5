/- Each operation of the evaluator against the loaded one. -/
import Derived.Test.YtipdancojcdioaaEvD
import Derived.ChangeKeysEq
namespace Go.Ev
set_option linter.unusedVariables false
set_option linter.unusedSimpArgs false
open Go

theorem on1_some {x : Option AV} {f : AV → Option (AV × Heap)} {r : AV × Heap} (h : on1 x f = some r) : ∃ a, x = some a ∧ f a = some r := by
  cases x with
  | none => simp [on1] at h
  | some a => exact ⟨a, rfl, h⟩
theorem opt2_some {x y : Option AV} {f : AV → AV → Option (AV × Heap)} {r : AV × Heap} (h : opt2 x y f = some r) : ∃ a b, x = some a ∧ y = some b ∧ f a b = some r := by
  cases x with
  | none => simp [opt2] at h
  | some a => cases y with
    | none => simp [opt2] at h
    | some b => exact ⟨a, b, rfl, rfl, h⟩
theorem pureR_some {H H' : Heap} {x : Option AV} {v : AV} (h : pureR H x = some (v, H')) : x = some v ∧ H' = H := by
  cases x with
  | none => simp [pureR] at h
  | some a => simp only [pureR, Option.some.injEq, Prod.mk.injEq] at h; obtain ⟨rfl, rfl⟩ := h; exact ⟨rfl, rfl⟩
theorem pureB_some {H H' : Heap} {n : Bool} {x : Option Bool} {v : AV} (h : pureB H n x = some (v, H')) : ∃ b, x = some b ∧ v = .bool (b != n) ∧ H' = H := by
  cases x with
  | none => simp [pureB] at h
  | some a => simp only [pureB, Option.some.injEq, Prod.mk.injEq] at h; obtain ⟨rfl, rfl⟩ := h; exact ⟨a, rfl, rfl, rfl⟩
theorem bif_some {α : Type} {b : Bool} {x : Option α} {r : α} (h : (bif b then x else none) = some r) : b = true ∧ x = some r := by
  cases b <;> simp at h ⊢; exact h
theorem nif_some {α : Type} {b : Bool} {x : Option α} {r : α} (h : (bif b then none else x) = some r) : b = false ∧ x = some r := by
  cases b <;> simp at h ⊢; exact h
theorem if_some {α : Type} {b : Prop} [Decidable b] {x : Option α} {r : α} (h : (if b then x else none) = some r) : b ∧ x = some r := by
  split at h
  · exact ⟨‹_›, h⟩
  · simp at h

def Does (P : Program) (a : Act) (o : Oper) (j : JM) (H : Heap) (w : World) (v : AV) (H' : Heap) : Prop :=
  ∃ j' c w', Trans j H w j' H' w' ∧ VR j' v c ∧ ((execOp a.eval o).run P w = .ok (.value c) w' ∨ ((execOp a.eval o).run P w = .ok .skip w' ∧ c = undef))

theorem Does.pure {P : Program} {a : Act} {o : Oper} {j : JM} {H : Heap} {w : World} {v : AV} {c : Value} (hw : WR j H w) (hv : VR j v c)
    (hr : (execOp a.eval o).run P w = .ok (.value c) w) : Does P a o j H w v H := ⟨j, c, w, Trans.refl hw, hv, .inl hr⟩

section
variable {P : Program} {a : Act} {o : Oper} {j : JM} {H H' : Heap} {w : World} {e : Env} {v : AV} {callF : CallF}

theorem does_move {x : Operand} {p : AOp} (ho : o.op = .move x ∨ o.op = .assign x) (hc : (cOpd x).map .mv = some p) (hw : WR j H w) (hE : ER j e a.tmps)
    (hr : p.run callF e H = some (v, H')) : Does P a o j H w v H' := by
  simp only [Option.map_eq_some_iff] at hc
  obtain ⟨y, hy, rfl⟩ := hc
  obtain ⟨h1, rfl⟩ := pureR_some hr
  refine Does.pure hw (opd_sound hE hy h1) ?_
  rcases ho with ho | ho <;> simp [execOp, ho]

theorem does_pick {c x y : Operand} {p : AOp} (ho : o.op = .pick c x y) (hc : cOp P (.pick c x y) = some p) (hw : WR j H w) (hE : ER j e a.tmps)
    (hr : p.run callF e H = some (v, H')) : Does P a o j H w v H' := by
  simp only [cOp, Option.bind_eq_some_iff, Option.map_eq_some_iff] at hc
  obtain ⟨c', hc', x', hx', y', hy', rfl⟩ := hc
  obtain ⟨u, hu, h1⟩ := on1_some hr
  have hcr := opd_sound hE hc' hu
  cases u with
  | bool t =>
    simp only [VR] at hcr
    cases t with
    | true =>
      obtain ⟨h2, rfl⟩ := pureR_some h1
      exact Does.pure hw (opd_sound hE hx' h2) (by simp [execOp, ho, hcr, asBool])
    | false =>
      obtain ⟨h2, rfl⟩ := pureR_some h1
      exact Does.pure hw (opd_sound hE hy' h2) (by simp [execOp, ho, hcr, asBool])
  | symb t =>
    simp only [VR] at hcr
    cases t with
    | true =>
      obtain ⟨h2, rfl⟩ := pureR_some h1
      exact Does.pure hw (opd_sound hE hx' h2) (by simp [execOp, ho, hcr, asBool])
    | false =>
      obtain ⟨h2, rfl⟩ := pureR_some h1
      exact Does.pure hw (opd_sound hE hy' h2) (by simp [execOp, ho, hcr, asBool])
  | _ => simp at h1

theorem unop_sound {op : UnOp} {x r : AV} {c : Value} (h : unop op x = some r) (hx : VR j x c) : ∃ d, VR j r d ∧ (Op.unary op c).run P w = .ok d w := by
  cases x <;> simp only [unop] at h <;> (try simp at h; done)
  · simp only [VR] at hx
    subst hx
    cases op <;> simp at h
    subst h
    exact ⟨_, rfl, by simp [Op.unary]⟩
  · simp only [VR] at hx
    subst hx
    cases op <;> simp at h <;> subst h
    · exact ⟨_, rfl, by simp [Op.unary, Op.intArith]⟩
    · exact ⟨_, rfl, by simp only [Op.unary, intBits_xor]; rfl⟩

theorem binop_sound {op : BinOp} {t : TypeId} {x y r : AV} {c d : Value} (h : binop op x y = some r) (hx : VR j x c) (hy : VR j y d) (xo yo : Operand) :
    ∃ u, VR j r u ∧ (do eqGuard op t xo yo c d; Go.binOp op t c d : Sem Value).run P w = .ok u w := by
  cases x <;> cases y <;> simp only [binop] at h <;> (try simp at h; done)
  · simp only [VR] at hx hy
    subst hx; subst hy
    rename_i k n k' m
    have hg : eqGuard op t xo yo (.int k n) (.int k' m) = pure () := eqGuard_at_int ..
    rw [hg]
    cases op
    case shl =>
      obtain ⟨h1, h2⟩ := nif_some h
      obtain rfl := Option.some.inj h2
      simp only [decide_eq_false_iff_not] at h1
      exact ⟨_, rfl, by simp [Go.binOp, Op.shift, h1]⟩
    case shr =>
      obtain ⟨h1, h2⟩ := nif_some h
      obtain rfl := Option.some.inj h2
      simp only [decide_eq_false_iff_not] at h1
      exact ⟨_, rfl, by simp [Go.binOp, Op.shift, h1]⟩
    all_goals
      obtain ⟨h1, h2⟩ := nif_some h
      simp only [decide_eq_false_iff_not, ne_eq, Decidable.not_not] at h1
      subst h1
      first
        | (simp at h2; done)
        | (obtain ⟨h3, h4⟩ := nif_some h2
           simp only [decide_eq_false_iff_not] at h3
           obtain rfl := Option.some.inj h4
           refine ⟨_, rfl, ?_⟩
           simp [Go.binOp, Op.intDiv, h3])
        | (obtain rfl := Option.some.inj h2
           refine ⟨_, rfl, ?_⟩
           simp [Go.binOp, Op.intArith, Op.intCmp]; done)
        | (obtain rfl := Option.some.inj h2
           refine ⟨_, rfl, ?_⟩
           simp only [pure_bind, binOp_and, binOp_or, binOp_xor, binOp_andNot, intBits_and, intBits_or, intBits_xor, intBits_andNot]; rfl)
  · simp only [VR] at hx hy
    subst hx; subst hy
    rename_i s s'
    have hg : eqGuard op t xo yo (.string ⟨s.toArray⟩) (.string ⟨s'.toArray⟩) = pure () := eqGuard_at_string ..
    rw [hg]
    cases op <;> simp only [] at h <;> (try simp at h; done)
    case add =>
      obtain ⟨h1, h2⟩ := bif_some h
      obtain rfl := Option.some.inj h2
      simp only [decide_eq_true_eq] at h1
      refine ⟨_, rfl, ?_⟩
      have : ¬ ((9223372036854775807 : Int) < (s.length : Int) + (s'.length : Int)) := by omega
      simp [Go.binOp, Op.stringOp, ByteArray.mk_append_mk, ByteArray.size, this]
    all_goals
      obtain rfl := Option.some.inj h
      exact ⟨_, rfl, by simp [Go.binOp, Op.stringOp]⟩

theorem eqIn_ptr (d : Nat) {t e : TypeId} (hu : P.underlying t = some (.pointer e)) (x y : Option Addr) (h : x = none ∨ y = none) :
    (Op.equalIn (d + 1) t (.pointer x) (.pointer y)).run P w = .ok (x.isNone && y.isNone) w := by
  rcases h with rfl | rfl
  · simp [Op.equalIn, run_underlying hu]
  · cases x <;> simp [Op.equalIn, run_underlying hu]
theorem eqIn_sl (d : Nat) {t e : TypeId} (hu : P.underlying t = some (.slice e)) (x y : Option Addr) (n m n' m' : Nat) (h : x = none ∨ y = none) :
    (Op.equalIn (d + 1) t (.slice x n m) (.slice y n' m')).run P w = .ok (x.isNone && y.isNone) w := by
  rcases h with rfl | rfl
  · simp [Op.equalIn, run_underlying hu]
  · cases x <;> simp [Op.equalIn, run_underlying hu]

def nilB : Value → Bool
  | .pointer none => true
  | .slice none _ _ => true
  | .nilFunc => true
  | .nilIface => true
  | _ => false

def kindOf : Value → Nat
  | .pointer _ => 0
  | .slice _ _ _ => 1
  | .func _ _ _ => 2
  | .nilFunc => 2
  | .iface _ _ => 3
  | .nilIface => 3
  | _ => 4

theorem nilOf_sound {k : Nat} {x : AV} {c : Value} {b : Bool} (h : nilOf k x = some b) (hx : VR j x c) : nilB c = b ∧ kindOf c = k := by
  unfold nilOf at h
  split at h <;> simp at h <;> subst h <;> simp only [VR] at hx
  · subst hx; exact ⟨rfl, rfl⟩
  · obtain ⟨_, _, rfl⟩ := hx; exact ⟨rfl, rfl⟩
  · subst hx; exact ⟨rfl, rfl⟩
  · obtain ⟨_, _, _, _, _, _, rfl | ⟨_, _, rfl⟩⟩ := hx <;> exact ⟨rfl, rfl⟩
  · subst hx; exact ⟨rfl, rfl⟩
  · obtain ⟨_, _, rfl, _⟩ := hx; exact ⟨rfl, rfl⟩
  · subst hx; exact ⟨rfl, rfl⟩
  · obtain ⟨_, rfl, _⟩ := hx; exact ⟨rfl, rfl⟩

theorem eqIn_nil (d : Nat) {k : Nat} {t : TypeId} {x y : Value} (hx : kindOf x = k) (hy : kindOf y = k) (hn : nilB x = true ∨ nilB y = true)
    (ht : (k = 0 ∧ ∃ e, P.underlying t = some (.pointer e)) ∨ (k = 1 ∧ ∃ e, P.underlying t = some (.slice e)) ∨ (k = 2 ∧ ∃ p q r, P.underlying t = some (.func p q r)) ∨
      (k = 3 ∧ ∃ m, P.underlying t = some (.interface m))) : (Op.equalIn (d + 1) t x y).run P w = .ok (nilB x && nilB y) w := by
  rcases ht with ⟨rfl, e, hu⟩ | ⟨rfl, e, hu⟩ | ⟨rfl, p, q, r, hu⟩ | ⟨rfl, m, hu⟩
  · cases x <;> simp [kindOf] at hx
    cases y <;> simp [kindOf] at hy
    rename_i a b
    rw [eqIn_ptr d hu a b (by cases a <;> cases b <;> simp [nilB] at hn ⊢)]
    cases a <;> cases b <;> rfl
  · cases x <;> simp [kindOf] at hx
    cases y <;> simp [kindOf] at hy
    rename_i a n m b n' m'
    rw [eqIn_sl d hu a b _ _ _ _ (by cases a <;> cases b <;> simp [nilB] at hn ⊢)]
    cases a <;> cases b <;> rfl
  · cases x <;> simp [kindOf] at hx <;> cases y <;> simp [kindOf] at hy <;> simp [nilB] at hn <;> simp [Op.equalIn, run_underlying hu, nilB]
  · cases x <;> simp [kindOf] at hx <;> cases y <;> simp [kindOf] at hy <;> simp [nilB] at hn <;> simp [Op.equalIn, run_underlying hu, nilB]

theorem eqGuard_nil {k : Nat} {op : BinOp} {t : TypeId} {c d : Value} (xo yo : Operand) (hx : kindOf c = k) (hk : k < 4) (hy : kindOf d = k)
    (hi : k = 3 → (isConstOpd xo || isConstOpd yo) = true) : eqGuard op t xo yo c d = pure () := by
  cases c <;> simp [kindOf] at hx <;> (try omega) <;> (try (cases op <;> rfl))
  subst hx
  cases d <;> simp [kindOf] at hy
  · cases op <;> rfl
  · have := hi rfl
    cases xo <;> cases yo <;> simp [isConstOpd] at this <;> cases op <;> rfl

theorem binOp_nil {k : Nat} {op : BinOp} {neg : Bool} {t : TypeId} {c d : Value} (hx : kindOf c = k) (hk : k < 4) (hop : (op = .eql ∧ neg = false) ∨ (op = .neq ∧ neg = true)) :
    Go.binOp op t c d = (do pure (.bool ((← Op.equal t c d) != neg))) := by
  rcases hop with ⟨rfl, rfl⟩ | ⟨rfl, rfl⟩ <;> cases c <;> simp [kindOf] at hx <;> (try omega) <;> cases d <;> simp [Go.binOp]

theorem eqNil_sound {k : Nat} {t : TypeId} {op : BinOp} {neg : Bool} {x y : AV} {c d : Value} {b : Bool} (h : eqNil k x y = some b) (hx : VR j x c) (hy : VR j y d) (xo yo : Operand)
    (hop : (op = .eql ∧ neg = false) ∨ (op = .neq ∧ neg = true))
    (ht : (k = 0 ∧ ∃ e, P.underlying t = some (.pointer e)) ∨ (k = 1 ∧ ∃ e, P.underlying t = some (.slice e)) ∨ (k = 2 ∧ ∃ p q r, P.underlying t = some (.func p q r)) ∨
      (k = 3 ∧ ∃ m, P.underlying t = some (.interface m)))
    (hi : k = 3 → (isConstOpd xo || isConstOpd yo) = true) :
    (do eqGuard op t xo yo c d; Go.binOp op t c d : Sem Value).run P w = .ok (.bool (b != neg)) w := by
  have hk : k < 4 := by omega
  unfold eqNil at h
  split at h
  · rename_i r h1 h2
    obtain rfl := Option.some.inj h
    obtain ⟨n1, k1⟩ := nilOf_sound h1 hx
    obtain ⟨n2, k2⟩ := nilOf_sound h2 hy
    rw [eqGuard_nil xo yo k1 hk k2 hi, binOp_nil k1 hk hop]
    have := eqIn_nil (P := P) (w := w) 9999 k1 k2 (.inl n1) ht
    simp only [n1, n2, Bool.true_and] at this
    simp [Op.equal, Op.maxDepth, this]
  · rename_i h1 h2
    obtain rfl := Option.some.inj h
    obtain ⟨n1, k1⟩ := nilOf_sound h1 hx
    obtain ⟨n2, k2⟩ := nilOf_sound h2 hy
    rw [eqGuard_nil xo yo k1 hk k2 hi, binOp_nil k1 hk hop]
    have := eqIn_nil (P := P) (w := w) 9999 k1 k2 (.inr n2) ht
    simp only [n1, n2, Bool.false_and] at this
    simp [Op.equal, Op.maxDepth, this]
  · simp at h

/-! ### '==' of aggregates -/
def val (g : Bool) (l : List Value) : Value := if g then .agg l.toArray else l.headD undef

theorem run_part {t : TypeId} {g : Bool} {n off : Nat} {l : List Value} (hg : isAgg? P t = some g) (hs : size? P t = some n) (h1 : g = false → n = 1) (hl : off + n ≤ l.length) :
    (part t l.toArray off).run P w = .ok (val g ((l.drop off).take n)) w := by
  unfold part
  simp only [Sem.run_bind, run_isAgg hg, Result.andThen_ok]
  cases g with
  | true =>
    simp [run_sizeOf hs, val]
  | false =>
    obtain rfl := h1 rfl
    have hlt : off < l.length := by omega
    simp only [Bool.false_eq_true, if_false, List.getElem?_toArray, List.getElem?_eq_getElem hlt, val]
    rw [List.drop_eq_getElem_cons hlt]
    rfl

theorem eqCells_append : ∀ {ks ls : List Nat} {a b c d : List AV} {r : Bool}, a.length = ks.length → c.length = ks.length → eqCells (ks ++ ls) (a ++ b) (c ++ d) = some r →
    (eqCells ks a c = some false ∧ r = false) ∨ (eqCells ks a c = some true ∧ eqCells ls b d = some r)
  | [], ls, [], b, [], d, r, _, _, h => .inr ⟨by simp [eqCells], by simpa using h⟩
  | k :: ks, ls, x :: a, b, y :: c, d, r, hl, hm, h => by
    simp only [List.cons_append, eqCells] at h ⊢
    cases he : eqCell k x y with
    | none => simp [he] at h
    | some t => cases t with
      | false => simp only [he, Option.some.injEq] at h ⊢; exact .inl ⟨trivial, h.symm⟩
      | true => simp only [he] at h ⊢; exact eqCells_append (by simpa using hl) (by simpa using hm) h
  | [], _, _ :: _, _, _, _, _, hl, _, _ => by simp at hl
  | [], _, [], _, _ :: _, _, _, _, hm, _ => by simp at hm
  | _ :: _, _, [], _, _, _, _, hl, _, _ => by simp at hl
  | _ :: _, _, _ :: _, _, [], _, _, _, hm, _ => by simp at hm

theorem eqCells_length : ∀ {ks : List Nat} {a b : List AV} {r : Bool}, eqCells ks a b = some r → r = true → a.length = ks.length ∧ b.length = ks.length
  | [], [], [], _, _, _ => ⟨rfl, rfl⟩
  | k :: ks, x :: a, y :: b, r, h, hr => by
    simp only [eqCells] at h
    split at h
    · have := eqCells_length h hr; simp [this.1, this.2]
    · simp only [Option.some.injEq] at h; rw [hr] at h; simp at h
    · simp at h
  | [], _ :: _, _, _, h, _ => by simp [eqCells] at h
  | [], [], _ :: _, _, h, _ => by simp [eqCells] at h
  | _ :: _, [], _, _, h, _ => by simp [eqCells] at h
  | _ :: _, _ :: _, [], _, h, _ => by simp [eqCells] at h

theorem eqCellsS_eqCells : ∀ {ks : List Nat} {a b : List AV} {r : Bool}, eqCellsS ks a b = some r → eqCells ks (a.map AV.plain) (b.map AV.plain) = some r
  | [], [], [], r, h => h
  | k :: ks, x :: a, y :: b, r, h => by
    simp only [eqCellsS] at h
    split at h
    · rename_i t ht
      split at h
      · rename_i u hu
        obtain rfl := Option.some.inj h
        simp only [List.map_cons, eqCells, ht]
        cases t
        · rfl
        · simpa using eqCellsS_eqCells hu
      · simp at h
    · simp at h
  | [], _ :: _, _, _, h => by simp [eqCellsS] at h
  | [], [], _ :: _, _, h => by simp [eqCellsS] at h
  | _ :: _, [], _, _, h => by simp [eqCellsS] at h
  | _ :: _, _ :: _, [], _, h => by simp [eqCellsS] at h

theorem VRs.plain : ∀ {vs : List AV} {l : List Value}, VRs j vs l → VRs j (vs.map AV.plain) l
  | [], _, h => h
  | _ :: _, _, ⟨c, cs, e, h1, h2⟩ => ⟨c, cs, e, h1.plain, VRs.plain h2⟩

theorem flatN_agg {d : Nat} {t : TypeId} {ks : List Nat} (h : flatN P d t = some ks) : ∃ g, isAgg? P t = some g ∧ (g = false → ks.length = 1) := by
  cases d with
  | zero => simp [flatN] at h
  | succ d =>
    simp only [flatN] at h
    unfold isAgg?
    cases hu : P.underlying t with
    | none => simp [hu] at h
    | some u => cases u <;> simp [hu] at h ⊢ <;> subst h <;> rfl

theorem cut_at (xs : List AV) (n k : Nat) : xs.drop n = (xs.drop n).take k ++ xs.drop (n + k) := by
  rw [← List.drop_drop]; exact (List.take_append_drop k (xs.drop n)).symm

theorem eqFlat : ∀ (d D : Nat) (t : TypeId) (ks : List Nat), d ≤ D → flatN P d t = some ks → ∀ (g : Bool), isAgg? P t = some g → ∀ (xs ys : List AV) (l m : List Value) (b : Bool), xs.length = ks.length → ys.length = ks.length →
    VRs j xs l → VRs j ys m → eqCells ks xs ys = some b → (Op.equalIn D t (val g l) (val g m)).run P w = .ok b w
  | 0, _, _, _, _, h, _, _, _, _, _, _, _, _, _, _, _, _ => by simp [flatN] at h
  | d + 1, 0, _, _, hD, _, _, _, _, _, _, _, _, _, _, _, _, _ => by omega
  | d + 1, D + 1, t, ks, hD, h, g, hg, xs, ys, l, m, b, hx, hy, hl, hm, he => by
    have leaf : ∀ k, ks = [k] → g = false → (∀ p q c c', VR j p c → VR j q c' → eqCell k p q = some b → (Op.equalIn (D + 1) t c c').run P w = .ok b w) → (Op.equalIn (D + 1) t (val g l) (val g m)).run P w = .ok b w := by
      intro k0 hn hgf k
      subst hn; subst hgf
      obtain ⟨p, rfl⟩ := List.length_eq_one_iff.1 hx
      obtain ⟨q, rfl⟩ := List.length_eq_one_iff.1 hy
      obtain ⟨c, _, rfl, hv, rfl⟩ := hl
      obtain ⟨c', _, rfl, hv', rfl⟩ := hm
      refine k p q c c' hv hv' ?_
      simp only [eqCells] at he
      cases hh : eqCell k0 p q with
      | none => simp [hh] at he
      | some r => cases r <;> simp [hh] at he <;> simp [he]
    simp only [flatN] at h
    cases hu : P.underlying t with
    | none => simp [hu] at h
    | some u =>
      simp only [isAgg?, hu] at hg
      cases u <;> simp only [hu] at h <;> (try simp at h; done) <;> simp only [Option.some.injEq] at hg
      case bool =>
        obtain rfl := Option.some.inj h
        refine leaf 0 rfl hg.symm (fun p q c c' hv hv' hq => ?_)
        cases p <;> cases q <;> simp only [eqCell] at hq <;> (try simp at hq; done)
        simp only [VR] at hv hv'; subst hv; subst hv'
        obtain rfl := Option.some.inj hq
        exact run_equalIn_bool' w D t _ _ hu
      case int =>
        obtain rfl := Option.some.inj h
        refine leaf 1 rfl hg.symm (fun p q c c' hv hv' hq => ?_)
        cases p <;> cases q <;> simp only [eqCell] at hq <;> (try simp at hq; done)
        simp only [VR] at hv hv'; subst hv; subst hv'
        obtain ⟨hk, hq2⟩ := bif_some hq
        simp only [decide_eq_true_eq] at hk
        subst hk
        obtain rfl := Option.some.inj hq2
        exact run_equalIn_int w D t _ _ _ _ hu
      case string =>
        obtain rfl := Option.some.inj h
        refine leaf 2 rfl hg.symm (fun p q c c' hv hv' hq => ?_)
        cases p <;> cases q <;> simp only [eqCell] at hq <;> (try simp at hq; done)
        simp only [VR] at hv hv'; subst hv; subst hv'
        obtain rfl := Option.some.inj hq
        rw [run_equalIn_string w D t _ _ hu]
        simp
      case array len e =>
        subst hg
        split at h
        · rename_i ke hk
          obtain ⟨hs, h⟩ := if_some h
          obtain rfl := Option.some.inj h
          obtain ⟨ge, hge, hge1⟩ := flatN_agg hk
          have hinfo : ∃ i, P.info? e = some i ∧ i.size = ke.length := by simpa [size?] using hs
          obtain ⟨i, hi, hik⟩ := hinfo
          have hc : P.cellsOf e = ke.length := by simp [Program.cellsOf, hi, hik]
          have hll := VRs.length hl
          have hml := VRs.length hm
          have hlen : ((List.replicate len ke).flatten).length = len * ke.length := by simp
          rw [hlen] at hx hy
          simp only [val, if_true]
          rw [run_equalIn_array w D _ _ hu hi, hc, List.range_eq_range']
          have key : ∀ (cnt s : Nat), (s + cnt) * ke.length = len * ke.length → ∀ b, eqCells ((List.replicate cnt ke).flatten) (xs.drop (s * ke.length)) (ys.drop (s * ke.length)) = some b →
              (Op.eqItems D e ke.length l.toArray m.toArray (List.range' s cnt)).run P w = .ok b w := by
            intro cnt
            induction cnt with
            | zero =>
              intro s hsk b hb
              have h1 : xs.drop (s * ke.length) = [] := List.drop_eq_nil_of_le (by rw [hx, ← hsk]; simp)
              have h2 : ys.drop (s * ke.length) = [] := List.drop_eq_nil_of_le (by rw [hy, ← hsk]; simp)
              rw [h1, h2] at hb
              simp only [List.replicate_zero, List.flatten_nil, eqCells, Option.some.injEq] at hb
              subst hb
              simp [Op.eqItems]
            | succ cnt ih =>
              intro s hsk b hb
              have hle : s * ke.length + ke.length ≤ len * ke.length := by
                rw [← hsk, show s * ke.length + ke.length = (s + 1) * ke.length by rw [Nat.add_mul]; omega]
                exact Nat.mul_le_mul_right _ (by omega)
              rw [cut_at xs (s * ke.length) ke.length, cut_at ys (s * ke.length) ke.length, List.replicate_succ, List.flatten_cons] at hb
              rw [List.range'_succ]
              simp only [Op.eqItems, Sem.run_bind, run_part hge hs hge1 (show s * ke.length + ke.length ≤ l.length by omega), run_part hge hs hge1 (show s * ke.length + ke.length ≤ m.length by omega), Result.andThen_ok]
              have hrec := fun b hb => eqFlat d D e ke (by omega) hk ge hge ((xs.drop (s * ke.length)).take ke.length) ((ys.drop (s * ke.length)).take ke.length) ((l.drop (s * ke.length)).take ke.length) ((m.drop (s * ke.length)).take ke.length) b (by simp; omega) (by simp; omega)
                (VRs.take _ (VRs.drop _ hl)) (VRs.take _ (VRs.drop _ hm)) hb
              rcases eqCells_append (by simp; omega) (by simp; omega) hb with ⟨h1, rfl⟩ | ⟨h1, h2⟩
              · rw [hrec _ h1]; simp
              · rw [hrec _ h1]
                simp only [Result.andThen_ok, Bool.not_true, Bool.false_eq_true, if_false]
                have := ih (s + 1) (by rw [← hsk]; congr 1; omega) b (by rw [show (s + 1) * ke.length = s * ke.length + ke.length by rw [Nat.add_mul]; omega]; exact h2)
                simpa using this
          exact key len 0 (by simp) b (by simpa using he)
        · simp at h
      case struct fs =>
        subst hg
        split at h
        · simp at h
        rename_i hst
        have hfo : P.fieldsOf t = fs := by simp [Program.fieldsOf, hu]
        have hll := VRs.length hl
        have hml := VRs.length hm
        simp only [val, if_true]
        rw [run_equalIn_struct w D t _ _ (by rw [hfo]; exact hu) (by simpa using hst), hfo]
        have key : ∀ (fs : List Field) (n0 : Nat) (kr : List Nat), flatFs P (flatN P d) fs n0 = some kr → n0 + kr.length = ks.length → ∀ b, eqCells kr (xs.drop n0) (ys.drop n0) = some b →
            (Op.eqFields D l.toArray m.toArray fs).run P w = .ok b w := by
          intro fs
          induction fs with
          | nil =>
            intro n0 kr hn hsum b hb
            simp only [flatFs, Option.some.injEq] at hn
            subst hn
            simp only [List.length_nil] at hsum
            have h1 : xs.drop n0 = [] := List.drop_eq_nil_of_le (by omega)
            have h2 : ys.drop n0 = [] := List.drop_eq_nil_of_le (by omega)
            rw [h1, h2] at hb
            simp only [eqCells, Option.some.injEq] at hb
            subst hb
            simp [Op.eqFields]
          | cons f fs ih =>
            intro n0 kr hn hsum b hb
            simp only [flatFs] at hn
            obtain ⟨⟨ho, hname⟩, hn⟩ := if_some hn
            split at hn
            · rename_i k hk
              obtain ⟨hs, hn⟩ := if_some hn
              split at hn
              · rename_i rest hrest
                obtain rfl := Option.some.inj hn
                simp only [List.length_append] at hsum
                obtain ⟨ge, hge, hge1⟩ := flatN_agg hk
                rw [cut_at xs n0 k.length, cut_at ys n0 k.length] at hb
                simp only [Op.eqFields, hname, ne_eq, not_false_eq_true, if_true, Sem.run_bind, ho, run_part hge hs hge1 (show n0 + k.length ≤ l.length by omega), run_part hge hs hge1 (show n0 + k.length ≤ m.length by omega), Result.andThen_ok]
                have hrec := fun b hb => eqFlat d D f.type k (by omega) hk ge hge ((xs.drop n0).take k.length) ((ys.drop n0).take k.length) ((l.drop n0).take k.length) ((m.drop n0).take k.length) b (by simp; omega) (by simp; omega)
                  (VRs.take _ (VRs.drop _ hl)) (VRs.take _ (VRs.drop _ hm)) hb
                rcases eqCells_append (by simp; omega) (by simp; omega) hb with ⟨h1, rfl⟩ | ⟨h1, h2⟩
                · rw [hrec _ h1]; simp
                · rw [hrec _ h1]
                  simpa using ih (n0 + k.length) rest hrest (by omega) b h2
              · simp at hn
            · simp at hn
        exact key fs.toList 0 ks h (by simp) b (by simpa using he)

end
end Go.Ev
