/- Typed values and their cells: parts read, parts written. No condition. -/
import Derived.Test.YtipdancojcdioaaShC
namespace Go.Sh
set_option linter.unusedVariables false
set_option linter.unusedSimpArgs false
open Go Go.Ev

theorem blt_iff {a b : Nat} : Nat.blt a b = true ↔ a < b := by rw [Nat.blt_eq]

theorem cellsN_length {α : Type} {f : α → List AV} {d : α} {z : Nat} (hf : ∀ x, (f x).length = z) : ∀ (n : Nat) (xs : List α), (cellsN f d n xs).length = n * z
  | 0, _ => by simp [cellsN]
  | n + 1, [] => by simp [cellsN, hf, cellsN_length hf n []]; rw [Nat.succ_mul, Nat.add_comm]
  | n + 1, x :: r => by simp [cellsN, hf, cellsN_length hf n r]; rw [Nat.succ_mul, Nat.add_comm]

theorem cells_length : ∀ (t : Ty) (x : t.den), (t.cells x).length = t.size
  | .int _, _ => rfl
  | .flt _, _ => rfl
  | .bool, _ => rfl
  | .str, _ => rfl
  | .unit, _ => rfl
  | .one a, x => cells_length a x
  | .pair a b, x => by simp only [Ty.cells, Ty.size, List.length_append, cells_length a, cells_length b]
  | .arr n t, xs => cellsN_length (cells_length t) n xs

/-- the elements' cells, one element behind the other: the i-th -/
theorem cellsN_part {α : Type} {f : α → List AV} {d : α} {z : Nat} (hf : ∀ x, (f x).length = z) : ∀ (n : Nat) (xs : List α) (i o k : Nat), i < n → o + k ≤ z →
    ((cellsN f d n xs).drop (i * z + o)).take k = ((f (xs.getD i d)).drop o).take k
  | 0, _, i, _, _, h, _ => by omega
  | n + 1, [], 0, o, k, _, hk => by
    simp only [cellsN, Nat.zero_mul, Nat.zero_add, List.getD_nil]
    rw [List.drop_append_of_le_length (by rw [hf]; omega), List.take_append_of_le_length (by simp [hf]; omega)]
  | n + 1, x :: r, 0, o, k, _, hk => by
    simp only [cellsN, Nat.zero_mul, Nat.zero_add, List.getD_cons_zero]
    rw [List.drop_append_of_le_length (by rw [hf]; omega), List.take_append_of_le_length (by simp [hf]; omega)]
  | n + 1, [], i + 1, o, k, h, hk => by
    have := cellsN_part (d := d) hf n [] i o k (by omega) hk
    simp only [cellsN, List.getD_nil] at this ⊢
    rw [← this, Nat.succ_mul, show i * z + z + o = (f d).length + (i * z + o) by rw [hf]; omega, List.drop_length_add_append]
  | n + 1, x :: r, i + 1, o, k, h, hk => by
    have := cellsN_part (d := d) hf n r i o k (by omega) hk
    simp only [cellsN, List.getD_cons_succ] at this ⊢
    rw [← this, Nat.succ_mul, show i * z + z + o = (f x).length + (i * z + o) by rw [hf]; omega, List.drop_length_add_append]

theorem cellsN_set {α : Type} {f : α → List AV} {d : α} {z : Nat} (hf : ∀ x, (f x).length = z) : ∀ (n : Nat) (xs : List α) (i : Nat) (y : α), i < n →
    cellsN f d n (setD d xs i y) = (cellsN f d n xs).take (i * z) ++ (f y ++ (cellsN f d n xs).drop (i * z + z))
  | 0, _, i, _, h => by omega
  | n + 1, [], 0, y, _ => by
    simp only [cellsN, setD, Nat.zero_mul, Nat.zero_add, List.take_zero, List.nil_append]
    congr 1
    rw [← hf d, List.drop_left]
  | n + 1, x :: r, 0, y, _ => by
    simp only [cellsN, setD, Nat.zero_mul, Nat.zero_add, List.take_zero, List.nil_append]
    congr 1
    rw [← hf x, List.drop_left]
  | n + 1, [], i + 1, y, h => by
    simp only [cellsN, setD]
    rw [cellsN_set hf n [] i y (by omega), Nat.succ_mul, show i * z + z + z = (f d).length + (i * z + z) by rw [hf]; omega, List.drop_length_add_append,
      show i * z + z = (f d).length + i * z by rw [hf]; omega, List.take_length_add_append, List.append_assoc]
  | n + 1, x :: r, i + 1, y, h => by
    simp only [cellsN, setD]
    rw [cellsN_set hf n r i y (by omega), Nat.succ_mul, show i * z + z + z = (f x).length + (i * z + z) by rw [hf]; omega, List.drop_length_add_append,
      show i * z + z = (f x).length + i * z by rw [hf]; omega, List.take_length_add_append, List.append_assoc]

/-- places in arrays are within them -/
def okP (p : List Ix) : Prop := ∀ ix ∈ p, ix.el = false → ix.i < ix.m

theorem okP.tail {ix : Ix} {p : List Ix} (h : okP (ix :: p)) : okP p := fun y hy => h y (List.mem_cons_of_mem _ hy)

theorem bif_some' {α : Type} {b : Bool} {x : Option α} {y : α} (h : (bif b then x else none) = some y) : b = true ∧ x = some y := by
  cases b
  · simp at h
  · exact ⟨rfl, h⟩

theorem bif_or {α : Type} {b : Bool} {x z : Option α} {y : α} (h : (bif b then x else z) = some y) : (b = true ∧ x = some y) ∨ (b = false ∧ z = some y) := by
  cases b
  · exact .inr ⟨rfl, h⟩
  · exact .inl ⟨rfl, h⟩

def Part (t : Ty) (x : t.den) (a n : Nat) (g : Bool) (v : SV) : Prop :=
  ∃ (t' : Ty) (x' : t'.den), v = .ty t' x' ∧ t'.size = n ∧ t'.agg = g ∧ a + n ≤ t.size ∧ ((t.cells x).drop a).take n = t'.cells x'

theorem Part.whole {t : Ty} {x : t.den} : Part t x 0 t.size t.agg (.ty t x) :=
  ⟨t, x, rfl, rfl, rfl, by omega, by rw [List.drop_zero, ← cells_length t x, List.take_length]⟩

theorem arr_part {m : Nat} {t : Ty} {xs : List t.den} {i a n : Nat} {g : Bool} {v : SV} (hi : i < m) (h : Part t (xs.getD i t.dflt) a n g v) : Part (.arr m t) xs (i * t.size + a) n g v := by
  obtain ⟨t', x', rfl, h1, h2, h3, h4⟩ := h
  refine ⟨t', x', rfl, h1, h2, ?_, ?_⟩
  · have : (i + 1) * t.size ≤ m * t.size := Nat.mul_le_mul_right _ hi
    rw [Nat.succ_mul] at this
    simp only [Ty.size]
    omega
  · simp only [Ty.cells]
    rw [cellsN_part (cells_length t) m xs i a n hi h3]
    exact h4

theorem getT_sound : ∀ (t : Ty) (x : t.den) (o : Nat) (p : List Ix) (n : Nat) (g : Bool) (v : SV), okP p → getT t x o p n g = some v → Part t x (o + offP p) n g v
  | .one a, x, o, p, n, g, v, hp, h => by
    simp only [getT] at h
    rcases bif_or h with ⟨hb, h1⟩ | ⟨_, h⟩
    · simp only [Bool.and_eq_true, Nat.beq_eq, List.isEmpty_iff] at hb
      obtain ⟨⟨⟨rfl, rfl⟩, rfl⟩, rfl⟩ := hb
      obtain rfl := Option.some.inj h1
      exact Part.whole (t := .one a)
    · obtain ⟨t', x', h0, h1, h2, h3, h4⟩ := getT_sound a x o p n g v hp h
      exact ⟨t', x', h0, h1, h2, h3, h4⟩
  | .pair a b, x, o, p, n, g, v, hp, h => by
    simp only [getT] at h
    rcases bif_or h with ⟨hb, h1⟩ | ⟨_, h⟩
    · simp only [Bool.and_eq_true, Nat.beq_eq, List.isEmpty_iff] at hb
      obtain ⟨⟨⟨rfl, rfl⟩, rfl⟩, rfl⟩ := hb
      obtain rfl := Option.some.inj h1
      exact Part.whole (t := .pair a b)
    · rcases bif_or h with ⟨hb, h⟩ | ⟨hb, h⟩
      · obtain ⟨t', x', h0, h1, h2, h3, h4⟩ := getT_sound a x.1 o p n g v hp h
        refine ⟨t', x', h0, h1, h2, by simp only [Ty.size]; omega, ?_⟩
        simp only [Ty.cells]
        rw [List.drop_append_of_le_length (by rw [cells_length]; omega), List.take_append_of_le_length (by simp [cells_length]; omega)]
        exact h4
      · have hb : a.size ≤ o := by
          rcases Nat.lt_or_ge o a.size with hlt | hge
          · rw [blt_iff.2 hlt] at hb; simp at hb
          · exact hge
        obtain ⟨t', x', h0, h1, h2, h3, h4⟩ := getT_sound b x.2 (o - a.size) p n g v hp h
        refine ⟨t', x', h0, h1, h2, by simp only [Ty.size]; omega, ?_⟩
        simp only [Ty.cells]
        rw [show o + offP p = (a.cells x.1).length + (o - a.size + offP p) by rw [cells_length]; omega, List.drop_length_add_append]
        exact h4
  | .arr m t, xs, o, p, n, g, v, hp, h => by
    simp only [getT] at h
    rcases bif_or h with ⟨hb, h1⟩ | ⟨_, h⟩
    · simp only [Bool.and_eq_true, Nat.beq_eq, List.isEmpty_iff] at hb
      obtain ⟨⟨⟨rfl, rfl⟩, rfl⟩, rfl⟩ := hb
      obtain rfl := Option.some.inj h1
      exact Part.whole (t := .arr m t)
    · cases p with
      | nil =>
        obtain ⟨hb, h⟩ := bif_some' h
        have hlt := blt_iff.1 hb
        have := arr_part hlt (getT_sound t _ _ [] n g v hp h)
        rw [offP] at this ⊢
        rwa [show o / t.size * t.size + (o % t.size + 0) = o + 0 by rw [Nat.mul_comm]; have := Nat.div_add_mod o t.size; omega] at this
      | cons ix r =>
        rcases bif_or h with ⟨hb, h2⟩ | ⟨_, h2⟩
        · simp only [Bool.and_eq_true, Nat.beq_eq, Bool.not_eq_true'] at hb
          obtain ⟨⟨⟨rfl, hel⟩, hm⟩, hs⟩ := hb
          subst hm
          have hlt := hp _ (List.mem_cons_self ..) hel
          have := arr_part hlt (getT_sound t _ _ r n g v hp.tail h2)
          simp only [offP, Nat.zero_add]
          rwa [← hs, ← Nat.add_assoc] at this
        · obtain ⟨hb, h3⟩ := bif_some' h2
          have hlt := blt_iff.1 hb
          have := arr_part hlt (getT_sound t _ _ (ix :: r) n g v hp h3)
          rwa [show o / t.size * t.size + (o % t.size + offP (ix :: r)) = o + offP (ix :: r) by rw [Nat.mul_comm]; have := Nat.div_add_mod o t.size; omega] at this
  | .int k, x, o, p, n, g, v, hp, h => by
    simp only [getT] at h
    obtain ⟨hb, h⟩ := bif_some' h
    simp only [Bool.and_eq_true, Nat.beq_eq, List.isEmpty_iff, Bool.not_eq_true'] at hb
    obtain ⟨⟨⟨rfl, rfl⟩, rfl⟩, rfl⟩ := hb
    obtain rfl := Option.some.inj h
    exact Part.whole (t := .int k)
  | .flt k, x, o, p, n, g, v, hp, h => by
    simp only [getT] at h
    obtain ⟨hb, h⟩ := bif_some' h
    simp only [Bool.and_eq_true, Nat.beq_eq, List.isEmpty_iff, Bool.not_eq_true'] at hb
    obtain ⟨⟨⟨rfl, rfl⟩, rfl⟩, rfl⟩ := hb
    obtain rfl := Option.some.inj h
    exact Part.whole (t := .flt k)
  | .bool, x, o, p, n, g, v, hp, h => by
    simp only [getT] at h
    obtain ⟨hb, h⟩ := bif_some' h
    simp only [Bool.and_eq_true, Nat.beq_eq, List.isEmpty_iff, Bool.not_eq_true'] at hb
    obtain ⟨⟨⟨rfl, rfl⟩, rfl⟩, rfl⟩ := hb
    obtain rfl := Option.some.inj h
    exact Part.whole (t := .bool)
  | .str, x, o, p, n, g, v, hp, h => by
    simp only [getT] at h
    obtain ⟨hb, h⟩ := bif_some' h
    simp only [Bool.and_eq_true, Nat.beq_eq, List.isEmpty_iff, Bool.not_eq_true'] at hb
    obtain ⟨⟨⟨rfl, rfl⟩, rfl⟩, rfl⟩ := hb
    obtain rfl := Option.some.inj h
    exact Part.whole (t := .str)
  | .unit, x, o, p, n, g, v, hp, h => by simp [getT] at h

/-! ### the relation of values -/
structure W where
  virt : Bool
  hb : Nat
  base : Nat
  len : Nat
  size : Nat

abbrev RM := Nat → Option W

def okIx (w : W) (p : List Ix) : Prop := okP p ∧ ∀ ix ∈ p, ix.el = true → ix.i < w.len

def tyAV : (t : Ty) → t.den → AV
  | .int k, n => .int k n
  | .flt k, n => .float k n
  | .bool, b => .bool b
  | .str, s => .str s
  | t, x => .agg (t.cells x)

def CpR (l : Nat) : Cp → Option Nat → Prop
  | .non, c => c = none
  | .kn m, c => c = some m
  | .tail, c => c = none ∨ c = some l
  | .any, _ => True

mutual
def VR (r : RM) : SV → AV → Prop
  | .ty t x, v => v = tyAV t x
  | .nilp, v => v = .nilptr
  | .ptr b o p, v => ∃ w, r b = some w ∧ w.virt = false ∧ v = .ptr w.hb (w.base + (o + offP p)) ∧ okIx w p
  | .nils, v => v = .nilsl
  | .sla b ex, v => ∃ w, r b = some w ∧ ((w.virt = true ∧ v = .nilsl ∧ w.len = 0) ∨ (w.virt = false ∧ ∃ c, CpR w.len ex.cp c ∧ v = .sl w.hb w.base w.len c w.size))
  | .slw b o l cp, v => ∃ w, r b = some w ∧ o + l ≤ w.len ∧ ((w.virt = true ∧ v = .nilsl) ∨ (w.virt = false ∧ ∃ c, CpR l cp c ∧ v = .sl w.hb (w.base + o * w.size) l c w.size))
  | .segs l, v => ∃ cs, v = .agg cs ∧ CRs r l cs
  | .tup l, v => ∃ vs, v = .tup vs ∧ VRs r l vs
  | .nilf, v => v = .nilfn
  | .fn f a c, v => ∃ as cs, v = .fn f as cs ∧ VRs r a as ∧ VRs r c cs
def VRs (r : RM) : List SV → List AV → Prop
  | [], vs => vs = []
  | x :: l, vs => ∃ v r', vs = v :: r' ∧ VR r x v ∧ VRs r l r'
def CRs (r : RM) : List SV → List AV → Prop
  | [], cs => cs = []
  | x :: l, cs => ∃ v r', cs = v.cells ++ r' ∧ VR r x v ∧ CRs r l r'
end

theorem tyAV_cells : ∀ (t : Ty) (x : t.den), (tyAV t x).cells = t.cells x
  | .int _, _ => rfl
  | .flt _, _ => rfl
  | .bool, _ => rfl
  | .str, _ => rfl
  | .unit, _ => rfl
  | .one _, _ => rfl
  | .pair _ _, _ => rfl
  | .arr _ _, _ => rfl

theorem tyAV_agg : ∀ (t : Ty) (x : t.den), t.agg = true → tyAV t x = .agg (t.cells x)
  | .int _, _, h => by simp [Ty.agg] at h
  | .flt _, _, h => by simp [Ty.agg] at h
  | .bool, _, h => by simp [Ty.agg] at h
  | .str, _, h => by simp [Ty.agg] at h
  | .unit, _, _ => rfl
  | .one _, _, _ => rfl
  | .pair _ _, _, _ => rfl
  | .arr _ _, _, _ => rfl

theorem tyAV_one : ∀ (t : Ty) (x : t.den), t.agg = false → t.cells x = [tyAV t x] ∧ (tyAV t x).one = true
  | .int _, _, _ => ⟨rfl, rfl⟩
  | .flt _, _, _ => ⟨rfl, rfl⟩
  | .bool, _, _ => ⟨rfl, rfl⟩
  | .str, _, _ => ⟨rfl, rfl⟩
  | .unit, _, h => by simp [Ty.agg] at h
  | .one _, _, h => by simp [Ty.agg] at h
  | .pair _ _, _, h => by simp [Ty.agg] at h
  | .arr _ _, _, h => by simp [Ty.agg] at h

theorem cellsN_all {α : Type} {f : α → List AV} {d : α} {q : AV → Bool} (hf : ∀ x, (f x).all q = true) : ∀ (n : Nat) (xs : List α), (cellsN f d n xs).all q = true
  | 0, _ => rfl
  | n + 1, [] => by simp only [cellsN, List.all_append, hf, cellsN_all hf n [], Bool.and_self]
  | n + 1, x :: r => by simp only [cellsN, List.all_append, hf, cellsN_all hf n r, Bool.and_self]

theorem cells_scalar : ∀ (t : Ty) (x : t.den), (t.cells x).all AV.scalar = true
  | .int _, _ => rfl
  | .flt _, _ => rfl
  | .bool, _ => rfl
  | .str, _ => rfl
  | .unit, _ => rfl
  | .one a, x => cells_scalar a x
  | .pair a b, x => by simp only [Ty.cells, List.all_append, cells_scalar a, cells_scalar b, Bool.and_self]
  | .arr n t, xs => cellsN_all (cells_scalar t) n xs

theorem scalar_one {v : AV} (h : v.scalar = true) : v.one = true := by
  cases v <;> simp [AV.scalar] at h <;> rfl

theorem cells_one (t : Ty) (x : t.den) : (t.cells x).all AV.one = true := by
  have := cells_scalar t x
  rw [List.all_eq_true] at this ⊢
  exact fun v hv => scalar_one (this v hv)

def Ext (r r' : RM) : Prop := ∀ b w, r b = some w → r' b = some w
theorem Ext.refl (r : RM) : Ext r r := fun _ _ h => h
theorem Ext.trans {a b c : RM} (h : Ext a b) (k : Ext b c) : Ext a c := fun x w e => k x w (h x w e)

mutual
theorem VR.mono {r r' : RM} (h : Ext r r') : ∀ {x : SV} {v : AV}, VR r x v → VR r' x v
  | .ty _ _, _, e => e
  | .nilp, _, e => e
  | .ptr _ _ _, _, ⟨w, a, b⟩ => ⟨w, h _ _ a, b⟩
  | .nils, _, e => e
  | .sla _ _, _, ⟨w, a, b⟩ => ⟨w, h _ _ a, b⟩
  | .slw _ _ _ _, _, ⟨w, a, b⟩ => ⟨w, h _ _ a, b⟩
  | .segs _, _, ⟨cs, a, b⟩ => ⟨cs, a, CRs.mono h b⟩
  | .tup _, _, ⟨cs, a, b⟩ => ⟨cs, a, VRs.mono h b⟩
  | .nilf, _, e => e
  | .fn _ _ _, _, ⟨x, y, a, b, c⟩ => ⟨x, y, a, VRs.mono h b, VRs.mono h c⟩
theorem VRs.mono {r r' : RM} (h : Ext r r') : ∀ {l : List SV} {vs : List AV}, VRs r l vs → VRs r' l vs
  | [], _, e => e
  | _ :: _, _, ⟨v, l, a, b, c⟩ => ⟨v, l, a, VR.mono h b, VRs.mono h c⟩
theorem CRs.mono {r r' : RM} (h : Ext r r') : ∀ {l : List SV} {vs : List AV}, CRs r l vs → CRs r' l vs
  | [], _, e => e
  | _ :: _, _, ⟨v, l, a, b, c⟩ => ⟨v, l, a, VR.mono h b, CRs.mono h c⟩
end

theorem CRs.append {r : RM} : ∀ {l m : List SV} {cs ds : List AV}, CRs r l cs → CRs r m ds → CRs r (l ++ m) (cs ++ ds)
  | [], _, _, _, h, k => by simp only [CRs] at h; subst h; exact k
  | _ :: _, _, _, _, ⟨v, l, a, b, c⟩, k => by subst a; exact ⟨v, _, by rw [List.append_assoc], b, CRs.append c k⟩

theorem CRs.single {r : RM} {x : SV} {v : AV} (h : VR r x v) : CRs r [x] v.cells := ⟨v, [], by simp, h, rfl⟩

/-- the parts of a value -/
theorem VR.flat {r : RM} {x : SV} {v : AV} (h : VR r x v) : CRs r x.flat v.cells := by
  cases x with
  | segs l => obtain ⟨cs, rfl, k⟩ := h; exact k
  | _ => exact CRs.single h

theorem VRs.append {r : RM} : ∀ {l m : List SV} {cs ds : List AV}, VRs r l cs → VRs r m ds → VRs r (l ++ m) (cs ++ ds)
  | [], _, _, _, h, k => by simp only [VRs] at h; subst h; exact k
  | _ :: _, _, _, _, ⟨v, l, a, b, c⟩, k => by subst a; exact ⟨v, _, rfl, b, VRs.append c k⟩

theorem VRs.get {r : RM} : ∀ {l : List SV} {vs : List AV}, VRs r l vs → ∀ (i : Nat) (x : SV), l[i]? = some x → ∃ v, vs[i]? = some v ∧ VR r x v
  | [], _, _, i, x, h => by simp at h
  | _ :: _, _, ⟨v, l, a, b, c⟩, 0, x, h => by
    subst a
    simp only [List.getElem?_cons_zero, Option.some.injEq] at h
    subst h
    exact ⟨v, rfl, b⟩
  | _ :: _, _, ⟨v, l, a, b, c⟩, i + 1, x, h => by
    subst a
    simp only [List.getElem?_cons_succ] at h ⊢
    exact VRs.get c i x h

theorem size_cells {r : RM} {x : SV} {v : AV} (h : VR r x v) (hs : isRef x = true) : v.cells = [v] ∧ v.one = true ∧ x.size = 1 := by
  cases x with
  | ty t y => simp [isRef] at hs
  | segs l => simp [isRef] at hs
  | tup l => simp [isRef] at hs
  | nilp => simp only [VR] at h; subst h; exact ⟨rfl, rfl, rfl⟩
  | nils => simp only [VR] at h; subst h; exact ⟨rfl, rfl, rfl⟩
  | nilf => simp only [VR] at h; subst h; exact ⟨rfl, rfl, rfl⟩
  | ptr b o p => obtain ⟨w, _, _, rfl, _⟩ := h; exact ⟨rfl, rfl, rfl⟩
  | sla b ex => obtain ⟨w, _, ⟨_, rfl, _⟩ | ⟨_, c, _, rfl⟩⟩ := h <;> exact ⟨rfl, rfl, rfl⟩
  | slw b o l c => obtain ⟨w, _, _, ⟨_, rfl⟩ | ⟨_, c, _, rfl⟩⟩ := h <;> exact ⟨rfl, rfl, rfl⟩
  | fn f a c => obtain ⟨w, _, rfl, _⟩ := h; exact ⟨rfl, rfl, rfl⟩

theorem size_le {r : RM} {x : SV} {v : AV} (h : VR r x v) (hz : x.size ≠ 0) : v.cells.length = x.size := by
  cases x with
  | ty t y => simp only [VR] at h; subst h; rw [tyAV_cells, cells_length]; rfl
  | segs l => simp [SV.size] at hz
  | tup l => obtain ⟨cs, rfl, _⟩ := h; rfl
  | _ => obtain ⟨h1, h2, h3⟩ := size_cells h rfl; rw [h1]; rfl

end Go.Sh
