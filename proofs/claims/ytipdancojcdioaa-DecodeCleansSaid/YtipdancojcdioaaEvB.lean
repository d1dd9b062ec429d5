/- The relation between abstract and loaded memory, and its first lemmas. -/
import Derived.Test.YtipdancojcdioaaEvA
namespace Go.Ev

structure Loc where
  blk : Nat
  off : Nat
  ext : Nat

abbrev JM := Nat → Option Loc

/-- the concrete slice of an abstract one -/
def SlR (j : JM) (b off len : Nat) (cap : Option Nat) (size : Nat) (c : Value) : Prop :=
  ∃ loc cap', j b = some loc ∧ len ≤ cap' ∧ off + cap' * size ≤ loc.ext ∧ (∀ m, cap = some m → cap' = m) ∧
    (c = .slice (some ⟨loc.blk, loc.off + off, none⟩) len cap' ∨ (cap' = 0 ∧ ∃ a, c = .slice (some a) len cap'))

/-- within bounds, as far as they are known -/
def InR (n : Int) (r : Rng) : Prop := (∀ l, r.1 = some l → l ≤ n) ∧ ∀ h, r.2 = some h → n ≤ h

theorem InR.none (n : Int) : InR n (none, none) := ⟨fun _ h => by simp at h, fun _ h => by simp at h⟩

mutual
def VR (j : JM) : AV → Value → Prop
  | .bool b, c => c = .bool b
  | .int k n, c => c = .int k n
  | .float k n, c => c = .float k n
  | .str s, c => c = .string ⟨s.toArray⟩
  | .nilptr, c => c = .pointer none
  | .ptr b off, c => ∃ loc, j b = some loc ∧ c = .pointer (some ⟨loc.blk, loc.off + off, none⟩)
  | .nilsl, c => c = .slice none 0 0
  | .sl b off len cap size, c => SlR j b off len cap size c
  | .agg cs, c => ∃ l, c = .agg l.toArray ∧ VRs j cs l
  | .tup vs, c => ∃ l, c = .tuple l.toArray ∧ VRs j vs l
  | .nilfn, c => c = .nilFunc
  | .fn f first captured, c => ∃ l m, c = .func (.func f) l.toArray m.toArray ∧ VRs j first l ∧ VRs j captured m
  | .niliface, c => c = .nilIface
  | .iface t v, c => ∃ u, c = .iface t u ∧ VR j v u
  | .sym k n lo hi, c => c = .int k n ∧ InR n (lo, hi)
  | .symb b, c => c = .bool b
  | .syms s, c => c = .string ⟨s.toArray⟩
def VRs (j : JM) : List AV → List Value → Prop
  | [], l => l = []
  | v :: vs, l => ∃ c cs, l = c :: cs ∧ VR j v c ∧ VRs j vs cs
end

def Ext (j j' : JM) : Prop := ∀ b loc, j b = some loc → j' b = some loc

theorem Ext.refl (j : JM) : Ext j j := fun _ _ h => h
theorem Ext.trans {a b c : JM} (h : Ext a b) (k : Ext b c) : Ext a c := fun x l e => k x l (h x l e)

theorem SlR.mono {j j' : JM} (h : Ext j j') {b off len : Nat} {cap : Option Nat} {size : Nat} {c : Value} (r : SlR j b off len cap size c) :
    SlR j' b off len cap size c := by
  obtain ⟨loc, cap', h1, h2⟩ := r
  exact ⟨loc, cap', h _ _ h1, h2⟩

mutual
theorem VR.mono {j j' : JM} (h : Ext j j') : ∀ {v : AV} {c : Value}, VR j v c → VR j' v c
  | .bool _, _, r => r
  | .int _ _, _, r => r
  | .float _ _, _, r => r
  | .str _, _, r => r
  | .nilptr, _, r => r
  | .ptr _ _, _, ⟨loc, a, b⟩ => ⟨loc, h _ _ a, b⟩
  | .nilsl, _, r => r
  | .sl .., _, r => SlR.mono h r
  | .agg _, _, ⟨l, a, b⟩ => ⟨l, a, VRs.mono h b⟩
  | .tup _, _, ⟨l, a, b⟩ => ⟨l, a, VRs.mono h b⟩
  | .nilfn, _, r => r
  | .fn .., _, ⟨l, m, a, b, c⟩ => ⟨l, m, a, VRs.mono h b, VRs.mono h c⟩
  | .niliface, _, r => r
  | .iface _ _, _, ⟨u, a, b⟩ => ⟨u, a, VR.mono h b⟩
  | .sym _ _ _ _, _, r => r
  | .symb _, _, r => r
  | .syms _, _, r => r
theorem VRs.mono {j j' : JM} (h : Ext j j') : ∀ {vs : List AV} {l : List Value}, VRs j vs l → VRs j' vs l
  | [], _, r => r
  | _ :: _, _, ⟨c, cs, a, b, d⟩ => ⟨c, cs, a, VR.mono h b, VRs.mono h d⟩
end

theorem VR.plain {j : JM} {v : AV} {c : Value} (h : VR j v c) : VR j v.plain c := by
  cases v
  case sym => exact h.1
  all_goals exact h

theorem VR.mark {j : JM} {v : AV} {c : Value} (m : Bool) (h : VR j v c) : VR j (v.mark m) c := by
  cases m
  · exact h
  · cases v
    case int => exact ⟨h, InR.none _⟩
    all_goals exact h

theorem VR.inR {j : JM} {v : AV} {c : Value} {k : IntKind} {n : Int} (h : VR j v c) (hp : v.plain = .int k n) : InR n v.rng := by
  cases v <;> simp [AV.plain] at hp
  · obtain ⟨rfl, rfl⟩ := hp
    exact ⟨fun l hl => by simp [AV.rng] at hl; omega, fun l hl => by simp [AV.rng] at hl; omega⟩
  · obtain ⟨rfl, rfl⟩ := hp
    exact h.2

theorem VR.scalar {j j' : JM} : ∀ {v : AV} {c : Value}, v.scalar = true → VR j v c → VR j' v c := by
  intro v c hs r
  cases v <;> simp [AV.scalar] at hs <;> exact r

theorem VRs.scalar {j j' : JM} : ∀ {vs : List AV} {l : List Value}, vs.all AV.scalar = true → VRs j vs l → VRs j' vs l
  | [], _, _, r => r
  | v :: vs, _, hs, ⟨c, cs, a, b, d⟩ => by
    simp only [List.all_cons, Bool.and_eq_true] at hs
    exact ⟨c, cs, a, VR.scalar hs.1 b, VRs.scalar hs.2 d⟩

theorem VRs.frees {j j' : JM} : ∀ {vs : List AV} {l : List Value}, (vs.all fun v => match v with
    | .agg cs => cs.all AV.scalar
    | v => v.scalar) = true → VRs j vs l → VRs j' vs l
  | [], _, _, r => r
  | v :: vs, _, hs, ⟨c, cs, a, b, d⟩ => by
    simp only [List.all_cons, Bool.and_eq_true] at hs
    refine ⟨c, cs, a, ?_, VRs.frees hs.2 d⟩
    cases v with
    | agg cs => obtain ⟨l, e, f⟩ := b; exact ⟨l, e, VRs.scalar hs.1 f⟩
    | _ => exact VR.scalar hs.1 b

theorem VR.frees {j j' : JM} {v : AV} {c : Value} (hs : v.free = true) (r : VR j v c) : VR j' v c := by
  cases v with
  | agg cs => obtain ⟨l, e, f⟩ := r; exact ⟨l, e, VRs.scalar hs f⟩
  | tup vs => obtain ⟨l, e, f⟩ := r; exact ⟨l, e, VRs.frees hs f⟩
  | fn f a b =>
    simp only [AV.free, Bool.and_eq_true] at hs
    obtain ⟨l, m, e, f, g⟩ := r
    exact ⟨l, m, e, VRs.scalar hs.1 f, VRs.scalar hs.2 g⟩
  | _ => exact VR.scalar hs r

theorem VRs.allFree {j j' : JM} : ∀ {vs : List AV} {l : List Value}, vs.all AV.free = true → VRs j vs l → VRs j' vs l
  | [], _, _, r => r
  | v :: vs, _, hs, ⟨c, cs, a, b, d⟩ => by
    simp only [List.all_cons, Bool.and_eq_true] at hs
    exact ⟨c, cs, a, VR.frees hs.1 b, VRs.allFree hs.2 d⟩

theorem VRs.length {j : JM} : ∀ {vs : List AV} {l : List Value}, VRs j vs l → l.length = vs.length
  | [], _, r => by simp only [VRs] at r; simp [r]
  | _ :: _, _, ⟨c, cs, a, _, d⟩ => by subst a; simp [VRs.length d]

theorem VRs.get {j : JM} : ∀ {vs : List AV} {l : List Value}, VRs j vs l → ∀ (i : Nat) (v : AV), vs[i]? = some v → ∃ c, l[i]? = some c ∧ VR j v c
  | [], _, _, i, v, h => by simp at h
  | _ :: _, _, ⟨c, cs, a, b, d⟩, i, v, h => by
    subst a
    cases i with
    | zero => simp only [List.getElem?_cons_zero, Option.some.injEq] at h; subst h; exact ⟨c, rfl, b⟩
    | succ i => simp only [List.getElem?_cons_succ] at h ⊢; exact VRs.get d i v h

theorem VRs.mk {j : JM} : ∀ {vs : List AV} {l : List Value}, l.length = vs.length → (∀ (i : Nat) (v : AV), vs[i]? = some v → ∃ c, l[i]? = some c ∧ VR j v c) → VRs j vs l
  | [], l, hl, _ => by simp only [VRs]; exact List.eq_nil_of_length_eq_zero hl
  | v :: vs, [], hl, _ => by simp at hl
  | v :: vs, c :: cs, hl, h => by
    obtain ⟨c', hc, hv⟩ := h 0 v rfl
    simp only [List.getElem?_cons_zero, Option.some.injEq] at hc
    subst hc
    exact ⟨c, cs, rfl, hv, VRs.mk (by simpa using hl) (fun i v' hi => by simpa using h (i + 1) v' (by simpa using hi))⟩

theorem VRs.append {j : JM} {a b : List AV} {l m : List Value} (h : VRs j a l) (k : VRs j b m) : VRs j (a ++ b) (l ++ m) := by
  induction a generalizing l with
  | nil => simp only [VRs] at h; subst h; exact k
  | cons v vs ih => obtain ⟨c, cs, e, hv, hr⟩ := h; subst e; exact ⟨c, cs ++ m, rfl, hv, ih hr⟩

theorem VRs.take {j : JM} : ∀ {vs : List AV} {l : List Value} (n : Nat), VRs j vs l → VRs j (vs.take n) (l.take n)
  | [], _, n, h => by simp only [VRs] at h; subst h; simp [VRs]
  | _ :: _, _, 0, _ => by simp [VRs]
  | _ :: _, _, n + 1, ⟨c, cs, a, b, d⟩ => by subst a; exact ⟨c, cs.take n, rfl, b, VRs.take n d⟩

theorem VRs.drop {j : JM} : ∀ {vs : List AV} {l : List Value} (n : Nat), VRs j vs l → VRs j (vs.drop n) (l.drop n)
  | [], _, n, h => by simp only [VRs] at h; subst h; simp [VRs]
  | _ :: _, _, 0, h => by simpa using h
  | _ :: _, _, n + 1, ⟨c, cs, a, _, d⟩ => by subst a; simpa using VRs.drop n d

theorem VR.cells {j : JM} {v : AV} {c : Value} (h : VR j v c) : VRs j v.cells c.cells.toList := by
  cases v with
  | agg cs => obtain ⟨l, e, f⟩ := h; subst e; exact f
  | sl b off len cap size =>
    have h0 := h
    obtain ⟨loc, cap', _, _, _, _, e | ⟨_, a, e⟩⟩ := h <;> subst e <;> exact ⟨_, [], rfl, h0, rfl⟩
  | ptr b off => have h0 := h; obtain ⟨loc, _, e⟩ := h; subst e; exact ⟨_, [], rfl, h0, rfl⟩
  | tup vs => have h0 := h; obtain ⟨l, e, _⟩ := h; subst e; exact ⟨_, [], rfl, h0, rfl⟩
  | fn f a b => have h0 := h; obtain ⟨l, m, e, _⟩ := h; subst e; exact ⟨_, [], rfl, h0, rfl⟩
  | iface t v => have h0 := h; obtain ⟨u, e, _⟩ := h; subst e; exact ⟨_, [], rfl, h0, rfl⟩
  | sym k n lo hi => have h0 := h; obtain ⟨e, _⟩ := h; subst e; exact ⟨_, [], rfl, h0, rfl⟩
  | _ => have h0 := h; simp only [VR] at h; subst h; exact ⟨_, [], rfl, h0, rfl⟩

theorem VR.one {j : JM} {v : AV} {c : Value} (h : VR j v c) (ho : v.one = true) : c.oneCell' = true := by
  cases v with
  | agg cs => simp [AV.one] at ho
  | sl b off len cap size =>
    obtain ⟨loc, cap', _, _, _, _, e | ⟨_, a, e⟩⟩ := h <;> subst e <;> rfl
  | ptr b off => obtain ⟨loc, _, e⟩ := h; subst e; rfl
  | tup vs => simp [AV.one] at ho
  | fn f a b => obtain ⟨l, m, e, _⟩ := h; subst e; rfl
  | iface t v => obtain ⟨u, e, _⟩ := h; subst e; rfl
  | sym k n lo hi => obtain ⟨e, _⟩ := h; subst e; rfl
  | _ => simp only [VR] at h; subst h; rfl

theorem VR.one_cells {j : JM} {v : AV} {c : Value} (h : VR j v c) (ho : v.one = true) : c.cells = #[c] ∧ v.cells = [v] := by
  constructor
  · have := VR.one h ho
    cases c <;> simp [Value.oneCell'] at this <;> rfl
  · cases v <;> simp [AV.one] at ho <;> rfl

/-! ### the heap's tree -/
theorem Tr.get_nil {α : Type} (k : Nat) : (Tr.nil : Tr α).get k = none := rfl

theorem Tr.get_nd {α : Type} (v : Option α) (l r : Tr α) (k : Nat) : (Tr.nd v l r).get k = if k = 0 then v else if k % 2 = 1 then l.get (k / 2) else r.get (k / 2 - 1) := by
  simp only [Tr.get, cond_eq_ite, Nat.beq_eq]
  rfl

theorem Tr.set_nd {α : Type} (f : Nat) (v : Option α) (l r : Tr α) (k : Nat) (x : Option α) : (Tr.nd v l r).set (f + 1) k x =
    if k = 0 then .nd x l r else if k % 2 = 1 then .nd v (l.set f (k / 2) x) r else .nd v l (r.set f (k / 2 - 1) x) := by
  simp only [Tr.set, cond_eq_ite, Nat.beq_eq]
  rfl

theorem Tr.set_nil {α : Type} (f : Nat) (k : Nat) (x : Option α) : (Tr.nil : Tr α).set (f + 1) k x =
    if k = 0 then .nd x .nil .nil else if k % 2 = 1 then .nd none (Tr.nil.set f (k / 2) x) .nil else .nd none .nil (Tr.nil.set f (k / 2 - 1) x) := by
  simp only [Tr.set, cond_eq_ite, Nat.beq_eq]
  rfl

theorem Tr.get_set {α : Type} : ∀ (f : Nat) (t : Tr α) (k : Nat) (x : Option α) (m : Nat), k < f → (t.set f k x).get m = if m = k then x else t.get m
  | 0, _, _, _, _, h => by omega
  | f + 1, .nil, k, x, m, h => by
    rw [Tr.set_nil]
    by_cases hk : k = 0
    · subst hk
      simp only [if_true, Tr.get_nd, Tr.get_nil]
      by_cases hm : m = 0 <;> simp [hm]
    · rw [if_neg hk]
      by_cases ho : k % 2 = 1
      · simp only [ho, if_true, Tr.get_nd, Tr.get_nil]
        by_cases hm : m = 0
        · subst hm; simp; omega
        · by_cases hmo : m % 2 = 1
          · simp only [hm, hmo, if_true, if_false]
            rw [Tr.get_set f .nil _ x _ (by omega)]
            simp only [Tr.get_nil]
            by_cases e : m = k
            · subst e; simp
            · rw [if_neg (by omega), if_neg e]
          · simp only [hm, hmo, if_false]
            rw [if_neg (by omega)]
      · simp only [ho, if_false, Tr.get_nd, Tr.get_nil]
        by_cases hm : m = 0
        · subst hm; simp; omega
        · by_cases hmo : m % 2 = 1
          · simp only [hm, hmo, if_true, if_false]
            rw [if_neg (by omega)]
          · simp only [hm, hmo, if_false]
            rw [Tr.get_set f .nil _ x _ (by omega)]
            simp only [Tr.get_nil]
            by_cases e : m = k
            · subst e; simp
            · rw [if_neg (by omega), if_neg e]
  | f + 1, .nd v l r, k, x, m, h => by
    rw [Tr.set_nd]
    by_cases hk : k = 0
    · subst hk
      simp only [if_true, Tr.get_nd]
      by_cases hm : m = 0 <;> simp [hm]
    · rw [if_neg hk]
      by_cases ho : k % 2 = 1
      · simp only [ho, if_true, Tr.get_nd]
        by_cases hm : m = 0
        · subst hm; simp; omega
        · by_cases hmo : m % 2 = 1
          · simp only [hm, hmo, if_true, if_false]
            rw [Tr.get_set f l _ x _ (by omega)]
            by_cases e : m = k
            · subst e; simp
            · rw [if_neg (by omega), if_neg e]
          · simp only [hm, hmo, if_false]
            rw [if_neg (by omega)]
      · simp only [ho, if_false, Tr.get_nd]
        by_cases hm : m = 0
        · subst hm; simp; omega
        · by_cases hmo : m % 2 = 1
          · simp only [hm, hmo, if_true, if_false]
            rw [if_neg (by omega)]
          · simp only [hm, hmo, if_false]
            rw [Tr.get_set f r _ x _ (by omega)]
            by_cases e : m = k
            · subst e; simp
            · rw [if_neg (by omega), if_neg e]

@[simp] theorem Heap.get_setTo (h : Heap) (b : Nat) (x : Option (List AV)) (m : Nat) : (h.setTo b x).get m = if m = b then x else h.get m :=
  Tr.get_set _ _ _ _ _ (by omega)
@[simp] theorem Heap.get_push (h : Heap) (cs : List AV) (m : Nat) : (h.push cs).get m = if m = h.next then some cs else h.get m :=
  Tr.get_set _ _ _ _ _ (by omega)
@[simp] theorem Heap.next_setTo (h : Heap) (b : Nat) (x : Option (List AV)) : (h.setTo b x).next = h.next := rfl
@[simp] theorem Heap.ro_setTo (h : Heap) (b : Nat) (x : Option (List AV)) : (h.setTo b x).ro = h.ro := rfl
@[simp] theorem Heap.next_push (h : Heap) (cs : List AV) : (h.push cs).next = h.next + 1 := rfl
@[simp] theorem Heap.ro_push (h : Heap) (cs : List AV) : (h.push cs).ro = h.ro := rfl
@[simp] theorem Heap.get_frz (h : Heap) (m : Nat) : h.frz.get m = h.get m := rfl
@[simp] theorem Heap.next_frz (h : Heap) : h.frz.next = h.next := rfl
@[simp] theorem Heap.ro_frz (h : Heap) : h.frz.ro = h.next := rfl
@[simp] theorem Heap.get_withLog (h : Heap) (l : List Nat) (m : Nat) : (h.withLog l).get m = h.get m := rfl
@[simp] theorem Heap.next_withLog (h : Heap) (l : List Nat) : (h.withLog l).next = h.next := rfl
@[simp] theorem Heap.ro_withLog (h : Heap) (l : List Nat) : (h.withLog l).ro = h.ro := rfl
@[simp] theorem Heap.log_withLog (h : Heap) (l : List Nat) : (h.withLog l).log = l := rfl
@[simp] theorem Heap.log_push (h : Heap) (cs : List AV) : (h.push cs).log = h.log := rfl
@[simp] theorem Heap.log_setTo (h : Heap) (b : Nat) (x : Option (List AV)) : (h.setTo b x).log = b :: h.log := rfl
@[simp] theorem Heap.log_frz (h : Heap) : h.frz.log = h.log := rfl
@[simp] theorem Heap.get_empty (m : Nat) : Heap.empty.get m = none := rfl
@[simp] theorem Heap.next_empty : Heap.empty.next = 0 := rfl
@[simp] theorem Heap.ro_empty : Heap.empty.ro = 0 := rfl

/-! ### memory -/
structure WR (j : JM) (H : Heap) (w : World) : Prop where
  dom : ∀ b loc, j b = some loc → b < H.next
  hdom : ∀ b cs, H.get b = some cs → b < H.next
  cell : ∀ b cs, H.get b = some cs → ∃ loc, j b = some loc ∧ loc.blk < w.heap.size ∧ cs.length ≤ loc.ext ∧
    ∀ i x, cs[i]? = some x → ∃ c, w.cell? ⟨loc.blk, loc.off + i, none⟩ = some c ∧ VR j x c
  own : ∀ b cs loc, H.ro ≤ b → H.get b = some cs → j b = some loc → ∀ i, i < loc.ext →
    (∃ c, w.cell? ⟨loc.blk, loc.off + i, none⟩ = some c) ∧ w.frozen? ⟨loc.blk, loc.off + i, none⟩ = false
  apart : ∀ b b' cs cs' loc loc', H.ro ≤ b → b ≠ b' → H.get b = some cs → H.get b' = some cs' → j b = some loc → j b' = some loc' → loc.blk ≠ loc'.blk

def Own (j : JM) (H : Heap) (k : Nat) : Prop := ∃ b cs loc, H.ro ≤ b ∧ H.get b = some cs ∧ j b = some loc ∧ loc.blk = k

structure Trans (j : JM) (H : Heap) (w : World) (j' : JM) (H' : Heap) (w' : World) : Prop where
  ext : Ext j j'
  wr : WR j' H' w'
  ro : H'.ro = H.ro
  next : H.next ≤ H'.next
  os : w'.os = w.os
  tape : w'.tape = w.tape
  output : w'.output = w.output
  size : w.heap.size ≤ w'.heap.size
  keep : ∀ k, k < w.heap.size → ¬ Own j H k → w'.heap[k]? = w.heap[k]?
  grow : ∀ k, k < w.heap.size → Own j' H' k → Own j H k

theorem Trans.refl {j : JM} {H : Heap} {w : World} (h : WR j H w) : Trans j H w j H w :=
  ⟨Ext.refl j, h, rfl, Nat.le_refl _, rfl, rfl, rfl, Nat.le_refl _, fun _ _ _ => rfl, fun _ _ h => h⟩

theorem Trans.trans {j j1 j2 : JM} {H H1 H2 : Heap} {w w1 w2 : World} (a : Trans j H w j1 H1 w1) (b : Trans j1 H1 w1 j2 H2 w2) : Trans j H w j2 H2 w2 where
  ext := a.ext.trans b.ext
  wr := b.wr
  ro := b.ro.trans a.ro
  next := Nat.le_trans a.next b.next
  os := b.os.trans a.os
  tape := b.tape.trans a.tape
  output := b.output.trans a.output
  size := Nat.le_trans a.size b.size
  keep := fun k hk hn => (b.keep k (Nat.lt_of_lt_of_le hk a.size) (fun ho => hn (a.grow k hk ho))).trans (a.keep k hk hn)
  grow := fun k hk ho => a.grow k hk (b.grow k (Nat.lt_of_lt_of_le hk a.size) ho)

theorem cell?_of_heap {w w' : World} {a : Addr} (h : w'.heap[a.block]? = w.heap[a.block]?) : w'.cell? a = w.cell? a := by
  simp only [World.cell?, h]
theorem frozen?_of_heap {w w' : World} {a : Addr} (h : w'.heap[a.block]? = w.heap[a.block]?) : w'.frozen? a = w.frozen? a := by
  simp only [World.frozen?, h]

/-- a world whose old blocks that matter are as they were -/
theorem WR.of_heap {j : JM} {H : Heap} {w w' : World} (h : WR j H w) (hs : w.heap.size ≤ w'.heap.size)
    (hk : ∀ b cs loc, H.get b = some cs → j b = some loc → w'.heap[loc.blk]? = w.heap[loc.blk]?) : WR j H w' where
  dom := h.dom
  hdom := h.hdom
  cell := fun b cs hb => by
    obtain ⟨loc, hj, hl, he, hc⟩ := h.cell b cs hb
    refine ⟨loc, hj, Nat.lt_of_lt_of_le hl hs, he, fun i x hx => ?_⟩
    obtain ⟨c, h1, h2⟩ := hc i x hx
    exact ⟨c, by rw [cell?_of_heap (hk b cs loc hb hj)]; exact h1, h2⟩
  own := fun b cs loc hr hb hj i hi => by
    obtain ⟨h1, h2⟩ := h.own b cs loc hr hb hj i hi
    exact ⟨by rw [cell?_of_heap (hk b cs loc hb hj)]; exact h1, by rw [frozen?_of_heap (hk b cs loc hb hj)]; exact h2⟩
  apart := h.apart

theorem WR.empty (w : World) : WR (fun _ => none) Heap.empty w where
  dom := fun _ _ h => by simp at h
  hdom := fun _ _ h => by simp at h
  cell := fun _ _ h => by simp at h
  own := fun _ _ _ _ h => by simp at h
  apart := fun _ _ _ _ _ _ _ _ h => by simp at h

theorem WR.frz {j : JM} {H : Heap} {w : World} (h : WR j H w) : WR j H.frz w where
  dom := h.dom
  hdom := h.hdom
  cell := h.cell
  own := fun b cs loc hr hb => by have := h.hdom b cs hb; simp at hr; omega
  apart := fun b b' cs cs' loc loc' hr hne hb => by have := h.hdom b cs hb; simp at hr; omega

def upd (j : JM) (b : Nat) (loc : Loc) : JM := fun k => if k = b then some loc else j k

theorem upd_ext {j : JM} {H : Heap} {w : World} (h : WR j H w) (loc : Loc) : Ext j (upd j H.next loc) := by
  intro b l hb
  have := h.dom b l hb
  simp only [upd]
  rw [if_neg (by omega)]
  exact hb

/-- a new block -/
theorem Trans.push {j : JM} {H : Heap} {w w' : World} (h : WR j H w) (cs : List AV) (l : List Value) (ext : List Value) (elem : TypeId) (fz : Nat × Nat)
    (hl : VRs j cs l) (hh : w'.heap = w.heap.push (.cells (l ++ ext).toArray elem fz)) (hfz : fz.2 ≤ fz.1 ∨ (l ++ ext).length ≤ fz.1) (hos : w'.os = w.os) (ht : w'.tape = w.tape) (ho : w'.output = w.output) :
    Trans j H w (upd j H.next ⟨w.heap.size, 0, (l ++ ext).length⟩) (H.push cs) w' := by
  have hlen := VRs.length hl
  have hnew : w'.heap[w.heap.size]? = some (.cells (l ++ ext).toArray elem fz) := by rw [hh]; simp
  have hold : ∀ k, k < w.heap.size → w'.heap[k]? = w.heap[k]? := fun k hk => by rw [hh]; exact Array.getElem?_push_lt hk ▸ (Array.getElem?_eq_getElem hk).symm ▸ rfl
  have hsz : w'.heap.size = w.heap.size + 1 := by rw [hh]; simp
  have hext := upd_ext h ⟨w.heap.size, 0, (l ++ ext).length⟩
  have blk_lt : ∀ b cs0 loc, H.get b = some cs0 → upd j H.next ⟨w.heap.size, 0, (l ++ ext).length⟩ b = some loc → b ≠ H.next → j b = some loc ∧ loc.blk < w.heap.size := by
    intro b cs0 loc hb hj hne
    simp only [upd, hne, if_false] at hj
    obtain ⟨loc', hj', hl', _⟩ := h.cell b cs0 hb
    rw [hj] at hj'
    obtain rfl := Option.some.inj hj'
    exact ⟨hj, hl'⟩
  refine ⟨hext, ⟨?_, ?_, ?_, ?_, ?_⟩, rfl, by simp, hos, ht, ho, by omega, fun k hk _ => hold k hk, ?_⟩
  · intro b loc hb
    simp only [upd] at hb
    split at hb
    · simp; omega
    · have := h.dom b loc hb; simp; omega
  · intro b cs0 hb
    simp only [Heap.get_push] at hb
    split at hb
    · simp; omega
    · have := h.hdom b cs0 hb; simp; omega
  · intro b cs0 hb
    simp only [Heap.get_push] at hb
    split at hb
    · rename_i e
      subst e
      obtain rfl := Option.some.inj hb
      refine ⟨⟨w.heap.size, 0, (l ++ ext).length⟩, by simp [upd], by show w.heap.size < w'.heap.size; omega, by simp [hlen], fun i x hx => ?_⟩
      obtain ⟨c, hc, hv⟩ := VRs.get hl i x hx
      refine ⟨c, ?_, VR.mono hext hv⟩
      have hi : i < l.length := by
        rcases Nat.lt_or_ge i l.length with hlt | hge
        · exact hlt
        · rw [List.getElem?_eq_none hge] at hc; simp at hc
      simp only [World.cell?, hnew, Nat.zero_add, Option.isSome_none, Bool.false_eq_true, if_false, List.getElem?_toArray]
      rw [List.getElem?_append_left hi]
      exact hc
    · rename_i e
      obtain ⟨loc, hj, hlt, he, hc⟩ := h.cell b cs0 hb
      refine ⟨loc, by simp [upd, e, hj], by omega, he, fun i x hx => ?_⟩
      obtain ⟨c, h1, h2⟩ := hc i x hx
      exact ⟨c, by rw [cell?_of_heap (hold _ hlt)]; exact h1, VR.mono hext h2⟩
  · intro b cs0 loc hr hb hj i hi
    simp only [Heap.get_push] at hb
    split at hb
    · rename_i e
      subst e
      simp only [upd, if_true] at hj
      obtain rfl := Option.some.inj hj
      simp only at hi
      refine ⟨⟨(l ++ ext)[i], ?_⟩, ?_⟩
      · simp only [World.cell?, hnew, Nat.zero_add, Option.isSome_none, Bool.false_eq_true, if_false, List.getElem?_toArray]
        exact List.getElem?_eq_getElem hi
      · simp only [World.frozen?, hnew, Nat.zero_add]
        rcases hfz with hz | hz
        · have : ¬ (fz.1 ≤ i ∧ i < fz.2) := by omega
          simp; omega
        · simp; omega
    · rename_i e
      obtain ⟨hj', hlt⟩ := blk_lt b cs0 loc hb hj e
      obtain ⟨h1, h2⟩ := h.own b cs0 loc hr hb hj' i hi
      exact ⟨by rw [cell?_of_heap (hold _ hlt)]; exact h1, by rw [frozen?_of_heap (hold _ hlt)]; exact h2⟩
  · intro b b' cs1 cs2 loc loc' hr hne hb hb' hj hj'
    simp only [Heap.get_push] at hb hb'
    split at hb
    · rename_i e
      split at hb'
      · omega
      · rename_i e'
        obtain ⟨_, hlt⟩ := blk_lt b' cs2 loc' hb' hj' e'
        subst e
        simp only [upd, if_true] at hj
        obtain rfl := Option.some.inj hj
        simp only
        omega
    · rename_i e
      obtain ⟨hj1, hlt⟩ := blk_lt b cs1 loc hb hj e
      split at hb'
      · rename_i e'
        subst e'
        simp only [upd, if_true] at hj'
        obtain rfl := Option.some.inj hj'
        simp only
        omega
      · rename_i e'
        obtain ⟨hj2, _⟩ := blk_lt b' cs2 loc' hb' hj' e'
        exact h.apart b b' cs1 cs2 loc loc' hr hne hb hb' hj1 hj2
  · rintro k hk ⟨b, cs0, loc, hr, hb, hj, rfl⟩
    simp only [Heap.get_push] at hb
    split at hb
    · rename_i e
      subst e
      simp only [upd, if_true] at hj
      obtain rfl := Option.some.inj hj
      simp only at hk
      omega
    · rename_i e
      obtain ⟨hj', _⟩ := blk_lt b cs0 loc hb hj e
      exact ⟨b, cs0, loc, hr, hb, hj', rfl⟩

end Go.Ev
