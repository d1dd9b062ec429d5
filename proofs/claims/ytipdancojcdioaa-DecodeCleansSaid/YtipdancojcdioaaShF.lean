/- States of the shallow reading and of the evaluator: their relation, and what keeps it. No condition. -/
import Derived.Test.YtipdancojcdioaaShE
namespace Go.Sh
set_option linter.unusedVariables false
set_option linter.unusedSimpArgs false
open Go Go.Ev

/-- what stays as it is all along a body -/
structure Fr where
  H0 : Heap
  F0 : Nat → Prop
  n0 : Nat
  Lg : List Nat

def BR (r : RM) (H : Heap) (w : W) : Cont → Prop
  | .one v => w.virt = false ∧ ∃ u pre post, VR r v u ∧ H.get w.hb = some (pre ++ (u.cells ++ post)) ∧ pre.length = w.base
  | .many t xs => w.len = xs.length ∧ w.size = t.size ∧ 0 < t.size ∧ ((w.virt = true ∧ xs = []) ∨
      (w.virt = false ∧ ∃ pre post, H.get w.hb = some (pre ++ (xs.flatMap t.cells ++ post)) ∧ pre.length = w.base))

structure Rel (P : Fr) (r : RM) (s : St) (e : Env) (H : Heap) : Prop where
  er : ∀ t v, s.env.get t = some v → ∃ u, lk e t = some u ∧ VR r v u
  br : ∀ b k, s.heap.get b = some k → ∃ w, r b = some w ∧ BR r H w k.c ∧ b < s.next ∧ (w.virt = false → w.hb < H.next ∧ (k.own = true → H.ro ≤ w.hb ∧ (P.F0 w.hb ∨ P.H0.next ≤ w.hb)))
  dm : ∀ b w, r b = some w → b < s.next
  ap : ∀ b b' k k' w w', b ≠ b' → s.heap.get b = some k → s.heap.get b' = some k' → (k.own = true ∨ k'.own = true) → r b = some w → r b' = some w' → w.virt = false → w'.virt = false → w.hb ≠ w'.hb
  nx : P.H0.next ≤ H.next
  ro : H.ro = P.H0.ro
  fr : ∀ x, x < P.H0.next → ¬ P.F0 x → H.get x = P.H0.get x
  st : s.start ≤ s.next
  rn : P.H0.ro ≤ P.H0.next
  lg : ∃ l, H.log = l ++ P.Lg ∧ (∀ x ∈ l, P.F0 x ∨ P.H0.next ≤ x) ∧ ∀ b k w, s.heap.get b = some k → r b = some w → w.virt = false → b < s.start → b ∉ s.log → w.hb < P.n0 ∧ w.hb ∉ l

/-- what a step leaves of a state -/
structure Kp (s s' : St) : Prop where
  next : s.next ≤ s'.next
  start : s'.start = s.start
  log : ∃ l, s'.log = l ++ s.log ∧ ∀ b, b < s.next → b ∉ l → s'.heap.get b = s.heap.get b

theorem Kp.refl (s : St) : Kp s s := ⟨Nat.le_refl _, rfl, [], rfl, fun _ _ _ => rfl⟩
theorem Kp.trans {a b c : St} (h : Kp a b) (k : Kp b c) : Kp a c := by
  obtain ⟨l, h1, h2⟩ := h.log
  obtain ⟨m, k1, k2⟩ := k.log
  refine ⟨Nat.le_trans h.next k.next, k.start.trans h.start, m ++ l, by rw [k1, h1, List.append_assoc], fun x hx hn => ?_⟩
  rw [List.mem_append, not_or] at hn
  rw [k2 x (Nat.lt_of_lt_of_le hx h.next) hn.1, h2 x hx hn.2]

@[simp] theorem heap_setB (s : St) (b : Nat) (x : Option Blk) (m : Nat) : (s.setB b x).heap.get m = if m = b then x else s.heap.get m :=
  Tr.get_set _ _ _ _ _ (by omega)
@[simp] theorem heap_push (s : St) (x : Blk) (m : Nat) : (s.push x).heap.get m = if m = s.next then some x else s.heap.get m :=
  Tr.get_set _ _ _ _ _ (by omega)
@[simp] theorem next_setB (s : St) (b : Nat) (x : Option Blk) : (s.setB b x).next = s.next := rfl
@[simp] theorem next_push (s : St) (x : Blk) : (s.push x).next = s.next + 1 := rfl
@[simp] theorem start_setB (s : St) (b : Nat) (x : Option Blk) : (s.setB b x).start = s.start := rfl
@[simp] theorem start_push (s : St) (x : Blk) : (s.push x).start = s.start := rfl
@[simp] theorem log_setB (s : St) (b : Nat) (x : Option Blk) : (s.setB b x).log = b :: s.log := rfl
@[simp] theorem log_push (s : St) (x : Blk) : (s.push x).log = s.log := rfl
@[simp] theorem env_setB (s : St) (b : Nat) (x : Option Blk) : (s.setB b x).env = s.env := rfl
@[simp] theorem env_push (s : St) (x : Blk) : (s.push x).env = s.env := rfl
@[simp] theorem heap_put (s : St) (d : Option Nat) (v : SV) : (s.put d v).heap = s.heap := by cases d <;> rfl
@[simp] theorem next_put (s : St) (d : Option Nat) (v : SV) : (s.put d v).next = s.next := by cases d <;> rfl
@[simp] theorem start_put (s : St) (d : Option Nat) (v : SV) : (s.put d v).start = s.start := by cases d <;> rfl
@[simp] theorem log_put (s : St) (d : Option Nat) (v : SV) : (s.put d v).log = s.log := by cases d <;> rfl

theorem Kp.setB (s : St) (b : Nat) (x : Option Blk) : Kp s (s.setB b x) :=
  ⟨Nat.le_refl _, rfl, [b], rfl, fun m _ hm => by simp at hm; simp [hm]⟩
theorem Kp.push (s : St) (x : Blk) : Kp s (s.push x) :=
  ⟨Nat.le_succ _, rfl, [], rfl, fun m h _ => by simp; omega⟩
theorem Kp.put (s : St) (d : Option Nat) (v : SV) : Kp s (s.put d v) :=
  ⟨by simp, by simp, [], by simp, fun m _ _ => by simp⟩

theorem env_put (s : St) (d : Option Nat) (v : SV) (t : Nat) : (s.put d v).env.get t = if d = some t then some v else s.env.get t := by
  cases d with
  | none => simp [St.put]
  | some d =>
    simp only [St.put, Option.some.injEq]
    rw [Tr.get_set _ _ _ _ _ (by omega)]
    simp only [eq_comm]

def upd (r : RM) (b : Nat) (w : W) : RM := fun x => if x = b then some w else r x

section
variable {P : Fr} {r : RM} {s : St} {e : Env} {H : Heap}

theorem Rel.upd_ext (h : Rel P r s e H) (w : W) : Ext r (upd r s.next w) := by
  intro b w' hb
  have := h.dm b w' hb
  simp only [upd]
  rw [if_neg (by omega)]
  exact hb

theorem BR.mono {r' : RM} {H' : Heap} {w : W} {c : Cont} (he : Ext r r') (hg : w.virt = false → H'.get w.hb = H.get w.hb) (h : BR r H w c) : BR r' H' w c := by
  cases c with
  | one v =>
    obtain ⟨h0, u, cs, ds, h1, h2, h3⟩ := h
    exact ⟨h0, u, cs, ds, h1.mono he, by rw [hg h0]; exact h2, h3⟩
  | many t xs =>
    obtain ⟨h0, h1, h2, h3⟩ := h
    refine ⟨h0, h1, h2, ?_⟩
    rcases h3 with h3 | ⟨h3, cs, ds, h4, h5⟩
    · exact .inl h3
    · exact .inr ⟨h3, cs, ds, by rw [hg h3]; exact h4, h5⟩

theorem Rel.put (h : Rel P r s e H) (d : Option Nat) {v : SV} {u : AV} (hv : VR r v u) : Rel P r (s.put d v) (putE e d u) H := by
  refine ⟨fun t x hx => ?_, fun b k hk => ?_, fun b w hb => by simpa using h.dm b w hb, fun b b' k k' w w' hne h1 h2 => ?_, h.nx, h.ro, h.fr, by simpa using h.st, h.rn, ?_⟩
  · rw [env_put] at hx
    rw [lk_put]
    split at hx
    · rename_i hd
      obtain rfl := Option.some.inj hx
      rw [if_pos hd]
      exact ⟨u, rfl, hv⟩
    · rename_i hd
      rw [if_neg hd]
      exact h.er t x hx
  · simpa using h.br b k (by simpa using hk)
  · exact h.ap b b' k k' w w' hne (by simpa using h1) (by simpa using h2)
  · simpa using h.lg

theorem mem_append_iff {x : Nat} {a b : List Nat} : x ∈ a ++ b ↔ x ∈ a ∨ x ∈ b := List.mem_append

/-- a new block, of cells of its own -/
theorem Rel.push (h : Rel P r s e H) {cs : List AV} {c : Cont} {len size : Nat} (hb : BR (upd r s.next ⟨false, H.next, 0, len, size⟩) (H.push cs) ⟨false, H.next, 0, len, size⟩ c) :
    Rel P (upd r s.next ⟨false, H.next, 0, len, size⟩) (s.push ⟨true, c⟩) e (H.push cs) := by
  have hext := h.upd_ext ⟨false, H.next, 0, len, size⟩
  have hold : ∀ b k, b ≠ s.next → (s.push ⟨true, c⟩).heap.get b = some k → s.heap.get b = some k := fun b k hne hk => by
    simpa [hne] using hk
  refine ⟨fun t x hx => ?_, fun b k hk => ?_, fun b w hw => ?_, fun b b' k k' w w' hne h1 h2 hown hw hw' hv hv' => ?_, by simp; exact Nat.le_succ_of_le h.nx, h.ro, fun x hx hf => ?_, by simp; exact Nat.le_succ_of_le h.st, h.rn, ?_⟩
  · obtain ⟨u, h1, h2⟩ := h.er t x hx
    exact ⟨u, h1, h2.mono hext⟩
  · by_cases hne : b = s.next
    · subst hne
      simp only [heap_push, if_true, Option.some.injEq] at hk
      subst hk
      refine ⟨_, by simp [upd], hb, by simp, fun _ => ⟨by simp, fun _ => ⟨?_, .inr h.nx⟩⟩⟩
      simp only [Heap.ro_push]; rw [h.ro]; exact Nat.le_trans h.rn h.nx
    · obtain ⟨w, h1, h2, h3, h4⟩ := h.br b k (hold b k hne hk)
      refine ⟨w, hext b w h1, BR.mono hext (fun hv => ?_) h2, by simp; omega, fun hv => ⟨by have := (h4 hv).1; simp; omega, (h4 hv).2⟩⟩
      have := (h4 hv).1
      simp; omega
  · simp only [upd] at hw
    split at hw
    · simp; omega
    · have := h.dm b w hw; simp; omega
  · have lt : ∀ b k w, b ≠ s.next → (s.push ⟨true, c⟩).heap.get b = some k → upd r s.next ⟨false, H.next, 0, len, size⟩ b = some w → w.virt = false → r b = some w ∧ w.hb < H.next := by
      intro b k w hb hk hw hv
      simp only [upd, if_neg hb] at hw
      obtain ⟨w2, h1, _, _, h4⟩ := h.br b k (hold b k hb hk)
      rw [hw] at h1
      obtain rfl := Option.some.inj h1
      exact ⟨hw, (h4 hv).1⟩
    by_cases hb : b = s.next
    · have hb' : b' ≠ s.next := fun h => hne (hb.trans h.symm)
      have := (lt b' k' w' hb' h2 hw' hv').2
      subst hb
      simp only [upd, if_true, Option.some.injEq] at hw
      subst hw
      simp only
      omega
    · by_cases hb' : b' = s.next
      · have := (lt b k w hb h1 hw hv).2
        subst hb'
        simp only [upd, if_true, Option.some.injEq] at hw'
        subst hw'
        simp only
        omega
      · exact h.ap b b' k k' w w' hne (hold b k hb h1) (hold b' k' hb' h2) hown (lt b k w hb h1 hw hv).1 (lt b' k' w' hb' h2 hw' hv').1 hv hv'
  · have := h.nx
    simp only [Heap.get_push]
    rw [if_neg (by omega)]
    exact h.fr x hx hf
  · obtain ⟨l, h1, h2, h3⟩ := h.lg
    refine ⟨l, by simpa using h1, h2, fun b k w hk hw hv hlt hnl => ?_⟩
    simp only [start_push, log_push] at hlt hnl
    have hne : b ≠ s.next := by have := h.st; omega
    simp only [upd, if_neg hne] at hw
    exact h3 b k w (hold b k hne hk) hw hv hlt hnl

/-- a new block without cells: a slice that is nil -/
theorem Rel.pushNil (h : Rel P r s e H) {t : Ty} (ht : 0 < t.size) (own : Bool) :
    Rel P (upd r s.next ⟨true, 0, 0, 0, t.size⟩) (s.push ⟨own, .many t []⟩) e H := by
  have hext := h.upd_ext ⟨true, 0, 0, 0, t.size⟩
  have hold : ∀ b k, b ≠ s.next → (s.push ⟨own, .many t []⟩).heap.get b = some k → s.heap.get b = some k := fun b k hne hk => by
    simpa [hne] using hk
  have hne : ∀ b w, upd r s.next ⟨true, 0, 0, 0, t.size⟩ b = some w → w.virt = false → b ≠ s.next ∧ r b = some w := by
    intro b w hw hv
    simp only [upd] at hw
    split at hw
    · obtain rfl := Option.some.inj hw; simp at hv
    · exact ⟨by assumption, hw⟩
  refine ⟨fun t x hx => ?_, fun b k hk => ?_, fun b w hw => ?_, fun b b' k k' w w' hn h1 h2 hown hw hw' hv hv' => ?_, h.nx, h.ro, h.fr, by simp; exact Nat.le_succ_of_le h.st, h.rn, ?_⟩
  · obtain ⟨u, h1, h2⟩ := h.er t x hx
    exact ⟨u, h1, h2.mono hext⟩
  · by_cases hb : b = s.next
    · subst hb
      simp only [heap_push, if_true, Option.some.injEq] at hk
      subst hk
      exact ⟨⟨true, 0, 0, 0, t.size⟩, by simp [upd], ⟨rfl, rfl, ht, .inl ⟨rfl, rfl⟩⟩, by simp, fun hv => by simp at hv⟩
    · obtain ⟨w, h1, h2, h3, h4⟩ := h.br b k (hold b k hb hk)
      exact ⟨w, hext b w h1, BR.mono hext (fun _ => rfl) h2, by simp; omega, h4⟩
  · simp only [upd] at hw
    split at hw
    · simp; omega
    · have := h.dm b w hw; simp; omega
  · obtain ⟨g1, g2⟩ := hne b w hw hv
    obtain ⟨g3, g4⟩ := hne b' w' hw' hv'
    exact h.ap b b' k k' w w' hn (hold b k g1 h1) (hold b' k' g3 h2) hown g2 g4 hv hv'
  · obtain ⟨l, h1, h2, h3⟩ := h.lg
    refine ⟨l, h1, h2, fun b k w hk hw hv hlt hnl => ?_⟩
    obtain ⟨g1, g2⟩ := hne b w hw hv
    exact h3 b k w (hold b k g1 hk) g2 hv hlt hnl

/-- a block that is no longer known -/
theorem Rel.del (h : Rel P r s e H) (b : Nat) : Rel P r (s.setB b none) e H := by
  have hold : ∀ m k, (s.setB b none).heap.get m = some k → m ≠ b ∧ s.heap.get m = some k := fun m k hk => by
    simp only [heap_setB] at hk
    split at hk
    · simp at hk
    · exact ⟨by assumption, hk⟩
  refine ⟨h.er, fun m k hk => h.br m k (hold m k hk).2, h.dm, fun m m' k k' w w' hn h1 h2 => h.ap m m' k k' w w' hn (hold m k h1).2 (hold m' k' h2).2, h.nx, h.ro, h.fr, h.st, h.rn, ?_⟩
  obtain ⟨l, h1, h2, h3⟩ := h.lg
  refine ⟨l, h1, h2, fun m k w hk hw hv hlt hnl => ?_⟩
  simp only [log_setB, List.mem_cons, not_or] at hnl
  exact h3 m k w (hold m k hk).2 hw hv hlt hnl.2

/-- a block of one's own is written: other cells, or none any more -/
theorem Rel.write (h : Rel P r s e H) {b : Nat} {w : W} {k : Blk} (hk : s.heap.get b = some k) (hown : k.own = true) (hw : r b = some w) (hv : w.virt = false) {x : Option Blk} {y : Option (List AV)}
    (hx : ∀ k', x = some k' → k'.own = true ∧ BR r (H.setTo w.hb y) w k'.c) : Rel P r (s.setB b x) e (H.setTo w.hb y) := by
  obtain ⟨w0, g1, g2, g3, g4⟩ := h.br b k hk
  rw [hw] at g1
  obtain rfl := Option.some.inj g1
  obtain ⟨g5, g6⟩ := g4 hv
  obtain ⟨g7, g8⟩ := g6 hown
  have hold : ∀ m k', m ≠ b → (s.setB b x).heap.get m = some k' → s.heap.get m = some k' := fun m k' hne hk => by simpa [hne] using hk
  have hother : ∀ m k' w', m ≠ b → s.heap.get m = some k' → r m = some w' → w'.virt = false → w'.hb ≠ w.hb := fun m k' w' hne hk' hw' hv' =>
    h.ap m b k' k w' w hne hk' hk (.inr hown) hw' hw hv' hv
  refine ⟨h.er, fun m k' hk' => ?_, h.dm, fun m m' k1 k2 w1 w2 hn h1 h2 ho hw1 hw2 hv1 hv2 => ?_, h.nx, h.ro, fun z hz hf => ?_, h.st, h.rn, ?_⟩
  · by_cases hm : m = b
    · subst hm
      simp only [heap_setB, if_true] at hk'
      obtain ⟨a1, a2⟩ := hx k' hk'
      exact ⟨w, hw, a2, g3, fun _ => ⟨g5, fun _ => ⟨g7, g8⟩⟩⟩
    · have hk2 := hold m k' hm hk'
      obtain ⟨w', a1, a2, a3, a4⟩ := h.br m k' hk2
      refine ⟨w', a1, BR.mono (Ext.refl r) (fun hv' => ?_) a2, a3, a4⟩
      simp [hother m k' w' hm hk2 a1 hv']
  · by_cases hm : m = b
    · subst hm
      have hm' : m' ≠ m := fun h => hn h.symm
      rw [hw] at hw1
      obtain rfl := Option.some.inj hw1
      exact (hother m' k2 w2 hm' (hold m' k2 hm' h2) hw2 hv2).symm
    · by_cases hm' : m' = b
      · subst hm'
        rw [hw] at hw2
        obtain rfl := Option.some.inj hw2
        exact hother m k1 w1 hm (hold m k1 hm h1) hw1 hv1
      · exact h.ap m m' k1 k2 w1 w2 hn (hold m k1 hm h1) (hold m' k2 hm' h2) ho hw1 hw2 hv1 hv2
  · have hne : z ≠ w.hb := by
      rintro rfl
      rcases g8 with g8 | g8
      · exact hf g8
      · omega
    simp only [Heap.get_setTo, if_neg hne]
    exact h.fr z hz hf
  · obtain ⟨l, h1, h2, h3⟩ := h.lg
    refine ⟨w.hb :: l, by simp [h1], fun z hz => ?_, fun m k' w' hk' hw' hv' hlt hnl => ?_⟩
    · rcases List.mem_cons.1 hz with rfl | hz
      · exact g8
      · exact h2 z hz
    · simp only [log_setB, List.mem_cons, not_or] at hnl
      have hk2 := hold m k' hnl.1 hk'
      obtain ⟨a1, a2⟩ := h3 m k' w' hk2 hw' hv' hlt hnl.2
      refine ⟨a1, ?_⟩
      rw [List.mem_cons, not_or]
      exact ⟨hother m k' w' hnl.1 hk2 hw' hv', a2⟩

/-! ### operands -/
theorem const1_sound {v : AV} {x : SV} (h : const1 v = some x) (r : RM) : VR r x v ∧ v.cells = [v] ∧ v.one = true := by
  unfold const1 at h
  split at h <;> first | (obtain rfl := Option.some.inj h; exact ⟨rfl, rfl, rfl⟩) | simp at h

theorem consts_sound (r : RM) : ∀ {l : List AV} {xs : List SV}, consts l = some xs → CRs r xs l
  | [], xs, h => by
    simp only [consts, Option.some.injEq] at h
    subst h
    rfl
  | v :: l, xs, h => by
    simp only [consts] at h
    split at h
    · rename_i x hx
      split at h
      · rename_i ys hys
        obtain rfl := Option.some.inj h
        obtain ⟨h1, h2, _⟩ := const1_sound hx r
        exact ⟨v, l, by rw [h2]; rfl, h1, consts_sound r hys⟩
      · simp at h
    · simp at h

theorem constS_sound {v : AV} {x : SV} (h : constS v = some x) (r : RM) : VR r x v := by
  unfold constS at h
  split at h
  · split at h
    · rename_i l hl
      obtain rfl := Option.some.inj h
      exact ⟨_, rfl, consts_sound r hl⟩
    · simp at h
  · obtain rfl := Option.some.inj h
    exact ⟨[], [], rfl, rfl, rfl⟩
  · exact (const1_sound h r).1

theorem opd_sound (h : Rel P r s e H) {x : Opd} {v : SV} (hx : opdS s x = some v) : ∃ u, x.get e = some u ∧ VR r v u := by
  cases x with
  | t n => exact h.er n v hx
  | c a => exact ⟨a, rfl, constS_sound hx r⟩

theorem args_sound (h : Rel P r s e H) : ∀ {l : List Opd} {vs : List SV}, argsS s l = some vs → ∃ us, getAll e l = some us ∧ VRs r vs us
  | [], vs, hx => by
    simp only [argsS, Option.some.injEq] at hx
    subst hx
    exact ⟨[], rfl, rfl⟩
  | x :: l, vs, hx => by
    simp only [argsS] at hx
    split at hx
    · rename_i v hv
      split at hx
      · rename_i ws hws
        obtain rfl := Option.some.inj hx
        obtain ⟨u, h1, h2⟩ := opd_sound h hv
        obtain ⟨us, h3, h4⟩ := args_sound h hws
        exact ⟨u :: us, by simp only [getAll, h1, h3], u, us, rfl, h2, h4⟩
      · simp at hx
    · simp at hx

theorem orNone_some {α ρ : Type} {x : Option α} {k : α → Option ρ} {y : ρ} (h : orNone x k = some y) : ∃ v, x = some v ∧ k v = some y := by
  unfold orNone at h
  split at h
  · exact ⟨_, rfl, h⟩
  · simp at h

theorem chk_some {ρ : Type} {c : Bool} {x : Option ρ} {y : ρ} (h : chk c x = some y) : c = true ∧ x = some y := bif_some' h

end
end Go.Sh
