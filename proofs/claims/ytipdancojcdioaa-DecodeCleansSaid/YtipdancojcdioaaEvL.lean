/- One instruction, a statement whose order is open, and the code as a whole. -/
import Derived.Test.YtipdancojcdioaaEvK
import Derived.LoopN
namespace Go.Ev
set_option linter.unusedVariables false
set_option linter.unusedSimpArgs false
open Go

def AIns.val (callF : CallF) (i : AIns) (e : Env) (h : Heap) : Option (AV × Heap) :=
  match i.wanted e with
  | some true => i.op.run callF e h
  | some false => some (.tup [], h)
  | none => none

theorem step_val {callF : CallF} {i : AIns} {e e1 : Env} {h h1 : Heap} : i.step callF e h = some (e1, h1) ↔ ∃ v, i.val callF e h = some (v, h1) ∧ e1 = putE e i.dst v := by
  unfold AIns.step AIns.val
  cases hw : i.wanted e with
  | none => simp
  | some b => cases b with
    | false =>
      simp only [Option.some.injEq, Prod.mk.injEq]
      constructor
      · rintro ⟨rfl, rfl⟩; exact ⟨_, ⟨rfl, rfl⟩, rfl⟩
      · rintro ⟨u, ⟨rfl, rfl⟩, rfl⟩; exact ⟨rfl, rfl⟩
    | true =>
      simp only
      cases hr : i.op.run callF e h with
      | none => simp
      | some r =>
        obtain ⟨v, h'⟩ := r
        simp only [Option.some.injEq, Prod.mk.injEq]
        constructor
        · rintro ⟨rfl, rfl⟩; exact ⟨v, ⟨rfl, rfl⟩, rfl⟩
        · rintro ⟨u, ⟨rfl, rfl⟩, rfl⟩; exact ⟨rfl, rfl⟩

section
variable {callF : CallF} {md : Nat → Nat}

theorem wanted_on {i : AIns} {e e' : Env} (hE : EqOn i.uses e e') : i.wanted e = i.wanted e' := by
  unfold AIns.uses at hE
  unfold AIns.wanted
  cases hg : i.guard with
  | none => rfl
  | some g =>
    obtain ⟨t, b⟩ := g
    simp only [hg] at hE
    simp only
    rw [hE t (by simp)]

theorem op_on {i : AIns} {e e' : Env} (hE : EqOn i.uses e e') : EqOn i.op.uses e e' := by
  unfold AIns.uses at hE
  cases hg : i.guard with
  | none => simpa [hg] using hE
  | some g => obtain ⟨t, b⟩ := g; simp only [hg] at hE; exact fun u hu => hE u (List.mem_cons_of_mem _ hu)

theorem val_on {i : AIns} {e e' : Env} {h : Heap} (hE : EqOn i.uses e e') : i.val callF e h = i.val callF e' h := by
  unfold AIns.val
  rw [wanted_on hE, run_on (op_on hE)]

theorem val_pure (hmd : CallCls callF md) {i : AIns} {e : Env} {h h' : Heap} {v : AV} (hc : i.op.cls md = 0) (hv : i.val callF e h = some (v, h')) : h' = h ∧ ∀ h2, i.val callF e h2 = some (v, h2) := by
  unfold AIns.val at hv ⊢
  split at hv
  · exact run_pure hmd hc hv
  · simp only [Option.some.injEq, Prod.mk.injEq] at hv; obtain ⟨rfl, rfl⟩ := hv; exact ⟨rfl, fun _ => rfl⟩
  · simp at hv

theorem val_reads (hmd : CallCls callF md) {i : AIns} {e : Env} {h h' : Heap} {v : AV} (hc : i.op.cls md = 1) (hv : i.val callF e h = some (v, h')) : h' = h := by
  unfold AIns.val at hv
  split at hv
  · exact run_reads hmd hc hv
  · simp only [Option.some.injEq, Prod.mk.injEq] at hv; exact hv.2.symm
  · simp at hv

theorem put_on {e : Env} {d : Option Nat} {v : AV} {l : List Nat} (h : dstIn d l = false) : EqOn l (putE e d v) e := by
  intro t ht
  rw [lk_put]
  cases d with
  | none => simp
  | some d =>
    simp only [dstIn] at h
    have : d ≠ t := by rintro rfl; simp [ht] at h
    simp [this]

theorem put_swap {e : Env} {x y : Option Nat} {u v : AV} (h : sameDst x y = false) : Eqv (putE (putE e x u) y v) (putE (putE e y v) x u) := by
  intro t
  simp only [lk_put]
  cases x <;> cases y <;> simp
  rename_i a b
  have hab : a ≠ b := by rintro rfl; simp [sameDst] at h
  by_cases h1 : a = t <;> by_cases h2 : b = t <;> simp [h1, h2]
  omega

theorem swap (hmd : CallCls callF md) {x y : AIns} {e e1 e2 : Env} {h h1 h2 : Heap} (hc : commutes md x y = true)
    (hx : x.step callF e h = some (e1, h1)) (hy : y.step callF e1 h1 = some (e2, h2)) :
    ∃ e1' h1' e2', y.step callF e h = some (e1', h1') ∧ x.step callF e1' h1' = some (e2', h2) ∧ Eqv e2 e2' := by
  simp only [commutes, Bool.and_eq_true, Bool.not_eq_true', Bool.or_eq_true, Nat.beq_eq] at hc
  obtain ⟨⟨⟨d1, d2⟩, d3⟩, hcl⟩ := hc
  obtain ⟨vx, hvx, rfl⟩ := step_val.1 hx
  obtain ⟨vy, hvy, rfl⟩ := step_val.1 hy
  rw [val_on (put_on d1)] at hvy
  have fin : ∀ h1', y.val callF e h = some (vy, h1') → x.val callF e h1' = some (vx, h2) → ∃ e1' h1' e2', y.step callF e h = some (e1', h1') ∧ x.step callF e1' h1' = some (e2', h2) ∧ Eqv (putE (putE e x.dst vx) y.dst vy) e2' := by
    intro h1' a b
    refine ⟨_, h1', _, step_val.2 ⟨vy, a, rfl⟩, step_val.2 ⟨vx, ?_, rfl⟩, put_swap d3⟩
    rw [val_on (put_on d2)]
    exact b
  rcases hcl with (hp | hp) | ⟨hp, hq⟩
  · obtain ⟨rfl, hall⟩ := val_pure hmd hp hvx
    exact fin h2 hvy (hall h2)
  · obtain ⟨rfl, hall⟩ := val_pure hmd hp hvy
    exact fin h (hall h) hvx
  · obtain rfl := val_reads hmd hp hvx
    obtain rfl := val_reads hmd hq hvy
    exact fin _ hvy hvx

theorem step_eqv {i : AIns} {e e' e1 : Env} {h h1 : Heap} (hE : Eqv e e') (hs : i.step callF e h = some (e1, h1)) : ∃ e1', i.step callF e' h = some (e1', h1) ∧ Eqv e1 e1' := by
  obtain ⟨v, hv, rfl⟩ := step_val.1 hs
  rw [val_on (hE.on _)] at hv
  exact ⟨_, step_val.2 ⟨v, hv, rfl⟩, fun t => by rw [lk_put, lk_put, hE t]⟩

theorem runIns_eqv : ∀ {l : List AIns} {e e' e1 : Env} {h h1 : Heap}, Eqv e e' → runIns callF l e h = some (e1, h1) → ∃ e1', runIns callF l e' h = some (e1', h1) ∧ Eqv e1 e1'
  | [], e, e', e1, h, h1, hE, hs => by
    simp only [runIns, Option.some.injEq, Prod.mk.injEq] at hs
    obtain ⟨rfl, rfl⟩ := hs
    exact ⟨e', rfl, hE⟩
  | i :: l, e, e', e1, h, h1, hE, hs => by
    simp only [runIns] at hs ⊢
    split at hs
    · rename_i ea ha hsa
      obtain ⟨ea', hsa', hE'⟩ := step_eqv hE hsa
      simp only [hsa']
      exact runIns_eqv hE' hs
    · simp at hs

theorem bubble (hmd : CallCls callF md) {i : AIns} {post : List AIns} : ∀ {pre : List AIns} {e e' : Env} {h h' : Heap}, (∀ p ∈ pre, commutes md p i = true) →
    runIns callF (pre ++ i :: post) e h = some (e', h') → ∃ e1 h1 e'', i.step callF e h = some (e1, h1) ∧ runIns callF (pre ++ post) e1 h1 = some (e'', h') ∧ Eqv e' e''
  | [], e, e', h, h', _, hs => by
    simp only [List.nil_append, runIns] at hs
    split at hs
    · rename_i e1 h1 h2
      exact ⟨e1, h1, e', h2, hs, Eqv.refl _⟩
    · simp at hs
  | p :: pre, e, e', h, h', hc, hs => by
    simp only [List.cons_append, runIns] at hs
    split at hs
    · rename_i ea ha hp
      obtain ⟨eb, hb, e'', h1, h2, h3⟩ := bubble hmd (fun q hq => hc q (by simp [hq])) hs
      obtain ⟨e1, hh1, eb', g1, g2, g3⟩ := swap hmd (hc p (by simp)) hp h1
      obtain ⟨e3, g4, g5⟩ := runIns_eqv g3 h2
      exact ⟨e1, hh1, e3, g1, by simp only [List.cons_append, runIns, g2]; exact g4, h3.trans g5⟩
    · simp at hs

end

/-! ### masks -/
theorem orAll_spec (ms : List Nat) (p : Nat) : ∀ ds : List Nat, (orAll ms ds).testBit p = true → ∃ d ∈ ds, p = d ∨ (ms.getD d 0).testBit p = true
  | [], h => by simp [orAll] at h
  | d :: ds, h => by
    simp only [orAll, Nat.testBit_or, Bool.or_eq_true] at h
    rcases h with h | h | h
    · exact ⟨d, by simp, .inl (by simpa [Nat.testBit_two_pow, eq_comm] using h)⟩
    · exact ⟨d, by simp, .inr h⟩
    · obtain ⟨d', h1, h2⟩ := orAll_spec ms p ds h; exact ⟨d', by simp [h1], h2⟩

theorem masks_old : ∀ (ds : List (List Nat)) (acc : List Nat) (k : Nat), k < acc.length → (masks ds acc).getD k 0 = acc.getD k 0
  | [], acc, k, _ => rfl
  | d :: ds, acc, k, h => by
    simp only [masks]
    rw [masks_old ds _ k (by simp; omega)]
    simp [List.getD, List.getElem?_append_left h]

theorem masks_spec : ∀ (ds : List (List Nat)) (acc : List Nat) (m p : Nat) (l : List Nat), ds[m]? = some l → (∀ d ∈ l, d < acc.length + m) →
    ((masks ds acc).getD (acc.length + m) 0).testBit p = true → ∃ d ∈ l, p = d ∨ ((masks ds acc).getD d 0).testBit p = true
  | [], _, m, _, _, h, _, _ => by simp at h
  | d0 :: ds, acc, 0, p, l, h, hlt, hb => by
    simp only [List.getElem?_cons_zero, Option.some.injEq] at h
    subst h
    simp only [masks] at hb ⊢
    rw [masks_old ds _ _ (by simp)] at hb
    have : (acc ++ [orAll acc d0]).getD (acc.length + 0) 0 = orAll acc d0 := by simp [List.getD]
    rw [this] at hb
    obtain ⟨d, h1, h2⟩ := orAll_spec acc p d0 hb
    refine ⟨d, h1, h2.imp id (fun h3 => ?_)⟩
    have hd := hlt d h1
    rw [masks_old ds _ d (by simp; omega)]
    simpa [List.getD, List.getElem?_append_left (show d < acc.length by omega)] using h3
  | d0 :: ds, acc, m + 1, p, l, h, hlt, hb => by
    simp only [masks] at hb ⊢
    have := masks_spec ds (acc ++ [orAll acc d0]) m p l (by simpa using h) (fun d hd => by have := hlt d hd; simp; omega) (by simpa [Nat.add_assoc, Nat.add_comm 1 m] using hb)
    exact this

/-- may a region's order be left open? -/
def drawOk (md : Nat → Nat) (is : List AIns) (deps : List (List Nat)) : Bool :=
  let ms := masks deps []
  allBelow is.length fun j => (deps.getD j []).all (fun d => Nat.blt d j) &&
    allBelow j fun i => (ms.getD j 0).testBit i || (match is[i]?, is[j]? with
      | some x, some y => commutes md x y
      | _, _ => false)

end Go.Ev
