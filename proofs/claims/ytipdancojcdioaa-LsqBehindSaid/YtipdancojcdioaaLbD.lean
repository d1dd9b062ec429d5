/- Plain law: what stands behind. No condition. -/
import Derived.Test.YtipdancojcdioaaLbC
namespace Go.Proofs.Ytipdancojcdioaa
open Go Go.Ev Go.Sh
set_option linter.unusedVariables false
set_option linter.unusedSimpArgs false
set_option maxRecDepth 100000

/-! ### Waits -/
def waitPre (s : SLOT) : Bool := !decide (kd s.1 = 4) || (!knw s || bnd s)
def w1 (g : Nat → SLOT) (j : Nat) : Bool := decide (10 ≤ kd (g j).1) && (g j).2.2.2.1
def w2 (g : Nat → SLOT) (e : Bool) (j : Nat) : Bool := decide (kd (g j).1 = 8) && ((decide ((g j).1 = 51) || !decide (Go.bits .and .i64 (g j).2.2.1 2 = 0)) && !pas g e j)
def w3 (g : Nat → SLOT) (k j : Nat) : Bool := decide (10 ≤ kd (g j).1) && both (g j) (g k)
def w4 (g : Nat → SLOT) (k n : Nat) : Bool := decide (0 ≤ src g k n) && !rdy (g (src g k n).toNat)
def wai (g : Nat → SLOT) (e : Bool) (k : Nat) : Int :=
  if waitPre (g k) then -1 else match find1 (w1 g) k 0 with
    | some _ => 1
    | none => match find1 (w2 g e) k 0 with
      | some _ => 2
      | none => match find1 (w3 g k) k 0 with
        | some _ => 3
        | none => match find1 (w4 g k) (sz (g k).1).toNat 0 with
          | some _ => 4
          | none => 0

theorem F44_is {l : List SLOT} {k : Nat} (e : Bool) (hk : k < l.length) (hl : l.length ≤ 40) : F44 100 k e l = some (wai (fun j => l.getD j DD) e k) := by
  have hD : (0, 0, 0, false, 0, false, 0, false, 0, false, List.replicate 8 0) = DD := rfl
  unfold F44
  have e1 : decide ((0 : Int) ≤ (k : Int)) = true := decide_eq_true (by omega)
  have e2 : decide ((k : Int) < (l.length : Int)) = true := decide_eq_true (by omega)
  have e3 : Nat.ble k l.length = true := Nat.ble_eq_true_of_le (by omega)
  have e4 : Nat.ble 0 k = true := Nat.ble_eq_true_of_le (by omega)
  simp only [hD, F72_in hk, bindS_some, Bool.not_true, br_f, e1, e2, e3, e4, Bool.and_self, chk_t, Int.toNat_natCast, F58_is, F73_is]
  refine jp_cut2 (fun y => y = waitPre (l.getD k DD)) (fun y hy => ?_) (fun K hK => ?_)
  · unfold wai
    rw [← hy]
    cases y with
    | true => rfl
    | false =>
      simp only [br_f, Bool.false_eq_true, if_false]
      refine (search_jp (N := 100) (n := k) (by omega) (by omega) (by omega) (by omega) (p := w1 fun j => l.getD j DD) ?_ (fun _ => some 1) _ rfl).trans ?_
      · intro j hj K
        simp only [F74_is, bindS_some, Int.toNat_natCast, Nat.zero_add, w1]
        cases decide (10 ≤ kd (l.getD j DD).1) <;> rfl
      cases h1 : find1 (w1 fun j => l.getD j DD) k 0 with
      | some j => rfl
      | none =>
        simp only
        refine (search_jp (N := 100) (n := k) (by omega) (by omega) (by omega) (by omega) (p := w2 (fun j => l.getD j DD) e) ?_ (fun _ => some 2) _ rfl).trans ?_
        · intro j hj K
          simp only [F75_is, bindS_some, Int.toNat_natCast, Nat.zero_add, w2, F45_is e (show j < l.length by omega) hl]
          cases decide (kd (l.getD j DD).1 = 8) with
          | false => rfl
          | true =>
            cases decide ((l.getD j DD).1 = 51) with
            | true => rfl
            | false =>
              cases decide (Go.bits .and .i64 (l.getD j DD).2.2.1 2 = 0) <;> rfl
        cases h2 : find1 (w2 (fun j => l.getD j DD) e) k 0 with
        | some j => rfl
        | none =>
          simp only
          refine (search_jp (N := 100) (n := k) (by omega) (by omega) (by omega) (by omega) (p := w3 (fun j => l.getD j DD) k) ?_ (fun _ => some 3) _ rfl).trans ?_
          · intro j hj K
            simp only [F74_is, F76_is, bindS_some, Int.toNat_natCast, Nat.zero_add, w3]
            cases decide (10 ≤ kd (l.getD j DD).1) <;> rfl
          cases h3 : find1 (w3 (fun j => l.getD j DD) k) k 0 with
          | some j => rfl
          | none =>
            simp only
            have hs := sz_le (l.getD k DD).1
            refine (search_gen (N := 100) (n := (sz (l.getD k DD).1).toNat) (by omega) (by omega) (by omega) (p := w4 (fun j => l.getD j DD) k) (found := fun _ => some 4) ?_ (some 0) rfl).trans ?_
            · intro j hj again
              simp only [F69_is j hk hl, bindS_some, jp_eq, w4]
              rcases src_range (fun j => l.getD j DD) k j with h | h
              · have d1 : decide (0 ≤ src (fun j => l.getD j DD) k j) = false := decide_eq_false (by omega)
                simp only [d1, br_f, Bool.false_and]
              · have d1 : decide (0 ≤ src (fun j => l.getD j DD) k j) = true := decide_eq_true (by omega)
                have d2 : decide (src (fun j => l.getD j DD) k j < (l.length : Int)) = true := decide_eq_true (by omega)
                simp only [d1, d2, br_t, Bool.and_self, chk_t, Bool.true_and]
                rfl
            cases h4 : find1 (w4 (fun j => l.getD j DD) k) (sz (l.getD k DD).1).toNat 0 with
            | some j => rfl
            | none => rfl
  · have hk1 : (l.getD k DD).2.2.2.2.2.1 = knw (l.getD k DD) := rfl
    have hk2 : (l.getD k DD).2.2.2.2.2.2.2.2.2.1 = bnd (l.getD k DD) := rfl
    simp only [hk1, hk2]
    cases c1 : decide (kd (l.getD k DD).1 = 4) with
    | false => exact hK _ (by rw [waitPre, c1]; rfl)
    | true =>
      simp only [Bool.not_true, br_f]
      cases c2 : knw (l.getD k DD) with
      | false => exact hK _ (by rw [waitPre, c1, c2]; rfl)
      | true => exact hK _ (by rw [waitPre, c1, c2]; rfl)

/-! ### what is behind does not count -/
theorem pas_ext {g h : Nat → SLOT} {e : Bool} {k : Nat} (hg : ∀ j, j ≤ k → g j = h j) : pas g e k = pas h e k := by
  unfold pas
  rw [hg k (Nat.le_refl _), find1_ext (fun j h1 h2 => by rw [hg j (by omega)])]

theorem src_ext {g h : Nat → SLOT} {k : Nat} {n : Int} (hg : ∀ j, j ≤ k → g j = h j) : src g k n = src h k n := by
  unfold src
  rw [hg k (Nat.le_refl _), down_ext k fun j hj => by rw [hg j (by omega)]]

theorem wai_ext {g h : Nat → SLOT} {e : Bool} {k : Nat} (hg : ∀ j, j ≤ k → g j = h j) : wai g e k = wai h e k := by
  unfold wai
  have a1 : find1 (w1 g) k 0 = find1 (w1 h) k 0 := find1_ext fun j _ hj => by unfold w1; rw [hg j (by omega)]
  have a2 : find1 (w2 g e) k 0 = find1 (w2 h e) k 0 := find1_ext fun j _ hj => by unfold w2; rw [hg j (by omega), pas_ext fun i hi => hg i (by omega)]
  have a3 : find1 (w3 g k) k 0 = find1 (w3 h k) k 0 := find1_ext fun j _ hj => by unfold w3; rw [hg j (by omega), hg k (Nat.le_refl _)]
  have a4 : find1 (w4 g k) (sz (h k).1).toNat 0 = find1 (w4 h k) (sz (h k).1).toNat 0 := find1_ext fun j _ _ => by
    unfold w4
    rw [src_ext hg]
    rcases src_range h k j with hr | hr
    · have d1 : decide (0 ≤ src h k j) = false := decide_eq_false (by omega)
      rw [d1, Bool.false_and, Bool.false_and]
    · rw [hg (src h k j).toNat (by omega)]
  rw [hg k (Nat.le_refl _), a1, a2, a3, a4]

/-! ### more bound -/
def setB (s : SLOT) : SLOT := (s.1, s.2.1, s.2.2.1, s.2.2.2.1, s.2.2.2.2.1, s.2.2.2.2.2.1, s.2.2.2.2.2.2.1, s.2.2.2.2.2.2.2.1, s.2.2.2.2.2.2.2.2.1, true, s.2.2.2.2.2.2.2.2.2.2)

theorem bad_mono {y1 y2 : Bool} {s : SLOT} (h : bad y1 y2 s = false) : bad y1 y2 (setB s) = false := by
  unfold bad at h ⊢
  have e : (setB s).1 = s.1 := rfl
  have e2 : bnd (setB s) = true := rfl
  rw [e, e2]
  revert h
  cases decide (10 ≤ kd s.1) <;> cases decide (kd s.1 = 5) <;> cases decide (kd s.1 = 4) <;> cases y1 <;> cases y2 <;> cases bnd s <;> simp

theorem pas_mono {g : Nat → SLOT} {e : Bool} {k : Nat} (h : pas g e k = true) : pas (fun j => setB (g j)) e k = true ∧ pas g true k = true := by
  unfold pas at h ⊢
  simp only [Bool.and_eq_true] at h
  obtain ⟨⟨h1, h2⟩, h3⟩ := h
  have hn : find1 (fun j => bad (oneY (g k)) (twoY (g k)) (g j)) k 0 = none := Option.isNone_iff_eq_none.1 h2
  have hn2 : find1 (fun j => bad (oneY (setB (g k))) (twoY (setB (g k))) (setB (g j))) k 0 = none := by
    cases hf : find1 (fun j => bad (oneY (setB (g k))) (twoY (setB (g k))) (setB (g j))) k 0 with
    | none => rfl
    | some j =>
      obtain ⟨a, b, c, _⟩ := find1_some hf
      have hb := find1_none hn j a b
      have := bad_mono hb
      rw [show oneY (setB (g k)) = oneY (g k) from rfl, show twoY (setB (g k)) = twoY (g k) from rfl] at c
      rw [this] at c
      exact absurd c (by simp)
  constructor
  · rw [hn2, show (setB (g k)).1 = (g k).1 from rfl, show twoY (setB (g k)) = twoY (g k) from rfl, h1, h3]
    rfl
  · rw [hn, h1]
    rfl

end Go.Proofs.Ytipdancojcdioaa
