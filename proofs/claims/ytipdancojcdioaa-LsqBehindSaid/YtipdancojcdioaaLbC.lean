/- Plain laws of the flights: Source and Waits. No condition. -/
import Derived.Test.YtipdancojcdioaaLbB
namespace Go.Proofs.Ytipdancojcdioaa
open Go Go.Ev Go.Sh
set_option linter.unusedVariables false
set_option linter.unusedSimpArgs false
set_option maxRecDepth 100000

theorem search_gen {ρ : Type} {N n : Nat} {a : Int} (hN : n < N) (hn : n < 9223372036854775807) (ha : a = n) {step : (Int → Option ρ) → Int → Option ρ} {p : Nat → Bool} {found : Int → Option ρ} (hp : ∀ k : Nat, k < n → ∀ again, step again k = br (p k) (found k) (again (IntKind.i64.wrap (k + 1)))) (rest : Option ρ) {F : (Int → Option ρ) → Int → Option ρ}
    (hF : F = fun again i => br (decide (i < a)) (step again i) rest) :
    fixN N F 0 = match find1 p n 0 with
      | some k => found k
      | none => rest := by
  subst hF ha
  have := fixN_ind (F := fun again (i : Int) => br (decide (i < (n : Int))) (step again i) rest)
    (fun m s => m ≤ n ∧ s = ((n - m : Nat) : Int)) (fun s o => o = match find1 p (n - s.toNat) s.toNat with | some k => found k | none => rest) ?_ N n (0 : Int) hN ⟨by omega, by omega⟩
  · simpa using this
  · rintro m s again ⟨hm, rfl⟩ ih
    rcases Nat.eq_zero_or_pos m with h0 | h0
    · subst h0
      simp [find1]
    · have e1 : decide (((n - m : Nat) : Int) < (n : Int)) = true := decide_eq_true (by omega)
      have e3 : n - (n - m) = (m - 1) + 1 := by omega
      have := ih (m - 1) (((n - m : Nat) : Int) + 1) (by omega) ⟨by omega, by omega⟩
      rw [br_true e1, hp _ (by omega), wrap64 (by omega) (by omega), Int.toNat_natCast, e3, find1]
      cases hp : p (n - m) with
      | true => simp
      | false =>
        simp only [br_f, Bool.false_eq_true, if_false]
        rw [this]
        have e4 : (((n - m : Nat) : Int) + 1).toNat = n - m + 1 := by omega
        rw [e4, show n - (n - m + 1) = m - 1 by omega]

/-! ### Source -/
def down (p : Nat → Bool) : Nat → Int
  | 0 => -1
  | m + 1 => if p m then (m : Int) else down p m

theorem down_range (p : Nat → Bool) : ∀ m, down p m = -1 ∨ (0 ≤ down p m ∧ down p m < m)
  | 0 => .inl rfl
  | m + 1 => by
    simp only [down]
    split
    · right; omega
    · rcases down_range p m with h | h
      · exact .inl h
      · right; omega

theorem down_ext {p q : Nat → Bool} : ∀ m, (∀ j, j < m → p j = q j) → down p m = down q m
  | 0, _ => rfl
  | m + 1, h => by
    simp only [down]
    rw [h m (by omega), down_ext m fun j hj => h j (by omega)]

def knw (s : SLOT) : Bool := s.2.2.2.2.2.1
def adr (s : SLOT) : Int := s.2.2.2.2.2.2.1
def rdy (s : SLOT) : Bool := s.2.2.2.2.2.2.2.1

def srcPre (s : SLOT) (n : Int) : Bool := !knw s || (decide (n < 0) || (decide (sz s.1 ≤ n) || !ov (adr s) 1 (adr s) 1))
def srcP (s : SLOT) (n : Int) (t : SLOT) : Bool := decide (kd t.1 = 5) && byteOf t (IntKind.i64.wrap (adr s + n))
def src (g : Nat → SLOT) (k : Nat) (n : Int) : Int := if srcPre (g k) n then -1 else down (fun j => srcP (g k) n (g j)) k

theorem src_range (g : Nat → SLOT) (k : Nat) (n : Int) : src g k n = -1 ∨ (0 ≤ src g k n ∧ src g k n < k) := by
  unfold src
  split
  · exact .inl rfl
  · exact down_range _ k

theorem F69_is {l : List SLOT} {k : Nat} (n : Int) (hk : k < l.length) (hl : l.length ≤ 40) : F69 100 k n l = some (src (fun j => l.getD j DD) k n) := by
  have hD : (0, 0, 0, false, 0, false, 0, false, 0, false, List.replicate 8 0) = DD := rfl
  unfold F69
  have e1 : decide ((0 : Int) ≤ (k : Int)) = true := decide_eq_true (by omega)
  have e2 : decide ((k : Int) < (l.length : Int)) = true := decide_eq_true (by omega)
  simp only [hD, F72_in hk, bindS_some, Bool.not_true, br_f, e1, e2, Bool.and_self, chk_t, Int.toNat_natCast, F58_is, F81_is]
  refine jp_cut2 (fun y => y = srcPre (l.getD k DD) n) (fun y hy => ?_) (fun K hK => ?_)
  · unfold src
    rw [← hy]
    cases y with
    | true => rfl
    | false =>
      simp only [br_f, Bool.false_eq_true, if_false]
      refine fixN_ind (fun m (s : Int) => m ≤ k ∧ s = (m : Int) - 1) (fun s o => o = some (down (fun j => srcP (l.getD k DD) n (l.getD j DD)) (s + 1).toNat)) ?_ 100 k (IntKind.i64.wrap ((k : Int) - 1)) (by omega) ⟨Nat.le_refl _, wrap64 (by omega) (by omega)⟩ |>.trans ?_
      · rintro m s again ⟨hm, rfl⟩ ih
        rcases Nat.eq_zero_or_pos m with h0 | h0
        · subst h0
          rfl
        · have d1 : decide ((0 : Int) ≤ (m : Int) - 1) = true := decide_eq_true (by omega)
          have d2 : decide ((m : Int) - 1 < (l.length : Int)) = true := decide_eq_true (by omega)
          have d3 : ((m : Int) - 1).toNat = m - 1 := by omega
          have d4 : ((m : Int) - 1 + 1).toNat = (m - 1) + 1 := by omega
          simp only [d1, d2, br_t, Bool.and_self, chk_t, d3, F77_is, bindS_some, F82_is]
          rw [d4, down]
          have hr := ih (m - 1) ((m : Int) - 1 - 1) (by omega) ⟨by omega, by omega⟩
          rw [show ((m : Int) - 1 - 1 + 1).toNat = m - 1 by omega] at hr
          refine jp_cut2 (fun y => y = srcP (l.getD k DD) n (l.getD (m - 1) DD)) (fun y hy => ?_) (fun K hK => ?_)
          · subst hy
            cases hs : srcP (l.getD k DD) n (l.getD (m - 1) DD) with
            | true =>
              simp only [br_t, if_true]
              congr 1; omega
            | false =>
              simp only [br_f, Bool.false_eq_true, if_false]
              rw [wrap64 (by omega) (by omega)]
              exact hr
          · cases h5 : decide (kd (l.getD (m - 1) DD).1 = 5) with
            | true => exact hK _ (by rw [srcP, h5]; rfl)
            | false => exact hK _ (by rw [srcP, h5]; rfl)
      · rw [wrap64 (by omega) (by omega), show ((k : Int) - 1 + 1).toNat = k by omega]
  · have hk1 : (l.getD k DD).2.2.2.2.2.1 = knw (l.getD k DD) := rfl
    have hk2 : (l.getD k DD).2.2.2.2.2.2.1 = adr (l.getD k DD) := rfl
    simp only [hk1, hk2]
    cases c1 : knw (l.getD k DD) with
    | false => exact hK _ (by rw [srcPre, c1]; rfl)
    | true =>
      simp only [Bool.not_true, br_f]
      cases c2 : decide (n < 0) with
      | true => exact hK _ (by rw [srcPre, c1, c2]; rfl)
      | false =>
        simp only [br_f]
        cases c3 : decide (sz (l.getD k DD).1 ≤ n) with
        | true => exact hK _ (by rw [srcPre, c1, c2, c3]; rfl)
        | false => exact hK _ (by rw [srcPre, c1, c2, c3]; rfl)

end Go.Proofs.Ytipdancojcdioaa
