/- Plain laws of the flights: Passed, Source and Waits as functions of the slots. No condition. -/
import Derived.Test.YtipdancojcdioaaLbA
namespace Go.Proofs.Ytipdancojcdioaa
open Go Go.Ev Go.Sh
set_option linter.unusedVariables false
set_option linter.unusedSimpArgs false
set_option maxRecDepth 100000

def oneY (s : SLOT) : Bool := decide (s.1 = 51) || !decide (Go.bits .and .i64 s.2.1 2 = 0)
def twoY (s : SLOT) : Bool := decide (s.1 = 50) && !decide (Go.bits .and .i64 s.2.1 1 = 0)
def bnd (s : SLOT) : Bool := s.2.2.2.2.2.2.2.2.2.1
def bad (y1 y2 : Bool) (s : SLOT) : Bool := (decide (10 ≤ kd s.1) && (y1 || y2)) || (decide (kd s.1 = 5) && y2) || (decide (kd s.1 = 4) && y1 && !bnd s)

theorem jp_cut2 {α ρ : Type} {k : α → Option ρ} {b : (α → Option ρ) → Option ρ} {z : Option ρ} (P : α → Prop) (hk : ∀ a, P a → k a = z) (hb : ∀ K : α → Option ρ, (∀ a, P a → K a = z) → b K = z) : jp k b = z := hb k hk

/-- Passed, of the slots -/
def pas (g : Nat → SLOT) (e : Bool) (k : Nat) : Bool :=
  decide (kd (g k).1 = 8) && (find1 (fun j => bad (oneY (g k)) (twoY (g k)) (g j)) k 0).isNone && (e || !twoY (g k))

theorem F72_in {l : List SLOT} {k : Nat} (hk : k < l.length) : F72 100 k l = some true := by
  unfold F72
  have e1 : decide ((0 : Int) ≤ (k : Int)) = true := decide_eq_true (by omega)
  have e2 : decide ((k : Int) < (l.length : Int)) = true := decide_eq_true (by omega)
  simp only [jp_eq, e1, e2, br_t]

theorem F45_is {l : List SLOT} {k : Nat} (e : Bool) (hk : k < l.length) (hl : l.length ≤ 40) : F45 100 k e l = some (pas (fun j => l.getD j DD) e k) := by
  unfold F45
  have e1 : decide ((0 : Int) ≤ (k : Int)) = true := decide_eq_true (by omega)
  have e2 : decide ((k : Int) < (l.length : Int)) = true := decide_eq_true (by omega)
  have e3 : Nat.ble k l.length = true := Nat.ble_eq_true_of_le (by omega)
  have e4 : Nat.ble 0 k = true := Nat.ble_eq_true_of_le (by omega)
  rw [jp_eq, F72_in hk, bindS_some]
  simp only [Bool.not_true, br_f, e1, e2, e3, e4, Bool.and_self, chk_t, F75_is, bindS_some, Int.toNat_natCast]
  have hf : ∀ y1 y2 : Bool, fixN 100 (fun again3 (y4 : Int) => br (decide (y4 < (↑(k - 0) : Int))) (chk (decide (0 ≤ y4) && decide (y4 < (↑(k - 0) : Int))) (jp (fun (y5 : Bool) => br y5 (some Bool.false) (again3 (IntKind.i64.wrap (y4 + 1))))
      (fun K6 => jp (fun (y7 : Bool) => br y7 (K6 Bool.true) (jp (fun (y8 : Bool) => br y8 (K6 Bool.true) (bindS (F73 100 (l.getD (0 + 0 + y4.toNat) DD)) (fun (y9 : Bool) => br y9 (br y1 (K6 (!(l.getD (0 + 0 + y4.toNat) DD).2.2.2.2.2.2.2.2.2.1)) (K6 Bool.false)) (K6 Bool.false))))
        (fun K10 => bindS (F77 100 (l.getD (0 + 0 + y4.toNat) DD)) (fun (y11 : Bool) => br y11 (K10 y2) (K10 Bool.false)))))
        (fun K12 => bindS (F74 100 (l.getD (0 + 0 + y4.toNat) DD)) (fun (y13 : Bool) => br y13 (br y1 (K12 Bool.true) (K12 y2)) (K12 Bool.false))))))
      (jp (fun (y14 : Bool) => some y14) (fun K15 => br e (K15 Bool.true) (K15 (!y2))))) 0 =
      some ((find1 (fun j => bad y1 y2 (l.getD j DD)) k 0).isNone && (e || !y2)) := by
    intro y1 y2
    rw [search_jp (N := 100) (n := k) (a := (↑(k - 0) : Int)) (b := (↑(k - 0) : Int)) (by omega) (by omega) (by omega) (by omega) (p := fun j => bad y1 y2 (l.getD j DD)) ?_ (fun _ => some false) (jp (fun (y14 : Bool) => some y14) (fun K15 => br e (K15 Bool.true) (K15 (!y2)))) rfl]
    · cases find1 (fun j => bad y1 y2 (l.getD j DD)) k 0 with
      | some j => rfl
      | none => cases e <;> rfl
    · intro j hj K
      simp only [jp_eq, F73_is, F74_is, F77_is, bindS_some, Int.toNat_natCast, Nat.zero_add, bad, bnd]
      cases decide (10 ≤ kd (l.getD j DD).1) <;> cases decide (kd (l.getD j DD).1 = 5) <;> cases decide (kd (l.getD j DD).1 = 4) <;> cases (l.getD j DD).2.2.2.2.2.2.2.2.2.1 <;> cases y1 <;> cases y2 <;> rfl
  have hD : (0, 0, 0, false, 0, false, 0, false, 0, false, List.replicate 8 0) = DD := rfl
  simp only [hD] at *
  unfold pas
  cases h8 : decide (kd (l.getD k DD).1 = 8) with
  | false => rfl
  | true =>
    simp only [Bool.not_true, br_f, Bool.true_and]
    refine jp_cut2 (fun y => y = oneY (l.getD k DD)) (fun y1 h1 => ?_) (fun K hK => ?_)
    · refine jp_cut2 (fun y => y = twoY (l.getD k DD)) (fun y2 h2 => ?_) (fun K hK => ?_)
      · subst h1 h2
        exact hf _ _
      · cases h50 : decide ((l.getD k DD).1 = 50) with
        | true => exact hK _ (by rw [twoY, h50]; rfl)
        | false => exact hK _ (by rw [twoY, h50]; rfl)
    · cases h51 : decide ((l.getD k DD).1 = 51) with
      | true => exact hK _ (by rw [oneY, h51]; rfl)
      | false => exact hK _ (by rw [oneY, h51]; rfl)

end Go.Proofs.Ytipdancojcdioaa
