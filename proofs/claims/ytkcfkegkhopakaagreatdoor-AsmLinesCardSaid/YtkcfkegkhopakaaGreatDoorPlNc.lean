/- Registers of texts; the law of numbers and registers. No condition beyond the inputs'. -/
import Derived.Test.YtkcfkegkhopakaaGreatDoorPlNb
namespace Go.Proofs.YtkcfkegkhopakaaGreatDoor
open Go Go.Ev Go.Sh
set_option linter.unusedVariables false
set_option linter.unusedSimpArgs false
set_option maxRecDepth 100000

/-- a text behind an x -/
def cutX : List UInt8 → List UInt8 × Bool
  | [] => ([], false)
  | c :: r => if c = 120 then (r, true) else (c :: r, false)
theorem cutX_cons (c : UInt8) (r : List UInt8) : cutX (c :: r) = if c = 120 then (r, true) else (c :: r, false) := rfl
def inR (x : Int × Bool) : Bool := x.2 && (decide (0 ≤ x.1) && decide (x.1 ≤ 31))
def regO : List UInt8 → Int × Bool
  | [] => (0, false)
  | c :: r => if c = 120 ∧ inR (numO r) = true then ((numO r).1, true) else (0, false)

theorem regO_cons (c : UInt8) (r : List UInt8) : regO (c :: r) = if c = 120 ∧ inR (numO r) = true then ((numO r).1, true) else (0, false) := rfl
theorem inR_is {x : Int × Bool} : inR x = true ↔ x.2 = true ∧ 0 ≤ x.1 ∧ x.1 ≤ 31 := by
  unfold inR
  simp only [Bool.and_eq_true, decide_eq_true_eq]

theorem small_len {v : Int} (h0 : 0 ≤ v) (h1 : v ≤ 31) : (Lib.itoa v).length ≤ 2 := by
  unfold Lib.itoa
  rw [if_neg (by omega)]
  by_cases h : v.toNat < 10
  · rw [Lib.decDigits_one h]; simp
  · rw [Lib.decDigits_two h (by omega)]; simp

end Go.Proofs.YtkcfkegkhopakaaGreatDoor
