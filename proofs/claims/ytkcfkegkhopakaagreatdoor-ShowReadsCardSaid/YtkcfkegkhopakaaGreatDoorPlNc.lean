/- Registers of texts; the law of numbers and registers. No condition beyond the inputs'. -/
import Derived.Test.YtkcfkegkhopakaaGreatDoorPlNb
namespace Go.Proofs.YtkcfkegkhopakaaGreatDoor
open Go Go.Ev Go.Sh
set_option linter.unusedVariables false
set_option linter.unusedSimpArgs false
set_option maxRecDepth 100000

/-- a text behind an x -/
def cutX : List UInt8 → List UInt8 × Bool
  | [] => ([], false)
  | c :: r => if c = 120 then (r, true) else (c :: r, false)
theorem cutX_cons (c : UInt8) (r : List UInt8) : cutX (c :: r) = if c = 120 then (r, true) else (c :: r, false) := rfl
theorem cutX_is (N : Nat) (s : List UInt8) : F90 N s [120] = some (cutX s) := by
  unfold F90 R90 F142 R142 F186
  simp only [jp_eq]
  cases s with
  | nil => rfl
  | cons c r =>
    rw [brT (by simp only [List.length_cons, List.length_nil]; omega), chk_true (Nat.ble_eq_true_of_le (by simp)), bindS_some]
    have e : (List.take ((↑([120] : List UInt8).length : Int).toNat - 0) (List.drop 0 (c :: r)) == ([120] : List UInt8)) = decide (c = 120) := by
      show ([c] == [120]) = _
      by_cases h : c = 120
      · subst h; rfl
      · rw [decide_eq_false h]
        simp [h]
    rw [e, cutX_cons]
    by_cases h : c = 120
    · rw [decide_eq_true h, if_pos h]
      show bindS (br (!true) _ (chk _ (some (_, true)))) _ = _
      rw [Bool.not_true, br_f, chk_true (by rw [Nat.ble_eq_true_of_le (by simp), Nat.ble_eq_true_of_le (Nat.le_refl _)]; rfl), bindS_some]
      show some (List.take (r.length + 1 - 1) r, true) = some (r, true)
      rw [Nat.add_sub_cancel, List.take_length]
    · rw [decide_eq_false h, if_neg h]
      rfl

def inR (x : Int × Bool) : Bool := x.2 && (decide (0 ≤ x.1) && decide (x.1 ≤ 31))
def regO : List UInt8 → Int × Bool
  | [] => (0, false)
  | c :: r => if c = 120 ∧ inR (numO r) = true then ((numO r).1, true) else (0, false)

theorem regO_cons (c : UInt8) (r : List UInt8) : regO (c :: r) = if c = 120 ∧ inR (numO r) = true then ((numO r).1, true) else (0, false) := rfl
theorem inR_is {x : Int × Bool} : inR x = true ↔ x.2 = true ∧ 0 ≤ x.1 ∧ x.1 ≤ 31 := by
  unfold inR
  simp only [Bool.and_eq_true, decide_eq_true_eq]

theorem Register_is (N : Nat) {s : List UInt8} (hs : s.length ≤ 1000) : F37 N s = some (regO s) := by
  unfold F37 R37
  rw [cutX_is, bindS_some]
  have hl : (cutX s).1.length ≤ 1000 := by
    unfold cutX
    split
    · simp
    · split
      · simp only [List.length_cons] at hs; simp only; omega
      · exact hs
  rw [Number_is N hl, bindS_some]
  simp only [jp_eq]
  cases s with
  | nil => rfl
  | cons c r =>
    rw [regO_cons, cutX_cons]
    by_cases hc : c = 120
    · rw [if_pos hc]
      simp only [Bool.not_true, br_f]
      by_cases h2 : (numO r).2 = true
      · rw [br_false (by rw [h2]; rfl)]
        by_cases h3 : (numO r).1 < 0
        · rw [brT h3, br_t, if_neg (fun h => by have := (inR_is.1 h.2).2.1; omega)]
        · rw [brF h3]
          by_cases h4 : 31 < (numO r).1
          · rw [br_true (decide_eq_true h4), if_neg (fun h => by have := (inR_is.1 h.2).2.2; omega)]
          · rw [br_false (decide_eq_false h4), if_pos ⟨hc, inR_is.2 ⟨h2, by omega, by omega⟩⟩]
      · rw [br_true (by rw [Bool.not_eq_true] at h2; rw [h2]; rfl), br_t, if_neg (fun h => h2 (inR_is.1 h.2).1)]
    · rw [if_neg hc, if_neg (fun h => hc h.1)]
      rfl

theorem small_len {v : Int} (h0 : 0 ≤ v) (h1 : v ≤ 31) : (Lib.itoa v).length ≤ 2 := by
  unfold Lib.itoa
  rw [if_neg (by omega)]
  by_cases h : v.toNat < 10
  · rw [Lib.decDigits_one h]; simp
  · rw [Lib.decDigits_two h (by omega)]; simp

theorem rRegister_is {N : Nat} (hN : 100 ≤ N) {s : List UInt8} (hs : s.length ≤ 1000) : F52 N s = some (regO s) := by
  unfold F52 R52
  simp only [jp_eq]
  cases s with
  | nil => rfl
  | cons c r =>
    have hn : inR (numO r) = true → r.length ≤ 2 ∧ 1 ≤ r.length := by
      intro h
      obtain ⟨h1, h2, h3⟩ := inR_is.1 h
      obtain ⟨_, h5⟩ := num_true h1
      have := small_len h2 h3
      rw [← h5] at this
      refine ⟨this, ?_⟩
      cases r with
      | nil => exact absurd h (by decide)
      | cons a b => simp
    rw [regO_cons]
    by_cases h1 : ((c :: r).length : Int) < 2
    · rw [brT h1, br_t, if_neg (fun h => by have := (hn h.2).2; simp only [List.length_cons] at h1; omega)]
    · rw [brF h1]
      by_cases h2 : 3 < ((c :: r).length : Int)
      · rw [brT h2, br_t, if_neg (fun h => by have := (hn h.2).1; simp only [List.length_cons] at h2; omega)]
      · rw [brF h2, chk_true (decide_eq_true (by omega))]
        by_cases hc : c = 120
        · rw [br_false (by rw [hc]; rfl), chk_true (by rw [Nat.ble_eq_true_of_le (by simp), Nat.ble_eq_true_of_le (Nat.le_refl _)]; rfl)]
          have e : List.take ((c :: r).length - 1) (List.drop 1 (c :: r)) = r := by
            show List.take (r.length + 1 - 1) r = r
            rw [Nat.add_sub_cancel, List.take_length]
          rw [e, rNumber_is hN (by simp only [List.length_cons] at hs; omega), bindS_some]
          by_cases h2 : (numO r).2 = true
          · rw [br_false (by rw [h2]; rfl)]
            by_cases h3 : (numO r).1 < 0
            · rw [brT h3, br_t, if_neg (fun h => by have := (inR_is.1 h.2).2.1; omega)]
            · rw [brF h3]
              by_cases h4 : 31 < (numO r).1
              · rw [br_true (decide_eq_true h4), if_neg (fun h => by have := (inR_is.1 h.2).2.2; omega)]
              · rw [br_false (decide_eq_false h4), if_pos ⟨hc, inR_is.2 ⟨h2, by omega, by omega⟩⟩]
          · rw [br_true (by rw [Bool.not_eq_true] at h2; rw [h2]; rfl), br_t, if_neg (fun h => h2 (inR_is.1 h.2).1)]
        · rw [if_neg (fun h => hc h.1), br_true]
          have : ((List.getD (c :: r) 0 0).toNat : Int) ≠ 120 := by
            show (c.toNat : Int) ≠ 120
            intro h
            exact hc (UInt8.toNat.inj (by show c.toNat = 120; omega))
          rw [decide_eq_false this]; rfl

end Go.Proofs.YtkcfkegkhopakaaGreatDoor
