/- The plain laws of the encoder. No condition. -/
import Derived.Test.YtkcfkegkhopakaaGreatDoorPlX4
import Derived.Test.YtkcfkegkhopakaaGreatDoorPlX1
namespace Go.Proofs.YtkcfkegkhopakaaGreatDoor
open Go Go.Ev Go.Sh
set_option linter.unusedVariables false
set_option linter.unusedSimpArgs false
set_option maxRecDepth 100000

theorem imm_I64 {n k : Nat} (hn : n < 4294967296) : I64 (immN n k) := by
  have h := imm_ok (k := k) hn
  unfold immOK at h
  have hle := fmtO_le k
  by_cases h6 : shf k = 6
  · rw [if_pos h6] at h
    simp only [Bool.and_eq_true, decide_eq_true_eq] at h; exact ⟨by omega, by omega⟩
  · rw [if_neg h6] at h
    by_cases h5 : shf k = 5
    · rw [if_pos h5] at h
      simp only [Bool.and_eq_true, decide_eq_true_eq] at h; exact ⟨by omega, by omega⟩
    · rw [if_neg h5] at h
      by_cases hf : fmtO k = 0
      · rw [if_pos hf] at h
        have := of_decide_eq_true h
        exact ⟨by omega, by omega⟩
      · rw [if_neg hf] at h
        have hc : fmtO k = 1 ∨ fmtO k = 2 ∨ fmtO k = 3 ∨ fmtO k = 4 ∨ fmtO k = 5 := by omega
        generalize fmtO k = f at h hc
        rcases hc with rfl | rfl | rfl | rfl | rfl <;> simp only [mayB, Bool.and_eq_true, decide_eq_true_eq] at h <;> exact ⟨by omega, by omega⟩

/-- Encode of a word's instruction -/
theorem Encode_ins {N : Nat} (hN : 100 ≤ N) {n : Nat} (hn : n < 4294967296) (h0 : dOp n ≠ 0) : F57 N (insN n (dOp n)) = some (((fenceMask (dOp n) n : Nat) : Int), 0) := by
  have src : Src n (dOp n) _ _ _ _ _ _ _ _ := ⟨rfl, rfl, rfl, rfl, rfl, rfl, rfl, rfl⟩
  have h1 : 1 ≤ dOp n := by omega
  have rt := rt_of hn h1 (dOp_le n) src
  rw [← word_ins hn rfl h1 src]
  exact (Encode_right hN rt (imm_I64 hn) (rt_right rt)).1

/-- Decode of a right instruction's word -/
theorem Decode_word {N : Nat} (hN : 100 ≤ N) {x : Ins} {k rd r1 r2 : Nat} {v : Int} {aq rl : Bool} {p s : Nat} (h : Rt x k rd r1 r2 v aq rl p s) : F56 N (wordN k rd r1 r2 v aq rl p s : Nat) = some (x, 0) := by
  obtain ⟨h1, h2, h3⟩ := ins_word h
  have hk := h.k1
  rw [Decode_is hN h1, h2, if_neg (by omega), h3]

end Go.Proofs.YtkcfkegkhopakaaGreatDoor
