/- Numbers: extension, shifts and comparing, the program's and the document's. No condition. -/
import Derived.Test.YtkcfkegkhopakaaGreatDoorPlX1
import Derived.Test.YtkcfkegkhopakaaGreatDoorPlWb
namespace Go.Proofs.YtkcfkegkhopakaaGreatDoor
open Go Go.Ev Go.Sh
set_option linter.unusedVariables false
set_option linter.unusedSimpArgs false

theorem sxN_sx {x k : Nat} (h1 : 1 ≤ k) (h2 : k < 64) : IntKind.u64.wrap (sxN x k) = ((sx x k : Nat) : Int) := by
  have hk : (2 : Nat) ^ k = 2 * 2 ^ (k - 1) := by rw [← Nat.pow_succ']; congr 1; omega
  have h3 := pow_lt64 h2
  have := mod_lt2 x k
  unfold sxN sx
  rw [powI, u64_wrap_eq]
  split <;> omega

theorem Zext_full (N : Nat) {x k : Nat} (hx : x < 18446744073709551616) (hk : k ≤ 64) : F70 N x k = some ((x % 2 ^ k : Nat) : Int) := by
  by_cases h1 : 1 ≤ k
  · by_cases h2 : k < 64
    · exact Zext_is N hx h1 h2
    · obtain rfl : k = 64 := by omega
      unfold F70
      rw [brF (by omega), brT (by omega), Nat.mod_eq_of_lt (by omega)]
  · obtain rfl : k = 0 := by omega
    unfold F70
    rw [brT (by omega), Nat.pow_zero, Nat.mod_one]
    rfl

theorem Sext_full (N : Nat) {x k : Nat} (hx : x < 18446744073709551616) (h1 : 1 ≤ k) (hk : k ≤ 64) : F127 N x k = some ((sx x k : Nat) : Int) := by
  by_cases h2 : k < 64
  · rw [Sext_is N hx h1 h2, sxN_sx h1 h2]
  · obtain rfl : k = 64 := by omega
    unfold F127 R127
    simp only [jp_eq]
    rw [brF (by omega), br_true (decide_eq_true (by omega)), Zext_full N hx (by omega), bindS_some, sx64 hx, Nat.mod_eq_of_lt (by omega)]

theorem aBit_is {x i : Nat} (hx : x < 18446744073709551616) (hi : i < 64) : bits BinOp.and IntKind.u64 ((x : Int).fdiv (2 ^ Min.min ((i : Int)).toNat IntKind.u64.bits)) 1 = ((bt x i : Nat) : Int) := by
  have h : x / 2 ^ i ≤ x := Nat.div_le_self _ _
  rw [Int.toNat_natCast, bits_u64, Nat.min_eq_left (by omega), fdivN, show (1 : Int) = ((2 ^ 1 - 1 : Nat) : Int) from rfl, and_mask64 (by omega) (by decide), bt_def]
theorem aPow_is {i : Nat} (hi : i < 64) : IntKind.u64.wrap (1 * 2 ^ Min.min ((i : Int)).toNat IntKind.u64.bits) = ((2 ^ i : Nat) : Int) := by
  rw [Int.toNat_natCast, bits_u64, Nat.min_eq_left (by omega), Int.one_mul, powI, u64N (pow_lt64 hi)]

theorem rZext_is {N : Nat} (hN : 100 ≤ N) {x k : Nat} (hx : x < 18446744073709551616) (hk : k ≤ 64) : F35 N x k = some ((x % 2 ^ k : Nat) : Int) := by
  unfold F35
  refine fixN_ind (fun m (y : Int × Int) => ∃ i : Nat, y.2 = i ∧ i + m = k ∧ y.1 = ((x % 2 ^ i : Nat) : Int)) (fun _ o => o = some ((x % 2 ^ k : Nat) : Int)) ?_ N k _ (by omega) ⟨0, rfl, by omega, by rw [Nat.pow_zero, Nat.mod_one]; rfl⟩
  rintro m ⟨v, j⟩ again ⟨i, g1, g2, g3⟩ ih
  simp only at g1 g3
  subst g1 g3
  simp only [jp_eq]
  rcases Nat.eq_zero_or_pos m with h0 | h0
  · obtain rfl : i = k := by omega
    rw [show decide ((i : Int) < (i : Int)) = false from decide_eq_false (by omega)]
    cases decide ((i : Int) < 64) <;> rfl
  · have e1 : IntKind.u64.wrap (i : Int) = i := u64N (by omega)
    have hp := pow_lt64 (k := i) (by omega)
    have hs := Nat.mod_pow_succ (x := x) (b := 2) (k := i)
    have hl := mod_lt2 x (i + 1)
    have hl2 := pow_le64 (k := i + 1) (by omega)
    rw [brT (by omega), br_true (decide_eq_true (by omega)), e1, chkT (by omega), aBit_is hx (by omega), chkT (by omega), aPow_is (by omega), wrap64 (n := (i : Int) + 1) (by omega) (by omega)]
    have hb := bt_lt x i
    rw [bt_def] at hb ⊢
    rcases bit2 (x / 2 ^ i) with e | e
    · rw [e, br_false (decide_eq_false (by decide))]
      exact ih (m - 1) _ (by omega) ⟨i + 1, rfl, by omega, by simp only; rw [hs, e]; simp⟩
    · rw [e, br_true (decide_eq_true (by decide))]
      refine ih (m - 1) _ (by omega) ⟨i + 1, rfl, by omega, ?_⟩
      simp only
      rw [hs, e] at *
      rw [wrapU64 (by omega) (by omega)]
      omega

theorem aluOne_is (N : Nat) (b : Bool) : F210 N b = some (if b then 1 else 0) := by
  unfold F210; cases b <;> rfl
theorem aluNarrow_is (N : Nat) {x : Nat} (hx : x < 18446744073709551616) : F211 N x = some ((sx x 32 : Nat) : Int) := by
  unfold F211 R211
  rw [show (32 : Int) = ((32 : Nat) : Int) from rfl, Sext_full N hx (by decide) (by decide), bindS_some]

end Go.Proofs.YtkcfkegkhopakaaGreatDoor
