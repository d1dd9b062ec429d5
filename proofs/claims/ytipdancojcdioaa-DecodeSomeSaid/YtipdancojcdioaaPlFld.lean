/- Fields of words, as the program reckons them. No condition. -/
import Derived.Test.YtipdancojcdioaaEqDe
import Derived.Test.YtipdancojcdioaaPlW
namespace Go.Proofs.Ytipdancojcdioaa
open Go Go.Ev Go.Sh
set_option linter.unusedVariables false
set_option linter.unusedSimpArgs false

theorem powI (k : Nat) : (2 : Int) ^ k = ((2 ^ k : Nat) : Int) := by simp
theorem pow_lt64 {k : Nat} (h : k < 64) : 2 ^ k < 18446744073709551616 := Nat.pow_lt_pow_right (a := 2) (by decide) h
theorem brF {ρ : Type} {p : Prop} [Decidable p] {a b : Option ρ} (h : ¬ p) : br (decide p) a b = b := br_false (decide_eq_false h)
theorem brT {ρ : Type} {p : Prop} [Decidable p] {a b : Option ρ} (h : p) : br (decide p) a b = a := br_true (decide_eq_true h)
theorem chkT {ρ : Type} {p : Prop} [Decidable p] {a : Option ρ} (h : p) : chk (decide p) a = a := chk_true (decide_eq_true h)

theorem mask_is {k : Nat} (h2 : k < 64) : IntKind.u64.wrap (IntKind.u64.wrap (1 * 2 ^ min ((k : Int)).toNat IntKind.u64.bits) - 1) = ((2 ^ k - 1 : Nat) : Int) := by
  have h3 := pow_lt64 h2
  have h4 := Nat.two_pow_pos k
  rw [Int.toNat_natCast, bits_u64, Nat.min_eq_left (by omega), Int.one_mul, powI, u64N h3, wrapU64 (by omega) (by omega)]
  omega

theorem Zext_is (N : Nat) {x k : Nat} (hx : x < 18446744073709551616) (h1 : 1 ≤ k) (h2 : k < 64) : F104 N x k = some ((x % 2 ^ k : Nat) : Int) := by
  unfold F104
  rw [brF (by omega), brF (by omega), chkT (by omega), mask_is h2, and_mask64 hx (by omega)]

theorem Field_is (N : Nat) {n hi lo : Nat} (hn : n < 4294967296) (h1 : lo ≤ hi) (h2 : hi ≤ 31) : F97 N n hi lo = some ((fld n lo (hi - lo + 1) : Nat) : Int) := by
  have e1 : IntKind.u64.wrap (n : Int) = n := u64N (by omega)
  have e2 : IntKind.i64.wrap (IntKind.i64.wrap ((hi : Int) - (lo : Int)) + 1) = ((hi - lo + 1 : Nat) : Int) := by
    rw [wrap64 (n := (hi : Int) - lo) (by omega) (by omega), wrap64 (by omega) (by omega)]; omega
  have e3 : n / 2 ^ lo ≤ n := Nat.div_le_self _ _
  have e4 : fld n lo (hi - lo + 1) ≤ n := by rw [fld_def]; exact Nat.le_trans (Nat.mod_le _ _) e3
  unfold F97
  simp only [jp_eq]
  rw [brF (by omega), brF (by omega), br_false (decide_eq_false (by omega)), chkT (by omega), e1, e2, Int.toNat_natCast, bits_u64, Nat.min_eq_left (by omega), fdivN, Zext_is N (by omega) (by omega) (by omega), bindS_some]
  rw [← fld_def]
  rw [u32N (by omega)]

/-- with a sign -/
def sxN (x k : Nat) : Int := if x % 2 ^ k < 2 ^ (k - 1) then ((x % 2 ^ k : Nat) : Int) else ((x % 2 ^ k : Nat) : Int) - 2 ^ k

theorem Sext_is (N : Nat) {x k : Nat} (hx : x < 18446744073709551616) (h1 : 1 ≤ k) (h2 : k < 64) : F103 N x k = some (IntKind.u64.wrap (sxN x k)) := by
  have e2 : IntKind.i64.wrap (64 - (k : Int)) = ((64 - k : Nat) : Int) := by rw [wrap64 (by omega) (by omega)]; omega
  unfold F103
  simp only [jp_eq]
  rw [brF (by omega), br_false (decide_eq_false (by omega)), e2, chkT (by omega), chkT (by omega), Int.toNat_natCast, bits_u64, bits_i64, Nat.min_eq_left (by omega), powI]
  congr 2
  have e3 : (2 : Nat) ^ 64 = 2 ^ k * 2 ^ (64 - k) := by rw [← Nat.pow_add]; congr 1; omega
  have e4 : ((x : Int) * ((2 ^ (64 - k) : Nat) : Int)) = ((x * 2 ^ (64 - k) : Nat) : Int) := by simp
  have e5 : x * 2 ^ (64 - k) % 18446744073709551616 = x % 2 ^ k * 2 ^ (64 - k) := by
    rw [show 18446744073709551616 = 2 ^ k * 2 ^ (64 - k) by rw [← e3]]
    rw [Nat.mul_mod_mul_right]
  have hp := Nat.two_pow_pos (64 - k)
  have hk : (2 : Nat) ^ k = 2 * 2 ^ (k - 1) := by rw [← Nat.pow_succ']; congr 1; omega
  have h63 : (9223372036854775808 : Nat) = 2 ^ (k - 1) * 2 ^ (64 - k) := by
    rw [← Nat.pow_add, show k - 1 + (64 - k) = 63 by omega]
  have hlt : x % 2 ^ k < 2 ^ k := Nat.mod_lt _ (Nat.two_pow_pos k)
  rw [e4, u64_wrap_eq, i64_wrap_eq]
  have e6 : ((x * 2 ^ (64 - k) : Nat) : Int) % 18446744073709551616 = ((x % 2 ^ k * 2 ^ (64 - k) : Nat) : Int) := by
    rw [← e5]; omega
  rw [e6]
  have e7 : ((x % 2 ^ k * 2 ^ (64 - k) : Nat) : Int) % 18446744073709551616 = ((x % 2 ^ k * 2 ^ (64 - k) : Nat) : Int) := by
    have : x % 2 ^ k * 2 ^ (64 - k) < 18446744073709551616 := by rw [← e5]; exact Nat.mod_lt _ (by decide)
    omega
  rw [e7]
  have hpI : (0 : Int) < ((2 ^ (64 - k) : Nat) : Int) := by omega
  unfold sxN
  split
  · rename_i hc
    have hc' : ¬ (x % 2 ^ k < 2 ^ (k - 1)) := by
      intro h
      have : x % 2 ^ k * 2 ^ (64 - k) < 2 ^ (k - 1) * 2 ^ (64 - k) := (Nat.mul_lt_mul_right hp).2 h
      omega
    rw [if_neg hc']
    have : ((x % 2 ^ k * 2 ^ (64 - k) : Nat) : Int) - 18446744073709551616 = (((x % 2 ^ k : Nat) : Int) - 2 ^ k) * ((2 ^ (64 - k) : Nat) : Int) := by
      rw [Int.sub_mul, powI k]
      have h : ((2 ^ k : Nat) : Int) * ((2 ^ (64 - k) : Nat) : Int) = 18446744073709551616 := by
        rw [← Int.natCast_mul, ← e3]
        rfl
      rw [h, Int.natCast_mul]
    rw [this, Int.mul_fdiv_cancel _ (by omega)]
  · rename_i hc
    have hc' : x % 2 ^ k < 2 ^ (k - 1) := by
      rcases Nat.lt_or_ge (x % 2 ^ k) (2 ^ (k - 1)) with h | h
      · exact h
      · exfalso
        have : 2 ^ (k - 1) * 2 ^ (64 - k) ≤ x % 2 ^ k * 2 ^ (64 - k) := Nat.mul_le_mul_right _ h
        omega
    rw [if_pos hc', show ((x % 2 ^ k * 2 ^ (64 - k) : Nat) : Int) = ((x % 2 ^ k : Nat) : Int) * ((2 ^ (64 - k) : Nat) : Int) from Int.natCast_mul _ _, Int.mul_fdiv_cancel _ (by omega)]

theorem wrap_sx {x k : Nat} (h1 : 1 ≤ k) (h2 : k < 64) : IntKind.i64.wrap (IntKind.u64.wrap (sxN x k)) = sxN x k := by
  have hk : (2 : Nat) ^ k = 2 * 2 ^ (k - 1) := by rw [← Nat.pow_succ']; congr 1; omega
  have hlt : x % 2 ^ k < 2 ^ k := Nat.mod_lt _ (Nat.two_pow_pos k)
  have hb : 2 ^ (k - 1) ≤ 2 ^ 62 := Nat.pow_le_pow_right (by decide) (by omega)
  have : -9223372036854775808 ≤ sxN x k ∧ sxN x k ≤ 9223372036854775807 := by
    unfold sxN
    rw [powI k]
    split <;> omega
  rw [u64_wrap_eq, i64_wrap_eq]
  split <;> omega
end Go.Proofs.Ytipdancojcdioaa
