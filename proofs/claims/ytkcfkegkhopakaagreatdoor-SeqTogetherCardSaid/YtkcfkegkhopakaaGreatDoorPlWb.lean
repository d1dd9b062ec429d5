/- Words: sums by bits, signs, shifts. No condition. -/
import Derived.Test.YtkcfkegkhopakaaGreatDoorPlX1
namespace Go.Sh
set_option linter.unusedVariables false
set_option linter.unusedSimpArgs false
open Go

theorem bit2 (x : Nat) : x % 2 = 0 ∨ x % 2 = 1 := by omega

theorem or_and_add (x : Nat) : ∀ y : Nat, (x ||| y) + (x &&& y) = x + y := by
  induction x using Nat.strongRecOn with
  | ind x ih =>
    intro y
    by_cases hx : x = 0
    · subst hx; simp
    · have h := ih (x / 2) (by omega) (y / 2)
      have a1 : (x ||| y) / 2 = x / 2 ||| y / 2 := Nat.or_div_two
      have a2 : (x &&& y) / 2 = x / 2 &&& y / 2 := Nat.and_div_two
      have b1 : (x ||| y) % 2 = x % 2 ||| y % 2 := Nat.or_mod_two_pow (n := 1)
      have b2 : (x &&& y) % 2 = x % 2 &&& y % 2 := Nat.and_mod_two_pow (n := 1)
      have c : (x % 2 ||| y % 2) + (x % 2 &&& y % 2) = x % 2 + y % 2 := by
        rcases bit2 x with e | e <;> rcases bit2 y with f | f <;> rw [e, f] <;> rfl
      generalize x ||| y = p at *
      generalize x &&& y = q at *
      generalize x / 2 ||| y / 2 = p2 at *
      generalize x / 2 &&& y / 2 = q2 at *
      generalize x % 2 ||| y % 2 = p3 at *
      generalize x % 2 &&& y % 2 = q3 at *
      omega

theorem xor_and_or (x : Nat) : ∀ y : Nat, (x ^^^ y) + (x &&& y) = x ||| y := by
  induction x using Nat.strongRecOn with
  | ind x ih =>
    intro y
    by_cases hx : x = 0
    · subst hx; simp
    · have h := ih (x / 2) (by omega) (y / 2)
      have a1 : (x ||| y) / 2 = x / 2 ||| y / 2 := Nat.or_div_two
      have a2 : (x &&& y) / 2 = x / 2 &&& y / 2 := Nat.and_div_two
      have a3 : (x ^^^ y) / 2 = x / 2 ^^^ y / 2 := Nat.xor_div_two
      have b1 : (x ||| y) % 2 = x % 2 ||| y % 2 := Nat.or_mod_two_pow (n := 1)
      have b2 : (x &&& y) % 2 = x % 2 &&& y % 2 := Nat.and_mod_two_pow (n := 1)
      have b3 : (x ^^^ y) % 2 = x % 2 ^^^ y % 2 := Nat.xor_mod_two_pow (n := 1)
      have c : (x % 2 ^^^ y % 2) + (x % 2 &&& y % 2) = x % 2 ||| y % 2 := by
        rcases bit2 x with e | e <;> rcases bit2 y with f | f <;> rw [e, f] <;> rfl
      generalize x ||| y = p at *
      generalize x &&& y = q at *
      generalize x ^^^ y = r at *
      generalize x / 2 ||| y / 2 = p2 at *
      generalize x / 2 &&& y / 2 = q2 at *
      generalize x / 2 ^^^ y / 2 = r2 at *
      generalize x % 2 ||| y % 2 = p3 at *
      generalize x % 2 &&& y % 2 = q3 at *
      generalize x % 2 ^^^ y % 2 = r3 at *
      omega

/-- the document's xor and or -/
theorem dxor {x y : Nat} (hx : x < 18446744073709551616) (hy : y < 18446744073709551616) : IntKind.u64.wrap (bits .or .u64 x y - bits .and .u64 x y) = bits .xor .u64 x y := by
  rw [or64 hx hy, and64 hx hy, xor64 hx hy]
  have h := xor_and_or x y
  have h1 : x ^^^ y < 18446744073709551616 := Nat.xor_lt_two_pow (n := 64) hx hy
  rw [wrapU64 (by omega) (by omega)]
  omega
theorem dor {x y : Nat} (hx : x < 18446744073709551616) (hy : y < 18446744073709551616) : IntKind.u64.wrap (IntKind.u64.wrap ((x : Int) + y) - bits .and .u64 x y) = bits .or .u64 x y := by
  rw [or64 hx hy, and64 hx hy, u64_wrap_eq, u64_wrap_eq]
  have h := or_and_add x y
  have h1 : x ||| y < 18446744073709551616 := Nat.or_lt_two_pow (n := 64) hx hy
  omega
/-- the document's minus -/
theorem dnot {y : Nat} (hy : y < 18446744073709551616) : bits .xor .u64 (if IntKind.u64.signed = true then -1 else IntKind.u64.max) (y : Int) = ((18446744073709551615 - y : Nat) : Int) := by
  have e : (if IntKind.u64.signed = true then -1 else IntKind.u64.max : Int) = ((18446744073709551615 : Nat) : Int) := rfl
  rw [e, xor64 (by decide) hy]
  have h := xor_and_or 18446744073709551615 y
  have h2 := or_and_add 18446744073709551615 y
  have h3 : 18446744073709551615 &&& y = y := by
    rw [Nat.and_comm]
    have : y &&& (2 ^ 64 - 1) = y % 2 ^ 64 := Nat.and_two_pow_sub_one_eq_mod y 64
    rw [Nat.mod_eq_of_lt hy] at this
    exact this
  omega
theorem dsub {x y : Nat} (hx : x < 18446744073709551616) (hy : y < 18446744073709551616) : IntKind.u64.wrap (IntKind.u64.wrap ((x : Int) + bits .xor .u64 (if IntKind.u64.signed = true then -1 else IntKind.u64.max) (y : Int)) + 1) = IntKind.u64.wrap ((x : Int) - y) := by
  rw [dnot hy, u64_wrap_eq, u64_wrap_eq, u64_wrap_eq]
  omega
/-- without the lowest bit -/
theorem deven {x : Nat} (hx : x < 18446744073709551616) : bits .andNot .u64 (x : Int) 1 = IntKind.u64.wrap ((x : Int) - (x : Int).tmod 2) := by
  rw [show (1 : Int) = ((1 : Nat) : Int) from rfl, bits_nat_andNot (k := .u64) rfl hx (by decide), show (2 : Int) = ((2 : Nat) : Int) from rfl, tmodN]
  have h1 : (x &&& (2 ^ IntKind.u64.bits - 1 - 1)) / 2 = x / 2 &&& (2 ^ IntKind.u64.bits - 1 - 1) / 2 := Nat.and_div_two
  have h2 : (x &&& (2 ^ IntKind.u64.bits - 1 - 1)) % 2 = x % 2 &&& (2 ^ IntKind.u64.bits - 1 - 1) % 2 := Nat.and_mod_two_pow (n := 1)
  have h3 : x / 2 &&& (2 ^ 63 - 1) = x / 2 % 2 ^ 63 := Nat.and_two_pow_sub_one_eq_mod _ 63
  have h4 : x % 2 &&& 0 = 0 := Nat.and_zero _
  have e1 : (2 ^ IntKind.u64.bits - 1 - 1) / 2 = 2 ^ 63 - 1 := by decide
  have e2 : (2 ^ IntKind.u64.bits - 1 - 1) % 2 = 0 := by decide
  rw [e1, h3] at h1
  rw [e2, h4] at h2
  rw [u64_wrap_eq]
  generalize x &&& (2 ^ IntKind.u64.bits - 1 - 1) = z at *
  omega

/-- is a signed number less? -/
theorem dlow {x y : Nat} (hx : x < 18446744073709551616) (hy : y < 18446744073709551616) :
    (if x / 9223372036854775808 = y / 9223372036854775808 then decide ((x : Int) < y) else decide (x / 9223372036854775808 = 1)) = decide (IntKind.i64.wrap x < IntKind.i64.wrap y) := by
  rw [i64_wrap_eq, i64_wrap_eq]
  split
  · congr 1; apply propext; constructor <;> intro h <;> (repeat' split at * <;> omega) <;> omega
  · congr 1; apply propext; constructor <;> intro h <;> (repeat' split at * <;> omega) <;> omega

/-- with copies of the highest of k bits above -/
def sx (x k : Nat) : Nat := if x % 2 ^ k < 2 ^ (k - 1) then x % 2 ^ k else x % 2 ^ k + (18446744073709551616 - 2 ^ k)

theorem pow_le64 {k : Nat} (h : k ≤ 64) : 2 ^ k ≤ 18446744073709551616 := Nat.pow_le_pow_right (n := 2) (by decide) h
theorem mod_lt2 (x k : Nat) : x % 2 ^ k < 2 ^ k := Nat.mod_lt _ (Nat.two_pow_pos k)

theorem sx_lt {x k : Nat} (h2 : k ≤ 64) : sx x k < 18446744073709551616 := by
  have := pow_le64 h2
  have := mod_lt2 x k
  unfold sx
  split <;> omega
theorem sx64 {x : Nat} (hx : x < 18446744073709551616) : sx x 64 = x := by
  unfold sx
  have : x % 2 ^ 64 = x := Nat.mod_eq_of_lt hx
  rw [this]
  split <;> omega
theorem sx_mod {x k : Nat} (h2 : k ≤ 64) : sx x k % 2 ^ k = x % 2 ^ k := by
  unfold sx
  split
  · rw [Nat.mod_mod]
  · have e : 18446744073709551616 - 2 ^ k = 2 ^ k * (2 ^ (64 - k) - 1) := by
      rw [Nat.mul_sub, Nat.mul_one, ← Nat.pow_add, show k + (64 - k) = 64 by omega]
    rw [e, Nat.add_mul_mod_self_left, Nat.mod_mod]

theorem top_bit {x k : Nat} (h : 1 ≤ k) : x / 2 ^ (k - 1) % 2 = 0 ↔ x % 2 ^ k < 2 ^ (k - 1) := by
  obtain ⟨j, rfl⟩ : ∃ j, k = j + 1 := ⟨k - 1, by omega⟩
  simp only [Nat.add_sub_cancel]
  rw [Nat.mod_pow_succ]
  have := mod_lt2 x j
  rcases bit2 (x / 2 ^ j) with e | e <;> rw [e] <;> simp <;> omega

theorem bt_low {x f b j : Nat} (h : j < b) : bt (x + 2 ^ b * f) j = bt x j := by
  rw [bt_def, bt_def]
  obtain ⟨c, rfl⟩ : ∃ c, b = j + (c + 1) := ⟨b - j - 1, by omega⟩
  rw [Nat.pow_add, Nat.mul_assoc, Nat.add_mul_div_left _ _ (Nat.two_pow_pos j), Nat.pow_succ, show 2 ^ c * 2 * f = 2 * (2 ^ c * f) by rw [Nat.mul_comm (2 ^ c) 2, Nat.mul_assoc], Nat.add_mul_mod_self_left]
theorem bt_high {x f b t : Nat} (hx : x < 2 ^ b) : bt (x + 2 ^ b * f) (b + t) = bt f t := by
  rw [bt_def, bt_def, Nat.pow_add, ← Nat.div_div_eq_div_mul, Nat.add_mul_div_left _ _ (Nat.two_pow_pos b), Nat.div_eq_of_lt hx, Nat.zero_add]
theorem bt_ones {b t : Nat} (h : t < b) : bt (2 ^ b - 1) t = 1 := by
  rw [bt_eq_testBit, Nat.testBit_two_pow_sub_one, decide_eq_true h]; rfl

/-- a word filled above -/
def fil (x b f : Nat) : Nat := x + 2 ^ b * (f * (2 ^ b - 1))
theorem bt_fil {x b f j : Nat} (hx : x < 2 ^ b) (hf : f < 2) (hj : j < 2 * b) : bt (fil x b f) j = if j < b then bt x j else f := by
  unfold fil
  split
  · rename_i h; exact bt_low h
  · rename_i h
    obtain ⟨t, rfl⟩ : ∃ t, j = b + t := ⟨j - b, by omega⟩
    rw [bt_high hx]
    obtain rfl | rfl : f = 0 ∨ f = 1 := by omega
    · rw [Nat.zero_mul, bt_def, Nat.zero_div]
    · rw [Nat.one_mul]; exact bt_ones (by omega)

theorem fld_fil {x b f n : Nat} (hn : n < b) : ((fld (fil x b f) n b : Nat) : Int) = (((x : Int) - (f : Int) * 2 ^ b) / 2 ^ n) % 2 ^ b := by
  have hb := Nat.two_pow_pos b
  have e : ((fil x b f : Nat) : Int) = ((x : Int) - (f : Int) * 2 ^ b) + (2 : Int) ^ n * ((f : Int) * 2 ^ (b - n) * 2 ^ b) := by
    unfold fil
    rw [show (2 : Int) ^ n * ((f : Int) * 2 ^ (b - n) * 2 ^ b) = (f : Int) * (2 ^ n * 2 ^ (b - n)) * 2 ^ b by ac_rfl, ← Int.pow_add, show n + (b - n) = b by omega]
    have h1 : ((2 ^ b - 1 : Nat) : Int) = (2 : Int) ^ b - 1 := by rw [Int.natCast_sub hb]; simp
    rw [Int.natCast_add, Int.natCast_mul, Int.natCast_mul, h1]
    rw [show ((2 ^ b : Nat) : Int) = (2 : Int) ^ b by simp, Int.mul_sub, Int.mul_sub, Int.mul_one]
    rw [show (2 : Int) ^ b * ((f : Int) * 2 ^ b) = (f : Int) * 2 ^ b * 2 ^ b by ac_rfl, show (2 : Int) ^ b * (f : Int) = (f : Int) * 2 ^ b by ac_rfl]
    omega
  rw [fld_def, Int.natCast_emod, Int.natCast_ediv, e]
  rw [show ((2 ^ n : Nat) : Int) = (2 : Int) ^ n by simp, show ((2 ^ b : Nat) : Int) = (2 : Int) ^ b by simp]
  rw [Int.add_mul_ediv_left _ _ (by have : (0 : Int) < 2 ^ n := Int.pow_pos (by decide); omega), Int.add_mul_emod_self_right]
end Go.Sh
