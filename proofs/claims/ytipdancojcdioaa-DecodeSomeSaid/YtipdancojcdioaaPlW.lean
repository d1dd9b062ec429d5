/- Words: wraps, bits, fields of natural numbers, in the words of the residuals. No condition. -/
import Derived.Test.YtipdancojcdioaaShS
namespace Go.Sh
set_option linter.unusedVariables false
set_option linter.unusedSimpArgs false
open Go

/-! ### wraps -/
theorem u64_wrap_eq (n : Int) : IntKind.u64.wrap n = n % 18446744073709551616 := by
  simp [IntKind.wrap, IntKind.bits, IntKind.signed]
theorem u32_wrap_eq (n : Int) : IntKind.u32.wrap n = n % 4294967296 := by
  simp [IntKind.wrap, IntKind.bits, IntKind.signed]
theorem u8_wrap_eq (n : Int) : IntKind.u8.wrap n = n % 256 := by
  simp [IntKind.wrap, IntKind.bits, IntKind.signed]
theorem i64_wrap_eq (n : Int) : IntKind.i64.wrap n = if (9223372036854775808 : Int) ≤ n % 18446744073709551616 then n % 18446744073709551616 - 18446744073709551616 else n % 18446744073709551616 := by
  simp [IntKind.wrap, IntKind.bits, IntKind.signed]
theorem wrapU64 {n : Int} (h1 : 0 ≤ n) (h2 : n < 18446744073709551616) : IntKind.u64.wrap n = n := by
  rw [u64_wrap_eq]; omega
theorem wrapU32 {n : Int} (h1 : 0 ≤ n) (h2 : n < 4294967296) : IntKind.u32.wrap n = n := by
  rw [u32_wrap_eq]; omega
theorem u64N {n : Nat} (h : n < 18446744073709551616) : IntKind.u64.wrap (n : Int) = n := wrapU64 (by omega) (by omega)
theorem u32N {n : Nat} (h : n < 4294967296) : IntKind.u32.wrap (n : Int) = n := wrapU32 (by omega) (by omega)
theorem i64N {n : Nat} (h : n < 9223372036854775808) : IntKind.i64.wrap (n : Int) = n := wrap64 (by omega) (by omega)
@[simp] theorem bits_u64 : IntKind.u64.bits = 64 := rfl
@[simp] theorem bits_u32 : IntKind.u32.bits = 32 := rfl
@[simp] theorem bits_i64 : IntKind.i64.bits = 64 := rfl
@[simp] theorem bits_u8 : IntKind.u8.bits = 8 := rfl

/-! ### divisions -/
theorem fdivN (n k : Nat) : (n : Int).fdiv (2 ^ k) = ((n / 2 ^ k : Nat) : Int) := by
  rw [Int.fdiv_eq_ediv_of_nonneg _ (Int.pow_nonneg (by decide))]
  have : ((2 : Int) ^ k) = ((2 ^ k : Nat) : Int) := by simp
  rw [this]; rfl
theorem tmodN (n m : Nat) : (n : Int).tmod (m : Int) = ((n % m : Nat) : Int) := by
  rw [Int.tmod_eq_emod_of_nonneg (by omega)]; rfl
theorem tdivN (n m : Nat) : (n : Int).tdiv (m : Int) = ((n / m : Nat) : Int) := by
  rw [Int.tdiv_eq_ediv_of_nonneg (by omega)]; rfl

/-! ### bits of words -/
theorem bits_nat_and {k : IntKind} (hk : k.signed = false) {x y : Nat} (hx : x < 2 ^ k.bits) (hy : y < 2 ^ k.bits) : bits .and k (x : Int) (y : Int) = ((x &&& y : Nat) : Int) := by
  have h1 : x &&& y < 2 ^ k.bits := Nat.lt_of_le_of_lt Nat.and_le_left hx
  simp only [bits, BitVec.ofInt_natCast, BitVec.toNat_and, BitVec.toNat_ofNat, Nat.mod_eq_of_lt hx, Nat.mod_eq_of_lt hy]
  simp only [IntKind.wrap, hk, Bool.false_and, Bool.false_eq_true, if_false]
  have : ((2 : Int) ^ k.bits) = ((2 ^ k.bits : Nat) : Int) := by simp
  rw [this]
  exact_mod_cast Nat.mod_eq_of_lt h1
theorem bits_nat_or {k : IntKind} (hk : k.signed = false) {x y : Nat} (hx : x < 2 ^ k.bits) (hy : y < 2 ^ k.bits) : bits .or k (x : Int) (y : Int) = ((x ||| y : Nat) : Int) := by
  have h1 : x ||| y < 2 ^ k.bits := Nat.or_lt_two_pow hx hy
  simp only [bits, BitVec.ofInt_natCast, BitVec.toNat_or, BitVec.toNat_ofNat, Nat.mod_eq_of_lt hx, Nat.mod_eq_of_lt hy]
  simp only [IntKind.wrap, hk, Bool.false_and, Bool.false_eq_true, if_false]
  have : ((2 : Int) ^ k.bits) = ((2 ^ k.bits : Nat) : Int) := by simp
  rw [this]
  exact_mod_cast Nat.mod_eq_of_lt h1
theorem bits_nat_xor {k : IntKind} (hk : k.signed = false) {x y : Nat} (hx : x < 2 ^ k.bits) (hy : y < 2 ^ k.bits) : bits .xor k (x : Int) (y : Int) = ((x ^^^ y : Nat) : Int) := by
  have h1 : x ^^^ y < 2 ^ k.bits := Nat.xor_lt_two_pow hx hy
  simp only [bits, BitVec.ofInt_natCast, BitVec.toNat_xor, BitVec.toNat_ofNat, Nat.mod_eq_of_lt hx, Nat.mod_eq_of_lt hy]
  simp only [IntKind.wrap, hk, Bool.false_and, Bool.false_eq_true, if_false]
  have : ((2 : Int) ^ k.bits) = ((2 ^ k.bits : Nat) : Int) := by simp
  rw [this]
  exact_mod_cast Nat.mod_eq_of_lt h1
theorem bits_nat_andNot {k : IntKind} (hk : k.signed = false) {x y : Nat} (hx : x < 2 ^ k.bits) (hy : y < 2 ^ k.bits) : bits .andNot k (x : Int) (y : Int) = ((x &&& (2 ^ k.bits - 1 - y) : Nat) : Int) := by
  have h1 : x &&& (2 ^ k.bits - 1 - y) < 2 ^ k.bits := Nat.lt_of_le_of_lt Nat.and_le_left hx
  simp only [bits, BitVec.ofInt_natCast, BitVec.toNat_and, BitVec.toNat_not, BitVec.toNat_ofNat, Nat.mod_eq_of_lt hx, Nat.mod_eq_of_lt hy]
  simp only [IntKind.wrap, hk, Bool.false_and, Bool.false_eq_true, if_false]
  have : ((2 : Int) ^ k.bits) = ((2 ^ k.bits : Nat) : Int) := by simp
  rw [this]
  exact_mod_cast Nat.mod_eq_of_lt h1

theorem and32 {x y : Nat} (hx : x < 4294967296) (hy : y < 4294967296) : bits .and .u32 (x : Int) (y : Int) = ((x &&& y : Nat) : Int) := bits_nat_and rfl hx hy
theorem or32 {x y : Nat} (hx : x < 4294967296) (hy : y < 4294967296) : bits .or .u32 (x : Int) (y : Int) = ((x ||| y : Nat) : Int) := bits_nat_or rfl hx hy
theorem xor32 {x y : Nat} (hx : x < 4294967296) (hy : y < 4294967296) : bits .xor .u32 (x : Int) (y : Int) = ((x ^^^ y : Nat) : Int) := bits_nat_xor rfl hx hy
theorem andNot32 {x y : Nat} (hx : x < 4294967296) (hy : y < 4294967296) : bits .andNot .u32 (x : Int) (y : Int) = ((x &&& (4294967295 - y) : Nat) : Int) := bits_nat_andNot rfl hx hy
theorem and64 {x y : Nat} (hx : x < 18446744073709551616) (hy : y < 18446744073709551616) : bits .and .u64 (x : Int) (y : Int) = ((x &&& y : Nat) : Int) := bits_nat_and rfl hx hy
theorem or64 {x y : Nat} (hx : x < 18446744073709551616) (hy : y < 18446744073709551616) : bits .or .u64 (x : Int) (y : Int) = ((x ||| y : Nat) : Int) := bits_nat_or rfl hx hy
theorem xor64 {x y : Nat} (hx : x < 18446744073709551616) (hy : y < 18446744073709551616) : bits .xor .u64 (x : Int) (y : Int) = ((x ^^^ y : Nat) : Int) := bits_nat_xor rfl hx hy

/-- a mask of low bits -/
theorem and_mask32 {x : Nat} (hx : x < 4294967296) {k : Nat} (hk : k ≤ 32) : bits .and .u32 (x : Int) ((2 ^ k - 1 : Nat) : Int) = ((x % 2 ^ k : Nat) : Int) := by
  rw [and32 hx (by have : 2 ^ k ≤ 2 ^ 32 := Nat.pow_le_pow_right (by decide) hk; omega), Nat.and_two_pow_sub_one_eq_mod]
theorem and_mask64 {x : Nat} (hx : x < 18446744073709551616) {k : Nat} (hk : k ≤ 64) : bits .and .u64 (x : Int) ((2 ^ k - 1 : Nat) : Int) = ((x % 2 ^ k : Nat) : Int) := by
  rw [and64 hx (by have : 2 ^ k ≤ 2 ^ 64 := Nat.pow_le_pow_right (by decide) hk; omega), Nat.and_two_pow_sub_one_eq_mod]

/-- two words without a bit in both -/
theorem or_add {a b m : Nat} (ha : a % 2 ^ m = 0) (hb : b < 2 ^ m) : a ||| b = a + b := by
  have h : a = 2 ^ m * (a / 2 ^ m) := by
    have := Nat.div_add_mod a (2 ^ m)
    omega
  rw [h]
  exact (Nat.two_pow_add_eq_or_of_lt hb _).symm

/-! ### fields -/
def fld (w lo n : Nat) : Nat := w / 2 ^ lo % 2 ^ n
def bt (w i : Nat) : Nat := w / 2 ^ i % 2


theorem fld_def (w lo n : Nat) : fld w lo n = w / 2 ^ lo % 2 ^ n := rfl
theorem bt_def (w i : Nat) : bt w i = w / 2 ^ i % 2 := rfl
theorem fld_lt (w lo n : Nat) : fld w lo n < 2 ^ n := Nat.mod_lt _ (Nat.two_pow_pos n)
theorem bt_lt (w i : Nat) : bt w i < 2 := Nat.mod_lt _ (by decide)
theorem fld_zero (w lo : Nat) : fld w lo 0 = 0 := by simp [fld, Nat.mod_one]
theorem fld_succ (w lo n : Nat) : fld w lo (n + 1) = fld w lo n + bt w (lo + n) * 2 ^ n := by
  unfold fld bt
  rw [Nat.pow_succ, Nat.mod_mul, Nat.div_div_eq_div_mul, ← Nat.pow_add, Nat.mul_comm]
theorem bt_fld (w lo n i : Nat) (h : i < n) : bt (fld w lo n) i = bt w (lo + i) := by
  unfold fld bt
  have e : (2 : Nat) ^ n = 2 ^ i * 2 ^ (n - i) := by rw [← Nat.pow_add]; congr 1; omega
  rw [e, Nat.mod_mul_right_div_self, Nat.div_div_eq_div_mul, ← Nat.pow_add]
  have : (2 : Nat) ^ (n - i) = 2 * 2 ^ (n - i - 1) := by rw [← Nat.pow_succ']; congr 1; omega
  rw [this, Nat.mod_mul_right_mod]
theorem bt_eq_testBit (w i : Nat) : bt w i = (w.testBit i).toNat := by
  rw [Nat.toNat_testBit]; rfl

theorem fld_testBit (w lo n i : Nat) : (fld w lo n).testBit i = (decide (i < n) && w.testBit (lo + i)) := by
  unfold fld
  rw [Nat.testBit_mod_two_pow, Nat.testBit_div_two_pow, Nat.add_comm]
theorem fld_or (a b lo n : Nat) : fld (a ||| b) lo n = fld a lo n ||| fld b lo n := by
  apply Nat.eq_of_testBit_eq
  intro i
  simp only [fld_testBit, Nat.testBit_or]
  cases decide (i < n) <;> simp
theorem fld_and (a b lo n : Nat) : fld (a &&& b) lo n = fld a lo n &&& fld b lo n := by
  apply Nat.eq_of_testBit_eq
  intro i
  simp only [fld_testBit, Nat.testBit_and]
  cases decide (i < n) <;> simp
theorem fld_xor (a b lo n : Nat) : fld (a ^^^ b) lo n = fld a lo n ^^^ fld b lo n := by
  apply Nat.eq_of_testBit_eq
  intro i
  simp only [fld_testBit, Nat.testBit_xor]
  cases decide (i < n) <;> simp
attribute [irreducible] fld bt
end Go.Sh
