/- Words: wraps, bits, fields of natural numbers, in the words of the residuals. No condition. -/
import Derived.Test.YtkcfkegkhopakaaGreatDoorShX3
import Derived.Test.YtkcfkegkhopakaaGreatDoorEqSg
namespace Go.Sh
set_option linter.unusedVariables false
set_option linter.unusedSimpArgs false
open Go

/-! ### wraps -/
theorem u64_wrap_eq (n : Int) : IntKind.u64.wrap n = n % 18446744073709551616 := by
  simp [IntKind.wrap, IntKind.bits, IntKind.signed]
theorem u32_wrap_eq (n : Int) : IntKind.u32.wrap n = n % 4294967296 := by
  simp [IntKind.wrap, IntKind.bits, IntKind.signed]
theorem u8_wrap_eq (n : Int) : IntKind.u8.wrap n = n % 256 := by
  simp [IntKind.wrap, IntKind.bits, IntKind.signed]
theorem i64_wrap_eq (n : Int) : IntKind.i64.wrap n = if (9223372036854775808 : Int) ≤ n % 18446744073709551616 then n % 18446744073709551616 - 18446744073709551616 else n % 18446744073709551616 := by
  simp [IntKind.wrap, IntKind.bits, IntKind.signed]
theorem wrapU64 {n : Int} (h1 : 0 ≤ n) (h2 : n < 18446744073709551616) : IntKind.u64.wrap n = n := by
  rw [u64_wrap_eq]; omega
theorem wrapU32 {n : Int} (h1 : 0 ≤ n) (h2 : n < 4294967296) : IntKind.u32.wrap n = n := by
  rw [u32_wrap_eq]; omega
theorem u64N {n : Nat} (h : n < 18446744073709551616) : IntKind.u64.wrap (n : Int) = n := wrapU64 (by omega) (by omega)
theorem u32N {n : Nat} (h : n < 4294967296) : IntKind.u32.wrap (n : Int) = n := wrapU32 (by omega) (by omega)
theorem i64N {n : Nat} (h : n < 9223372036854775808) : IntKind.i64.wrap (n : Int) = n := wrap64 (by omega) (by omega)
@[simp] theorem bits_u64 : IntKind.u64.bits = 64 := rfl
@[simp] theorem bits_u32 : IntKind.u32.bits = 32 := rfl
@[simp] theorem bits_i64 : IntKind.i64.bits = 64 := rfl
@[simp] theorem bits_u8 : IntKind.u8.bits = 8 := rfl

/-! ### divisions -/
theorem fdivN (n k : Nat) : (n : Int).fdiv (2 ^ k) = ((n / 2 ^ k : Nat) : Int) := by
  rw [Int.fdiv_eq_ediv_of_nonneg _ (Int.pow_nonneg (by decide))]
  have : ((2 : Int) ^ k) = ((2 ^ k : Nat) : Int) := by simp
  rw [this]; rfl
theorem tmodN (n m : Nat) : (n : Int).tmod (m : Int) = ((n % m : Nat) : Int) := by
  rw [Int.tmod_eq_emod_of_nonneg (by omega)]; rfl
theorem tdivN (n m : Nat) : (n : Int).tdiv (m : Int) = ((n / m : Nat) : Int) := by
  rw [Int.tdiv_eq_ediv_of_nonneg (by omega)]; rfl

/-! ### bits of words -/
theorem bits_nat_and {k : IntKind} (hk : k.signed = false) {x y : Nat} (hx : x < 2 ^ k.bits) (hy : y < 2 ^ k.bits) : bits .and k (x : Int) (y : Int) = ((x &&& y : Nat) : Int) := by
  have h1 : x &&& y < 2 ^ k.bits := Nat.lt_of_le_of_lt Nat.and_le_left hx
  simp only [bits, BitVec.ofInt_natCast, BitVec.toNat_and, BitVec.toNat_ofNat, Nat.mod_eq_of_lt hx, Nat.mod_eq_of_lt hy]
  simp only [IntKind.wrap, hk, Bool.false_and, Bool.false_eq_true, if_false]
  have : ((2 : Int) ^ k.bits) = ((2 ^ k.bits : Nat) : Int) := by simp
  rw [this]
  exact_mod_cast Nat.mod_eq_of_lt h1
theorem bits_nat_or {k : IntKind} (hk : k.signed = false) {x y : Nat} (hx : x < 2 ^ k.bits) (hy : y < 2 ^ k.bits) : bits .or k (x : Int) (y : Int) = ((x ||| y : Nat) : Int) := by
  have h1 : x ||| y < 2 ^ k.bits := Nat.or_lt_two_pow hx hy
  simp only [bits, BitVec.ofInt_natCast, BitVec.toNat_or, BitVec.toNat_ofNat, Nat.mod_eq_of_lt hx, Nat.mod_eq_of_lt hy]
  simp only [IntKind.wrap, hk, Bool.false_and, Bool.false_eq_true, if_false]
  have : ((2 : Int) ^ k.bits) = ((2 ^ k.bits : Nat) : Int) := by simp
  rw [this]
  exact_mod_cast Nat.mod_eq_of_lt h1
theorem bits_nat_xor {k : IntKind} (hk : k.signed = false) {x y : Nat} (hx : x < 2 ^ k.bits) (hy : y < 2 ^ k.bits) : bits .xor k (x : Int) (y : Int) = ((x ^^^ y : Nat) : Int) := by
  have h1 : x ^^^ y < 2 ^ k.bits := Nat.xor_lt_two_pow hx hy
  simp only [bits, BitVec.ofInt_natCast, BitVec.toNat_xor, BitVec.toNat_ofNat, Nat.mod_eq_of_lt hx, Nat.mod_eq_of_lt hy]
  simp only [IntKind.wrap, hk, Bool.false_and, Bool.false_eq_true, if_false]
  have : ((2 : Int) ^ k.bits) = ((2 ^ k.bits : Nat) : Int) := by simp
  rw [this]
  exact_mod_cast Nat.mod_eq_of_lt h1
theorem bits_nat_andNot {k : IntKind} (hk : k.signed = false) {x y : Nat} (hx : x < 2 ^ k.bits) (hy : y < 2 ^ k.bits) : bits .andNot k (x : Int) (y : Int) = ((x &&& (2 ^ k.bits - 1 - y) : Nat) : Int) := by
  have h1 : x &&& (2 ^ k.bits - 1 - y) < 2 ^ k.bits := Nat.lt_of_le_of_lt Nat.and_le_left hx
  simp only [bits, BitVec.ofInt_natCast, BitVec.toNat_and, BitVec.toNat_not, BitVec.toNat_ofNat, Nat.mod_eq_of_lt hx, Nat.mod_eq_of_lt hy]
  simp only [IntKind.wrap, hk, Bool.false_and, Bool.false_eq_true, if_false]
  have : ((2 : Int) ^ k.bits) = ((2 ^ k.bits : Nat) : Int) := by simp
  rw [this]
  exact_mod_cast Nat.mod_eq_of_lt h1

theorem and32 {x y : Nat} (hx : x < 4294967296) (hy : y < 4294967296) : bits .and .u32 (x : Int) (y : Int) = ((x &&& y : Nat) : Int) := bits_nat_and rfl hx hy
theorem or32 {x y : Nat} (hx : x < 4294967296) (hy : y < 4294967296) : bits .or .u32 (x : Int) (y : Int) = ((x ||| y : Nat) : Int) := bits_nat_or rfl hx hy
theorem xor32 {x y : Nat} (hx : x < 4294967296) (hy : y < 4294967296) : bits .xor .u32 (x : Int) (y : Int) = ((x ^^^ y : Nat) : Int) := bits_nat_xor rfl hx hy
theorem andNot32 {x y : Nat} (hx : x < 4294967296) (hy : y < 4294967296) : bits .andNot .u32 (x : Int) (y : Int) = ((x &&& (4294967295 - y) : Nat) : Int) := bits_nat_andNot rfl hx hy
theorem and64 {x y : Nat} (hx : x < 18446744073709551616) (hy : y < 18446744073709551616) : bits .and .u64 (x : Int) (y : Int) = ((x &&& y : Nat) : Int) := bits_nat_and rfl hx hy
theorem or64 {x y : Nat} (hx : x < 18446744073709551616) (hy : y < 18446744073709551616) : bits .or .u64 (x : Int) (y : Int) = ((x ||| y : Nat) : Int) := bits_nat_or rfl hx hy
theorem xor64 {x y : Nat} (hx : x < 18446744073709551616) (hy : y < 18446744073709551616) : bits .xor .u64 (x : Int) (y : Int) = ((x ^^^ y : Nat) : Int) := bits_nat_xor rfl hx hy

/-- a mask of low bits -/
theorem and_mask32 {x : Nat} (hx : x < 4294967296) {k : Nat} (hk : k ≤ 32) : bits .and .u32 (x : Int) ((2 ^ k - 1 : Nat) : Int) = ((x % 2 ^ k : Nat) : Int) := by
  rw [and32 hx (by have : 2 ^ k ≤ 2 ^ 32 := Nat.pow_le_pow_right (by decide) hk; omega), Nat.and_two_pow_sub_one_eq_mod]
theorem and_mask64 {x : Nat} (hx : x < 18446744073709551616) {k : Nat} (hk : k ≤ 64) : bits .and .u64 (x : Int) ((2 ^ k - 1 : Nat) : Int) = ((x % 2 ^ k : Nat) : Int) := by
  rw [and64 hx (by have : 2 ^ k ≤ 2 ^ 64 := Nat.pow_le_pow_right (by decide) hk; omega), Nat.and_two_pow_sub_one_eq_mod]

/-- two words without a bit in both -/
theorem or_add {a b m : Nat} (ha : a % 2 ^ m = 0) (hb : b < 2 ^ m) : a ||| b = a + b := by
  have h : a = 2 ^ m * (a / 2 ^ m) := by
    have := Nat.div_add_mod a (2 ^ m)
    omega
  rw [h]
  exact (Nat.two_pow_add_eq_or_of_lt hb _).symm

/-! ### fields -/
def fld (w lo n : Nat) : Nat := w / 2 ^ lo % 2 ^ n
def bt (w i : Nat) : Nat := w / 2 ^ i % 2


theorem fld_def (w lo n : Nat) : fld w lo n = w / 2 ^ lo % 2 ^ n := rfl
theorem bt_def (w i : Nat) : bt w i = w / 2 ^ i % 2 := rfl
theorem fld_lt (w lo n : Nat) : fld w lo n < 2 ^ n := Nat.mod_lt _ (Nat.two_pow_pos n)
theorem bt_lt (w i : Nat) : bt w i < 2 := Nat.mod_lt _ (by decide)
theorem fld_zero (w lo : Nat) : fld w lo 0 = 0 := by simp [fld, Nat.mod_one]
theorem fld_succ (w lo n : Nat) : fld w lo (n + 1) = fld w lo n + bt w (lo + n) * 2 ^ n := by
  unfold fld bt
  rw [Nat.pow_succ, Nat.mod_mul, Nat.div_div_eq_div_mul, ← Nat.pow_add, Nat.mul_comm]
theorem bt_fld (w lo n i : Nat) (h : i < n) : bt (fld w lo n) i = bt w (lo + i) := by
  unfold fld bt
  have e : (2 : Nat) ^ n = 2 ^ i * 2 ^ (n - i) := by rw [← Nat.pow_add]; congr 1; omega
  rw [e, Nat.mod_mul_right_div_self, Nat.div_div_eq_div_mul, ← Nat.pow_add]
  have : (2 : Nat) ^ (n - i) = 2 * 2 ^ (n - i - 1) := by rw [← Nat.pow_succ']; congr 1; omega
  rw [this, Nat.mod_mul_right_mod]
theorem bt_eq_testBit (w i : Nat) : bt w i = (w.testBit i).toNat := by
  rw [Nat.toNat_testBit]; rfl

theorem fld_testBit (w lo n i : Nat) : (fld w lo n).testBit i = (decide (i < n) && w.testBit (lo + i)) := by
  unfold fld
  rw [Nat.testBit_mod_two_pow, Nat.testBit_div_two_pow, Nat.add_comm]
theorem fld_or (a b lo n : Nat) : fld (a ||| b) lo n = fld a lo n ||| fld b lo n := by
  apply Nat.eq_of_testBit_eq
  intro i
  simp only [fld_testBit, Nat.testBit_or]
  cases decide (i < n) <;> simp
theorem fld_and (a b lo n : Nat) : fld (a &&& b) lo n = fld a lo n &&& fld b lo n := by
  apply Nat.eq_of_testBit_eq
  intro i
  simp only [fld_testBit, Nat.testBit_and]
  cases decide (i < n) <;> simp
theorem fld_xor (a b lo n : Nat) : fld (a ^^^ b) lo n = fld a lo n ^^^ fld b lo n := by
  apply Nat.eq_of_testBit_eq
  intro i
  simp only [fld_testBit, Nat.testBit_xor]
  cases decide (i < n) <;> simp
theorem lt32_or {a b : Nat} (ha : a < 4294967296) (hb : b < 4294967296) : a ||| b < 4294967296 := Nat.or_lt_two_pow (n := 32) ha hb
theorem lt32_and {a b : Nat} (ha : a < 4294967296) : a &&& b < 4294967296 := Nat.lt_of_le_of_lt Nat.and_le_left ha
attribute [irreducible] fld bt
end Go.Sh

/- Ranges of arguments; equality of typed values. No condition. -/

namespace Go.Sh
set_option linter.unusedVariables false
set_option linter.unusedSimpArgs false
open Go Go.Ev

theorem tyEq_refl : ∀ (t : Ty) (x : t.den), Ty.eq t x x = true := by
  intro t
  induction t with
  | int k => intro x; simp [Ty.eq]
  | flt k => intro x; simp [Ty.eq]
  | bool => intro x; simp [Ty.eq]
  | str => intro x; simp [Ty.eq]
  | err => intro x; simp [Ty.eq]
  | unit => intro x; rfl
  | one a ih => intro x; exact ih x
  | pair a b iha ihb => intro x; simp [Ty.eq, iha, ihb]
  | arr n t ih =>
    intro x
    show eqN t.eq t.dflt n x x = true
    have : ∀ (n : Nat) (xs : List t.den), eqN t.eq t.dflt n xs xs = true := by
      intro n
      induction n with
      | zero => intro xs; rfl
      | succ n ihn => intro xs; simp [eqN, ih, ihn]
    exact this n x

theorem u32_nat {x : Int} (h : (Ty.int .u32).wf x) : ∃ n : Nat, n < 4294967296 ∧ x = n := by
  have h : (Lit.int .u32 x).wf = true := h
  simp only [Lit.wf, Bool.and_eq_true, decide_eq_true_eq, IntKind.min, IntKind.max, IntKind.signed, IntKind.bits] at h
  simp at h
  exact ⟨x.toNat, by omega, by omega⟩
theorem i64_rng {x : Int} (h : (Ty.int .i64).wf x) : -9223372036854775808 ≤ x ∧ x ≤ 9223372036854775807 := by
  have h : (Lit.int .i64 x).wf = true := h
  simp only [Lit.wf, Bool.and_eq_true, decide_eq_true_eq, IntKind.min, IntKind.max, IntKind.signed, IntKind.bits] at h
  simp at h
  omega
theorem i64_wf (v : Int) (h1 : -9223372036854775808 ≤ v) (h2 : v ≤ 9223372036854775807) : (Ty.int .i64).wf v := by
  show (Lit.int .i64 v).wf = true
  simp only [Lit.wf, Bool.and_eq_true, decide_eq_true_eq, IntKind.min, IntKind.max, IntKind.signed, IntKind.bits]
  simp
  omega
end Go.Sh

/- Fields of words, as the program reckons them. No condition. -/

namespace Go.Proofs.YtkcfkegkhopakaaGreatDoor
open Go Go.Ev Go.Sh
set_option linter.unusedVariables false
set_option linter.unusedSimpArgs false

theorem powI (k : Nat) : (2 : Int) ^ k = ((2 ^ k : Nat) : Int) := by simp
theorem pow_lt64 {k : Nat} (h : k < 64) : 2 ^ k < 18446744073709551616 := Nat.pow_lt_pow_right (a := 2) (by decide) h
theorem brF {ρ : Type} {p : Prop} [Decidable p] {a b : Option ρ} (h : ¬ p) : br (decide p) a b = b := br_false (decide_eq_false h)
theorem brT {ρ : Type} {p : Prop} [Decidable p] {a b : Option ρ} (h : p) : br (decide p) a b = a := br_true (decide_eq_true h)
theorem chkT {ρ : Type} {p : Prop} [Decidable p] {a : Option ρ} (h : p) : chk (decide p) a = a := chk_true (decide_eq_true h)

theorem mask_is {k : Nat} (h2 : k < 64) : IntKind.u64.wrap (IntKind.u64.wrap (1 * 2 ^ min ((k : Int)).toNat IntKind.u64.bits) - 1) = ((2 ^ k - 1 : Nat) : Int) := by
  have h3 := pow_lt64 h2
  have h4 := Nat.two_pow_pos k
  rw [Int.toNat_natCast, bits_u64, Nat.min_eq_left (by omega), Int.one_mul, powI, u64N h3, wrapU64 (by omega) (by omega)]
  omega

theorem Zext_is (N : Nat) {x k : Nat} (hx : x < 18446744073709551616) (h1 : 1 ≤ k) (h2 : k < 64) : F70 N x k = some ((x % 2 ^ k : Nat) : Int) := by
  unfold F70
  rw [brF (by omega), brF (by omega), chkT (by omega), mask_is h2, and_mask64 hx (by omega)]

theorem Field_is (N : Nat) {n hi lo : Nat} (hn : n < 4294967296) (h1 : lo ≤ hi) (h2 : hi ≤ 31) : F168 N n hi lo = some ((fld n lo (hi - lo + 1) : Nat) : Int) := by
  have e1 : IntKind.u64.wrap (n : Int) = n := u64N (by omega)
  have e2 : IntKind.i64.wrap (IntKind.i64.wrap ((hi : Int) - (lo : Int)) + 1) = ((hi - lo + 1 : Nat) : Int) := by
    rw [wrap64 (n := (hi : Int) - lo) (by omega) (by omega), wrap64 (by omega) (by omega)]; omega
  have e3 : n / 2 ^ lo ≤ n := Nat.div_le_self _ _
  have e4 : fld n lo (hi - lo + 1) ≤ n := by rw [fld_def]; exact Nat.le_trans (Nat.mod_le _ _) e3
  unfold F168 R168
  simp only [jp_eq]
  rw [brF (by omega), brF (by omega), br_false (decide_eq_false (by omega)), chkT (by omega), e1, e2, Int.toNat_natCast, bits_u64, Nat.min_eq_left (by omega), fdivN, Zext_is N (by omega) (by omega) (by omega), bindS_some]
  rw [← fld_def]
  rw [u32N (by omega)]

/-- with a sign -/
def sxN (x k : Nat) : Int := if x % 2 ^ k < 2 ^ (k - 1) then ((x % 2 ^ k : Nat) : Int) else ((x % 2 ^ k : Nat) : Int) - 2 ^ k

theorem Sext_is (N : Nat) {x k : Nat} (hx : x < 18446744073709551616) (h1 : 1 ≤ k) (h2 : k < 64) : F127 N x k = some (IntKind.u64.wrap (sxN x k)) := by
  have e2 : IntKind.i64.wrap (64 - (k : Int)) = ((64 - k : Nat) : Int) := by rw [wrap64 (by omega) (by omega)]; omega
  unfold F127 R127
  simp only [jp_eq]
  rw [brF (by omega), br_false (decide_eq_false (by omega)), e2, chkT (by omega), chkT (by omega), Int.toNat_natCast, bits_u64, bits_i64, Nat.min_eq_left (by omega), powI]
  congr 2
  have e3 : (2 : Nat) ^ 64 = 2 ^ k * 2 ^ (64 - k) := by rw [← Nat.pow_add]; congr 1; omega
  have e4 : ((x : Int) * ((2 ^ (64 - k) : Nat) : Int)) = ((x * 2 ^ (64 - k) : Nat) : Int) := by simp
  have e5 : x * 2 ^ (64 - k) % 18446744073709551616 = x % 2 ^ k * 2 ^ (64 - k) := by
    rw [show 18446744073709551616 = 2 ^ k * 2 ^ (64 - k) by rw [← e3]]
    rw [Nat.mul_mod_mul_right]
  have hp := Nat.two_pow_pos (64 - k)
  have hk : (2 : Nat) ^ k = 2 * 2 ^ (k - 1) := by rw [← Nat.pow_succ']; congr 1; omega
  have h63 : (9223372036854775808 : Nat) = 2 ^ (k - 1) * 2 ^ (64 - k) := by
    rw [← Nat.pow_add, show k - 1 + (64 - k) = 63 by omega]
  have hlt : x % 2 ^ k < 2 ^ k := Nat.mod_lt _ (Nat.two_pow_pos k)
  rw [e4, u64_wrap_eq, i64_wrap_eq]
  have e6 : ((x * 2 ^ (64 - k) : Nat) : Int) % 18446744073709551616 = ((x % 2 ^ k * 2 ^ (64 - k) : Nat) : Int) := by
    rw [← e5]; omega
  rw [e6]
  have e7 : ((x % 2 ^ k * 2 ^ (64 - k) : Nat) : Int) % 18446744073709551616 = ((x % 2 ^ k * 2 ^ (64 - k) : Nat) : Int) := by
    have : x % 2 ^ k * 2 ^ (64 - k) < 18446744073709551616 := by rw [← e5]; exact Nat.mod_lt _ (by decide)
    omega
  rw [e7]
  have hpI : (0 : Int) < ((2 ^ (64 - k) : Nat) : Int) := by omega
  unfold sxN
  split
  · rename_i hc
    have hc' : ¬ (x % 2 ^ k < 2 ^ (k - 1)) := by
      intro h
      have : x % 2 ^ k * 2 ^ (64 - k) < 2 ^ (k - 1) * 2 ^ (64 - k) := (Nat.mul_lt_mul_right hp).2 h
      omega
    rw [if_neg hc']
    have : ((x % 2 ^ k * 2 ^ (64 - k) : Nat) : Int) - 18446744073709551616 = (((x % 2 ^ k : Nat) : Int) - 2 ^ k) * ((2 ^ (64 - k) : Nat) : Int) := by
      rw [Int.sub_mul, powI k]
      have h : ((2 ^ k : Nat) : Int) * ((2 ^ (64 - k) : Nat) : Int) = 18446744073709551616 := by
        rw [← Int.natCast_mul, ← e3]
        rfl
      rw [h, Int.natCast_mul]
    rw [this, Int.mul_fdiv_cancel _ (by omega)]
  · rename_i hc
    have hc' : x % 2 ^ k < 2 ^ (k - 1) := by
      rcases Nat.lt_or_ge (x % 2 ^ k) (2 ^ (k - 1)) with h | h
      · exact h
      · exfalso
        have : 2 ^ (k - 1) * 2 ^ (64 - k) ≤ x % 2 ^ k * 2 ^ (64 - k) := Nat.mul_le_mul_right _ h
        omega
    rw [if_pos hc', show ((x % 2 ^ k * 2 ^ (64 - k) : Nat) : Int) = ((x % 2 ^ k : Nat) : Int) * ((2 ^ (64 - k) : Nat) : Int) from Int.natCast_mul _ _, Int.mul_fdiv_cancel _ (by omega)]

theorem wrap_sx {x k : Nat} (h1 : 1 ≤ k) (h2 : k < 64) : IntKind.i64.wrap (IntKind.u64.wrap (sxN x k)) = sxN x k := by
  have hk : (2 : Nat) ^ k = 2 * 2 ^ (k - 1) := by rw [← Nat.pow_succ']; congr 1; omega
  have hlt : x % 2 ^ k < 2 ^ k := Nat.mod_lt _ (Nat.two_pow_pos k)
  have hb : 2 ^ (k - 1) ≤ 2 ^ 62 := Nat.pow_le_pow_right (by decide) (by omega)
  have : -9223372036854775808 ≤ sxN x k ∧ sxN x k ≤ 9223372036854775807 := by
    unfold sxN
    rw [powI k]
    split <;> omega
  rw [u64_wrap_eq, i64_wrap_eq]
  split <;> omega
end Go.Proofs.YtkcfkegkhopakaaGreatDoor

/- Immediates of words: the program's and the document's are the same. No condition. -/

namespace Go.Proofs.YtkcfkegkhopakaaGreatDoor
open Go Go.Ev Go.Sh
set_option linter.unusedVariables false
set_option linter.unusedSimpArgs false
set_option maxRecDepth 10000

/-- the bits of an immediate -/
def runs (n : Nat) : List (Nat × Nat × Nat) → Nat → Nat
  | [], x => x
  | (hi, lo, at') :: r, x => runs n r (x ||| fld n lo (hi - lo + 1) * 2 ^ at')

theorem getD_map_cast (rs : List (Nat × Nat × Nat)) {i : Nat} (h : i < rs.length) : (rs.map fun r => ((r.1 : Int), ((r.2.1 : Int), (r.2.2 : Int)))).getD i (0, 0, 0) = (((rs[i]).1 : Int), (((rs[i]).2.1 : Int), ((rs[i]).2.2 : Int))) := by
  rw [List.getD_eq_getElem?_getD, List.getElem?_map, List.getElem?_eq_getElem h]
  rfl

theorem get_loop (N : Nat) {n : Nat} (hn : n < 4294967296) (k : Int → Option Int) (l : List (Int × Int × Int)) (rs : List (Nat × Nat × Nat)) (hl : l = rs.map fun r => ((r.1 : Int), ((r.2.1 : Int), (r.2.2 : Int))))
    (hok : ∀ r ∈ rs, r.2.1 ≤ r.1 ∧ r.1 ≤ 31 ∧ r.2.2 + (r.1 - r.2.1) ≤ 31) (hN : rs.length < N) (hb : rs.length < 1000) :
    fixN N (fun again1 (y2 : Int × Int) => br (decide (y2.2 < (↑l.length : Int)))
 (chk (decide (0 ≤ y2.2) && decide (y2.2 < (↑l.length : Int))) (bindS (F168 N n ((l.getD y2.2.toNat (0, 0, 0)).1) ((l.getD y2.2.toNat (0, 0, 0)).2.1)) (fun (y3 : Int) => chk (decide (0 ≤ (l.getD y2.2.toNat (0, 0, 0)).2.2)) (again1 ((Go.bits Go.BinOp.or IntKind.u64 y2.1
  (IntKind.u64.wrap
    (IntKind.u64.wrap y3 * 2 ^ Min.min (Int.toNat (l.getD y2.2.toNat (0, 0, 0)).2.2) IntKind.u64.bits)), IntKind.i64.wrap (y2.2 + 1)))))))
 (k y2.1)) ((0, 0)) = k (runs n rs 0) := by
  subst hl
  refine fixN_ind (fun m (s : Int × Int) => m ≤ rs.length ∧ s.2 = ((rs.length - m : Nat) : Int) ∧ ∃ x : Nat, s.1 = x ∧ x < 4294967296 ∧ runs n (rs.drop (rs.length - m)) x = runs n rs 0) (fun s o => o = k (runs n rs 0)) ?_ N rs.length (0, 0) hN ⟨Nat.le_refl _, by simp, 0, rfl, by decide, by simp⟩
  rintro m ⟨y, i⟩ again ⟨hm, rfl, x, hx, hxl, hr⟩ ih
  simp only at hx
  subst hx
  simp only [List.length_map]
  rcases Nat.eq_zero_or_pos m with h0 | h0
  · subst h0
    rw [brF (by omega)]
    rw [Nat.sub_zero, List.drop_length] at hr
    rw [← hr]; rfl
  · have hlt : rs.length - m < rs.length := by omega
    obtain ⟨h1, h2, h3⟩ := hok _ (List.getElem_mem hlt)
    have hp : fld n rs[rs.length - m].2.1 (rs[rs.length - m].1 - rs[rs.length - m].2.1 + 1) * 2 ^ rs[rs.length - m].2.2 < 4294967296 := by
      have := fld_lt n rs[rs.length - m].2.1 (rs[rs.length - m].1 - rs[rs.length - m].2.1 + 1)
      have e : 2 ^ (rs[rs.length - m].1 - rs[rs.length - m].2.1 + 1) * 2 ^ rs[rs.length - m].2.2 ≤ 2 ^ 32 := by
        rw [← Nat.pow_add]; exact Nat.pow_le_pow_right (by decide) (by omega)
      have := (Nat.mul_lt_mul_right (Nat.two_pow_pos rs[rs.length - m].2.2)).2 this
      omega
    have hf := fld_lt n rs[rs.length - m].2.1 (rs[rs.length - m].1 - rs[rs.length - m].2.1 + 1)
    have hf2 : (2 : Nat) ^ (rs[rs.length - m].1 - rs[rs.length - m].2.1 + 1) ≤ 2 ^ 32 := Nat.pow_le_pow_right (by decide) (by omega)
    rw [brT (by omega), chk_true (by simp; omega), Int.toNat_natCast, getD_map_cast rs hlt]
    simp only
    rw [Field_is N hn h1 h2, bindS_some, chkT (by omega), Int.toNat_natCast, bits_u64, Nat.min_eq_left (by omega), u64N (by omega), powI, ← Int.natCast_mul, u64N (by omega), or64 (by omega) (by omega), wrap64 (by omega) (by omega)]
    refine ih (m - 1) _ (by omega) ⟨by omega, by simp only; omega, x ||| _, rfl, Nat.or_lt_two_pow (n := 32) hxl hp, ?_⟩
    rw [← hr, show rs.length - (m - 1) = rs.length - m + 1 by omega, List.drop_eq_getElem_cons hlt]
    rfl

def immI (n : Nat) : Int := sxN (fld n 20 12) 12
def immS (n : Nat) : Int := sxN (fld n 25 7 * 32 + fld n 7 5) 12
def immB (n : Nat) : Int := sxN (bt n 31 * 4096 + bt n 7 * 2048 + fld n 25 6 * 32 + fld n 8 4 * 2) 13
def immU (n : Nat) : Int := sxN (fld n 12 20 * 4096) 32
def immJ (n : Nat) : Int := sxN (bt n 31 * 1048576 + fld n 12 8 * 4096 + bt n 20 * 2048 + fld n 21 10 * 2) 21
/-- the immediate of a word by a format -/
def getI (fmt n : Nat) : Int := if fmt = 1 then immI n else if fmt = 2 then immS n else if fmt = 3 then immB n else if fmt = 4 then immU n else if fmt = 5 then immJ n else 0

theorem getI_is (n : Nat) : getI 1 n = immI n ∧ getI 2 n = immS n ∧ getI 3 n = immB n ∧ getI 4 n = immU n ∧ getI 5 n = immJ n := by
  refine ⟨?_, ?_, ?_, ?_, ?_⟩ <;> (unfold getI; simp only [if_true, if_false, Nat.reduceEqDiff])

abbrev castR (rs : List (Nat × Nat × Nat)) : List (Int × Int × Int) := rs.map fun r => ((r.1 : Int), ((r.2.1 : Int), (r.2.2 : Int)))

/-- a format: how many bits, how many low ones are 0, its runs -/
def fmtOf : Nat → Nat × Nat × List (Nat × Nat × Nat)
  | 1 => (12, 0, [(31, 20, 0)])
  | 2 => (12, 0, [(31, 25, 5), (11, 7, 0)])
  | 3 => (13, 1, [(31, 31, 12), (7, 7, 11), (30, 25, 5), (11, 8, 1)])
  | 4 => (32, 12, [(31, 12, 12)])
  | 5 => (21, 1, [(31, 31, 20), (19, 12, 12), (20, 20, 11), (30, 21, 1)])
  | _ => (0, 0, [])

theorem of_is (N : Nat) (fmt : Nat) (h1 : 1 ≤ fmt) (h2 : fmt ≤ 5) : F187 N fmt = some (((fmtOf fmt).1 : Int), ((fmtOf fmt).2.1 : Int), true, castR (fmtOf fmt).2.2) := by
  obtain rfl | rfl | rfl | rfl | rfl : fmt = 1 ∨ fmt = 2 ∨ fmt = 3 ∨ fmt = 4 ∨ fmt = 5 := by omega
  all_goals kernel_rfl

theorem fmt_ok (fmt : Nat) (h1 : 1 ≤ fmt) (h2 : fmt ≤ 5) : (∀ r ∈ (fmtOf fmt).2.2, r.2.1 ≤ r.1 ∧ r.1 ≤ 31 ∧ r.2.2 + (r.1 - r.2.1) ≤ 31) ∧ (fmtOf fmt).2.2.length < 10 ∧ 1 ≤ (fmtOf fmt).1 ∧ (fmtOf fmt).1 < 64 := by
  obtain rfl | rfl | rfl | rfl | rfl : fmt = 1 ∨ fmt = 2 ∨ fmt = 3 ∨ fmt = 4 ∨ fmt = 5 := by omega
  all_goals exact ⟨by decide, by decide, by decide, by decide⟩

theorem runs_lt (n : Nat) : ∀ (rs : List (Nat × Nat × Nat)) (x : Nat), x < 2 ^ 32 → (∀ r ∈ rs, r.2.1 ≤ r.1 ∧ r.1 ≤ 31 ∧ r.2.2 + (r.1 - r.2.1) ≤ 31) → runs n rs x < 2 ^ 32
  | [], x, hx, _ => hx
  | (hi, lo, at') :: rs, x, hx, h => by
    obtain ⟨h1, h2, h3⟩ := h _ (List.mem_cons_self)
    simp only at h1 h2 h3
    refine runs_lt n rs _ (Nat.or_lt_two_pow hx ?_) fun r hr => h r (List.mem_cons_of_mem _ hr)
    have := (Nat.mul_lt_mul_right (Nat.two_pow_pos at')).2 (fld_lt n lo (hi - lo + 1))
    have e : 2 ^ (hi - lo + 1) * 2 ^ at' ≤ 2 ^ 32 := by
      rw [← Nat.pow_add]; exact Nat.pow_le_pow_right (by decide) (by omega)
    omega

theorem get_with (N : Nat) (hN : 10 ≤ N) {n : Nat} (hn : n < 4294967296) (fmt : Nat) (h1 : 1 ≤ fmt) (h2 : fmt ≤ 5) : F159 N fmt n = some (sxN (runs n (fmtOf fmt).2.2 0) (fmtOf fmt).1) := by
  obtain ⟨g1, g2, g3, g4⟩ := fmt_ok fmt h1 h2
  have hr := runs_lt n (fmtOf fmt).2.2 0 (by decide) g1
  unfold F159 R159
  rw [of_is N fmt h1 h2, bindS_some]
  simp only [Bool.not_true, br_f]
  rw [get_loop N hn (fun x => bindS (F127 N x (fmtOf fmt).1) fun y4 => some (IntKind.i64.wrap y4)) _ _ rfl g1 (by omega) (by omega), Sext_is N (by omega) g3 g4, bindS_some, wrap_sx g3 g4]

theorem fld1 (n i : Nat) : fld n i 1 = bt n i := by rw [fld_succ, fld_zero]; simp

theorem runs_is (n : Nat) (fmt : Nat) (h1 : 1 ≤ fmt) (h2 : fmt ≤ 5) : sxN (runs n (fmtOf fmt).2.2 0) (fmtOf fmt).1 = getI fmt n := by
  obtain ⟨g1, g2, g3, g4, g5⟩ := getI_is n
  have b31 := bt_lt n 31
  have b7 := bt_lt n 7
  have b20 := bt_lt n 20
  obtain rfl | rfl | rfl | rfl | rfl : fmt = 1 ∨ fmt = 2 ∨ fmt = 3 ∨ fmt = 4 ∨ fmt = 5 := by omega
  · rw [g1]
    simp only [fmtOf, runs, immI, Nat.zero_or, Nat.reduceSub, Nat.reduceAdd, Nat.pow_zero, Nat.mul_one]
  · have f1 := fld_lt n 7 5
    rw [g2]
    simp only [fmtOf, runs, immS, Nat.zero_or, Nat.reduceSub, Nat.reduceAdd, Nat.reducePow, Nat.mul_one]
    rw [or_add (m := 5) (by omega) f1]
  · have f1 := fld_lt n 25 6
    have f2 := fld_lt n 8 4
    rw [g3]
    simp only [fmtOf, runs, immB, Nat.zero_or, Nat.reduceSub, Nat.reduceAdd, Nat.reducePow, fld1]
    simp only [Nat.reducePow] at f1 f2
    rw [or_add (a := bt n 31 * 4096) (m := 12) (by omega) (by omega), or_add (a := bt n 31 * 4096 + bt n 7 * 2048) (m := 11) (by omega) (by omega), or_add (m := 5) (by omega) (by omega)]
  · rw [g4]
    simp only [fmtOf, runs, immU, Nat.zero_or, Nat.reduceSub, Nat.reduceAdd, Nat.reducePow]
  · have f1 := fld_lt n 12 8
    have f2 := fld_lt n 21 10
    rw [g5]
    simp only [fmtOf, runs, immJ, Nat.zero_or, Nat.reduceSub, Nat.reduceAdd, Nat.reducePow, fld1]
    simp only [Nat.reducePow] at f1 f2
    rw [or_add (a := bt n 31 * 1048576) (m := 20) (by omega) (by omega), or_add (a := bt n 31 * 1048576 + fld n 12 8 * 4096) (m := 12) (by omega) (by omega), or_add (m := 11) (by omega) (by omega)]

theorem Get_is (N : Nat) (hN : 10 ≤ N) {n : Nat} (hn : n < 4294967296) (fmt : Nat) (h1 : 1 ≤ fmt) (h2 : fmt ≤ 5) : F159 N fmt n = some (getI fmt n) :=
  (get_with N hN hn fmt h1 h2).trans (congrArg some (runs_is n fmt h1 h2))

/-! ### the document's -/
def term (n : Nat) (p : Int) (i : Nat) : Int := if p < 0 then 0 else if i = 31 then - ((bt n i : Int) * 2 ^ p.toNat) else (bt n i : Int) * 2 ^ p.toNat
def acc (n : Nat) (ps : List Int) : Nat → Int
  | 0 => 0
  | i + 1 => acc n ps i + term n (ps.getD i 0) i

theorem term_le (n : Nat) {p : Int} (hp : p ≤ 31) (i : Nat) : -4294967296 ≤ term n p i ∧ term n p i ≤ 4294967296 := by
  have hb := bt_lt n i
  unfold term
  split
  · omega
  · have h : (2 : Nat) ^ p.toNat ≤ 2 ^ 31 := Nat.pow_le_pow_right (by decide) (by omega)
    have hm : bt n i * 2 ^ p.toNat ≤ 2 ^ 31 := by
      have : bt n i * 2 ^ p.toNat ≤ 1 * 2 ^ p.toNat := Nat.mul_le_mul_right _ (by omega)
      omega
    have e : ((bt n i : Int) * 2 ^ p.toNat) = ((bt n i * 2 ^ p.toNat : Nat) : Int) := by rw [powI, Int.natCast_mul]
    rw [e]
    split <;> omega

theorem acc_le (n : Nat) (ps : List Int) (hp : ∀ p ∈ ps, p ≤ 31) : ∀ i, i ≤ 32 → -4294967296 * i ≤ acc n ps i ∧ acc n ps i ≤ 4294967296 * i
  | 0, _ => by simp [acc]
  | i + 1, h => by
    obtain ⟨h1, h2⟩ := acc_le n ps hp i (by omega)
    have hq : ps.getD i 0 ≤ 31 := by
      rw [List.getD_eq_getElem?_getD]
      cases hx : ps[i]? with
      | none => simp
      | some x => exact hp x (List.mem_of_getElem? hx)
    obtain ⟨h3, h4⟩ := term_le n hq i
    simp only [acc]
    omega

theorem ref_get (N : Nat) (hN : 33 ≤ N) {n : Nat} (hn : n < 4294967296) {fmt : Int} {ps : List Int} (ho : F173 N fmt = some ps) (hp : ∀ p ∈ ps, p ≤ 31) : F114 N fmt n = some (acc n ps 32) := by
  unfold F114 R114
  rw [ho, bindS_some]
  refine fixN_ind (fun m (s : Int × Int) => m ≤ 32 ∧ s.2 = ((32 - m : Nat) : Int) ∧ s.1 = acc n ps (32 - m)) (fun s o => o = some (acc n ps 32)) ?_ N 32 (0, 0) (by omega) ⟨by omega, rfl, rfl⟩
  rintro m ⟨y, i⟩ again ⟨hm, rfl, rfl⟩ ih
  simp only
  rcases Nat.eq_zero_or_pos m with h0 | h0
  · subst h0
    rw [brF (by omega)]
  · have hq : ps.getD (32 - m) 0 ≤ 31 := by
      rw [List.getD_eq_getElem?_getD]
      cases hx : ps[32 - m]? with
      | none => simp
      | some x => exact hp x (List.mem_of_getElem? hx)
    obtain ⟨a1, a2⟩ := acc_le n ps hp (32 - m) (by omega)
    obtain ⟨a3, a4⟩ := term_le n hq (32 - m)
    have step : ∀ y : Int, y = acc n ps (32 - m) + term n (ps.getD (32 - m) 0) (32 - m) → again (y, IntKind.i64.wrap (((32 - m : Nat) : Int) + 1)) = some (acc n ps 32) := by
      intro y hy
      rw [wrap64 (by omega) (by omega)]
      refine ih (m - 1) _ (by omega) ⟨by omega, by simp only; omega, ?_⟩
      simp only
      rw [hy, show 32 - (m - 1) = (32 - m) + 1 by omega, acc]
    simp only [jp_eq]
    rw [brT (by omega), chk_true (by simp; omega)]
    by_cases hneg : ps.getD (32 - m) 0 < 0
    · rw [show ((32 - m : Nat) : Int).toNat = 32 - m from Int.toNat_natCast _, brT hneg]
      simp only [br_t]
      exact step _ (by rw [term, if_pos hneg, Int.add_zero])
    · have hb := bt_lt n (32 - m)
      have e1 : bits .and .u32 ((n : Int).fdiv (2 ^ Min.min (IntKind.u64.wrap ((32 - m : Nat) : Int)).toNat IntKind.u32.bits)) 1 = ((bt n (32 - m) : Nat) : Int) := by
        rw [u64N (by omega), Int.toNat_natCast, bits_u32, Nat.min_eq_left (by omega), fdivN, bt_def]
        exact and_mask32 (Nat.lt_of_le_of_lt (Nat.div_le_self _ _) hn) (k := 1) (by decide)
      rw [show ((32 - m : Nat) : Int).toNat = 32 - m from Int.toNat_natCast _, brF hneg, u64N (by omega), chkT (by omega), ← u64N (n := 32 - m) (by omega), e1, u64N (n := 32 - m) (by omega)]
      by_cases hz : bt n (32 - m) = 0
      · rw [br_true (by simp [hz])]
        exact step _ (by rw [term, if_neg hneg, hz]; simp)
      · have h1 : bt n (32 - m) = 1 := by omega
        rw [br_false (by simp [hz])]
        have e2 : IntKind.u64.wrap (ps.getD (32 - m) 0) = ps.getD (32 - m) 0 := wrapU64 (by omega) (by omega)
        have e3 : IntKind.i64.wrap (1 * 2 ^ Min.min (ps.getD (32 - m) 0).toNat IntKind.i64.bits) = 2 ^ (ps.getD (32 - m) 0).toNat := by
          have : (2 : Nat) ^ (ps.getD (32 - m) 0).toNat ≤ 2 ^ 31 := Nat.pow_le_pow_right (by decide) (by omega)
          rw [bits_i64, Nat.min_eq_left (by omega), Int.one_mul, powI, i64N (by omega)]
        rw [e2, e3]
        have ht : term n (ps.getD (32 - m) 0) (32 - m) = if 32 - m = 31 then - 2 ^ (ps.getD (32 - m) 0).toNat else 2 ^ (ps.getD (32 - m) 0).toNat := by
          simp only [term, hneg, if_false, h1]
          simp
        by_cases h31 : 32 - m = 31
        · rw [brT (by omega), chk_true (by simp; omega), chkT (by omega)]
          refine step _ ?_
          rw [ht, if_pos h31] at a3 a4 ⊢
          rw [wrap64 (by omega) (by omega)]
          omega
        · rw [brF (by omega), chk_true (by simp; omega), chkT (by omega)]
          refine step _ ?_
          rw [ht, if_neg h31] at a3 a4 ⊢
          rw [wrap64 (by omega) (by omega)]

theorem places_is (M : Nat) (fmt : Nat) (h1 : 1 ≤ fmt) (h2 : fmt ≤ 5) : ∃ ps : List Int, F173 (M + 100) fmt = some ps ∧ (∀ p ∈ ps, p ≤ 31) ∧ ∀ n, acc n ps 32 = getI fmt n := by
  obtain rfl | rfl | rfl | rfl | rfl : fmt = 1 ∨ fmt = 2 ∨ fmt = 3 ∨ fmt = 4 ∨ fmt = 5 := by omega
  · refine ⟨[-1, -1, -1, -1, -1, -1, -1, -1, -1, -1, -1, -1, -1, -1, -1, -1, -1, -1, -1, -1, 0, 1, 2, 3, 4, 5, 6, 7, 8, 9, 10, 11], by kernel_rfl, by decide, fun n => ?_⟩
    obtain ⟨g1, g2, g3, g4, g5⟩ := getI_is n
    rw [g1]
    have c20 := bt_lt n 20
    have c21 := bt_lt n 21
    have c22 := bt_lt n 22
    have c23 := bt_lt n 23
    have c24 := bt_lt n 24
    have c25 := bt_lt n 25
    have c26 := bt_lt n 26
    have c27 := bt_lt n 27
    have c28 := bt_lt n 28
    have c29 := bt_lt n 29
    have c30 := bt_lt n 30
    have c31 := bt_lt n 31
    have ea : acc n [-1, -1, -1, -1, -1, -1, -1, -1, -1, -1, -1, -1, -1, -1, -1, -1, -1, -1, -1, -1, 0, 1, 2, 3, 4, 5, 6, 7, 8, 9, 10, 11] 32 = ((bt n 20 : Int) * 1) + ((bt n 21 : Int) * 2) + ((bt n 22 : Int) * 4) + ((bt n 23 : Int) * 8) + ((bt n 24 : Int) * 16) + ((bt n 25 : Int) * 32) + ((bt n 26 : Int) * 64) + ((bt n 27 : Int) * 128) + ((bt n 28 : Int) * 256) + ((bt n 29 : Int) * 512) + ((bt n 30 : Int) * 1024) + -((bt n 31 : Int) * 2048) := by
      simp [acc, term]
    rw [ea]
    have e20 : fld n 20 12 = bt n 20 * 1 + bt n 21 * 2 + bt n 22 * 4 + bt n 23 * 8 + bt n 24 * 16 + bt n 25 * 32 + bt n 26 * 64 + bt n 27 * 128 + bt n 28 * 256 + bt n 29 * 512 + bt n 30 * 1024 + bt n 31 * 2048 := by
      simp [fld_succ, fld_zero]
    unfold immI sxN
    rw [e20]
    split <;> omega
  · refine ⟨[-1, -1, -1, -1, -1, -1, -1, 0, 1, 2, 3, 4, -1, -1, -1, -1, -1, -1, -1, -1, -1, -1, -1, -1, -1, 5, 6, 7, 8, 9, 10, 11], by kernel_rfl, by decide, fun n => ?_⟩
    obtain ⟨g1, g2, g3, g4, g5⟩ := getI_is n
    rw [g2]
    have c7 := bt_lt n 7
    have c8 := bt_lt n 8
    have c9 := bt_lt n 9
    have c10 := bt_lt n 10
    have c11 := bt_lt n 11
    have c25 := bt_lt n 25
    have c26 := bt_lt n 26
    have c27 := bt_lt n 27
    have c28 := bt_lt n 28
    have c29 := bt_lt n 29
    have c30 := bt_lt n 30
    have c31 := bt_lt n 31
    have ea : acc n [-1, -1, -1, -1, -1, -1, -1, 0, 1, 2, 3, 4, -1, -1, -1, -1, -1, -1, -1, -1, -1, -1, -1, -1, -1, 5, 6, 7, 8, 9, 10, 11] 32 = ((bt n 7 : Int) * 1) + ((bt n 8 : Int) * 2) + ((bt n 9 : Int) * 4) + ((bt n 10 : Int) * 8) + ((bt n 11 : Int) * 16) + ((bt n 25 : Int) * 32) + ((bt n 26 : Int) * 64) + ((bt n 27 : Int) * 128) + ((bt n 28 : Int) * 256) + ((bt n 29 : Int) * 512) + ((bt n 30 : Int) * 1024) + -((bt n 31 : Int) * 2048) := by
      simp [acc, term]
    rw [ea]
    have e25 : fld n 25 7 = bt n 25 * 1 + bt n 26 * 2 + bt n 27 * 4 + bt n 28 * 8 + bt n 29 * 16 + bt n 30 * 32 + bt n 31 * 64 := by
      simp [fld_succ, fld_zero]
    have e7 : fld n 7 5 = bt n 7 * 1 + bt n 8 * 2 + bt n 9 * 4 + bt n 10 * 8 + bt n 11 * 16 := by
      simp [fld_succ, fld_zero]
    unfold immS sxN
    rw [e25, e7]
    split <;> omega
  · refine ⟨[-1, -1, -1, -1, -1, -1, -1, 11, 1, 2, 3, 4, -1, -1, -1, -1, -1, -1, -1, -1, -1, -1, -1, -1, -1, 5, 6, 7, 8, 9, 10, 12], by kernel_rfl, by decide, fun n => ?_⟩
    obtain ⟨g1, g2, g3, g4, g5⟩ := getI_is n
    rw [g3]
    have c7 := bt_lt n 7
    have c8 := bt_lt n 8
    have c9 := bt_lt n 9
    have c10 := bt_lt n 10
    have c11 := bt_lt n 11
    have c25 := bt_lt n 25
    have c26 := bt_lt n 26
    have c27 := bt_lt n 27
    have c28 := bt_lt n 28
    have c29 := bt_lt n 29
    have c30 := bt_lt n 30
    have c31 := bt_lt n 31
    have ea : acc n [-1, -1, -1, -1, -1, -1, -1, 11, 1, 2, 3, 4, -1, -1, -1, -1, -1, -1, -1, -1, -1, -1, -1, -1, -1, 5, 6, 7, 8, 9, 10, 12] 32 = ((bt n 7 : Int) * 2048) + ((bt n 8 : Int) * 2) + ((bt n 9 : Int) * 4) + ((bt n 10 : Int) * 8) + ((bt n 11 : Int) * 16) + ((bt n 25 : Int) * 32) + ((bt n 26 : Int) * 64) + ((bt n 27 : Int) * 128) + ((bt n 28 : Int) * 256) + ((bt n 29 : Int) * 512) + ((bt n 30 : Int) * 1024) + -((bt n 31 : Int) * 4096) := by
      simp [acc, term]
    rw [ea]
    have e25 : fld n 25 6 = bt n 25 * 1 + bt n 26 * 2 + bt n 27 * 4 + bt n 28 * 8 + bt n 29 * 16 + bt n 30 * 32 := by
      simp [fld_succ, fld_zero]
    have e8 : fld n 8 4 = bt n 8 * 1 + bt n 9 * 2 + bt n 10 * 4 + bt n 11 * 8 := by
      simp [fld_succ, fld_zero]
    unfold immB sxN
    rw [e25, e8]
    split <;> omega
  · refine ⟨[-1, -1, -1, -1, -1, -1, -1, -1, -1, -1, -1, -1, 12, 13, 14, 15, 16, 17, 18, 19, 20, 21, 22, 23, 24, 25, 26, 27, 28, 29, 30, 31], by kernel_rfl, by decide, fun n => ?_⟩
    obtain ⟨g1, g2, g3, g4, g5⟩ := getI_is n
    rw [g4]
    have c12 := bt_lt n 12
    have c13 := bt_lt n 13
    have c14 := bt_lt n 14
    have c15 := bt_lt n 15
    have c16 := bt_lt n 16
    have c17 := bt_lt n 17
    have c18 := bt_lt n 18
    have c19 := bt_lt n 19
    have c20 := bt_lt n 20
    have c21 := bt_lt n 21
    have c22 := bt_lt n 22
    have c23 := bt_lt n 23
    have c24 := bt_lt n 24
    have c25 := bt_lt n 25
    have c26 := bt_lt n 26
    have c27 := bt_lt n 27
    have c28 := bt_lt n 28
    have c29 := bt_lt n 29
    have c30 := bt_lt n 30
    have c31 := bt_lt n 31
    have ea : acc n [-1, -1, -1, -1, -1, -1, -1, -1, -1, -1, -1, -1, 12, 13, 14, 15, 16, 17, 18, 19, 20, 21, 22, 23, 24, 25, 26, 27, 28, 29, 30, 31] 32 = ((bt n 12 : Int) * 4096) + ((bt n 13 : Int) * 8192) + ((bt n 14 : Int) * 16384) + ((bt n 15 : Int) * 32768) + ((bt n 16 : Int) * 65536) + ((bt n 17 : Int) * 131072) + ((bt n 18 : Int) * 262144) + ((bt n 19 : Int) * 524288) + ((bt n 20 : Int) * 1048576) + ((bt n 21 : Int) * 2097152) + ((bt n 22 : Int) * 4194304) + ((bt n 23 : Int) * 8388608) + ((bt n 24 : Int) * 16777216) + ((bt n 25 : Int) * 33554432) + ((bt n 26 : Int) * 67108864) + ((bt n 27 : Int) * 134217728) + ((bt n 28 : Int) * 268435456) + ((bt n 29 : Int) * 536870912) + ((bt n 30 : Int) * 1073741824) + -((bt n 31 : Int) * 2147483648) := by
      simp [acc, term]
    rw [ea]
    have e12 : fld n 12 20 = bt n 12 * 1 + bt n 13 * 2 + bt n 14 * 4 + bt n 15 * 8 + bt n 16 * 16 + bt n 17 * 32 + bt n 18 * 64 + bt n 19 * 128 + bt n 20 * 256 + bt n 21 * 512 + bt n 22 * 1024 + bt n 23 * 2048 + bt n 24 * 4096 + bt n 25 * 8192 + bt n 26 * 16384 + bt n 27 * 32768 + bt n 28 * 65536 + bt n 29 * 131072 + bt n 30 * 262144 + bt n 31 * 524288 := by
      simp [fld_succ, fld_zero]
    unfold immU sxN
    rw [e12]
    split <;> omega
  · refine ⟨[-1, -1, -1, -1, -1, -1, -1, -1, -1, -1, -1, -1, 12, 13, 14, 15, 16, 17, 18, 19, 11, 1, 2, 3, 4, 5, 6, 7, 8, 9, 10, 20], by kernel_rfl, by decide, fun n => ?_⟩
    obtain ⟨g1, g2, g3, g4, g5⟩ := getI_is n
    rw [g5]
    have c12 := bt_lt n 12
    have c13 := bt_lt n 13
    have c14 := bt_lt n 14
    have c15 := bt_lt n 15
    have c16 := bt_lt n 16
    have c17 := bt_lt n 17
    have c18 := bt_lt n 18
    have c19 := bt_lt n 19
    have c20 := bt_lt n 20
    have c21 := bt_lt n 21
    have c22 := bt_lt n 22
    have c23 := bt_lt n 23
    have c24 := bt_lt n 24
    have c25 := bt_lt n 25
    have c26 := bt_lt n 26
    have c27 := bt_lt n 27
    have c28 := bt_lt n 28
    have c29 := bt_lt n 29
    have c30 := bt_lt n 30
    have c31 := bt_lt n 31
    have ea : acc n [-1, -1, -1, -1, -1, -1, -1, -1, -1, -1, -1, -1, 12, 13, 14, 15, 16, 17, 18, 19, 11, 1, 2, 3, 4, 5, 6, 7, 8, 9, 10, 20] 32 = ((bt n 12 : Int) * 4096) + ((bt n 13 : Int) * 8192) + ((bt n 14 : Int) * 16384) + ((bt n 15 : Int) * 32768) + ((bt n 16 : Int) * 65536) + ((bt n 17 : Int) * 131072) + ((bt n 18 : Int) * 262144) + ((bt n 19 : Int) * 524288) + ((bt n 20 : Int) * 2048) + ((bt n 21 : Int) * 2) + ((bt n 22 : Int) * 4) + ((bt n 23 : Int) * 8) + ((bt n 24 : Int) * 16) + ((bt n 25 : Int) * 32) + ((bt n 26 : Int) * 64) + ((bt n 27 : Int) * 128) + ((bt n 28 : Int) * 256) + ((bt n 29 : Int) * 512) + ((bt n 30 : Int) * 1024) + -((bt n 31 : Int) * 1048576) := by
      simp [acc, term]
    rw [ea]
    have e12 : fld n 12 8 = bt n 12 * 1 + bt n 13 * 2 + bt n 14 * 4 + bt n 15 * 8 + bt n 16 * 16 + bt n 17 * 32 + bt n 18 * 64 + bt n 19 * 128 := by
      simp [fld_succ, fld_zero]
    have e21 : fld n 21 10 = bt n 21 * 1 + bt n 22 * 2 + bt n 23 * 4 + bt n 24 * 8 + bt n 25 * 16 + bt n 26 * 32 + bt n 27 * 64 + bt n 28 * 128 + bt n 29 * 256 + bt n 30 * 512 := by
      simp [fld_succ, fld_zero]
    unfold immJ sxN
    rw [e12, e21]
    split <;> omega
theorem rGet_is {N : Nat} (hN : 100 ≤ N) {n : Nat} (hn : n < 4294967296) (fmt : Nat) (h1 : 1 ≤ fmt) (h2 : fmt ≤ 5) : F114 N fmt n = some (getI fmt n) := by
  obtain ⟨M, rfl⟩ : ∃ M, N = M + 100 := ⟨N - 100, by omega⟩
  obtain ⟨ps, h3, h4, h5⟩ := places_is M fmt h1 h2
  rw [ref_get (M + 100) (by omega) hn h3 h4, h5]
end Go.Proofs.YtkcfkegkhopakaaGreatDoor

/- Operations: sorts, codes, registers, of the program and of the document. No condition. -/

namespace Go.Proofs.YtkcfkegkhopakaaGreatDoor
open Go Go.Ev Go.Sh
set_option linter.unusedVariables false
set_option linter.unusedSimpArgs false
set_option maxRecDepth 100000

/-- an operation's sort -/
def srt (op : Int) : Int :=
  if op < 1 then 0 else if op ≤ 2 then 1 else if op ≤ 4 then 2 else if op ≤ 10 then 3 else if op ≤ 17 then 4 else if op ≤ 21 then 5 else if op ≤ 34 then 6 else if op ≤ 49 then 7
  else if op ≤ 51 then 8 else if op ≤ 53 then 9 else if op ≤ 55 then 10 else if op ≤ 57 then 11 else if op ≤ 75 then 12 else 0

theorem srt_out {op : Int} (h : op < 1 ∨ 75 < op) : srt op = 0 := by
  unfold srt
  by_cases h1 : op < 1
  · rw [if_pos h1]
  · rw [if_neg h1, if_neg (by omega), if_neg (by omega), if_neg (by omega), if_neg (by omega), if_neg (by omega), if_neg (by omega), if_neg (by omega), if_neg (by omega), if_neg (by omega), if_neg (by omega), if_neg (by omega), if_neg (by omega)]

theorem ite_P {α : Type} {P : α → Prop} {c : Prop} [Decidable c] {a b : α} (ha : P a) (hb : P b) : P (if c then a else b) := by
  split <;> assumption

def Sp (s : Int) : Prop := s = 0 ∨ s = 1 ∨ s = 2 ∨ s = 3 ∨ s = 4 ∨ s = 5 ∨ s = 6 ∨ s = 7 ∨ s = 8 ∨ s = 9 ∨ s = 10 ∨ s = 11 ∨ s = 12
theorem srt_cases (op : Int) : srt op = 0 ∨ srt op = 1 ∨ srt op = 2 ∨ srt op = 3 ∨ srt op = 4 ∨ srt op = 5 ∨ srt op = 6 ∨ srt op = 7 ∨ srt op = 8 ∨ srt op = 9 ∨ srt op = 10 ∨ srt op = 11 ∨ srt op = 12 := by
  have : Sp (srt op) := by
    unfold srt
    iterate 13 refine ite_P (P := Sp) (by simp [Sp]) ?_
    simp [Sp]
  exact this

/-- it reads rs2; rs1; writes rd -/
def seO (op : Int) : Bool := decide (srt op = 3) || (decide (srt op = 5) || (decide (srt op = 7) || (decide (srt op = 11) || decide (srt op = 12))))
def fiO (op : Int) : Bool := seO op || (decide (srt op = 4) || (decide (srt op = 6) || (decide (srt op = 10) || (decide (srt op = 2) && decide (op = 4)))))
def wrO (op : Int) : Bool := !(decide (srt op = 0) || (decide (srt op = 3) || (decide (srt op = 5) || (decide (srt op = 8) || decide (srt op = 9)))))

def opcT : List Nat := [0, 55, 23, 111, 103, 99, 99, 99, 99, 99, 99, 3, 3, 3, 3, 3, 3, 3, 35, 35, 35, 35, 19, 19, 19, 19, 19, 19, 19, 19, 19, 27, 27, 27, 27, 51, 51, 51, 51, 51, 51, 51, 51, 51, 51, 59, 59, 59, 59, 59, 15, 15, 115, 115,
  47, 47, 47, 47, 47, 47, 47, 47, 47, 47, 47, 47, 47, 47, 47, 47, 47, 47, 47, 47, 47, 47]
def f3T : List Nat := [0, 0, 0, 0, 0, 0, 1, 4, 5, 6, 7, 0, 1, 2, 3, 4, 5, 6, 0, 1, 2, 3, 0, 2, 3, 4, 6, 7, 1, 5, 5, 0, 1, 5, 5, 0, 0, 1, 2, 3, 4, 5, 5, 6, 7, 0, 0, 1, 5, 5, 0, 0, 0, 0,
  2, 3, 2, 3, 2, 2, 2, 2, 2, 2, 2, 2, 2, 3, 3, 3, 3, 3, 3, 3, 3, 3]
def fivT : List Nat := [2, 2, 3, 3, 1, 0, 4, 12, 8, 16, 20, 24, 28, 1, 0, 4, 12, 8, 16, 20, 24, 28]
def opc (k : Nat) : Nat := opcT.getD k 0
def f3O (k : Nat) : Nat := f3T.getD k 0
def trn (k : Nat) : Bool := k == 30 || (k == 34 || (k == 36 || (k == 42 || (k == 46 || k == 49))))
def shf (k : Nat) : Nat := if k = 28 ∨ k = 29 ∨ k = 30 then 6 else if k = 32 ∨ k = 33 ∨ k = 34 then 5 else 0
def fmtO (k : Nat) : Nat := if shf k > 0 then 0 else if srt k = 1 then 4 else if srt k = 2 then (if k = 3 then 5 else 1) else if srt k = 3 then 3 else if srt k = 4 ∨ srt k = 6 then 1 else if srt k = 5 then 2 else 0
def fiv (k : Nat) : Nat := fivT.getD (k - 54) 0

noncomputable def chkTab (N : Nat) (k : Nat) : Bool :=
  (F72 N k == some (srt k)) && ((F40 N k == some (srt k)) && ((F115 N k == some (opc k : Int)) && (true && ((F116 N k == some (f3O k : Int)) && ((F117 N k == some (trn k)) &&
  ((F44 N k == some (shf k : Int)) && ((F45 N k == some (fmtO k : Int)) && ((Nat.blt k 54 || F119 N k == some (fiv k : Int)) && ((F41 N k == some (wrO k)) && ((F42 N k == some (fiO k)) && (F43 N k == some (seO k))))))))))))

theorem tab_all (M : Nat) : ((List.range 75).all fun i => chkTab (M + 100) (i + 1)) = true := by kernel_rfl

structure TabOk (N k : Nat) : Prop where
  sortP : F72 N k = some (srt k)
  sortR : F40 N k = some (srt k)
  opcR : F115 N k = some (opc k : Int)
  opcP : True
  f3R : F116 N k = some (f3O k : Int)
  trnR : F117 N k = some (trn k)
  shfR : F44 N k = some (shf k : Int)
  fmtR : F45 N k = some (fmtO k : Int)
  fivR : 54 ≤ k → F119 N k = some (fiv k : Int)
  wrR : F41 N k = some (wrO k)
  fiR : F42 N k = some (fiO k)
  seR : F43 N k = some (seO k)

theorem tab_is {N : Nat} (hN : 100 ≤ N) {k : Nat} (h1 : 1 ≤ k) (h2 : k ≤ 75) : TabOk N k := by
  obtain ⟨M, rfl⟩ : ∃ M, N = M + 100 := ⟨N - 100, by omega⟩
  have := List.all_eq_true.1 (tab_all M) (k - 1) (List.mem_range.2 (by omega))
  rw [show k - 1 + 1 = k by omega] at this
  simp only [chkTab, Bool.and_eq_true, beq_iff_eq, Bool.or_eq_true] at this
  obtain ⟨a0, a1, a2, a3, a4, a5, a6, a7, a8, a9, a10, a11⟩ := this
  refine ⟨a0, a1, a2, trivial, a4, a5, a6, a7, fun h => ?_, a9, a10, a11⟩
  rcases a8 with a8 | a8
  · rw [Nat.blt_eq] at a8; omega
  · exact a8

theorem tabP_all (M : Nat) : ((List.range 75).all fun i => F72 (M + 100) ((i + 1 : Nat) : Int) == some (srt ((i + 1 : Nat) : Int))) = true := by kernel_rfl

theorem Sort_is {N : Nat} (hN : 100 ≤ N) (op : Int) : F72 N op = some (srt op) := by
  by_cases h : op < 1 ∨ 75 < op
  · rw [srt_out h]
    unfold F72
    simp only [jp_eq, br_ite]
    by_cases h1 : op < 1
    · simp [h1]
    · have h2 : 75 < op := by omega
      simp [h1, h2]
  · obtain ⟨k, hk⟩ : ∃ k : Nat, op = (k : Int) := ⟨op.toNat, by omega⟩
    subst hk
    obtain ⟨M, rfl⟩ : ∃ M, N = M + 100 := ⟨N - 100, by omega⟩
    have := List.all_eq_true.1 (tabP_all M) (k - 1) (List.mem_range.2 (by omega))
    rw [show k - 1 + 1 = k by omega] at this
    exact beq_iff_eq.1 this

/-! ### what is no operation -/
theorem rSort_out {N : Nat} (hN : 100 ≤ N) {op : Int} (h : op < 1 ∨ 75 < op) (hm : op ≤ 9223372036854775807) : F40 N op = some 0 := by
  unfold F40
  cases h1 : decide (op < 1) with
  | true => rfl
  | false =>
    have h2 := of_decide_eq_false h1
    rw [br_f]
    have hsum : ∀ i, i < 12 → (([2, 2, 6, 7, 4, 13, 15, 2, 2, 2, 2, 18] : List Int).getD i 0) + ((([2, 2, 6, 7, 4, 13, 15, 2, 2, 2, 2, 18] : List Int).drop (i + 1)).foldl (· + ·) 0) = (([2, 2, 6, 7, 4, 13, 15, 2, 2, 2, 2, 18] : List Int).drop i).foldl (· + ·) 0 := by decide
    have hpos : ∀ i, i ≤ 12 → 0 ≤ ((([2, 2, 6, 7, 4, 13, 15, 2, 2, 2, 2, 18] : List Int).drop i).foldl (· + ·) 0) := by decide
    have hpos2 : ∀ i, i < 12 → 0 ≤ (([2, 2, 6, 7, 4, 13, 15, 2, 2, 2, 2, 18] : List Int).getD i 0) := by decide
    refine fixN_ind (fun m (y : Int × Int) => ∃ i : Nat, y.2 = i ∧ i + m = 12 ∧ (([2, 2, 6, 7, 4, 13, 15, 2, 2, 2, 2, 18] : List Int).drop i).foldl (· + ·) 0 < y.1 ∧ y.1 ≤ 9223372036854775807) (fun _ o => o = some 0) ?_ N 12 _ (by omega) ⟨0, rfl, rfl, by show (75 : Int) < op; omega, hm⟩
    rintro m ⟨v, i0⟩ again ⟨i, g1, g2, g3, g4⟩ ih
    simp only at g1 g3 g4
    subst g1
    rcases Nat.eq_zero_or_pos m with h0 | h0
    · obtain rfl : i = 12 := by omega
      rfl
    · have a := hsum i (by omega)
      have b := hpos (i + 1) (by omega)
      have c := hpos2 i (by omega)
      have d1 : decide ((i : Int) < (↑[2, 2, 6, 7, 4, 13, 15, 2, 2, 2, 2, 18].length : Int)) = true := decide_eq_true (by simp only [List.length_cons, List.length_nil]; omega)
      have d2 : decide ((0 : Int) ≤ (i : Int)) = true := decide_eq_true (by omega)
      have d3 : decide (v ≤ ([2, 2, 6, 7, 4, 13, 15, 2, 2, 2, 2, 18] : List Int).getD i 0) = false := decide_eq_false (by omega)
      simp only [Int.toNat_natCast]
      rw [br_true d1, chk_true (by rw [d2, d1]; rfl), br_false d3, chk_true (by rw [d2, d1]; rfl)]
      rw [wrap64 (n := (i : Int) + 1) (by omega) (by omega), wrap64 (by omega) (by omega)]
      exact ih (m - 1) (v - ([2, 2, 6, 7, 4, 13, 15, 2, 2, 2, 2, 18] : List Int).getD i 0, (i : Int) + 1) (by omega) ⟨i + 1, rfl, by omega, by show _ < v - _; omega, by show v - _ ≤ _; omega⟩

theorem rName_out (N : Nat) {op : Int} (h : op < 1 ∨ 75 < op) : F47 N op = some [] := by
  unfold F47 R47
  have e : F96 N = some ((F96 N).getD []) := rfl
  rw [e, bindS_some]
  have e2 : (((F96 N).getD []).length : Int) = 75 := by kernel_rfl
  simp only [jp_eq, e2, br_ite]
  by_cases h1 : op < 1
  · simp [h1]
  · have h2 : 75 < op := by omega
    simp [h1, h2]

theorem opcode_out {N : Nat} (hN : 100 ≤ N) {op : Int} (h : op < 1 ∨ 75 < op) (hm : op ≤ 9223372036854775807) : True ∧ F115 N op = some 0 := by
  refine ⟨?_, ?_⟩
  · trivial
  · unfold F115 R115; rw [rName_out N h, rSort_out hN h hm]; rfl

/-- the document's three, of every operation -/
theorem rRegs_is {N : Nat} (hN : 100 ≤ N) (op : Int) (hm : op ≤ 9223372036854775807) : F41 N op = some (wrO op) ∧ F42 N op = some (fiO op) ∧ F43 N op = some (seO op) := by
  by_cases h : op < 1 ∨ 75 < op
  · have e2 := rSort_out hN h hm
    have ek := srt_out h
    have e3 := rName_out N h
    unfold wrO fiO seO
    rw [ek]
    refine ⟨?_, ?_, ?_⟩
    · unfold F41 R41; rw [e2]; rfl
    · unfold F42 R42; first | (rw [e2, e3]; rfl) | (rw [e2]; rfl)
    · unfold F43 R43; rw [e2]; rfl
  · obtain ⟨k, hk⟩ : ∃ k : Nat, op = (k : Int) := ⟨op.toNat, by omega⟩
    subst hk
    have := tab_is hN (k := k) (by omega) (by omega)
    exact ⟨this.wrR, this.fiR, this.seR⟩

/-! ### the program's registers -/
def clp (x : Int) : Int := if x < 0 ∨ 31 < x then 0 else x
theorem register_is (N : Nat) (x : Int) : F129 N x = some (clp x) := by
  unfold F129 clp
  simp only [jp_eq, br_ite]
  by_cases h1 : x < 0 <;> by_cases h2 : 31 < x <;> simp [h1, h2]

abbrev Ins := Int × Int × Int × Int × Int × Bool × Bool × Int × Int

theorem Target_full {N : Nat} (hN : 100 ≤ N) (op : Int) : F76 N (op, 1, 2, 3, 0, false, false, 0, 0) = some (if wrO op then 1 else 0) := by
  unfold F76 R76 wrO
  rw [Sort_is hN, bindS_some, register_is]
  obtain h | h | h | h | h | h | h | h | h | h | h | h | h := srt_cases op <;> rw [h] <;> rfl

theorem Sources_full {N : Nat} (hN : 100 ≤ N) (op : Int) : F146 N (op, 1, 2, 3, 0, false, false, 0, 0) = some (if seO op then [2, 3] else if fiO op then [2] else []) := by
  obtain ⟨M, rfl⟩ : ∃ M, N = M + 100 := ⟨N - 100, by omega⟩
  unfold F146 R146 fiO seO
  rw [Sort_is hN, bindS_some]
  simp only [register_is]
  generalize decide (op = 4) = b
  obtain h | h | h | h | h | h | h | h | h | h | h | h | h := srt_cases op <;> rw [h] <;> cases b <;> kernel_rfl

/-- an instruction without the registers that its operation hasn't -/
def clean (x : Ins) : Ins := (x.1, if wrO x.1 then x.2.1 else 0, if fiO x.1 then x.2.2.1 else 0, if seO x.1 then x.2.2.2.1 else 0, x.2.2.2.2)

theorem Clean_is {N : Nat} (hN : 100 ≤ N) (x : Ins) : F92 N x = some (clean x) := by
  obtain ⟨M, rfl⟩ : ∃ M, N = M + 100 := ⟨N - 100, by omega⟩
  obtain ⟨op, rd, r1, r2, rest⟩ := x
  unfold F92 R92 clean
  simp only
  rw [Target_full (by omega), Sources_full (by omega)]
  simp only [bindS_some, jp_eq]
  have hs : seO op = true → fiO op = true := fun h => by unfold fiO; rw [h]; rfl
  generalize wrO op = w
  generalize hf : fiO op = f at hs ⊢
  generalize hz : seO op = z at hs ⊢
  clear hf hz
  cases z with
  | true =>
    obtain rfl := hs rfl
    cases w <;> (show _ = _; kernel_rfl)
  | false => cases f <;> cases w <;> (show _ = _; kernel_rfl)
end Go.Proofs.YtkcfkegkhopakaaGreatDoor
