/- Numbers: extension, shifts and comparing, the program's and the document's. No condition. -/
import Derived.Test.YtkcfkegkhopakaaGreatDoorPlX1
import Derived.Test.YtkcfkegkhopakaaGreatDoorPlWb
namespace Go.Proofs.YtkcfkegkhopakaaGreatDoor
open Go Go.Ev Go.Sh
set_option linter.unusedVariables false
set_option linter.unusedSimpArgs false

theorem sxN_sx {x k : Nat} (h1 : 1 ≤ k) (h2 : k < 64) : IntKind.u64.wrap (sxN x k) = ((sx x k : Nat) : Int) := by
  have hk : (2 : Nat) ^ k = 2 * 2 ^ (k - 1) := by rw [← Nat.pow_succ']; congr 1; omega
  have h3 := pow_lt64 h2
  have := mod_lt2 x k
  unfold sxN sx
  rw [powI, u64_wrap_eq]
  split <;> omega

theorem Zext_full (N : Nat) {x k : Nat} (hx : x < 18446744073709551616) (hk : k ≤ 64) : F70 N x k = some ((x % 2 ^ k : Nat) : Int) := by
  by_cases h1 : 1 ≤ k
  · by_cases h2 : k < 64
    · exact Zext_is N hx h1 h2
    · obtain rfl : k = 64 := by omega
      unfold F70
      rw [brF (by omega), brT (by omega), Nat.mod_eq_of_lt (by omega)]
  · obtain rfl : k = 0 := by omega
    unfold F70
    rw [brT (by omega), Nat.pow_zero, Nat.mod_one]
    rfl

theorem Sext_full (N : Nat) {x k : Nat} (hx : x < 18446744073709551616) (h1 : 1 ≤ k) (hk : k ≤ 64) : F127 N x k = some ((sx x k : Nat) : Int) := by
  by_cases h2 : k < 64
  · rw [Sext_is N hx h1 h2, sxN_sx h1 h2]
  · obtain rfl : k = 64 := by omega
    unfold F127 R127
    simp only [jp_eq]
    rw [brF (by omega), br_true (decide_eq_true (by omega)), Zext_full N hx (by omega), bindS_some, sx64 hx, Nat.mod_eq_of_lt (by omega)]

theorem aBit_is {x i : Nat} (hx : x < 18446744073709551616) (hi : i < 64) : bits BinOp.and IntKind.u64 ((x : Int).fdiv (2 ^ Min.min ((i : Int)).toNat IntKind.u64.bits)) 1 = ((bt x i : Nat) : Int) := by
  have h : x / 2 ^ i ≤ x := Nat.div_le_self _ _
  rw [Int.toNat_natCast, bits_u64, Nat.min_eq_left (by omega), fdivN, show (1 : Int) = ((2 ^ 1 - 1 : Nat) : Int) from rfl, and_mask64 (by omega) (by decide), bt_def]
theorem aPow_is {i : Nat} (hi : i < 64) : IntKind.u64.wrap (1 * 2 ^ Min.min ((i : Int)).toNat IntKind.u64.bits) = ((2 ^ i : Nat) : Int) := by
  rw [Int.toNat_natCast, bits_u64, Nat.min_eq_left (by omega), Int.one_mul, powI, u64N (pow_lt64 hi)]

theorem rZext_is {N : Nat} (hN : 100 ≤ N) {x k : Nat} (hx : x < 18446744073709551616) (hk : k ≤ 64) : F35 N x k = some ((x % 2 ^ k : Nat) : Int) := by
  unfold F35
  refine fixN_ind (fun m (y : Int × Int) => ∃ i : Nat, y.2 = i ∧ i + m = k ∧ y.1 = ((x % 2 ^ i : Nat) : Int)) (fun _ o => o = some ((x % 2 ^ k : Nat) : Int)) ?_ N k _ (by omega) ⟨0, rfl, by omega, by rw [Nat.pow_zero, Nat.mod_one]; rfl⟩
  rintro m ⟨v, j⟩ again ⟨i, g1, g2, g3⟩ ih
  simp only at g1 g3
  subst g1 g3
  simp only [jp_eq]
  rcases Nat.eq_zero_or_pos m with h0 | h0
  · obtain rfl : i = k := by omega
    rw [show decide ((i : Int) < (i : Int)) = false from decide_eq_false (by omega)]
    cases decide ((i : Int) < 64) <;> rfl
  · have e1 : IntKind.u64.wrap (i : Int) = i := u64N (by omega)
    have hp := pow_lt64 (k := i) (by omega)
    have hs := Nat.mod_pow_succ (x := x) (b := 2) (k := i)
    have hl := mod_lt2 x (i + 1)
    have hl2 := pow_le64 (k := i + 1) (by omega)
    rw [brT (by omega), br_true (decide_eq_true (by omega)), e1, chkT (by omega), aBit_is hx (by omega), chkT (by omega), aPow_is (by omega), wrap64 (n := (i : Int) + 1) (by omega) (by omega)]
    have hb := bt_lt x i
    rw [bt_def] at hb ⊢
    rcases bit2 (x / 2 ^ i) with e | e
    · rw [e, br_false (decide_eq_false (by decide))]
      exact ih (m - 1) _ (by omega) ⟨i + 1, rfl, by omega, by simp only; rw [hs, e]; simp⟩
    · rw [e, br_true (decide_eq_true (by decide))]
      refine ih (m - 1) _ (by omega) ⟨i + 1, rfl, by omega, ?_⟩
      simp only
      rw [hs, e] at *
      rw [wrapU64 (by omega) (by omega)]
      omega

theorem rSext_is {N : Nat} (hN : 100 ≤ N) {x k : Nat} (hx : x < 18446744073709551616) (h1 : 1 ≤ k) (hk : k ≤ 64) : F132 N x k = some ((sx x k : Nat) : Int) := by
  have e1 : IntKind.u64.wrap (IntKind.i64.wrap ((k : Int) - 1)) = ((k - 1 : Nat) : Int) := by
    rw [wrap64 (by omega) (by omega), wrapU64 (by omega) (by omega)]; omega
  have hp := pow_le64 hk
  have hl := mod_lt2 x k
  have hp1 := Nat.two_pow_pos k
  unfold F132 R132
  rw [rZext_is hN hx hk, bindS_some]
  simp only [jp_eq]
  rw [brF (by omega), brF (by omega), e1, chkT (by omega), aBit_is hx (by omega), bt_def]
  have ht := top_bit (x := x) h1
  by_cases hc : x % 2 ^ k < 2 ^ (k - 1)
  · rw [ht.2 hc, br_true (decide_eq_true (by decide))]
    unfold sx
    rw [if_pos hc]
  · have : x / 2 ^ (k - 1) % 2 = 1 := by
      rcases bit2 (x / 2 ^ (k - 1)) with e | e
      · exact absurd (ht.1 e) hc
      · exact e
    rw [this, br_false (decide_eq_false (by decide))]
    refine fixN_ind (fun m (y : Int × Int) => ∃ i : Nat, y.2 = i ∧ i + m = 64 ∧ k ≤ i ∧ y.1 = ((x % 2 ^ k + (2 ^ i - 2 ^ k) : Nat) : Int)) (fun _ o => o = some ((sx x k : Nat) : Int)) ?_ N (64 - k) _ (by omega) ⟨k, rfl, by omega, Nat.le_refl _, by rw [Nat.sub_self]; rfl⟩
    rintro m ⟨v, j⟩ again ⟨i, g1, g2, g4, g3⟩ ih
    simp only at g1 g3
    subst g1 g3
    rcases Nat.eq_zero_or_pos m with h0 | h0
    · obtain rfl : i = 64 := by omega
      rw [brF (by omega)]
      unfold sx
      rw [if_neg hc]
    · have e1 : IntKind.u64.wrap (i : Int) = i := u64N (by omega)
      have hi := pow_lt64 (k := i) (by omega)
      have hki : 2 ^ k ≤ 2 ^ i := Nat.pow_le_pow_right (by decide) g4
      have hi2 := pow_le64 (k := i + 1) (by omega)
      have hi3 : 2 ^ (i + 1) = 2 ^ i * 2 := Nat.pow_succ ..
      rw [brT (by omega), e1, chkT (by omega), aPow_is (by omega), wrap64 (n := (i : Int) + 1) (by omega) (by omega)]
      refine ih (m - 1) _ (by omega) ⟨i + 1, rfl, by omega, by omega, ?_⟩
      simp only
      rw [wrapU64 (by omega) (by omega)]
      omega

theorem Left_is {N : Nat} (hN : 100 ≤ N) {x s : Nat} (hx : x < 18446744073709551616) (hs : s ≤ 64) : F137 N x s = some ((x * 2 ^ s % 18446744073709551616 : Nat) : Int) := by
  unfold F137
  refine fixN_ind (fun m (y : Int × Int) => ∃ i : Nat, y.2 = i ∧ i + m = s ∧ y.1 = ((x * 2 ^ i % 18446744073709551616 : Nat) : Int)) (fun _ o => o = some ((x * 2 ^ s % 18446744073709551616 : Nat) : Int)) ?_ N s _ (by omega) ⟨0, rfl, by omega, by rw [Nat.pow_zero, Nat.mul_one, Nat.mod_eq_of_lt hx]⟩
  rintro m ⟨v, j⟩ again ⟨i, g1, g2, g3⟩ ih
  simp only at g1 g3
  subst g1 g3
  rcases Nat.eq_zero_or_pos m with h0 | h0
  · obtain rfl : i = s := by omega
    rw [brF (by omega)]
  · rw [brT (by omega), wrap64 (n := (i : Int) + 1) (by omega) (by omega)]
    refine ih (m - 1) _ (by omega) ⟨i + 1, rfl, by omega, ?_⟩
    simp only
    rw [u64_wrap_eq, Nat.pow_succ, ← Nat.mul_assoc]
    omega

theorem Right_is {N : Nat} (hN : 100 ≤ N) {x b s f : Nat} (hb : b ≤ 64) (hx : x < 2 ^ b) (hs : s < b) (hf : f < 2) : F138 N x b s f = some ((fld (fil x b f) s b : Nat) : Int) := by
  have hx64 : x < 18446744073709551616 := Nat.lt_of_lt_of_le hx (pow_le64 hb)
  unfold F138
  refine fixN_ind (fun m (y : Int × Int) => ∃ i : Nat, y.2 = i ∧ i + m = b ∧ y.1 = ((fld (fil x b f) s i : Nat) : Int)) (fun _ o => o = some ((fld (fil x b f) s b : Nat) : Int)) ?_ N b _ (by omega) ⟨0, rfl, by omega, by rw [fld_zero]; rfl⟩
  rintro m ⟨v, j⟩ again ⟨i, g1, g2, g3⟩ ih
  simp only at g1 g3
  subst g1 g3
  simp only [jp_eq]
  rcases Nat.eq_zero_or_pos m with h0 | h0
  · obtain rfl : i = b := by omega
    rw [brF (by omega)]
  · have e1 : IntKind.u64.wrap (i : Int) = i := u64N (by omega)
    have e2 : IntKind.i64.wrap ((i : Int) + s) = ((i + s : Nat) : Int) := by rw [wrap64 (by omega) (by omega)]; omega
    have hi := pow_lt64 (k := i) (by omega)
    have hi2 := pow_le64 (k := i + 1) (by omega)
    have hl := fld_lt (fil x b f) s (i + 1)
    have hsu := fld_succ (fil x b f) s i
    have hbt := bt_lt (fil x b f) (s + i)
    have fin : again (IntKind.u64.wrap (((fld (fil x b f) s i : Nat) : Int) + IntKind.u64.wrap (((bt (fil x b f) (s + i) : Nat) : Int) * 2 ^ Min.min ((i : Int)).toNat IntKind.u64.bits)), IntKind.i64.wrap ((i : Int) + 1)) = some ((fld (fil x b f) s b : Nat) : Int) := by
      rw [Int.toNat_natCast, bits_u64, Nat.min_eq_left (by omega), powI, wrap64 (n := (i : Int) + 1) (by omega) (by omega)]
      refine ih (m - 1) _ (by omega) ⟨i + 1, rfl, by omega, ?_⟩
      simp only
      rw [← Int.natCast_mul, u64N (by omega), ← Int.natCast_add, ← hsu, u64N (by omega)]
    rw [brT (by omega), e2, e1]
    have hbf := bt_fil (x := x) (b := b) (f := f) (j := s + i) hx hf (by omega)
    by_cases hc : i + s < b
    · rw [brT (by omega), wrapU64 (n := ((i + s : Nat) : Int)) (by omega) (by omega), chkT (by omega), aBit_is hx64 (by omega), chkT (by omega)]
      rw [if_pos (by omega)] at hbf
      rw [show i + s = s + i by omega, ← hbf]
      exact fin
    · rw [brF (by omega), chkT (by omega)]
      rw [if_neg (by omega)] at hbf
      rw [hbf] at fin
      exact fin

theorem rLow_is (N : Nat) {x y : Nat} (hx : x < 18446744073709551616) (hy : y < 18446744073709551616) : F133 N x y = some (decide (IntKind.i64.wrap x < IntKind.i64.wrap y)) := by
  unfold F133
  rw [show Min.min 63 IntKind.u64.bits = 63 from rfl, fdivN, fdivN, ← dlow hx hy]
  rw [show (2 : Nat) ^ 63 = 9223372036854775808 from rfl]
  generalize x / 9223372036854775808 = p
  generalize y / 9223372036854775808 = q
  by_cases h : p = q
  · rw [if_pos h, br_false (by rw [decide_eq_true (by rw [h])]; rfl)]
  · rw [if_neg h, br_true (by rw [decide_eq_false (by omega)]; rfl)]
    congr 2
    apply propext
    omega

theorem aluOne_is (N : Nat) (b : Bool) : F210 N b = some (if b then 1 else 0) := by
  unfold F210; cases b <;> rfl
theorem rBool_is (N : Nat) (b : Bool) : F136 N b = some (if b then 1 else 0) := by
  unfold F136; cases b <;> rfl
theorem aluNarrow_is (N : Nat) {x : Nat} (hx : x < 18446744073709551616) : F211 N x = some ((sx x 32 : Nat) : Int) := by
  unfold F211 R211
  rw [show (32 : Int) = ((32 : Nat) : Int) from rfl, Sext_full N hx (by decide) (by decide), bindS_some]

end Go.Proofs.YtkcfkegkhopakaaGreatDoor
