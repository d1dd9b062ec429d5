/- Words put together of fields; immediates as they stand in words. No condition. -/
import Derived.Test.YtkcfkegkhopakaaGreatDoorPlX2
namespace Go.Proofs.YtkcfkegkhopakaaGreatDoor
open Go Go.Ev Go.Sh
set_option linter.unusedVariables false
set_option linter.unusedSimpArgs false
set_option maxRecDepth 100000

/-! ### fields put together -/
theorem mk_ex : ∃ g : Nat → Nat → Nat → Nat → Nat → Nat → Nat, ∀ a b c d e f, g a b c d e f = a + b * 128 + c * 4096 + d * 32768 + e * 1048576 + f * 33554432 := ⟨fun a b c d e f => a + b * 128 + c * 4096 + d * 32768 + e * 1048576 + f * 33554432, fun _ _ _ _ _ _ => rfl⟩
/-- a word of six fields (chosen, so that nothing unfolds it) -/
noncomputable def mk : Nat → Nat → Nat → Nat → Nat → Nat → Nat := Classical.choose mk_ex
theorem mk_def (a b c d e f : Nat) : mk a b c d e f = a + b * 128 + c * 4096 + d * 32768 + e * 1048576 + f * 33554432 := Classical.choose_spec mk_ex a b c d e f

theorem or_step {n x y x' y' : Nat} (hx : x < 2 ^ n) (hx' : x' < 2 ^ n) : (2 ^ n * y + x) ||| (2 ^ n * y' + x') = 2 ^ n * (y ||| y') + (x ||| x') := by
  apply Nat.eq_of_testBit_eq
  intro i
  rw [Nat.testBit_or, Nat.testBit_two_pow_mul_add _ hx, Nat.testBit_two_pow_mul_add _ hx', Nat.testBit_two_pow_mul_add _ (Nat.or_lt_two_pow hx hx')]
  split
  · rw [Nat.testBit_or]
  · rw [Nat.testBit_or]

theorem mk_nest (a b c d e f : Nat) : mk a b c d e f = 2 ^ 7 * (2 ^ 5 * (2 ^ 3 * (2 ^ 5 * (2 ^ 5 * f + e) + d) + c) + b) + a := by
  rw [mk_def]; omega

theorem or_mk {a b c d e f a' b' c' d' e' f' : Nat} (ha : a < 128) (ha' : a' < 128) (hb : b < 32) (hb' : b' < 32) (hc : c < 8) (hc' : c' < 8) (hd : d < 32) (hd' : d' < 32) (he : e < 32) (he' : e' < 32) :
    mk a b c d e f ||| mk a' b' c' d' e' f' = mk (a ||| a') (b ||| b') (c ||| c') (d ||| d') (e ||| e') (f ||| f') := by
  rw [mk_nest, mk_nest, mk_nest, or_step (n := 7) ha ha', or_step (n := 5) hb hb', or_step (n := 3) hc hc', or_step (n := 5) hd hd', or_step (n := 5) he he']

theorem mk_fields {a b c d e f : Nat} (ha : a < 128) (hb : b < 32) (hc : c < 8) (hd : d < 32) (he : e < 32) (hf : f < 128) :
    mk a b c d e f < 4294967296 ∧ mk a b c d e f % 128 = a ∧ fld (mk a b c d e f) 7 5 = b ∧ fld (mk a b c d e f) 12 3 = c ∧ fld (mk a b c d e f) 15 5 = d ∧ fld (mk a b c d e f) 20 5 = e ∧ mk a b c d e f / 2 ^ 25 = f := by
  simp only [fld_def, mk_def]
  omega

theorem mk_of {n : Nat} (hn : n < 4294967296) : n = mk (n % 128) (fld n 7 5) (fld n 12 3) (fld n 15 5) (fld n 20 5) (n / 2 ^ 25) := by
  simp only [fld_def, mk_def]
  omega

/-! ### an immediate's bits -/
def uN (v : Int) : Nat := (v % 18446744073709551616).toNat
theorem uN_wrap (v : Int) : IntKind.u64.wrap v = (uN v : Int) := by
  rw [u64_wrap_eq]; unfold uN; omega
theorem uN_lt (v : Int) : uN v < 18446744073709551616 := by unfold uN; omega

def p1 (f u : Nat) : Nat := if f = 2 then fld u 0 5 else if f = 3 then bt u 11 + fld u 1 4 * 2 else 0
def p2 (f u : Nat) : Nat := if f = 4 ∨ f = 5 then fld u 12 3 else 0
def p3 (f u : Nat) : Nat := if f = 4 ∨ f = 5 then fld u 15 5 else 0
def p4 (f u : Nat) : Nat := if f = 1 then fld u 0 5 else if f = 4 then fld u 20 5 else if f = 5 then bt u 11 + fld u 1 4 * 2 else 0
def p5 (f u : Nat) : Nat := if f = 1 ∨ f = 2 then fld u 5 7 else if f = 3 then fld u 5 6 + bt u 12 * 64 else if f = 4 then fld u 25 7 else if f = 5 then fld u 5 6 + bt u 20 * 64 else 0
noncomputable def putN (f u : Nat) : Nat := mk 0 (p1 f u) (p2 f u) (p3 f u) (p4 f u) (p5 f u)

theorem p_lt (f u : Nat) : p1 f u < 32 ∧ p2 f u < 8 ∧ p3 f u < 32 ∧ p4 f u < 32 ∧ p5 f u < 128 := by
  have a1 := fld_lt u 0 5
  have a2 := fld_lt u 1 4
  have a3 := fld_lt u 12 3
  have a4 := fld_lt u 15 5
  have a5 := fld_lt u 20 5
  have a6 := fld_lt u 5 7
  have a7 := fld_lt u 5 6
  have a8 := fld_lt u 25 7
  have b1 := bt_lt u 11
  have b2 := bt_lt u 12
  have b3 := bt_lt u 20
  unfold p1 p2 p3 p4 p5
  refine ⟨?_, ?_, ?_, ?_, ?_⟩ <;> (repeat' split) <;> omega

/-- may a format have an immediate? -/
def mayB (f : Nat) (v : Int) : Bool := match f with
  | 1 => decide (-2048 ≤ v) && decide (v ≤ 2047)
  | 2 => decide (-2048 ≤ v) && decide (v ≤ 2047)
  | 3 => decide (-4096 ≤ v) && (decide (v ≤ 4095) && decide (v % 2 = 0))
  | 4 => decide (-2147483648 ≤ v) && (decide (v ≤ 2147483647) && decide (v % 4096 = 0))
  | 5 => decide (-1048576 ≤ v) && (decide (v ≤ 1048575) && decide (v % 2 = 0))
  | _ => false

theorem jp_val {α ρ : Type} {k : α → Option ρ} {b : (α → Option ρ) → Option ρ} (v : α) (h : ∀ K, b K = K v) : jp k b = k v := by
  rw [jp_eq]; exact h k

theorem br_and {ρ : Type} (c d : Bool) (k : Bool → Option ρ) : br c (k d) (k false) = k (c && d) := by cases c <;> rfl
theorem br_or {ρ : Type} (c d : Bool) (k : Bool → Option ρ) : br c (k true) (k d) = k (c || d) := by cases c <;> rfl

theorem tmod_zero (v : Int) (m : Int) : decide (v.tmod m = 0) = decide (v % m = 0) := by
  rw [Bool.eq_iff_iff]
  simp only [decide_eq_true_eq]
  rw [← Int.dvd_iff_tmod_eq_zero, Int.dvd_iff_emod_eq_zero]

end Go.Proofs.YtkcfkegkhopakaaGreatDoor

/- Immediates put into words: the program's and the document's are the same. No condition. -/

namespace Go.Proofs.YtkcfkegkhopakaaGreatDoor
open Go Go.Ev Go.Sh
set_option linter.unusedVariables false
set_option linter.unusedSimpArgs false
set_option maxRecDepth 100000

def runsP (u : Nat) : List (Nat × Nat × Nat) → Nat → Nat
  | [], x => x
  | (hi, lo, at') :: r, x => runsP u r (x ||| fld u at' (hi - lo + 1) * 2 ^ lo)

theorem put_loop (N : Nat) (v : Int) (l : List (Int × Int × Int)) (rs : List (Nat × Nat × Nat)) (hl : l = castR rs)
    (hok : ∀ r ∈ rs, r.2.1 ≤ r.1 ∧ r.1 ≤ 31 ∧ r.2.2 + (r.1 - r.2.1) ≤ 31) (hN : rs.length < N) (hb : rs.length < 1000) :
    fixN N (fun again2 (y3 : Int × Int) => br (decide (y3.2 < (↑l.length : Int)))
 (chk (decide (0 ≤ y3.2) && decide (y3.2 < (↑l.length : Int))) (chk (decide (0 ≤ (l.getD y3.2.toNat (0, 0, 0)).2.2)) (bindS (F70 N ((IntKind.u64.wrap v).fdiv (2 ^ Min.min (Int.toNat (l.getD y3.2.toNat (0, 0, 0)).2.2) IntKind.u64.bits)) (IntKind.i64.wrap
      (IntKind.i64.wrap ((l.getD y3.2.toNat (0, 0, 0)).1 - (l.getD y3.2.toNat (0, 0, 0)).2.1) + 1))) (fun (y4 : Int) => chk (decide (0 ≤ (l.getD y3.2.toNat (0, 0, 0)).2.1)) (again2 ((Go.bits Go.BinOp.or IntKind.u32 y3.1
  (IntKind.u32.wrap
    (IntKind.u32.wrap y4 * 2 ^ Min.min (Int.toNat (l.getD y3.2.toNat (0, 0, 0)).2.1) IntKind.u32.bits)), IntKind.i64.wrap (y3.2 + 1))))))))
 (some ((y3.1, Bool.true))))
 ((0, 0)) = some ((runsP (uN v) rs 0 : Int), true) := by
  subst hl
  refine fixN_ind (fun m (s : Int × Int) => m ≤ rs.length ∧ s.2 = ((rs.length - m : Nat) : Int) ∧ ∃ x : Nat, s.1 = x ∧ x < 4294967296 ∧ runsP (uN v) (rs.drop (rs.length - m)) x = runsP (uN v) rs 0) (fun s o => o = some ((runsP (uN v) rs 0 : Int), true)) ?_ N rs.length (0, 0) hN ⟨Nat.le_refl _, by simp, 0, rfl, by decide, by simp⟩
  rintro m ⟨y, i⟩ again ⟨hm, rfl, x, hx, hxl, hr⟩ ih
  simp only at hx
  subst hx
  simp only [List.length_map]
  rcases Nat.eq_zero_or_pos m with h0 | h0
  · subst h0
    rw [brF (by omega)]
    rw [Nat.sub_zero, List.drop_length] at hr
    rw [← hr]; rfl
  · have hlt : rs.length - m < rs.length := by omega
    obtain ⟨h1, h2, h3⟩ := hok _ (List.getElem_mem hlt)
    have hf := fld_lt (uN v) rs[rs.length - m].2.2 (rs[rs.length - m].1 - rs[rs.length - m].2.1 + 1)
    have hp : fld (uN v) rs[rs.length - m].2.2 (rs[rs.length - m].1 - rs[rs.length - m].2.1 + 1) * 2 ^ rs[rs.length - m].2.1 < 4294967296 := by
      have e : 2 ^ (rs[rs.length - m].1 - rs[rs.length - m].2.1 + 1) * 2 ^ rs[rs.length - m].2.1 ≤ 2 ^ 32 := by
        rw [← Nat.pow_add]; exact Nat.pow_le_pow_right (by decide) (by omega)
      have := (Nat.mul_lt_mul_right (Nat.two_pow_pos rs[rs.length - m].2.1)).2 hf
      omega
    have hf2 : (2 : Nat) ^ (rs[rs.length - m].1 - rs[rs.length - m].2.1 + 1) ≤ 2 ^ 32 := Nat.pow_le_pow_right (by decide) (by omega)
    have hu := uN_lt v
    have hd : uN v / 2 ^ rs[rs.length - m].2.2 ≤ uN v := Nat.div_le_self _ _
    have e2 : IntKind.i64.wrap (IntKind.i64.wrap ((rs[rs.length - m].1 : Int) - (rs[rs.length - m].2.1 : Int)) + 1) = ((rs[rs.length - m].1 - rs[rs.length - m].2.1 + 1 : Nat) : Int) := by
      rw [wrap64 (n := (rs[rs.length - m].1 : Int) - rs[rs.length - m].2.1) (by omega) (by omega), wrap64 (by omega) (by omega)]; omega
    rw [brT (by omega), chk_true (by simp; omega), Int.toNat_natCast, getD_map_cast rs hlt]
    simp only
    rw [chkT (by omega), uN_wrap, Int.toNat_natCast, bits_u64, Nat.min_eq_left (by omega), fdivN, e2, Zext_is N (by omega) (by omega) (by omega), bindS_some, chkT (by omega), ← fld_def, Int.toNat_natCast, bits_u32, Nat.min_eq_left (by omega),
      u32N (by omega), powI, ← Int.natCast_mul, u32N (by omega), or32 (by omega) (by omega), wrap64 (by omega) (by omega)]
    refine ih (m - 1) _ (by omega) ⟨by omega, by simp only; omega, x ||| _, rfl, Nat.or_lt_two_pow (n := 32) hxl hp, ?_⟩
    rw [← hr, show rs.length - (m - 1) = rs.length - m + 1 by omega, List.drop_eq_getElem_cons hlt]
    rfl

theorem runsP_is (u : Nat) (f : Nat) (h1 : 1 ≤ f) (h2 : f ≤ 5) : runsP u (fmtOf f).2.2 0 = putN f u := by
  obtain rfl | rfl | rfl | rfl | rfl : f = 1 ∨ f = 2 ∨ f = 3 ∨ f = 4 ∨ f = 5 := by omega
  · simp only [fmtOf, runsP, putN, p1, p2, p3, p4, p5, mk_def, Nat.zero_or, Nat.reduceSub, Nat.reduceAdd, Nat.reducePow, Nat.reduceEqDiff, if_true, if_false, or_self, or_false, false_or, true_or]
    simp only [fld_def]; omega
  · have a1 := fld_lt u 0 5
    simp only [fmtOf, runsP, putN, p1, p2, p3, p4, p5, mk_def, Nat.zero_or, Nat.reduceSub, Nat.reduceAdd, Nat.reducePow, Nat.reduceEqDiff, if_true, if_false, or_self, or_false, false_or, or_true]
    rw [or_add (m := 25) (by omega) (by omega)]
    omega
  · have a1 := fld_lt u 1 4
    have a2 := fld_lt u 5 6
    have b1 := bt_lt u 11
    have b2 := bt_lt u 12
    simp only [fmtOf, runsP, putN, p1, p2, p3, p4, p5, mk_def, Nat.zero_or, Nat.reduceSub, Nat.reduceAdd, Nat.reducePow, Nat.reduceEqDiff, if_true, if_false, or_self, or_false, false_or, fld1]
    have e : (((bt u 12 * 2147483648 ||| bt u 11 * 128) ||| fld u 5 6 * 33554432) ||| fld u 1 4 * 256) = (((bt u 12 * 2147483648 ||| fld u 5 6 * 33554432) ||| fld u 1 4 * 256) ||| bt u 11 * 128) := by
      rw [Nat.or_assoc (bt u 12 * 2147483648), Nat.or_comm (bt u 11 * 128), ← Nat.or_assoc, Nat.or_assoc _ (bt u 11 * 128), Nat.or_comm (bt u 11 * 128), ← Nat.or_assoc]
    rw [e, or_add (a := bt u 12 * 2147483648) (m := 31) (by omega) (by omega), or_add (a := bt u 12 * 2147483648 + fld u 5 6 * 33554432) (m := 25) (by omega) (by omega), or_add (m := 8) (by omega) (by omega)]
    omega
  · simp only [fmtOf, runsP, putN, p1, p2, p3, p4, p5, mk_def, Nat.zero_or, Nat.reduceSub, Nat.reduceAdd, Nat.reducePow, Nat.reduceEqDiff, if_true, if_false, or_self, or_false, false_or, true_or]
    simp only [fld_def]; omega
  · have a1 := fld_lt u 1 10
    have a2 := fld_lt u 12 8
    have b1 := bt_lt u 11
    have b2 := bt_lt u 20
    simp only [fmtOf, runsP, putN, p1, p2, p3, p4, p5, mk_def, Nat.zero_or, Nat.reduceSub, Nat.reduceAdd, Nat.reducePow, Nat.reduceEqDiff, if_true, if_false, or_self, or_false, false_or, or_true, fld1]
    have e : (((bt u 20 * 2147483648 ||| fld u 12 8 * 4096) ||| bt u 11 * 1048576) ||| fld u 1 10 * 2097152) = (((bt u 20 * 2147483648 ||| fld u 1 10 * 2097152) ||| bt u 11 * 1048576) ||| fld u 12 8 * 4096) := by
      rw [Nat.or_assoc (bt u 20 * 2147483648), Nat.or_comm (fld u 12 8 * 4096), ← Nat.or_assoc, Nat.or_assoc _ (fld u 12 8 * 4096), Nat.or_comm (fld u 12 8 * 4096), ← Nat.or_assoc]
      rw [Nat.or_assoc (bt u 20 * 2147483648), Nat.or_comm (bt u 11 * 1048576), ← Nat.or_assoc]
    rw [e, or_add (a := bt u 20 * 2147483648) (m := 31) (by omega) (by omega), or_add (a := bt u 20 * 2147483648 + fld u 1 10 * 2097152) (m := 21) (by omega) (by omega), or_add (m := 20) (by omega) (by omega)]
    have x1 : fld u 12 8 = fld u 12 3 + fld u 15 5 * 8 := by simp only [fld_def]; omega
    have x2 : fld u 1 10 = fld u 1 4 + fld u 5 6 * 16 := by simp only [fld_def]; omega
    omega

theorem Zext0 (N : Nat) (x : Int) : F70 N x 0 = some 0 := rfl

/-- the test of an immediate by its bits -/
theorem sx_ok {v : Int} (hv : -9223372036854775808 ≤ v ∧ v ≤ 9223372036854775807) (f : Nat) (h1 : 1 ≤ f) (h2 : f ≤ 5) :
    (decide (IntKind.u64.wrap (sxN (uN v) (fmtOf f).1) = (uN v : Int)) && decide (((uN v % 2 ^ (fmtOf f).2.1 : Nat) : Int) = 0)) = mayB f v := by
  have hu := uN_lt v
  have hv2 : (uN v : Int) = v % 18446744073709551616 := by unfold uN; omega
  generalize uN v = u at hu hv2 ⊢
  obtain rfl | rfl | rfl | rfl | rfl : f = 1 ∨ f = 2 ∨ f = 3 ∨ f = 4 ∨ f = 5 := by omega
  all_goals
    rw [Bool.eq_iff_iff]
    simp only [fmtOf, mayB, Bool.and_eq_true, decide_eq_true_eq, u64_wrap_eq, sxN, Nat.reducePow, Nat.reduceSub, Nat.mod_one]
    split <;> omega

theorem PutP_is {N : Nat} (hN : 10 ≤ N) {v : Int} (hv : -9223372036854775808 ≤ v ∧ v ≤ 9223372036854775807) (f : Nat) (h1 : 1 ≤ f) (h2 : f ≤ 5) :
    F145 N f v = some (if mayB f v then (((putN f (uN v) : Nat) : Int), true) else (0, false)) := by
  obtain ⟨g1, g2, g3, g4⟩ := fmt_ok f h1 h2
  have hz : F70 N (uN v : Int) ((fmtOf f).2.1 : Int) = some ((uN v % 2 ^ (fmtOf f).2.1 : Nat) : Int) := by
    obtain rfl | rfl | rfl | rfl | rfl : f = 1 ∨ f = 2 ∨ f = 3 ∨ f = 4 ∨ f = 5 := by omega
    · show F70 N _ 0 = _; rw [Zext0]; simp [fmtOf, Nat.mod_one]
    · show F70 N _ 0 = _; rw [Zext0]; simp [fmtOf, Nat.mod_one]
    · exact Zext_is N (uN_lt v) (by decide) (by decide)
    · exact Zext_is N (uN_lt v) (by decide) (by decide)
    · exact Zext_is N (uN_lt v) (by decide) (by decide)
  unfold F145 R145
  rw [of_is N f h1 h2, bindS_some]
  rw [jp_val (v := !mayB f v)]
  · cases hm : mayB f v with
    | false => rfl
    | true =>
      simp only [Bool.not_true, br_f]
      rw [put_loop N v _ _ rfl g1 (by omega) (by omega), runsP_is (uN v) f h1 h2]
      rfl
  · intro K
    simp only [Bool.not_true, br_f, uN_wrap]
    rw [Sext_is N (uN_lt v) g3 g4, bindS_some, hz, bindS_some]
    rw [← sx_ok hv f h1 h2]
    cases decide (IntKind.u64.wrap (sxN (uN v) (fmtOf f).1) = (uN v : Int)) <;> rfl

/-! ### the document's -/
def termP (u : Nat) (p : Int) (i : Nat) : Nat := if p < 0 then 0 else bt u p.toNat * 2 ^ i
def accP (u : Nat) (ps : List Int) : Nat → Nat
  | 0 => 0
  | i + 1 => accP u ps i + termP u (ps.getD i 0) i

theorem accP_lt (u : Nat) (ps : List Int) : ∀ i, accP u ps i < 2 ^ i
  | 0 => by simp [accP]
  | i + 1 => by
    have h1 := accP_lt u ps i
    have h2 : termP u (ps.getD i 0) i ≤ 2 ^ i := by
      unfold termP
      split
      · omega
      · have := bt_lt u (ps.getD i 0).toNat
        have h : bt u (ps.getD i 0).toNat * 2 ^ i ≤ 1 * 2 ^ i := Nat.mul_le_mul_right _ (by omega)
        omega
    simp only [accP]
    rw [Nat.pow_succ]
    omega

theorem rPut_loop {N : Nat} (hN : 33 ≤ N) (v : Int) {f : Int} {ps : List Int} (ho : F173 N f = some ps) (hp : ∀ p ∈ ps, p ≤ 31) : F118 N f v = some (accP (uN v) ps 32 : Int) := by
  unfold F118 R118
  rw [ho, bindS_some]
  refine fixN_ind (fun m (s : Int × Int) => m ≤ 32 ∧ s.2 = ((32 - m : Nat) : Int) ∧ s.1 = (accP (uN v) ps (32 - m) : Int)) (fun s o => o = some (accP (uN v) ps 32 : Int)) ?_ N 32 (0, 0) (by omega) ⟨by omega, rfl, rfl⟩
  rintro m ⟨y, i⟩ again ⟨hm, rfl, rfl⟩ ih
  simp only
  rcases Nat.eq_zero_or_pos m with h0 | h0
  · subst h0
    rw [brF (by omega)]
  · have hq : ps.getD (32 - m) 0 ≤ 31 := by
      rw [List.getD_eq_getElem?_getD]
      cases hx : ps[32 - m]? with
      | none => simp
      | some x => exact hp x (List.mem_of_getElem? hx)
    have a1 := accP_lt (uN v) ps (32 - m)
    have a2 := accP_lt (uN v) ps (32 - m + 1)
    have a3 : (2 : Nat) ^ (32 - m + 1) ≤ 2 ^ 32 := Nat.pow_le_pow_right (by decide) (by omega)
    have step : ∀ y : Nat, y = accP (uN v) ps (32 - m) + termP (uN v) (ps.getD (32 - m) 0) (32 - m) → again ((y : Int), IntKind.i64.wrap (((32 - m : Nat) : Int) + 1)) = some (accP (uN v) ps 32 : Int) := by
      intro y hy
      rw [wrap64 (by omega) (by omega)]
      refine ih (m - 1) _ (by omega) ⟨by omega, by simp only; omega, ?_⟩
      simp only
      rw [hy, show 32 - (m - 1) = (32 - m) + 1 by omega, accP]
    simp only [jp_eq]
    rw [brT (by omega), chk_true (by simp; omega)]
    simp only [Int.toNat_natCast]
    by_cases hneg : ps.getD (32 - m) 0 < 0
    · rw [brF (by omega)]
      simp only [br_f]
      exact step _ (by rw [termP, if_pos hneg, Nat.add_zero])
    · obtain ⟨p, hpp⟩ : ∃ p : Nat, ps.getD (32 - m) 0 = p := ⟨(ps.getD (32 - m) 0).toNat, by omega⟩
      rw [hpp] at hq
      simp only [hpp]
      have hb := bt_lt (uN v) p
      have e1 : bits .and .u64 ((IntKind.u64.wrap v).fdiv (2 ^ Min.min (IntKind.u64.wrap (p : Int)).toNat IntKind.u64.bits)) 1 = ((bt (uN v) p : Nat) : Int) := by
        rw [u64N (by omega), Int.toNat_natCast, bits_u64, Nat.min_eq_left (by omega), uN_wrap, fdivN, bt_def]
        exact and_mask64 (Nat.lt_of_le_of_lt (Nat.div_le_self _ _) (uN_lt v)) (k := 1) (by decide)
      rw [brT (by omega), chk_true (by simp; omega), chkT (by rw [u64N (by omega)]; omega), e1]
      have ht : termP (uN v) (ps.getD (32 - m) 0) (32 - m) = bt (uN v) p * 2 ^ (32 - m) := by rw [hpp, termP, if_neg (by omega), Int.toNat_natCast]
      by_cases hz : bt (uN v) p = 0
      · rw [br_false (by simp [hz])]
        exact step _ (by rw [ht, hz]; simp)
      · have h1 : bt (uN v) p = 1 := by omega
        have a4 : accP (uN v) ps (32 - m) + 2 ^ (32 - m) < 4294967296 := by
          have : (2 : Nat) ^ (32 - m + 1) = 2 * 2 ^ (32 - m) := by rw [Nat.pow_succ]; omega
          omega
        rw [br_true (by simp [h1]), u64N (by omega), chkT (by omega), Int.toNat_natCast, bits_u32, Nat.min_eq_left (by omega), Int.one_mul, powI, u32N (by omega), ← Int.natCast_add, u32N a4]
        exact step _ (by rw [ht, h1, Nat.one_mul])

theorem rPut_is {N : Nat} (hN : 100 ≤ N) (v : Int) (f : Nat) (h1 : 1 ≤ f) (h2 : f ≤ 5) : F118 N f v = some (putN f (uN v) : Int) := by
  obtain ⟨M, rfl⟩ : ∃ M, N = M + 100 := ⟨N - 100, by omega⟩
  obtain rfl | rfl | rfl | rfl | rfl : f = 1 ∨ f = 2 ∨ f = 3 ∨ f = 4 ∨ f = 5 := by omega
  · have ho : F173 (M + 100) 1 = some [-1, -1, -1, -1, -1, -1, -1, -1, -1, -1, -1, -1, -1, -1, -1, -1, -1, -1, -1, -1, 0, 1, 2, 3, 4, 5, 6, 7, 8, 9, 10, 11] := by kernel_rfl
    refine (rPut_loop (by omega) v ho (by decide)).trans (congrArg some (congrArg Int.ofNat ?_))
    generalize uN v = u
    have ea : accP u [-1, -1, -1, -1, -1, -1, -1, -1, -1, -1, -1, -1, -1, -1, -1, -1, -1, -1, -1, -1, 0, 1, 2, 3, 4, 5, 6, 7, 8, 9, 10, 11] 32 = bt u 0 * 1048576 + bt u 1 * 2097152 + bt u 2 * 4194304 + bt u 3 * 8388608 + bt u 4 * 16777216 + bt u 5 * 33554432 + bt u 6 * 67108864 + bt u 7 * 134217728 + bt u 8 * 268435456 + bt u 9 * 536870912 + bt u 10 * 1073741824 + bt u 11 * 2147483648 := by
      simp [accP, termP]
    rw [ea]
    have e0 : fld u 0 5 = bt u 0 * 1 + bt u 1 * 2 + bt u 2 * 4 + bt u 3 * 8 + bt u 4 * 16 := by
      simp [fld_succ, fld_zero]
    have e5 : fld u 5 7 = bt u 5 * 1 + bt u 6 * 2 + bt u 7 * 4 + bt u 8 * 8 + bt u 9 * 16 + bt u 10 * 32 + bt u 11 * 64 := by
      simp [fld_succ, fld_zero]
    simp only [putN, p1, p2, p3, p4, p5, mk_def, Nat.reduceEqDiff, if_true, if_false, or_self, or_false, false_or, or_true, true_or]
    rw [e0, e5]
    omega
  · have ho : F173 (M + 100) 2 = some [-1, -1, -1, -1, -1, -1, -1, 0, 1, 2, 3, 4, -1, -1, -1, -1, -1, -1, -1, -1, -1, -1, -1, -1, -1, 5, 6, 7, 8, 9, 10, 11] := by kernel_rfl
    refine (rPut_loop (by omega) v ho (by decide)).trans (congrArg some (congrArg Int.ofNat ?_))
    generalize uN v = u
    have ea : accP u [-1, -1, -1, -1, -1, -1, -1, 0, 1, 2, 3, 4, -1, -1, -1, -1, -1, -1, -1, -1, -1, -1, -1, -1, -1, 5, 6, 7, 8, 9, 10, 11] 32 = bt u 0 * 128 + bt u 1 * 256 + bt u 2 * 512 + bt u 3 * 1024 + bt u 4 * 2048 + bt u 5 * 33554432 + bt u 6 * 67108864 + bt u 7 * 134217728 + bt u 8 * 268435456 + bt u 9 * 536870912 + bt u 10 * 1073741824 + bt u 11 * 2147483648 := by
      simp [accP, termP]
    rw [ea]
    have e0 : fld u 0 5 = bt u 0 * 1 + bt u 1 * 2 + bt u 2 * 4 + bt u 3 * 8 + bt u 4 * 16 := by
      simp [fld_succ, fld_zero]
    have e5 : fld u 5 7 = bt u 5 * 1 + bt u 6 * 2 + bt u 7 * 4 + bt u 8 * 8 + bt u 9 * 16 + bt u 10 * 32 + bt u 11 * 64 := by
      simp [fld_succ, fld_zero]
    simp only [putN, p1, p2, p3, p4, p5, mk_def, Nat.reduceEqDiff, if_true, if_false, or_self, or_false, false_or, or_true, true_or]
    rw [e0, e5]
    omega
  · have ho : F173 (M + 100) 3 = some [-1, -1, -1, -1, -1, -1, -1, 11, 1, 2, 3, 4, -1, -1, -1, -1, -1, -1, -1, -1, -1, -1, -1, -1, -1, 5, 6, 7, 8, 9, 10, 12] := by kernel_rfl
    refine (rPut_loop (by omega) v ho (by decide)).trans (congrArg some (congrArg Int.ofNat ?_))
    generalize uN v = u
    have ea : accP u [-1, -1, -1, -1, -1, -1, -1, 11, 1, 2, 3, 4, -1, -1, -1, -1, -1, -1, -1, -1, -1, -1, -1, -1, -1, 5, 6, 7, 8, 9, 10, 12] 32 = bt u 11 * 128 + bt u 1 * 256 + bt u 2 * 512 + bt u 3 * 1024 + bt u 4 * 2048 + bt u 5 * 33554432 + bt u 6 * 67108864 + bt u 7 * 134217728 + bt u 8 * 268435456 + bt u 9 * 536870912 + bt u 10 * 1073741824 + bt u 12 * 2147483648 := by
      simp [accP, termP]
    rw [ea]
    have e1 : fld u 1 4 = bt u 1 * 1 + bt u 2 * 2 + bt u 3 * 4 + bt u 4 * 8 := by
      simp [fld_succ, fld_zero]
    have e5 : fld u 5 6 = bt u 5 * 1 + bt u 6 * 2 + bt u 7 * 4 + bt u 8 * 8 + bt u 9 * 16 + bt u 10 * 32 := by
      simp [fld_succ, fld_zero]
    simp only [putN, p1, p2, p3, p4, p5, mk_def, Nat.reduceEqDiff, if_true, if_false, or_self, or_false, false_or, or_true, true_or]
    rw [e1, e5]
    omega
  · have ho : F173 (M + 100) 4 = some [-1, -1, -1, -1, -1, -1, -1, -1, -1, -1, -1, -1, 12, 13, 14, 15, 16, 17, 18, 19, 20, 21, 22, 23, 24, 25, 26, 27, 28, 29, 30, 31] := by kernel_rfl
    refine (rPut_loop (by omega) v ho (by decide)).trans (congrArg some (congrArg Int.ofNat ?_))
    generalize uN v = u
    have ea : accP u [-1, -1, -1, -1, -1, -1, -1, -1, -1, -1, -1, -1, 12, 13, 14, 15, 16, 17, 18, 19, 20, 21, 22, 23, 24, 25, 26, 27, 28, 29, 30, 31] 32 = bt u 12 * 4096 + bt u 13 * 8192 + bt u 14 * 16384 + bt u 15 * 32768 + bt u 16 * 65536 + bt u 17 * 131072 + bt u 18 * 262144 + bt u 19 * 524288 + bt u 20 * 1048576 + bt u 21 * 2097152 + bt u 22 * 4194304 + bt u 23 * 8388608 + bt u 24 * 16777216 + bt u 25 * 33554432 + bt u 26 * 67108864 + bt u 27 * 134217728 + bt u 28 * 268435456 + bt u 29 * 536870912 + bt u 30 * 1073741824 + bt u 31 * 2147483648 := by
      simp [accP, termP]
    rw [ea]
    have e12 : fld u 12 3 = bt u 12 * 1 + bt u 13 * 2 + bt u 14 * 4 := by
      simp [fld_succ, fld_zero]
    have e15 : fld u 15 5 = bt u 15 * 1 + bt u 16 * 2 + bt u 17 * 4 + bt u 18 * 8 + bt u 19 * 16 := by
      simp [fld_succ, fld_zero]
    have e20 : fld u 20 5 = bt u 20 * 1 + bt u 21 * 2 + bt u 22 * 4 + bt u 23 * 8 + bt u 24 * 16 := by
      simp [fld_succ, fld_zero]
    have e25 : fld u 25 7 = bt u 25 * 1 + bt u 26 * 2 + bt u 27 * 4 + bt u 28 * 8 + bt u 29 * 16 + bt u 30 * 32 + bt u 31 * 64 := by
      simp [fld_succ, fld_zero]
    simp only [putN, p1, p2, p3, p4, p5, mk_def, Nat.reduceEqDiff, if_true, if_false, or_self, or_false, false_or, or_true, true_or]
    rw [e12, e15, e20, e25]
    omega
  · have ho : F173 (M + 100) 5 = some [-1, -1, -1, -1, -1, -1, -1, -1, -1, -1, -1, -1, 12, 13, 14, 15, 16, 17, 18, 19, 11, 1, 2, 3, 4, 5, 6, 7, 8, 9, 10, 20] := by kernel_rfl
    refine (rPut_loop (by omega) v ho (by decide)).trans (congrArg some (congrArg Int.ofNat ?_))
    generalize uN v = u
    have ea : accP u [-1, -1, -1, -1, -1, -1, -1, -1, -1, -1, -1, -1, 12, 13, 14, 15, 16, 17, 18, 19, 11, 1, 2, 3, 4, 5, 6, 7, 8, 9, 10, 20] 32 = bt u 12 * 4096 + bt u 13 * 8192 + bt u 14 * 16384 + bt u 15 * 32768 + bt u 16 * 65536 + bt u 17 * 131072 + bt u 18 * 262144 + bt u 19 * 524288 + bt u 11 * 1048576 + bt u 1 * 2097152 + bt u 2 * 4194304 + bt u 3 * 8388608 + bt u 4 * 16777216 + bt u 5 * 33554432 + bt u 6 * 67108864 + bt u 7 * 134217728 + bt u 8 * 268435456 + bt u 9 * 536870912 + bt u 10 * 1073741824 + bt u 20 * 2147483648 := by
      simp [accP, termP]
    rw [ea]
    have e12 : fld u 12 3 = bt u 12 * 1 + bt u 13 * 2 + bt u 14 * 4 := by
      simp [fld_succ, fld_zero]
    have e15 : fld u 15 5 = bt u 15 * 1 + bt u 16 * 2 + bt u 17 * 4 + bt u 18 * 8 + bt u 19 * 16 := by
      simp [fld_succ, fld_zero]
    have e1 : fld u 1 4 = bt u 1 * 1 + bt u 2 * 2 + bt u 3 * 4 + bt u 4 * 8 := by
      simp [fld_succ, fld_zero]
    have e5 : fld u 5 6 = bt u 5 * 1 + bt u 6 * 2 + bt u 7 * 4 + bt u 8 * 8 + bt u 9 * 16 + bt u 10 * 32 := by
      simp [fld_succ, fld_zero]
    simp only [putN, p1, p2, p3, p4, p5, mk_def, Nat.reduceEqDiff, if_true, if_false, or_self, or_false, false_or, or_true, true_or]
    rw [e12, e15, e1, e5]
    omega
end Go.Proofs.YtkcfkegkhopakaaGreatDoor

/- Which instructions may be: the program's and the document's answers are the same. No condition. -/

namespace Go.Proofs.YtkcfkegkhopakaaGreatDoor
open Go Go.Ev Go.Sh
set_option linter.unusedVariables false
set_option linter.unusedSimpArgs false
set_option maxRecDepth 100000

/-- may an operation have an immediate? -/
def immOK (k : Nat) (v : Int) : Bool :=
  if shf k = 6 then decide (0 ≤ v) && decide (v < 64) else if shf k = 5 then decide (0 ≤ v) && decide (v < 32) else if fmtO k = 0 then decide (v = 0) else mayB (fmtO k) v

def psB (k p s : Int) : Bool :=
  if k = 50 then decide (0 ≤ p) && (decide (p ≤ 15) && (decide (0 ≤ s) && decide (s ≤ 15))) else if k = 51 then decide (p = 3) && decide (s = 3) else decide (p = 0) && decide (s = 0)

def rgB (r : Int) : Bool := decide (0 ≤ r) && decide (r ≤ 31)

/-- may an instruction be? -/
def rightB (x : Ins) : Bool :=
  (decide (1 ≤ x.1) && decide (x.1 ≤ 75)) && ((rgB x.2.1 && (rgB x.2.2.1 && rgB x.2.2.2.1)) && (((wrO x.1 || decide (x.2.1 = 0)) && ((fiO x.1 || decide (x.2.2.1 = 0)) && ((seO x.1 || decide (x.2.2.2.1 = 0)) &&
  !(decide (srt x.1 < 10) && (x.2.2.2.2.2.1 || x.2.2.2.2.2.2.1))))) && (immOK x.1.toNat x.2.2.2.2.1 && psB x.1 x.2.2.2.2.2.2.2.1 x.2.2.2.2.2.2.2.2)))

/-! ### tables of the program -/
def chkEn (N k : Nat) : Bool := (F143 N k == some (shf k : Int)) && ((F144 N k == some (fmtO k : Int)) && (F108 N k == some (f3O k : Int)))
theorem chkEn_all (N : Nat) : ((List.range 75).all fun i => chkEn (N + 100) (i + 1)) = true := by kernel_rfl
theorem en_is {N : Nat} (hN : 100 ≤ N) {k : Nat} (h1 : 1 ≤ k) (h2 : k ≤ 75) : F143 N k = some (shf k : Int) ∧ F144 N k = some (fmtO k : Int) ∧ F108 N k = some (f3O k : Int) := by
  obtain ⟨M, rfl⟩ : ∃ M, N = M + 100 := ⟨N - 100, by omega⟩
  have := List.all_eq_true.1 (chkEn_all M) (k - 1) (List.mem_range.2 (by omega))
  rw [show k - 1 + 1 = k by omega] at this
  simpa only [chkEn, Bool.and_eq_true, beq_iff_eq] using this

def chkE2 (N k : Nat) : Bool := (F143 N k == some (shf k : Int)) && (F144 N k == some (fmtO k : Int))
theorem chkE2_all (N : Nat) : ((List.range 75).all fun i => chkE2 (N + 100) (i + 1)) = true := by kernel_rfl
theorem en2_is {N : Nat} (hN : 100 ≤ N) {k : Nat} (h1 : 1 ≤ k) (h2 : k ≤ 75) : F143 N k = some (shf k : Int) ∧ F144 N k = some (fmtO k : Int) := by
  obtain ⟨M, rfl⟩ : ∃ M, N = M + 100 := ⟨N - 100, by omega⟩
  have := List.all_eq_true.1 (chkE2_all M) (k - 1) (List.mem_range.2 (by omega))
  rw [show k - 1 + 1 = k by omega] at this
  simpa only [chkE2, Bool.and_eq_true, beq_iff_eq] using this

/-- an immediate's bits in a word -/
noncomputable def immW (k : Nat) (v : Int) : Nat := if 0 < shf k then uN v % 4096 * 1048576 % 4294967296 else if 0 < fmtO k then (if immOK k v then putN (fmtO k) (uN v) else 0) else 0

abbrev I64 (v : Int) : Prop := -9223372036854775808 ≤ v ∧ v ≤ 9223372036854775807

theorem immediate_is {N : Nat} (hN : 100 ≤ N) {k : Nat} (h1 : 1 ≤ k) (h2 : k ≤ 75) {x : Ins} (hx : x.1 = k) (hv : I64 x.2.2.2.2.1) : F91 N x = some (((immW k x.2.2.2.2.1 : Nat) : Int), immOK k x.2.2.2.2.1) := by
  obtain ⟨t1, t2⟩ := en2_is hN h1 h2
  unfold F91 R91
  rw [hx, t1, bindS_some]
  have hs := shf_cases k
  have hf : shf k ≠ 0 → fmtO k = 0 := fun h => fmtO_shf (by omega)
  have hw : IntKind.u32.wrap (IntKind.u32.wrap x.2.2.2.2.1 * 2 ^ min 20 IntKind.u32.bits) = ((uN x.2.2.2.2.1 % 4096 * 1048576 % 4294967296 : Nat) : Int) := by
    rw [show min 20 IntKind.u32.bits = 20 from rfl, show ((2 : Int) ^ 20) = 1048576 from rfl, u32_wrap_eq, u32_wrap_eq]
    unfold uN
    omega
  by_cases hz : shf k = 0
  · rw [hz, brF (by omega), t2, bindS_some]
    by_cases hf0 : fmtO k = 0
    · rw [hf0, brF (by omega)]
      simp only [immW, immOK, hz, hf0, Nat.lt_irrefl, if_false, Nat.reduceEqDiff, if_true]
      rfl
    · rw [brT (by omega), PutP_is (by omega) hv (fmtO k) (by omega) (fmtO_le k), bindS_some]
      have hi : immOK k x.2.2.2.2.1 = mayB (fmtO k) x.2.2.2.2.1 := by
        unfold immOK
        rw [if_neg (by omega), if_neg (by omega), if_neg hf0]
      simp only [immW, hz, Nat.lt_irrefl, if_false, if_pos (show 0 < fmtO k by omega), hi]
      cases mayB (fmtO k) x.2.2.2.2.1 <;> rfl
  · rw [brT (by omega), hw]
    rw [jp_val (v := (((uN x.2.2.2.2.1 % 4096 * 1048576 % 4294967296 : Nat) : Int), immOK k x.2.2.2.2.1))]
    · simp only [immW, if_pos (show 0 < shf k by omega)]
    · intro K
      have h6 : ∀ m : Nat, shf k = m → m = 5 ∨ m = 6 → (decide (0 ≤ x.2.2.2.2.1) && decide (x.2.2.2.2.1 < IntKind.i64.wrap (1 * 2 ^ min ((m : Nat) : Int).toNat IntKind.i64.bits))) = immOK k x.2.2.2.2.1 := by
        intro m hm h
        unfold immOK
        obtain rfl | rfl := h
        · rw [if_neg (by omega), if_pos hm]; rfl
        · rw [if_pos hm]; rfl
      have := h6 (shf k) rfl (by omega)
      rw [chkT (by omega), ← this]
      cases decide (0 ≤ x.2.2.2.2.1) <;> rfl

abbrev InsT : Ty := (Ty.int .i64).pair ((Ty.int .i64).pair ((Ty.int .i64).pair ((Ty.int .i64).pair ((Ty.int .i64).pair (Ty.bool.pair (Ty.bool.pair ((Ty.int .i64).pair (Ty.int .i64))))))))
theorem insEq (x y : Ins) : InsT.eq x y = true ↔ x = y := by
  obtain ⟨a, b, c, d, e, f, g, h, i⟩ := x
  obtain ⟨a', b', c', d', e', f', g', h', i'⟩ := y
  simp only [InsT, Ty.eq, Bool.and_eq_true, decide_eq_true_eq, beq_iff_eq, Prod.mk.injEq]

theorem cleanEq (x : Ins) : InsT.eq (clean x) x = ((wrO x.1 || decide (x.2.1 = 0)) && ((fiO x.1 || decide (x.2.2.1 = 0)) && (seO x.1 || decide (x.2.2.2.1 = 0)))) := by
  rw [Bool.eq_iff_iff, insEq]
  obtain ⟨a, b, c, d, e⟩ := x
  unfold clean
  simp only [decide_eq_true_eq, Prod.mk.injEq, Bool.and_eq_true, Bool.or_eq_true, and_true, true_and]
  cases wrO a <;> cases fiO a <;> cases seO a <;> simp <;> (try omega)

theorem immediate_out {N : Nat} (hN : 100 ≤ N) {x : Ins} (h : x.1 < 1 ∨ 75 < x.1) : F91 N x = some (0, decide (x.2.2.2.2.1 = 0)) := by
  have h0 : F143 N x.1 = some 0 := by
    unfold F143
    simp only [jp_eq]
    rw [brF (by omega), brF (by omega), br_false (decide_eq_false (by omega)), brF (by omega), brF (by omega), br_false (decide_eq_false (by omega))]
  have h1 : F144 N x.1 = some 0 := by
    unfold F144 R144
    rw [Sort_is hN, srt_out h]
    rfl
  unfold F91 R91
  rw [h0, bindS_some, h1]
  rfl

theorem loop3 (M : Nat) (a b c : Int) (R : Option Bool) : fixN (M + 4) (fun again7 (y8 : Int) => br (decide (y8 < 3))
 (chk (decide (0 ≤ y8) && decide (y8 < (↑3 : Int))) (jp (fun (y9 : Bool) => br y9
 (some Bool.false)
 (again7 (IntKind.i64.wrap (y8 + 1))))
 (fun K10 => br (decide ([a, b, c].getD y8.toNat 0 < 0))
 (K10 Bool.true)
 (K10 (decide (31 < [a, b, c].getD y8.toNat 0))))))
 R) 0 = if rgB a && (rgB b && rgB c) then R else some false := by
  have e : ∀ r : Int, (decide (r < 0) || decide (31 < r)) = !rgB r := by
    intro r
    unfold rgB
    rw [Bool.eq_iff_iff]
    simp only [Bool.or_eq_true, decide_eq_true_eq, Bool.not_eq_true', Bool.and_eq_false_iff, decide_eq_false_iff_not]
    omega
  have st : ∀ (r : Int) (A : Option Bool), jp (fun (y9 : Bool) => br y9 (some Bool.false) A) (fun K10 => br (decide (r < 0)) (K10 Bool.true) (K10 (decide (31 < r)))) = if rgB r then A else some false := by
    intro r A
    rw [jp_val (v := (decide (r < 0) || decide (31 < r))) (h := fun K => br_or _ _ K), e]
    cases rgB r <;> rfl
  show jp (fun (y9 : Bool) => br y9 (some Bool.false) (jp (fun (y9 : Bool) => br y9 (some Bool.false) (jp (fun (y9 : Bool) => br y9 (some Bool.false) R) (fun K10 => br (decide (c < 0)) (K10 Bool.true) (K10 (decide (31 < c)))))) (fun K10 => br (decide (b < 0)) (K10 Bool.true) (K10 (decide (31 < b)))))) (fun K10 => br (decide (a < 0)) (K10 Bool.true) (K10 (decide (31 < a)))) = _
  rw [st, st, st]
  cases rgB a <;> cases rgB b <;> cases rgB c <;> rfl

theorem fence_regs : wrO 50 = false ∧ fiO 50 = false ∧ seO 50 = false ∧ wrO 51 = false ∧ fiO 51 = false ∧ seO 51 = false := by decide

theorem RightP_is {N : Nat} (hN : 100 ≤ N) {x : Ins} (hv : I64 x.2.2.2.2.1) : F38 N x = some (rightB x) := by
  obtain ⟨M, rfl⟩ : ∃ M, N = M + 100 := ⟨N - 100, by omega⟩
  unfold F38 R38
  rw [Sort_is hN]
  by_cases hr : x.1 < 1 ∨ 75 < x.1
  · have hb : rightB x = false := by
      unfold rightB
      have : (decide (1 ≤ x.1) && decide (x.1 ≤ 75)) = false := by
        rw [Bool.and_eq_false_iff]; simp only [decide_eq_false_iff_not]; omega
      rw [this, Bool.false_and]
    rw [immediate_out hN hr, bindS_some, bindS_some, srt_out hr, hb]
    rfl
  · obtain ⟨k, hk⟩ : ∃ k : Nat, x.1 = (k : Int) := ⟨x.1.toNat, by omega⟩
    have ht : x.1.toNat = k := by omega
    have hs : ¬ srt x.1 = 0 := by
      intro h
      have hc : ((List.range 75).all fun i => !decide (srt ((i + 1 : Nat) : Int) = 0)) = true := by kernel_rfl
      have := List.all_eq_true.1 hc (k - 1) (List.mem_range.2 (by omega))
      rw [show k - 1 + 1 = k by omega, ← hk, decide_eq_true h] at this
      simp at this
    rw [immediate_is hN (by omega) (by omega) hk hv, bindS_some, bindS_some, Clean_is hN]
    simp only [bindS_some]
    rw [jp_val (v := !(immOK k x.2.2.2.2.1 && (InsT.eq (clean x) x && !(decide (srt x.1 < 10) && (x.2.2.2.2.2.1 || x.2.2.2.2.2.2.1)))))]
    rotate_left
    · intro K
      rw [brF hs]
      cases immOK k x.2.2.2.2.1 <;> cases InsT.eq (clean x) x <;> cases x.2.2.2.2.2.1 <;> cases x.2.2.2.2.2.2.1 <;> cases decide (srt x.1 < 10) <;> rfl
    have h175 : (decide (1 ≤ x.1) && decide (x.1 ≤ 75)) = true := by
      rw [Bool.and_eq_true]; simp only [decide_eq_true_eq]; omega
    unfold rightB
    rw [h175, Bool.true_and, ht, cleanEq]
    obtain ⟨f1, f2, f3, f4, f5, f6⟩ := fence_regs
    have z : ∀ r : Int, decide (r = 0) = true → rgB r = true := by
      intro r hr
      have := of_decide_eq_true hr
      subst this; rfl
    by_cases h50 : x.1 = 50
    · rw [brT h50, h50, f1, f2, f3]
      rw [jp_val (v := psB 50 x.2.2.2.2.2.2.2.1 x.2.2.2.2.2.2.2.2)]
      rotate_left
      · intro K
        unfold psB
        rw [if_pos rfl]
        cases decide (0 ≤ x.2.2.2.2.2.2.2.1) <;> cases decide (x.2.2.2.2.2.2.2.1 ≤ 15) <;> cases decide (0 ≤ x.2.2.2.2.2.2.2.2) <;> rfl
      cases h1 : decide (x.2.1 = 0) <;> cases h2 : decide (x.2.2.1 = 0) <;> cases h3 : decide (x.2.2.2.1 = 0)
      all_goals first
        | (rw [z _ h1, z _ h2, z _ h3]; cases immOK k x.2.2.2.2.1 <;> cases x.2.2.2.2.2.1 <;> cases x.2.2.2.2.2.2.1 <;> cases decide (srt 50 < 10) <;> rfl)
        | (cases immOK k x.2.2.2.2.1 <;> cases rgB x.2.1 <;> cases rgB x.2.2.1 <;> cases rgB x.2.2.2.1 <;> rfl)
    · rw [brF h50]
      by_cases h51 : x.1 = 51
      · rw [brT h51, h51, f4, f5, f6]
        rw [jp_val (v := psB 51 x.2.2.2.2.2.2.2.1 x.2.2.2.2.2.2.2.2)]
        rotate_left
        · intro K
          unfold psB
          rw [if_neg (by decide), if_pos rfl]
          cases decide (x.2.2.2.2.2.2.2.1 = 3) <;> rfl
        cases h1 : decide (x.2.1 = 0) <;> cases h2 : decide (x.2.2.1 = 0) <;> cases h3 : decide (x.2.2.2.1 = 0)
        all_goals first
          | (rw [z _ h1, z _ h2, z _ h3]; cases immOK k x.2.2.2.2.1 <;> cases x.2.2.2.2.2.1 <;> cases x.2.2.2.2.2.2.1 <;> cases decide (srt 51 < 10) <;> rfl)
          | (cases immOK k x.2.2.2.2.1 <;> cases rgB x.2.1 <;> cases rgB x.2.2.1 <;> cases rgB x.2.2.2.1 <;> rfl)
      · rw [brF h51, show M + 100 = (M + 96) + 4 from rfl, loop3]
        rw [jp_val (v := psB x.1 x.2.2.2.2.2.2.2.1 x.2.2.2.2.2.2.2.2)]
        rotate_left
        · intro K
          unfold psB
          rw [if_neg h50, if_neg h51]
          cases decide (x.2.2.2.2.2.2.2.1 = 0) <;> rfl
        generalize (wrO x.1 || decide (x.2.1 = 0)) = w1
        generalize (fiO x.1 || decide (x.2.2.1 = 0)) = w2
        generalize (seO x.1 || decide (x.2.2.2.1 = 0)) = w3
        generalize (!(decide (srt x.1 < 10) && (x.2.2.2.2.2.1 || x.2.2.2.2.2.2.1))) = w4
        generalize (rgB x.2.1 && (rgB x.2.2.1 && rgB x.2.2.2.1)) = w5
        generalize psB x.1 x.2.2.2.2.2.2.2.1 x.2.2.2.2.2.2.2.2 = w6
        cases immOK k x.2.2.2.2.1 <;> cases w1 <;> cases w2 <;> cases w3 <;> cases w4 <;> cases w5 <;> cases w6 <;> rfl

end Go.Proofs.YtkcfkegkhopakaaGreatDoor

/- The word of an instruction: the program's parts together are the document's sum. No condition. -/

namespace Go.Proofs.YtkcfkegkhopakaaGreatDoor
open Go Go.Ev Go.Sh
set_option linter.unusedVariables false
set_option linter.unusedSimpArgs false
set_option maxRecDepth 100000

theorem all_is (N : Nat) (l : List Nat) (hl : ∀ x ∈ l, x < 4294967296) (hN : l.length < N) (hb : l.length < 1000) : F106 N (l.map fun x : Nat => (x : Int)) = some ((l.foldl (· ||| ·) 0 : Nat) : Int) := by
  unfold F106
  refine fixN_ind (fun m (s : Int × Int) => m ≤ l.length ∧ s.2 = ((l.length - m : Nat) : Int) ∧ ∃ x : Nat, s.1 = x ∧ x < 4294967296 ∧ (l.drop (l.length - m)).foldl (· ||| ·) x = l.foldl (· ||| ·) 0) (fun s o => o = some ((l.foldl (· ||| ·) 0 : Nat) : Int)) ?_ N l.length (0, 0) hN ⟨Nat.le_refl _, by simp, 0, rfl, by decide, by simp⟩
  rintro m ⟨y, i⟩ again ⟨hm, rfl, x, hx, hxl, hr⟩ ih
  simp only at hx
  subst hx
  simp only [List.length_map]
  rcases Nat.eq_zero_or_pos m with h0 | h0
  · subst h0
    rw [brF (by omega)]
    rw [Nat.sub_zero, List.drop_length] at hr
    rw [← hr]; rfl
  · have hlt : l.length - m < l.length := by omega
    have hg : (l.map fun x : Nat => (x : Int)).getD (l.length - m) 0 = (l[l.length - m] : Int) := by
      rw [List.getD_eq_getElem?_getD, List.getElem?_map, List.getElem?_eq_getElem hlt]; rfl
    have hx2 := hl _ (List.getElem_mem hlt)
    rw [brT (by omega), chk_true (by simp; omega), Int.toNat_natCast, hg, or32 hxl hx2, wrap64 (by omega) (by omega)]
    refine ih (m - 1) _ (by omega) ⟨by omega, by simp only; omega, _, rfl, lt32_or hxl hx2, ?_⟩
    rw [← hr, show l.length - (m - 1) = l.length - m + 1 by omega, List.drop_eq_getElem_cons hlt]
    rfl

/-! ### facts of operations -/
def hiA (k : Nat) : Nat := if k = 53 then 1 else 0
def hiB (k : Nat) : Nat := if trn k then 32 else if k = 51 then 64 else if 54 ≤ k then fiv k * 4 else 0

def factB (N k : Nat) : Bool :=
  ((!(fmtO k == 2 || fmtO k == 3) || !wrO k) && ((!(fmtO k == 4 || fmtO k == 5) || (f3O k == 0 && (!fiO k && !seO k))) && ((!(fmtO k == 1) || !seO k) && ((fmtO k == 0 || (!trn k && Nat.blt k 50)) && ((shf k == 0 || (!seO k && Nat.blt k 50)) && (!trn k || (Nat.blt k 50 && fmtO k == 0))))))) &&
  ((!(Nat.ble 50 k) || (fmtO k == 0 && (shf k == 0 && !trn k))) && ((!(Nat.ble 50 k && Nat.blt k 54) || (f3O k == 0 && (!wrO k && (!fiO k && !seO k)))) && (Nat.blt (fiv k) 32 && ((Nat.blt (opc k) 128 && Nat.blt (f3O k) 8) &&
  ((decide (srt k < 10) == Nat.blt k 54) && ((F109 N k == some ((hiA k * 1048576 + hiB k * 33554432 : Nat) : Int)) && ((opc k == 15) == (k == 50 || k == 51)))))))) && Nat.blt (hiB k) 128
theorem fact_all (M : Nat) : ((List.range 75).all fun i => factB (M + 100) (i + 1)) = true := by kernel_rfl

structure Fact (N k : Nat) : Prop where
  f23 : fmtO k = 2 ∨ fmtO k = 3 → wrO k = false
  f45 : fmtO k = 4 ∨ fmtO k = 5 → f3O k = 0 ∧ fiO k = false ∧ seO k = false
  f1 : fmtO k = 1 → seO k = false
  fm : fmtO k ≠ 0 → trn k = false ∧ k < 50
  sh : shf k ≠ 0 → seO k = false ∧ k < 50
  tr : trn k = true → k < 50 ∧ fmtO k = 0
  up : 50 ≤ k → fmtO k = 0 ∧ shf k = 0 ∧ trn k = false
  mid : 50 ≤ k → k < 54 → f3O k = 0 ∧ wrO k = false ∧ fiO k = false ∧ seO k = false
  fv : fiv k < 32
  oc : opc k < 128
  f3 : f3O k < 8
  sr : decide (srt k < 10) = Nat.blt k 54
  hi : F109 N k = some (mk 0 0 0 0 (hiA k) (hiB k) : Int)
  fe : (opc k == 15) = (k == 50 || k == 51)
  hBl : hiB k < 128

theorem fact_is {N : Nat} (hN : 100 ≤ N) {k : Nat} (h1 : 1 ≤ k) (h2 : k ≤ 75) : Fact N k := by
  obtain ⟨M, rfl⟩ : ∃ M, N = M + 100 := ⟨N - 100, by omega⟩
  have := List.all_eq_true.1 (fact_all M) (k - 1) (List.mem_range.2 (by omega))
  rw [show k - 1 + 1 = k by omega] at this
  unfold factB at this
  simp only [Bool.and_eq_true] at this
  obtain ⟨⟨⟨a1, a2, a3, a4, a5, a6⟩, b1, b2, b3, ⟨b4, b5⟩, b6, b7, b8⟩, b9⟩ := this
  have bl : ∀ {a b : Nat}, Nat.blt a b = true ↔ a < b := fun {a b} => by rw [Nat.blt_eq]
  have bl2 : ∀ {a b : Nat}, Nat.ble a b = true ↔ a ≤ b := fun {a b} => by rw [Nat.ble_eq]
  refine ⟨?_, ?_, ?_, ?_, ?_, ?_, ?_, ?_, bl.1 b3, bl.1 b4, bl.1 b5, ?_, ?_, ?_, bl.1 b9⟩
  · intro h
    have : (fmtO k == 2 || fmtO k == 3) = true := by rw [Bool.or_eq_true, beq_iff_eq, beq_iff_eq]; exact h
    rw [this] at a1; simpa using a1
  · intro h
    have : (fmtO k == 4 || fmtO k == 5) = true := by rw [Bool.or_eq_true, beq_iff_eq, beq_iff_eq]; exact h
    rw [this] at a2; simpa using a2
  · intro h
    have : (fmtO k == 1) = true := by rw [beq_iff_eq]; exact h
    rw [this] at a3; simpa using a3
  · intro h
    have : (fmtO k == 0) = false := beq_eq_false_iff_ne.2 h
    rw [this, Bool.false_or, Bool.and_eq_true, bl] at a4
    exact ⟨by simpa using a4.1, a4.2⟩
  · intro h
    have : (shf k == 0) = false := beq_eq_false_iff_ne.2 h
    rw [this, Bool.false_or, Bool.and_eq_true, bl] at a5
    exact ⟨by simpa using a5.1, a5.2⟩
  · intro h
    rw [h, Bool.not_true, Bool.false_or, Bool.and_eq_true, bl, beq_iff_eq] at a6
    exact a6
  · intro h
    rw [bl2.2 h, Bool.not_true, Bool.false_or, Bool.and_eq_true, Bool.and_eq_true, beq_iff_eq, beq_iff_eq] at b1
    exact ⟨b1.1, b1.2.1, by simpa using b1.2.2⟩
  · intro h h'
    rw [bl2.2 h, bl.2 h', Bool.and_self, Bool.not_true, Bool.false_or, Bool.and_eq_true, Bool.and_eq_true, Bool.and_eq_true, beq_iff_eq] at b2
    exact ⟨b2.1, by simpa using b2.2.1, by simpa using b2.2.2.1, by simpa using b2.2.2.2⟩
  · exact beq_iff_eq.1 b6
  · have := beq_iff_eq.1 b7
    rw [this, mk_def]
    simp
  · exact beq_iff_eq.1 b8

/-! ### what a right instruction is -/
structure Rt (x : Ins) (k rd r1 r2 : Nat) (v : Int) (aq rl : Bool) (p s : Nat) : Prop where
  eq : x = ((k : Int), (rd : Int), (r1 : Int), (r2 : Int), v, aq, rl, (p : Int), (s : Int))
  k1 : 1 ≤ k
  k2 : k ≤ 75
  rd1 : rd < 32
  r11 : r1 < 32
  r21 : r2 < 32
  wz : wrO k = false → rd = 0
  fz : fiO k = false → r1 = 0
  sz : seO k = false → r2 = 0
  an : k < 54 → aq = false ∧ rl = false
  im : immOK k v = true
  ps : p < 16 ∧ s < 16
  pz : k ≠ 50 → k ≠ 51 → p = 0 ∧ s = 0
  p3 : k = 51 → p = 3 ∧ s = 3

theorem sr54_all : ((List.range 75).all fun i => decide (srt ((i + 1 : Nat) : Int) < 10) == Nat.blt (i + 1) 54) = true := by kernel_rfl
theorem sr54 {k : Nat} (h1 : 1 ≤ k) (h2 : k ≤ 75) : decide (srt k < 10) = Nat.blt k 54 := by
  have := List.all_eq_true.1 sr54_all (k - 1) (List.mem_range.2 (by omega))
  rw [show k - 1 + 1 = k by omega] at this
  exact beq_iff_eq.1 this

theorem right_rt {x : Ins} (h : rightB x = true) : ∃ k rd r1 r2 v aq rl p s, Rt x k rd r1 r2 v aq rl p s := by
  obtain ⟨op, rd, r1, r2, v, aq, rl, p, s⟩ := x
  unfold rightB rgB at h
  simp only [Bool.and_eq_true, decide_eq_true_eq] at h
  obtain ⟨⟨a1, a2⟩, ⟨⟨b1, b2⟩, ⟨c1, c2⟩, d1, d2⟩, ⟨w, f, z, an⟩, im, ps⟩ := h
  obtain ⟨k, rfl⟩ : ∃ k : Nat, op = k := ⟨op.toNat, by omega⟩
  obtain ⟨rd, rfl⟩ : ∃ k : Nat, rd = k := ⟨rd.toNat, by omega⟩
  obtain ⟨r1, rfl⟩ : ∃ k : Nat, r1 = k := ⟨r1.toNat, by omega⟩
  obtain ⟨r2, rfl⟩ : ∃ k : Nat, r2 = k := ⟨r2.toNat, by omega⟩
  rw [Int.toNat_natCast] at im
  have hp : 0 ≤ p ∧ p ≤ 15 ∧ 0 ≤ s ∧ s ≤ 15 ∧ (k ≠ 50 → k ≠ 51 → p = 0 ∧ s = 0) ∧ (k = 51 → p = 3 ∧ s = 3) := by
    unfold psB at ps
    split at ps
    · rename_i hk
      simp only [Bool.and_eq_true, decide_eq_true_eq] at ps
      exact ⟨ps.1, ps.2.1, ps.2.2.1, ps.2.2.2, fun h => absurd (by omega) h, fun h => by omega⟩
    · split at ps
      · simp only [Bool.and_eq_true, decide_eq_true_eq] at ps
        omega
      · simp only [Bool.and_eq_true, decide_eq_true_eq] at ps
        omega
  obtain ⟨p1, p2, p3, p4, p5, p6⟩ := hp
  obtain ⟨p, rfl⟩ : ∃ k : Nat, p = k := ⟨p.toNat, by omega⟩
  obtain ⟨s, rfl⟩ : ∃ k : Nat, s = k := ⟨s.toNat, by omega⟩
  have sr := sr54 (k := k) (by omega) (by omega)
  refine ⟨k, rd, r1, r2, v, aq, rl, p, s, rfl, by omega, by omega, by omega, by omega, by omega, ?_, ?_, ?_, ?_, im, by omega, fun h1 h2 => by have := p5 h1 h2; omega, fun h => by have := p6 h; omega⟩
  · intro h; rw [h] at w; simp at w; omega
  · intro h; rw [h] at f; simp at f; omega
  · intro h; rw [h] at z; simp at z; omega
  · intro h
    rw [sr, Nat.blt_eq.mpr h] at an
    cases aq <;> cases rl <;> simp at an ⊢

/-! ### the word -/
noncomputable def wordN (k rd r1 r2 : Nat) (v : Int) (aq rl : Bool) (p s : Nat) : Nat :=
  mk (opc k) (rd + p1 (fmtO k) (uN v)) (f3O k + p2 (fmtO k) (uN v)) (r1 + p3 (fmtO k) (uN v)) (r2 + p4 (fmtO k) (uN v) + (if 0 < shf k then uN v % 32 else 0) + hiA k + p % 2 * 16 + s)
    (p5 (fmtO k) (uN v) + (if 0 < shf k then uN v / 32 else 0) + hiB k + (if aq then 2 else 0) + (if rl then 1 else 0) + p / 2)

theorem uN_small {v : Int} (h1 : 0 ≤ v) (h2 : v < 64) : (uN v : Int) = v := by unfold uN; omega

theorem imm_shf {k : Nat} {v : Int} (h : immOK k v = true) (h0 : 0 < shf k) : (uN v : Int) = v ∧ uN v < 64 ∧ (shf k = 5 → uN v < 32) := by
  unfold immOK at h
  have := shf_cases k
  by_cases h6 : shf k = 6
  · rw [if_pos h6] at h
    simp only [Bool.and_eq_true, decide_eq_true_eq] at h
    have := uN_small h.1 h.2
    omega
  · rw [if_neg h6, if_pos (by omega)] at h
    simp only [Bool.and_eq_true, decide_eq_true_eq] at h
    have := uN_small h.1 (by omega)
    omega

theorem p_zero (u : Nat) : p1 0 u = 0 ∧ p2 0 u = 0 ∧ p3 0 u = 0 ∧ p4 0 u = 0 ∧ p5 0 u = 0 := ⟨rfl, rfl, rfl, rfl, rfl⟩

theorem trn_shf (k : Nat) (h1 : 1 ≤ k) (h2 : k ≤ 75) : (trn k = true → shf k ≠ 6 ∨ k = 30) ∧ (shf k ≠ 0 → f3O k ≠ 0) := by
  have h : ((List.range 75).all fun i => (!trn (i + 1) || (!(shf (i + 1) == 6) || i + 1 == 30)) && (shf (i + 1) == 0 || !(f3O (i + 1) == 0))) = true := by kernel_rfl
  have := List.all_eq_true.1 h (k - 1) (List.mem_range.2 (by omega))
  rw [show k - 1 + 1 = k by omega] at this
  simp only [Bool.and_eq_true, Bool.or_eq_true, Bool.not_eq_true', beq_iff_eq, beq_eq_false_iff_ne] at this
  refine ⟨fun h => ?_, fun h => ?_⟩
  · rcases this.1 with h' | h' | h'
    · rw [h] at h'; simp at h'
    · exact .inl h'
    · exact .inr h'
  · rcases this.2 with h' | h'
    · exact absurd h' h
    · exact h'

/-- each field has at most one part, but the fences' and the annotations' -/
structure Parts1 (k rd r1 r2 : Nat) (v : Int) (aq rl : Bool) (p s : Nat) : Prop where
  b1 : rd ||| p1 (fmtO k) (uN v) = rd + p1 (fmtO k) (uN v) ∧ rd + p1 (fmtO k) (uN v) < 32
  b2 : f3O k ||| p2 (fmtO k) (uN v) = f3O k + p2 (fmtO k) (uN v) ∧ f3O k + p2 (fmtO k) (uN v) < 8
  b3 : r1 ||| p3 (fmtO k) (uN v) = r1 + p3 (fmtO k) (uN v) ∧ r1 + p3 (fmtO k) (uN v) < 32

theorem parts1 {x : Ins} {k rd r1 r2 : Nat} {v : Int} {aq rl : Bool} {p s : Nat} (h : Rt x k rd r1 r2 v aq rl p s) : Parts1 k rd r1 r2 v aq rl p s := by
  have ft := fact_is (N := 100) (Nat.le_refl _) h.k1 h.k2
  obtain ⟨q1, q2, q3, q4, q5⟩ := p_lt (fmtO k) (uN v)
  have hr := h.rd1
  have hr1 := h.r11
  have h3 := ft.f3
  have hle := fmtO_le k
  refine ⟨?_, ?_, ?_⟩
  · by_cases hf : fmtO k = 2 ∨ fmtO k = 3
    · rw [h.wz (ft.f23 hf), Nat.zero_or]; omega
    · have : p1 (fmtO k) (uN v) = 0 := by unfold p1; rw [if_neg (by omega), if_neg (by omega)]
      rw [this, Nat.or_zero]; omega
  · by_cases hf : fmtO k = 4 ∨ fmtO k = 5
    · rw [(ft.f45 hf).1, Nat.zero_or]; omega
    · have : p2 (fmtO k) (uN v) = 0 := by unfold p2; rw [if_neg hf]
      rw [this, Nat.or_zero]; omega
  · by_cases hf : fmtO k = 4 ∨ fmtO k = 5
    · rw [h.fz (ft.f45 hf).2.1, Nat.zero_or]; omega
    · have : p3 (fmtO k) (uN v) = 0 := by unfold p3; rw [if_neg hf]
      rw [this, Nat.or_zero]; omega

/-- the fields of what is put together with the highest bits -/
def xi4 (k : Nat) (v : Int) : Nat := if 0 < shf k then uN v % 32 else p4 (fmtO k) (uN v)
def xi5 (k : Nat) (v : Int) : Nat := if 0 < shf k then uN v / 32 else p5 (fmtO k) (uN v)

theorem xi_is {k : Nat} (v : Int) : p4 (fmtO k) (uN v) + (if 0 < shf k then uN v % 32 else 0) = xi4 k v ∧ p5 (fmtO k) (uN v) + (if 0 < shf k then uN v / 32 else 0) = xi5 k v := by
  unfold xi4 xi5
  by_cases h : 0 < shf k
  · have hf := fmtO_shf h
    simp only [if_pos h, hf]
    exact ⟨Nat.zero_add _, Nat.zero_add _⟩
  · simp only [if_neg h, Nat.add_zero, and_self]

theorem immW_mk {k : Nat} {v : Int} (h : immOK k v = true) : immW k v = mk 0 (p1 (fmtO k) (uN v)) (p2 (fmtO k) (uN v)) (p3 (fmtO k) (uN v)) (xi4 k v) (xi5 k v) := by
  unfold immW xi4 xi5
  by_cases h0 : 0 < shf k
  · obtain ⟨_, h1, _⟩ := imm_shf h h0
    have hf := fmtO_shf h0
    obtain ⟨z1, z2, z3, z4, z5⟩ := p_zero (uN v)
    simp only [if_pos h0, hf, z1, z2, z3, mk_def]
    omega
  · simp only [if_neg h0]
    by_cases hf : 0 < fmtO k
    · rw [if_pos hf, if_pos h]
      simp only [putN]
    · obtain ⟨z1, z2, z3, z4, z5⟩ := p_zero (uN v)
      rw [if_neg hf, show fmtO k = 0 by omega, z1, z2, z3, z4, z5, mk_def]

theorem or45 {x : Ins} {k rd r1 r2 : Nat} {v : Int} {aq rl : Bool} {p s : Nat} (h : Rt x k rd r1 r2 v aq rl p s) :
    ((((r2 ||| hiA k) ||| xi4 k v) ||| p % 2 * 16) ||| s = r2 + xi4 k v + hiA k + p % 2 * 16 + s ∧ r2 + xi4 k v + hiA k + p % 2 * 16 + s < 32) ∧
    ((((hiB k ||| xi5 k v) ||| (if aq then 2 else 0)) ||| (if rl then 1 else 0)) ||| p / 2 = xi5 k v + hiB k + (if aq then 2 else 0) + (if rl then 1 else 0) + p / 2 ∧ xi5 k v + hiB k + (if aq then 2 else 0) + (if rl then 1 else 0) + p / 2 < 128) := by
  have ft := fact_is (N := 100) (Nat.le_refl _) h.k1 h.k2
  obtain ⟨q1, q2, q3, q4, q5⟩ := p_lt (fmtO k) (uN v)
  have hr2 := h.r21
  by_cases h50 : k < 50
  · -- no fence, nothing at once
    obtain ⟨z1, z2⟩ := h.pz (by omega) (by omega)
    obtain ⟨z3, z4⟩ := h.an (by omega)
    subst z1 z2 z3 z4
    have hA : hiA k = 0 := by unfold hiA; rw [if_neg (by omega)]
    have hB : hiB k = if trn k then 32 else 0 := by
      unfold hiB
      rw [if_neg (show ¬ k = 51 by omega), if_neg (show ¬ 54 ≤ k by omega)]
    rw [hA, hB]
    simp only [Nat.or_zero, Nat.zero_mod, Nat.zero_mul, Nat.zero_div, Nat.add_zero, Bool.false_eq_true, if_false]
    by_cases hs : 0 < shf k
    · obtain ⟨_, u1, u2⟩ := imm_shf h.im hs
      have hz := h.sz (ft.sh (by omega)).1
      subst hz
      have := shf_cases k
      unfold xi4 xi5
      simp only [if_pos hs, Nat.zero_or, Nat.zero_add]
      refine ⟨⟨trivial, by omega⟩, ?_⟩
      cases ht : trn k with
      | false => simp only [Bool.false_eq_true, if_false, Nat.zero_or, Nat.add_zero, true_and]; omega
      | true =>
        simp only [if_true]
        have h2 : uN v / 32 = 0 ∨ uN v / 32 = 1 := by omega
        rcases h2 with h2 | h2 <;> rw [h2] <;> decide
    · unfold xi4 xi5
      simp only [if_neg hs]
      by_cases hf : fmtO k = 0
      · obtain ⟨y1, y2, y3, y4, y5⟩ := p_zero (uN v)
        rw [hf, y4, y5]
        simp only [Nat.or_zero, Nat.add_zero, Nat.zero_add, true_and]
        exact ⟨hr2, by split <;> decide⟩
      · have ht := (ft.fm hf).1
        rw [ht]
        simp only [Bool.false_eq_true, if_false, Nat.zero_or, Nat.add_zero, true_and]
        refine ⟨?_, q5⟩
        by_cases h4 : p4 (fmtO k) (uN v) = 0
        · rw [h4, Nat.or_zero]; omega
        · have : fmtO k = 1 ∨ fmtO k = 4 ∨ fmtO k = 5 := by
            rcases Nat.lt_or_ge 0 (p4 (fmtO k) (uN v)) with h' | h'
            · unfold p4 at h4
              have := fmtO_le k
              by_cases g1 : fmtO k = 1
              · exact .inl g1
              · rw [if_neg g1] at h4
                by_cases g2 : fmtO k = 4
                · exact .inr (.inl g2)
                · rw [if_neg g2] at h4
                  by_cases g3 : fmtO k = 5
                  · exact .inr (.inr g3)
                  · rw [if_neg g3] at h4; exact absurd rfl h4
            · omega
          have hz : r2 = 0 := by
            rcases this with g | g | g
            · exact h.sz (ft.f1 g)
            · exact h.sz (ft.f45 (.inl g)).2.2
            · exact h.sz (ft.f45 (.inr g)).2.2
          rw [hz, Nat.zero_or]; omega
  · obtain ⟨g1, g2, g3⟩ := ft.up (by omega)
    obtain ⟨y1, y2, y3, y4, y5⟩ := p_zero (uN v)
    have hE4 : xi4 k v = 0 := by unfold xi4; rw [if_neg (by omega), g1, y4]
    have hE5 : xi5 k v = 0 := by unfold xi5; rw [if_neg (by omega), g1, y5]
    rw [hE4, hE5]
    obtain ⟨hp, hs⟩ := h.ps
    by_cases h54 : k < 54
    · obtain ⟨w1, w2, w3, w4⟩ := ft.mid (by omega) h54
      have hz := h.sz w4
      obtain ⟨z3, z4⟩ := h.an h54
      subst hz z3 z4
      obtain rfl | rfl | rfl | rfl : k = 50 ∨ k = 51 ∨ k = 52 ∨ k = 53 := by omega
      · have a1 : hiA 50 = 0 := rfl
        have a2 : hiB 50 = 0 := rfl
        rw [a1, a2]
        have h16 : p % 2 * 16 ||| s = p % 2 * 16 + s := or_add (m := 4) (by omega) (by omega)
        simp only [Nat.zero_or, Nat.or_zero, Bool.false_eq_true, if_false, h16]
        omega
      · obtain ⟨rfl, rfl⟩ := h.p3 rfl
        decide
      · obtain ⟨rfl, rfl⟩ := h.pz (by decide) (by decide)
        decide
      · obtain ⟨rfl, rfl⟩ := h.pz (by decide) (by decide)
        decide
    · obtain ⟨rfl, rfl⟩ := h.pz (by omega) (by omega)
      have hA : hiA k = 0 := by unfold hiA; rw [if_neg (by omega)]
      have hB : hiB k = fiv k * 4 := by
        unfold hiB
        rw [g3]
        simp only [Bool.false_eq_true, if_false]
        rw [if_neg (by omega), if_pos (by omega)]
      have hf := ft.fv
      rw [hA, hB]
      refine ⟨⟨by simp, by omega⟩, ?_⟩
      have e1 : fiv k * 4 ||| 2 = fiv k * 4 + 2 := or_add (m := 2) (by omega) (by decide)
      have e2 : fiv k * 4 ||| 1 = fiv k * 4 + 1 := or_add (m := 2) (by omega) (by decide)
      have e3 : (fiv k * 4 + 2) ||| 1 = fiv k * 4 + 2 + 1 := or_add (m := 1) (by omega) (by decide)
      cases aq <;> cases rl <;> simp [e1, e2, e3] <;> omega
end Go.Proofs.YtkcfkegkhopakaaGreatDoor
