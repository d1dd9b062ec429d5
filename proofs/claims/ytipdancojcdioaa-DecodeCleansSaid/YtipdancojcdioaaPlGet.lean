/- Immediates of words: the program's and the document's are the same. No condition. -/
import Derived.Test.YtipdancojcdioaaPlFld
namespace Go.Proofs.Ytipdancojcdioaa
open Go Go.Ev Go.Sh
set_option linter.unusedVariables false
set_option linter.unusedSimpArgs false
set_option maxRecDepth 10000

/-- the bits of an immediate -/
def runs (n : Nat) : List (Nat × Nat × Nat) → Nat → Nat
  | [], x => x
  | (hi, lo, at') :: r, x => runs n r (x ||| fld n lo (hi - lo + 1) * 2 ^ at')

theorem getD_map_cast (rs : List (Nat × Nat × Nat)) {i : Nat} (h : i < rs.length) : (rs.map fun r => ((r.1 : Int), ((r.2.1 : Int), (r.2.2 : Int)))).getD i (0, 0, 0) = (((rs[i]).1 : Int), (((rs[i]).2.1 : Int), ((rs[i]).2.2 : Int))) := by
  rw [List.getD_eq_getElem?_getD, List.getElem?_map, List.getElem?_eq_getElem h]
  rfl

theorem get_loop (N : Nat) {n : Nat} (hn : n < 4294967296) (k : Int → Option Int) (l : List (Int × Int × Int)) (rs : List (Nat × Nat × Nat)) (hl : l = rs.map fun r => ((r.1 : Int), ((r.2.1 : Int), (r.2.2 : Int))))
    (hok : ∀ r ∈ rs, r.2.1 ≤ r.1 ∧ r.1 ≤ 31 ∧ r.2.2 + (r.1 - r.2.1) ≤ 31) (hN : rs.length < N) (hb : rs.length < 1000) :
    fixN N (fun again1 (y2 : Int × Int) => br (decide (y2.2 < (↑l.length : Int)))
 (chk (decide (0 ≤ y2.2) && decide (y2.2 < (↑l.length : Int))) (bindS (F97 N n ((l.getD y2.2.toNat (0, 0, 0)).1) ((l.getD y2.2.toNat (0, 0, 0)).2.1)) (fun (y3 : Int) => chk (decide (0 ≤ (l.getD y2.2.toNat (0, 0, 0)).2.2)) (again1 ((Go.bits Go.BinOp.or IntKind.u64 y2.1
  (IntKind.u64.wrap
    (IntKind.u64.wrap y3 * 2 ^ Min.min (Int.toNat (l.getD y2.2.toNat (0, 0, 0)).2.2) IntKind.u64.bits)), IntKind.i64.wrap (y2.2 + 1)))))))
 (k y2.1)) ((0, 0)) = k (runs n rs 0) := by
  subst hl
  refine fixN_ind (fun m (s : Int × Int) => m ≤ rs.length ∧ s.2 = ((rs.length - m : Nat) : Int) ∧ ∃ x : Nat, s.1 = x ∧ x < 4294967296 ∧ runs n (rs.drop (rs.length - m)) x = runs n rs 0) (fun s o => o = k (runs n rs 0)) ?_ N rs.length (0, 0) hN ⟨Nat.le_refl _, by simp, 0, rfl, by decide, by simp⟩
  rintro m ⟨y, i⟩ again ⟨hm, rfl, x, hx, hxl, hr⟩ ih
  simp only at hx
  subst hx
  simp only [List.length_map]
  rcases Nat.eq_zero_or_pos m with h0 | h0
  · subst h0
    rw [brF (by omega)]
    rw [Nat.sub_zero, List.drop_length] at hr
    rw [← hr]; rfl
  · have hlt : rs.length - m < rs.length := by omega
    obtain ⟨h1, h2, h3⟩ := hok _ (List.getElem_mem hlt)
    have hp : fld n rs[rs.length - m].2.1 (rs[rs.length - m].1 - rs[rs.length - m].2.1 + 1) * 2 ^ rs[rs.length - m].2.2 < 4294967296 := by
      have := fld_lt n rs[rs.length - m].2.1 (rs[rs.length - m].1 - rs[rs.length - m].2.1 + 1)
      have e : 2 ^ (rs[rs.length - m].1 - rs[rs.length - m].2.1 + 1) * 2 ^ rs[rs.length - m].2.2 ≤ 2 ^ 32 := by
        rw [← Nat.pow_add]; exact Nat.pow_le_pow_right (by decide) (by omega)
      have := (Nat.mul_lt_mul_right (Nat.two_pow_pos rs[rs.length - m].2.2)).2 this
      omega
    have hf := fld_lt n rs[rs.length - m].2.1 (rs[rs.length - m].1 - rs[rs.length - m].2.1 + 1)
    have hf2 : (2 : Nat) ^ (rs[rs.length - m].1 - rs[rs.length - m].2.1 + 1) ≤ 2 ^ 32 := Nat.pow_le_pow_right (by decide) (by omega)
    rw [brT (by omega), chk_true (by simp; omega), Int.toNat_natCast, getD_map_cast rs hlt]
    simp only
    rw [Field_is N hn h1 h2, bindS_some, chkT (by omega), Int.toNat_natCast, bits_u64, Nat.min_eq_left (by omega), u64N (by omega), powI, ← Int.natCast_mul, u64N (by omega), or64 (by omega) (by omega), wrap64 (by omega) (by omega)]
    refine ih (m - 1) _ (by omega) ⟨by omega, by simp only; omega, x ||| _, rfl, Nat.or_lt_two_pow (n := 32) hxl hp, ?_⟩
    rw [← hr, show rs.length - (m - 1) = rs.length - m + 1 by omega, List.drop_eq_getElem_cons hlt]
    rfl

def immI (n : Nat) : Int := sxN (fld n 20 12) 12
def immS (n : Nat) : Int := sxN (fld n 25 7 * 32 + fld n 7 5) 12
def immB (n : Nat) : Int := sxN (bt n 31 * 4096 + bt n 7 * 2048 + fld n 25 6 * 32 + fld n 8 4 * 2) 13
def immU (n : Nat) : Int := sxN (fld n 12 20 * 4096) 32
def immJ (n : Nat) : Int := sxN (bt n 31 * 1048576 + fld n 12 8 * 4096 + bt n 20 * 2048 + fld n 21 10 * 2) 21
/-- the immediate of a word by a format -/
def getI (fmt n : Nat) : Int := if fmt = 1 then immI n else if fmt = 2 then immS n else if fmt = 3 then immB n else if fmt = 4 then immU n else if fmt = 5 then immJ n else 0

theorem getI_is (n : Nat) : getI 1 n = immI n ∧ getI 2 n = immS n ∧ getI 3 n = immB n ∧ getI 4 n = immU n ∧ getI 5 n = immJ n := by
  refine ⟨?_, ?_, ?_, ?_, ?_⟩ <;> (unfold getI; simp only [if_true, if_false, Nat.reduceEqDiff])

abbrev castR (rs : List (Nat × Nat × Nat)) : List (Int × Int × Int) := rs.map fun r => ((r.1 : Int), ((r.2.1 : Int), (r.2.2 : Int)))

/-- a format: how many bits, how many low ones are 0, its runs -/
def fmtOf : Nat → Nat × Nat × List (Nat × Nat × Nat)
  | 1 => (12, 0, [(31, 20, 0)])
  | 2 => (12, 0, [(31, 25, 5), (11, 7, 0)])
  | 3 => (13, 1, [(31, 31, 12), (7, 7, 11), (30, 25, 5), (11, 8, 1)])
  | 4 => (32, 12, [(31, 12, 12)])
  | 5 => (21, 1, [(31, 31, 20), (19, 12, 12), (20, 20, 11), (30, 21, 1)])
  | _ => (0, 0, [])

theorem of_is (N : Nat) (fmt : Nat) (h1 : 1 ≤ fmt) (h2 : fmt ≤ 5) : F102 N fmt = some (((fmtOf fmt).1 : Int), ((fmtOf fmt).2.1 : Int), true, castR (fmtOf fmt).2.2) := by
  obtain rfl | rfl | rfl | rfl | rfl : fmt = 1 ∨ fmt = 2 ∨ fmt = 3 ∨ fmt = 4 ∨ fmt = 5 := by omega
  all_goals kernel_rfl

theorem fmt_ok (fmt : Nat) (h1 : 1 ≤ fmt) (h2 : fmt ≤ 5) : (∀ r ∈ (fmtOf fmt).2.2, r.2.1 ≤ r.1 ∧ r.1 ≤ 31 ∧ r.2.2 + (r.1 - r.2.1) ≤ 31) ∧ (fmtOf fmt).2.2.length < 10 ∧ 1 ≤ (fmtOf fmt).1 ∧ (fmtOf fmt).1 < 64 := by
  obtain rfl | rfl | rfl | rfl | rfl : fmt = 1 ∨ fmt = 2 ∨ fmt = 3 ∨ fmt = 4 ∨ fmt = 5 := by omega
  all_goals exact ⟨by decide, by decide, by decide, by decide⟩

theorem runs_lt (n : Nat) : ∀ (rs : List (Nat × Nat × Nat)) (x : Nat), x < 2 ^ 32 → (∀ r ∈ rs, r.2.1 ≤ r.1 ∧ r.1 ≤ 31 ∧ r.2.2 + (r.1 - r.2.1) ≤ 31) → runs n rs x < 2 ^ 32
  | [], x, hx, _ => hx
  | (hi, lo, at') :: rs, x, hx, h => by
    obtain ⟨h1, h2, h3⟩ := h _ (List.mem_cons_self)
    simp only at h1 h2 h3
    refine runs_lt n rs _ (Nat.or_lt_two_pow hx ?_) fun r hr => h r (List.mem_cons_of_mem _ hr)
    have := (Nat.mul_lt_mul_right (Nat.two_pow_pos at')).2 (fld_lt n lo (hi - lo + 1))
    have e : 2 ^ (hi - lo + 1) * 2 ^ at' ≤ 2 ^ 32 := by
      rw [← Nat.pow_add]; exact Nat.pow_le_pow_right (by decide) (by omega)
    omega

theorem get_with (N : Nat) (hN : 10 ≤ N) {n : Nat} (hn : n < 4294967296) (fmt : Nat) (h1 : 1 ≤ fmt) (h2 : fmt ≤ 5) : F88 N fmt n = some (sxN (runs n (fmtOf fmt).2.2 0) (fmtOf fmt).1) := by
  obtain ⟨g1, g2, g3, g4⟩ := fmt_ok fmt h1 h2
  have hr := runs_lt n (fmtOf fmt).2.2 0 (by decide) g1
  unfold F88
  rw [of_is N fmt h1 h2, bindS_some]
  simp only [Bool.not_true, br_f]
  rw [get_loop N hn (fun x => bindS (F103 N x (fmtOf fmt).1) fun y4 => some (IntKind.i64.wrap y4)) _ _ rfl g1 (by omega) (by omega), Sext_is N (by omega) g3 g4, bindS_some, wrap_sx g3 g4]

theorem fld1 (n i : Nat) : fld n i 1 = bt n i := by rw [fld_succ, fld_zero]; simp

theorem runs_is (n : Nat) (fmt : Nat) (h1 : 1 ≤ fmt) (h2 : fmt ≤ 5) : sxN (runs n (fmtOf fmt).2.2 0) (fmtOf fmt).1 = getI fmt n := by
  obtain ⟨g1, g2, g3, g4, g5⟩ := getI_is n
  have b31 := bt_lt n 31
  have b7 := bt_lt n 7
  have b20 := bt_lt n 20
  obtain rfl | rfl | rfl | rfl | rfl : fmt = 1 ∨ fmt = 2 ∨ fmt = 3 ∨ fmt = 4 ∨ fmt = 5 := by omega
  · rw [g1]
    simp only [fmtOf, runs, immI, Nat.zero_or, Nat.reduceSub, Nat.reduceAdd, Nat.pow_zero, Nat.mul_one]
  · have f1 := fld_lt n 7 5
    rw [g2]
    simp only [fmtOf, runs, immS, Nat.zero_or, Nat.reduceSub, Nat.reduceAdd, Nat.reducePow, Nat.mul_one]
    rw [or_add (m := 5) (by omega) f1]
  · have f1 := fld_lt n 25 6
    have f2 := fld_lt n 8 4
    rw [g3]
    simp only [fmtOf, runs, immB, Nat.zero_or, Nat.reduceSub, Nat.reduceAdd, Nat.reducePow, fld1]
    simp only [Nat.reducePow] at f1 f2
    rw [or_add (a := bt n 31 * 4096) (m := 12) (by omega) (by omega), or_add (a := bt n 31 * 4096 + bt n 7 * 2048) (m := 11) (by omega) (by omega), or_add (m := 5) (by omega) (by omega)]
  · rw [g4]
    simp only [fmtOf, runs, immU, Nat.zero_or, Nat.reduceSub, Nat.reduceAdd, Nat.reducePow]
  · have f1 := fld_lt n 12 8
    have f2 := fld_lt n 21 10
    rw [g5]
    simp only [fmtOf, runs, immJ, Nat.zero_or, Nat.reduceSub, Nat.reduceAdd, Nat.reducePow, fld1]
    simp only [Nat.reducePow] at f1 f2
    rw [or_add (a := bt n 31 * 1048576) (m := 20) (by omega) (by omega), or_add (a := bt n 31 * 1048576 + fld n 12 8 * 4096) (m := 12) (by omega) (by omega), or_add (m := 11) (by omega) (by omega)]

theorem Get_is (N : Nat) (hN : 10 ≤ N) {n : Nat} (hn : n < 4294967296) (fmt : Nat) (h1 : 1 ≤ fmt) (h2 : fmt ≤ 5) : F88 N fmt n = some (getI fmt n) :=
  (get_with N hN hn fmt h1 h2).trans (congrArg some (runs_is n fmt h1 h2))

/-! ### the document's -/
def term (n : Nat) (p : Int) (i : Nat) : Int := if p < 0 then 0 else if i = 31 then - ((bt n i : Int) * 2 ^ p.toNat) else (bt n i : Int) * 2 ^ p.toNat
def acc (n : Nat) (ps : List Int) : Nat → Int
  | 0 => 0
  | i + 1 => acc n ps i + term n (ps.getD i 0) i

theorem term_le (n : Nat) {p : Int} (hp : p ≤ 31) (i : Nat) : -4294967296 ≤ term n p i ∧ term n p i ≤ 4294967296 := by
  have hb := bt_lt n i
  unfold term
  split
  · omega
  · have h : (2 : Nat) ^ p.toNat ≤ 2 ^ 31 := Nat.pow_le_pow_right (by decide) (by omega)
    have hm : bt n i * 2 ^ p.toNat ≤ 2 ^ 31 := by
      have : bt n i * 2 ^ p.toNat ≤ 1 * 2 ^ p.toNat := Nat.mul_le_mul_right _ (by omega)
      omega
    have e : ((bt n i : Int) * 2 ^ p.toNat) = ((bt n i * 2 ^ p.toNat : Nat) : Int) := by rw [powI, Int.natCast_mul]
    rw [e]
    split <;> omega

theorem acc_le (n : Nat) (ps : List Int) (hp : ∀ p ∈ ps, p ≤ 31) : ∀ i, i ≤ 32 → -4294967296 * i ≤ acc n ps i ∧ acc n ps i ≤ 4294967296 * i
  | 0, _ => by simp [acc]
  | i + 1, h => by
    obtain ⟨h1, h2⟩ := acc_le n ps hp i (by omega)
    have hq : ps.getD i 0 ≤ 31 := by
      rw [List.getD_eq_getElem?_getD]
      cases hx : ps[i]? with
      | none => simp
      | some x => exact hp x (List.mem_of_getElem? hx)
    obtain ⟨h3, h4⟩ := term_le n hq i
    simp only [acc]
    omega

theorem ref_get (N : Nat) (hN : 33 ≤ N) {n : Nat} (hn : n < 4294967296) {fmt : Int} {ps : List Int} (ho : F101 N fmt = some ps) (hp : ∀ p ∈ ps, p ≤ 31) : F86 N fmt n = some (acc n ps 32) := by
  unfold F86
  rw [ho, bindS_some]
  refine fixN_ind (fun m (s : Int × Int) => m ≤ 32 ∧ s.2 = ((32 - m : Nat) : Int) ∧ s.1 = acc n ps (32 - m)) (fun s o => o = some (acc n ps 32)) ?_ N 32 (0, 0) (by omega) ⟨by omega, rfl, rfl⟩
  rintro m ⟨y, i⟩ again ⟨hm, rfl, rfl⟩ ih
  simp only
  rcases Nat.eq_zero_or_pos m with h0 | h0
  · subst h0
    rw [brF (by omega)]
  · have hq : ps.getD (32 - m) 0 ≤ 31 := by
      rw [List.getD_eq_getElem?_getD]
      cases hx : ps[32 - m]? with
      | none => simp
      | some x => exact hp x (List.mem_of_getElem? hx)
    obtain ⟨a1, a2⟩ := acc_le n ps hp (32 - m) (by omega)
    obtain ⟨a3, a4⟩ := term_le n hq (32 - m)
    have step : ∀ y : Int, y = acc n ps (32 - m) + term n (ps.getD (32 - m) 0) (32 - m) → again (y, IntKind.i64.wrap (((32 - m : Nat) : Int) + 1)) = some (acc n ps 32) := by
      intro y hy
      rw [wrap64 (by omega) (by omega)]
      refine ih (m - 1) _ (by omega) ⟨by omega, by simp only; omega, ?_⟩
      simp only
      rw [hy, show 32 - (m - 1) = (32 - m) + 1 by omega, acc]
    simp only [jp_eq]
    rw [brT (by omega), chk_true (by simp; omega)]
    by_cases hneg : ps.getD (32 - m) 0 < 0
    · rw [show ((32 - m : Nat) : Int).toNat = 32 - m from Int.toNat_natCast _, brT hneg]
      simp only [br_t]
      exact step _ (by rw [term, if_pos hneg, Int.add_zero])
    · have hb := bt_lt n (32 - m)
      have e1 : bits .and .u32 ((n : Int).fdiv (2 ^ Min.min (IntKind.u64.wrap ((32 - m : Nat) : Int)).toNat IntKind.u32.bits)) 1 = ((bt n (32 - m) : Nat) : Int) := by
        rw [u64N (by omega), Int.toNat_natCast, bits_u32, Nat.min_eq_left (by omega), fdivN, bt_def]
        exact and_mask32 (Nat.lt_of_le_of_lt (Nat.div_le_self _ _) hn) (k := 1) (by decide)
      rw [show ((32 - m : Nat) : Int).toNat = 32 - m from Int.toNat_natCast _, brF hneg, u64N (by omega), chkT (by omega), ← u64N (n := 32 - m) (by omega), e1, u64N (n := 32 - m) (by omega)]
      by_cases hz : bt n (32 - m) = 0
      · rw [br_true (by simp [hz])]
        exact step _ (by rw [term, if_neg hneg, hz]; simp)
      · have h1 : bt n (32 - m) = 1 := by omega
        rw [br_false (by simp [hz])]
        have e2 : IntKind.u64.wrap (ps.getD (32 - m) 0) = ps.getD (32 - m) 0 := wrapU64 (by omega) (by omega)
        have e3 : IntKind.i64.wrap (1 * 2 ^ Min.min (ps.getD (32 - m) 0).toNat IntKind.i64.bits) = 2 ^ (ps.getD (32 - m) 0).toNat := by
          have : (2 : Nat) ^ (ps.getD (32 - m) 0).toNat ≤ 2 ^ 31 := Nat.pow_le_pow_right (by decide) (by omega)
          rw [bits_i64, Nat.min_eq_left (by omega), Int.one_mul, powI, i64N (by omega)]
        rw [e2, e3]
        have ht : term n (ps.getD (32 - m) 0) (32 - m) = if 32 - m = 31 then - 2 ^ (ps.getD (32 - m) 0).toNat else 2 ^ (ps.getD (32 - m) 0).toNat := by
          simp only [term, hneg, if_false, h1]
          simp
        by_cases h31 : 32 - m = 31
        · rw [brT (by omega), chk_true (by simp; omega), chkT (by omega)]
          refine step _ ?_
          rw [ht, if_pos h31] at a3 a4 ⊢
          rw [wrap64 (by omega) (by omega)]
          omega
        · rw [brF (by omega), chk_true (by simp; omega), chkT (by omega)]
          refine step _ ?_
          rw [ht, if_neg h31] at a3 a4 ⊢
          rw [wrap64 (by omega) (by omega)]

theorem places_is (M : Nat) (fmt : Nat) (h1 : 1 ≤ fmt) (h2 : fmt ≤ 5) : ∃ ps : List Int, F101 (M + 100) fmt = some ps ∧ (∀ p ∈ ps, p ≤ 31) ∧ ∀ n, acc n ps 32 = getI fmt n := by
  obtain rfl | rfl | rfl | rfl | rfl : fmt = 1 ∨ fmt = 2 ∨ fmt = 3 ∨ fmt = 4 ∨ fmt = 5 := by omega
  · refine ⟨[-1, -1, -1, -1, -1, -1, -1, -1, -1, -1, -1, -1, -1, -1, -1, -1, -1, -1, -1, -1, 0, 1, 2, 3, 4, 5, 6, 7, 8, 9, 10, 11], by kernel_rfl, by decide, fun n => ?_⟩
    obtain ⟨g1, g2, g3, g4, g5⟩ := getI_is n
    rw [g1]
    have c20 := bt_lt n 20
    have c21 := bt_lt n 21
    have c22 := bt_lt n 22
    have c23 := bt_lt n 23
    have c24 := bt_lt n 24
    have c25 := bt_lt n 25
    have c26 := bt_lt n 26
    have c27 := bt_lt n 27
    have c28 := bt_lt n 28
    have c29 := bt_lt n 29
    have c30 := bt_lt n 30
    have c31 := bt_lt n 31
    have ea : acc n [-1, -1, -1, -1, -1, -1, -1, -1, -1, -1, -1, -1, -1, -1, -1, -1, -1, -1, -1, -1, 0, 1, 2, 3, 4, 5, 6, 7, 8, 9, 10, 11] 32 = ((bt n 20 : Int) * 1) + ((bt n 21 : Int) * 2) + ((bt n 22 : Int) * 4) + ((bt n 23 : Int) * 8) + ((bt n 24 : Int) * 16) + ((bt n 25 : Int) * 32) + ((bt n 26 : Int) * 64) + ((bt n 27 : Int) * 128) + ((bt n 28 : Int) * 256) + ((bt n 29 : Int) * 512) + ((bt n 30 : Int) * 1024) + -((bt n 31 : Int) * 2048) := by
      simp [acc, term]
    rw [ea]
    have e20 : fld n 20 12 = bt n 20 * 1 + bt n 21 * 2 + bt n 22 * 4 + bt n 23 * 8 + bt n 24 * 16 + bt n 25 * 32 + bt n 26 * 64 + bt n 27 * 128 + bt n 28 * 256 + bt n 29 * 512 + bt n 30 * 1024 + bt n 31 * 2048 := by
      simp [fld_succ, fld_zero]
    unfold immI sxN
    rw [e20]
    split <;> omega
  · refine ⟨[-1, -1, -1, -1, -1, -1, -1, 0, 1, 2, 3, 4, -1, -1, -1, -1, -1, -1, -1, -1, -1, -1, -1, -1, -1, 5, 6, 7, 8, 9, 10, 11], by kernel_rfl, by decide, fun n => ?_⟩
    obtain ⟨g1, g2, g3, g4, g5⟩ := getI_is n
    rw [g2]
    have c7 := bt_lt n 7
    have c8 := bt_lt n 8
    have c9 := bt_lt n 9
    have c10 := bt_lt n 10
    have c11 := bt_lt n 11
    have c25 := bt_lt n 25
    have c26 := bt_lt n 26
    have c27 := bt_lt n 27
    have c28 := bt_lt n 28
    have c29 := bt_lt n 29
    have c30 := bt_lt n 30
    have c31 := bt_lt n 31
    have ea : acc n [-1, -1, -1, -1, -1, -1, -1, 0, 1, 2, 3, 4, -1, -1, -1, -1, -1, -1, -1, -1, -1, -1, -1, -1, -1, 5, 6, 7, 8, 9, 10, 11] 32 = ((bt n 7 : Int) * 1) + ((bt n 8 : Int) * 2) + ((bt n 9 : Int) * 4) + ((bt n 10 : Int) * 8) + ((bt n 11 : Int) * 16) + ((bt n 25 : Int) * 32) + ((bt n 26 : Int) * 64) + ((bt n 27 : Int) * 128) + ((bt n 28 : Int) * 256) + ((bt n 29 : Int) * 512) + ((bt n 30 : Int) * 1024) + -((bt n 31 : Int) * 2048) := by
      simp [acc, term]
    rw [ea]
    have e25 : fld n 25 7 = bt n 25 * 1 + bt n 26 * 2 + bt n 27 * 4 + bt n 28 * 8 + bt n 29 * 16 + bt n 30 * 32 + bt n 31 * 64 := by
      simp [fld_succ, fld_zero]
    have e7 : fld n 7 5 = bt n 7 * 1 + bt n 8 * 2 + bt n 9 * 4 + bt n 10 * 8 + bt n 11 * 16 := by
      simp [fld_succ, fld_zero]
    unfold immS sxN
    rw [e25, e7]
    split <;> omega
  · refine ⟨[-1, -1, -1, -1, -1, -1, -1, 11, 1, 2, 3, 4, -1, -1, -1, -1, -1, -1, -1, -1, -1, -1, -1, -1, -1, 5, 6, 7, 8, 9, 10, 12], by kernel_rfl, by decide, fun n => ?_⟩
    obtain ⟨g1, g2, g3, g4, g5⟩ := getI_is n
    rw [g3]
    have c7 := bt_lt n 7
    have c8 := bt_lt n 8
    have c9 := bt_lt n 9
    have c10 := bt_lt n 10
    have c11 := bt_lt n 11
    have c25 := bt_lt n 25
    have c26 := bt_lt n 26
    have c27 := bt_lt n 27
    have c28 := bt_lt n 28
    have c29 := bt_lt n 29
    have c30 := bt_lt n 30
    have c31 := bt_lt n 31
    have ea : acc n [-1, -1, -1, -1, -1, -1, -1, 11, 1, 2, 3, 4, -1, -1, -1, -1, -1, -1, -1, -1, -1, -1, -1, -1, -1, 5, 6, 7, 8, 9, 10, 12] 32 = ((bt n 7 : Int) * 2048) + ((bt n 8 : Int) * 2) + ((bt n 9 : Int) * 4) + ((bt n 10 : Int) * 8) + ((bt n 11 : Int) * 16) + ((bt n 25 : Int) * 32) + ((bt n 26 : Int) * 64) + ((bt n 27 : Int) * 128) + ((bt n 28 : Int) * 256) + ((bt n 29 : Int) * 512) + ((bt n 30 : Int) * 1024) + -((bt n 31 : Int) * 4096) := by
      simp [acc, term]
    rw [ea]
    have e25 : fld n 25 6 = bt n 25 * 1 + bt n 26 * 2 + bt n 27 * 4 + bt n 28 * 8 + bt n 29 * 16 + bt n 30 * 32 := by
      simp [fld_succ, fld_zero]
    have e8 : fld n 8 4 = bt n 8 * 1 + bt n 9 * 2 + bt n 10 * 4 + bt n 11 * 8 := by
      simp [fld_succ, fld_zero]
    unfold immB sxN
    rw [e25, e8]
    split <;> omega
  · refine ⟨[-1, -1, -1, -1, -1, -1, -1, -1, -1, -1, -1, -1, 12, 13, 14, 15, 16, 17, 18, 19, 20, 21, 22, 23, 24, 25, 26, 27, 28, 29, 30, 31], by kernel_rfl, by decide, fun n => ?_⟩
    obtain ⟨g1, g2, g3, g4, g5⟩ := getI_is n
    rw [g4]
    have c12 := bt_lt n 12
    have c13 := bt_lt n 13
    have c14 := bt_lt n 14
    have c15 := bt_lt n 15
    have c16 := bt_lt n 16
    have c17 := bt_lt n 17
    have c18 := bt_lt n 18
    have c19 := bt_lt n 19
    have c20 := bt_lt n 20
    have c21 := bt_lt n 21
    have c22 := bt_lt n 22
    have c23 := bt_lt n 23
    have c24 := bt_lt n 24
    have c25 := bt_lt n 25
    have c26 := bt_lt n 26
    have c27 := bt_lt n 27
    have c28 := bt_lt n 28
    have c29 := bt_lt n 29
    have c30 := bt_lt n 30
    have c31 := bt_lt n 31
    have ea : acc n [-1, -1, -1, -1, -1, -1, -1, -1, -1, -1, -1, -1, 12, 13, 14, 15, 16, 17, 18, 19, 20, 21, 22, 23, 24, 25, 26, 27, 28, 29, 30, 31] 32 = ((bt n 12 : Int) * 4096) + ((bt n 13 : Int) * 8192) + ((bt n 14 : Int) * 16384) + ((bt n 15 : Int) * 32768) + ((bt n 16 : Int) * 65536) + ((bt n 17 : Int) * 131072) + ((bt n 18 : Int) * 262144) + ((bt n 19 : Int) * 524288) + ((bt n 20 : Int) * 1048576) + ((bt n 21 : Int) * 2097152) + ((bt n 22 : Int) * 4194304) + ((bt n 23 : Int) * 8388608) + ((bt n 24 : Int) * 16777216) + ((bt n 25 : Int) * 33554432) + ((bt n 26 : Int) * 67108864) + ((bt n 27 : Int) * 134217728) + ((bt n 28 : Int) * 268435456) + ((bt n 29 : Int) * 536870912) + ((bt n 30 : Int) * 1073741824) + -((bt n 31 : Int) * 2147483648) := by
      simp [acc, term]
    rw [ea]
    have e12 : fld n 12 20 = bt n 12 * 1 + bt n 13 * 2 + bt n 14 * 4 + bt n 15 * 8 + bt n 16 * 16 + bt n 17 * 32 + bt n 18 * 64 + bt n 19 * 128 + bt n 20 * 256 + bt n 21 * 512 + bt n 22 * 1024 + bt n 23 * 2048 + bt n 24 * 4096 + bt n 25 * 8192 + bt n 26 * 16384 + bt n 27 * 32768 + bt n 28 * 65536 + bt n 29 * 131072 + bt n 30 * 262144 + bt n 31 * 524288 := by
      simp [fld_succ, fld_zero]
    unfold immU sxN
    rw [e12]
    split <;> omega
  · refine ⟨[-1, -1, -1, -1, -1, -1, -1, -1, -1, -1, -1, -1, 12, 13, 14, 15, 16, 17, 18, 19, 11, 1, 2, 3, 4, 5, 6, 7, 8, 9, 10, 20], by kernel_rfl, by decide, fun n => ?_⟩
    obtain ⟨g1, g2, g3, g4, g5⟩ := getI_is n
    rw [g5]
    have c12 := bt_lt n 12
    have c13 := bt_lt n 13
    have c14 := bt_lt n 14
    have c15 := bt_lt n 15
    have c16 := bt_lt n 16
    have c17 := bt_lt n 17
    have c18 := bt_lt n 18
    have c19 := bt_lt n 19
    have c20 := bt_lt n 20
    have c21 := bt_lt n 21
    have c22 := bt_lt n 22
    have c23 := bt_lt n 23
    have c24 := bt_lt n 24
    have c25 := bt_lt n 25
    have c26 := bt_lt n 26
    have c27 := bt_lt n 27
    have c28 := bt_lt n 28
    have c29 := bt_lt n 29
    have c30 := bt_lt n 30
    have c31 := bt_lt n 31
    have ea : acc n [-1, -1, -1, -1, -1, -1, -1, -1, -1, -1, -1, -1, 12, 13, 14, 15, 16, 17, 18, 19, 11, 1, 2, 3, 4, 5, 6, 7, 8, 9, 10, 20] 32 = ((bt n 12 : Int) * 4096) + ((bt n 13 : Int) * 8192) + ((bt n 14 : Int) * 16384) + ((bt n 15 : Int) * 32768) + ((bt n 16 : Int) * 65536) + ((bt n 17 : Int) * 131072) + ((bt n 18 : Int) * 262144) + ((bt n 19 : Int) * 524288) + ((bt n 20 : Int) * 2048) + ((bt n 21 : Int) * 2) + ((bt n 22 : Int) * 4) + ((bt n 23 : Int) * 8) + ((bt n 24 : Int) * 16) + ((bt n 25 : Int) * 32) + ((bt n 26 : Int) * 64) + ((bt n 27 : Int) * 128) + ((bt n 28 : Int) * 256) + ((bt n 29 : Int) * 512) + ((bt n 30 : Int) * 1024) + -((bt n 31 : Int) * 1048576) := by
      simp [acc, term]
    rw [ea]
    have e12 : fld n 12 8 = bt n 12 * 1 + bt n 13 * 2 + bt n 14 * 4 + bt n 15 * 8 + bt n 16 * 16 + bt n 17 * 32 + bt n 18 * 64 + bt n 19 * 128 := by
      simp [fld_succ, fld_zero]
    have e21 : fld n 21 10 = bt n 21 * 1 + bt n 22 * 2 + bt n 23 * 4 + bt n 24 * 8 + bt n 25 * 16 + bt n 26 * 32 + bt n 27 * 64 + bt n 28 * 128 + bt n 29 * 256 + bt n 30 * 512 := by
      simp [fld_succ, fld_zero]
    unfold immJ sxN
    rw [e12, e21]
    split <;> omega
theorem rGet_is {N : Nat} (hN : 100 ≤ N) {n : Nat} (hn : n < 4294967296) (fmt : Nat) (h1 : 1 ≤ fmt) (h2 : fmt ≤ 5) : F86 N fmt n = some (getI fmt n) := by
  obtain ⟨M, rfl⟩ : ∃ M, N = M + 100 := ⟨N - 100, by omega⟩
  obtain ⟨ps, h3, h4, h5⟩ := places_is M fmt h1 h2
  rw [ref_get (M + 100) (by omega) hn h3 h4, h5]
end Go.Proofs.Ytipdancojcdioaa
