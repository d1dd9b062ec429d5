/- The document's decoder: the instruction of every word. No condition. -/
import Derived.Test.YtipdancojcdioaaPlDec
namespace Go.Proofs.Ytipdancojcdioaa
open Go Go.Ev Go.Sh
set_option linter.unusedVariables false
set_option linter.unusedSimpArgs false
set_option maxRecDepth 100000

theorem fdivL (n k : Nat) {b : Nat} (h : k ≤ b) : (n : Int).fdiv (2 ^ min k b) = ((n / 2 ^ k : Nat) : Int) := by
  rw [Nat.min_eq_left h, fdivN]

theorem natEq (a b : Nat) : decide ((a : Int) = (b : Int)) = (a == b) := by
  rw [Bool.eq_iff_iff]; simp only [decide_eq_true_eq, beq_iff_eq]; omega

theorem fivCast (t : Bool) : (if t then (32 : Int) else 0) = ((if t then 32 else 0 : Nat) : Int) := by cases t <;> rfl

theorem srt_gt_all : ((List.range 75).all fun i => !decide (10 < srt ((i + 1 : Nat) : Int)) || Nat.ble 54 (i + 1)) = true := by kernel_rfl
theorem srt_gt {k : Nat} (h1 : 1 ≤ k) (h2 : k ≤ 75) (h : 10 < srt k) : 54 ≤ k := by
  have := List.all_eq_true.1 srt_gt_all (k - 1) (List.mem_range.2 (by omega))
  rw [show k - 1 + 1 = k by omega, decide_eq_true h] at this
  simpa using this

theorem Is_is {N : Nat} (hN : 100 ≤ N) {n k : Nat} (hn : n < 4294967296) (h1 : 1 ≤ k) (h2 : k ≤ 75) : F84 N n k = some (isP (lk n) k) := by
  have tb := tab_is hN h1 h2
  have hc : ∀ m : Nat, decide ((n : Int).tmod 128 = (m : Int)) = (n % 128 == m) := fun m => by
    have := tmodN n 128
    rw [show ((128 : Nat) : Int) = 128 from rfl] at this
    rw [this, natEq]
  have e12 : ((n : Int).fdiv (2 ^ min 12 IntKind.u32.bits)).tmod 8 = ((fld n 12 3 : Nat) : Int) := by
    rw [fdivL n 12 (by decide), fld_def]
    exact tmodN _ 8
  have e20 : (n : Int).fdiv (2 ^ min 20 IntKind.u32.bits) = ((n / 2 ^ 20 : Nat) : Int) := fdivL n 20 (by decide)
  have e25 : (n : Int).fdiv (2 ^ min 25 IntKind.u32.bits) = ((n / 2 ^ 25 : Nat) : Int) := fdivL n 25 (by decide)
  have e27 : (n : Int).fdiv (2 ^ min 27 IntKind.u32.bits) = ((n / 2 ^ 27 : Nat) : Int) := fdivL n 27 (by decide)
  have er2 : ((n / 2 ^ 20 : Nat) : Int).tmod 32 = ((fld n 20 5 : Nat) : Int) := by rw [fld_def]; exact tmodN _ 32
  have e26 : ((n / 2 ^ 25 : Nat) : Int).tdiv 2 = ((n / 2 ^ 26 : Nat) : Int) := by
    have := tdivN (n / 2 ^ 25) 2
    rw [show ((2 : Nat) : Int) = 2 from rfl] at this
    rw [this, Nat.div_div_eq_div_mul]
  have w26 : IntKind.u32.wrap ((n / 2 ^ 26 : Nat) : Int) = ((n / 2 ^ 26 : Nat) : Int) := u32N (Nat.lt_of_le_of_lt (Nat.div_le_self _ _) hn)
  unfold F84
  rw [tb.sortR, bindS_some, tb.opcR, bindS_some, hc]
  simp only [jp_eq, tb.f3R, tb.trnR, tb.shfR, bindS_some, e12, e20, e25, e27, er2, e26, w26]
  unfold isP lk
  simp only
  cases c1 : (n % 128 == opc k) with
  | false => rfl
  | true =>
    simp only [Bool.not_true, br_f, Bool.true_and]
    have ke : ∀ m : Nat, decide ((k : Int) = (m : Int)) = (k == m) := natEq k
    have k3 : decide ((k : Int) = 3) = (k == 3) := natEq k 3
    have k51 : decide ((k : Int) = 51) = (k == 51) := natEq k 51
    have k52 : decide ((k : Int) = 52) = (k == 52) := natEq k 52
    have k53 : decide ((k : Int) = 53) = (k == 53) := natEq k 53
    have n1 : decide ((n : Int) = 115) = (n == 115) := natEq n 115
    have n2 : decide ((n : Int) = 1048691) = (n == 1048691) := natEq n 1048691
    have n20 : decide (((n / 2 ^ 20 : Nat) : Int) = 2099) = (n / 2 ^ 20 == 2099) := natEq _ 2099
    have nf : decide (((fld n 12 3 : Nat) : Int) = 0) = (fld n 12 3 == 0) := natEq _ 0
    have nr : decide (((fld n 20 5 : Nat) : Int) = 0) = (fld n 20 5 == 0) := natEq _ 0
    have n27 : decide (((n / 2 ^ 27 : Nat) : Int) = 2) = (n / 2 ^ 27 == 2) := natEq _ 2
    have nf3 : decide (((fld n 12 3 : Nat) : Int) = (f3O k : Int)) = (fld n 12 3 == f3O k) := natEq _ _
    have s5 : decide ((shf k : Int) = 5) = (shf k == 5) := natEq _ 5
    have s6 : decide ((shf k : Int) = 6) = (shf k == 6) := natEq _ 6
    have t0 : decide (((n / 2 ^ 25 : Nat) : Int) = 0) = (n / 2 ^ 25 == 0) := natEq _ 0
    have t32 : decide (((n / 2 ^ 25 : Nat) : Int) = 32) = (n / 2 ^ 25 == 32) := natEq _ 32
    have v0 : decide (((n / 2 ^ 26 : Nat) : Int) = IntKind.u32.wrap (Int.tdiv 0 2)) = (n / 2 ^ 26 == 0) := natEq _ 0
    have v32 : decide (((n / 2 ^ 26 : Nat) : Int) = IntKind.u32.wrap (Int.tdiv 32 2)) = (n / 2 ^ 26 == 16) := natEq _ 16
    simp only [k3, k51, k52, k53, n1, n2, n20, nf, nr, n27, nf3, s5, s6, t0, t32, v0, v32]
    cases c2 : decide (srt k = 1) with
    | true => rfl
    | false =>
      cases c3 : (k == 3) with
      | true => rfl
      | false =>
        simp only [br_f, Bool.or_false, cond_false, Bool.false_or]
        cases c4 : decide (srt k = 9) with
        | true =>
          simp only [br_t, cond_true]
          cases (n == 115) <;> cases (n == 1048691) <;> cases (k == 52) <;> cases (k == 53) <;> rfl
        | false =>
          simp only [br_f, cond_false]
          cases c5 : decide (srt k = 8) with
          | true =>
            simp only [br_t, cond_true]
            cases (fld n 12 3 == 0) <;> rfl
          | false =>
            simp only [br_f, cond_false]
            cases c6 : (fld n 12 3 == f3O k) with
            | false => rfl
            | true =>
              simp only [Bool.not_true, br_f, Bool.true_and]
              cases c7 : decide (srt k = 7) with
              | true =>
                cases trn k with
                | true => rfl
                | false => rfl
              | false =>
                simp only [br_f, Bool.false_or]
                cases c9 : (shf k == 5) with
                | true =>
                  cases trn k with
                  | true => rfl
                  | false => rfl
                | false =>
                  simp only [br_f, cond_false]
                  cases c10 : (shf k == 6) with
                  | true =>
                    cases trn k with
                    | true => rfl
                    | false => rfl
                  | false =>
                    simp only [br_f, cond_false]
                    cases c11 : decide (srt k = 10) with
                    | true =>
                      cases trn k <;> cases (n / 2 ^ 27 == 2) <;> rfl
                    | false =>
                      simp only [br_f, cond_false]
                      cases c12 : decide (10 < srt k) with
                      | true =>
                        have h54 : 54 ≤ k := srt_gt h1 h2 (of_decide_eq_true c12)
                        rw [tb.fivR h54]
                        cases trn k <;> exact congrArg some (natEq _ _)
                      | false => cases trn k <;> rfl

/-- the immediate of an operation's word -/
def immN (n k : Nat) : Int := if shf k = 5 then (fld n 20 5 : Nat) else if shf k = 6 then (fld n 20 6 : Nat) else if 0 < fmtO k then getI (fmtO k) n else 0
/-- a word's instruction, if that is its operation -/
def insN (n k : Nat) : Ins := ((k : Int), if wrO k then (fld n 7 5 : Nat) else 0, if fiO k then (fld n 15 5 : Nat) else 0, if seO k then (fld n 20 5 : Nat) else 0, immN n k,
  decide (10 ≤ srt k) && bt n 26 == 1, decide (10 ≤ srt k) && bt n 25 == 1, if k = 51 then 3 else if k = 50 then (fld n 24 4 : Nat) else 0, if k = 51 then 3 else if k = 50 then (fld n 20 4 : Nat) else 0)
def noIns : Ins := (0, 0, 0, 0, 0, false, false, 0, 0)

theorem shf_cases (k : Nat) : shf k = 0 ∨ shf k = 5 ∨ shf k = 6 := by
  unfold shf; repeat' split
  all_goals simp
theorem fmtO_le (k : Nat) : fmtO k ≤ 5 := by
  unfold fmtO; repeat' split
  all_goals omega
theorem fmtO_shf {k : Nat} (h : 0 < shf k) : fmtO k = 0 := by unfold fmtO; rw [if_pos h]

theorem Dec_loop {N : Nat} (hN : 100 ≤ N) {n : Nat} (hn : n < 4294967296) (F : Int → Option (Ins × Bool)) :
    fixN N (fun again0 (y1 : Int) => br (decide (y1 ≤ 75)) (bindS (F84 N n y1) (fun (y2 : Bool) => br (!y2) (again0 (IntKind.i64.wrap (y1 + 1))) (F y1))) (some (noIns, false))) 1 =
      if dOp n = 0 then some (noIns, false) else F (dOp n) := by
  refine fixN_ind (fun m (y : Int) => ∃ i : Nat, y = i ∧ 1 ≤ i ∧ i + m = 76 ∧ (dOp n = 0 ∨ i ≤ dOp n)) (fun _ o => o = if dOp n = 0 then some (noIns, false) else F (dOp n)) ?_ N 75 1 (by omega) ⟨1, rfl, by omega, by omega, by omega⟩
  rintro m y again ⟨i, rfl, h1, h2, h3⟩ ih
  have hle := dOp_le n
  rcases Nat.eq_zero_or_pos m with h0 | h0
  · rw [brF (by omega), if_pos (by omega)]
  · rw [brT (by omega), Is_is hN hn h1 (by omega), bindS_some, isP_iff hn h1 (by omega)]
    by_cases hd : dOp n = i
    · rw [hd, if_neg (by omega)]
      simp only [beq_self_eq_true, Bool.not_true, br_f]
    · rw [beq_eq_false_iff_ne.2 hd, Bool.not_false, br_t, wrap64 (by omega) (by omega)]
      exact ih (m - 1) _ (by omega) ⟨i + 1, by omega, by omega, by omega, by omega⟩

theorem rDecode_is {N : Nat} (hN : 100 ≤ N) {n : Nat} (hn : n < 4294967296) : F78 N n = some (if dOp n = 0 then (noIns, false) else (insN n (dOp n), true)) := by
  unfold F78
  refine (Dec_loop hN hn _).trans ?_
  by_cases h0 : dOp n = 0
  · rw [if_pos h0, if_pos h0]
  · rw [if_neg h0, if_neg h0]
    have hle := dOp_le n
    generalize dOp n = k at h0 hle ⊢
    have tb := tab_is hN (k := k) (by omega) hle
    have em : ∀ j m : Nat, j ≤ 32 → ((n : Int).fdiv (2 ^ min j IntKind.u32.bits)).tmod ((2 ^ m : Nat) : Int) = ((fld n j m : Nat) : Int) := fun j m h => by
      rw [fdivL n j (b := IntKind.u32.bits) h, tmodN, fld_def]
    have e7 : IntKind.i64.wrap (((n : Int).fdiv (2 ^ min 7 IntKind.u32.bits)).tmod 32) = ((fld n 7 5 : Nat) : Int) := by
      have := em 7 5 (by decide); rw [show ((2 ^ 5 : Nat) : Int) = 32 from rfl] at this; have h := fld_lt n 7 5; rw [this, i64N (by omega)]
    have e15 : IntKind.i64.wrap (((n : Int).fdiv (2 ^ min 15 IntKind.u32.bits)).tmod 32) = ((fld n 15 5 : Nat) : Int) := by
      have := em 15 5 (by decide); rw [show ((2 ^ 5 : Nat) : Int) = 32 from rfl] at this; have h := fld_lt n 15 5; rw [this, i64N (by omega)]
    have e20 : IntKind.i64.wrap (((n : Int).fdiv (2 ^ min 20 IntKind.u32.bits)).tmod 32) = ((fld n 20 5 : Nat) : Int) := by
      have := em 20 5 (by decide); rw [show ((2 ^ 5 : Nat) : Int) = 32 from rfl] at this; have h := fld_lt n 20 5; rw [this, i64N (by omega)]
    have e206 : IntKind.i64.wrap (((n : Int).fdiv (2 ^ min 20 IntKind.u32.bits)).tmod 64) = ((fld n 20 6 : Nat) : Int) := by
      have := em 20 6 (by decide); rw [show ((2 ^ 6 : Nat) : Int) = 64 from rfl] at this; have h := fld_lt n 20 6; rw [this, i64N (by omega)]
    have e204 : IntKind.i64.wrap (((n : Int).fdiv (2 ^ min 20 IntKind.u32.bits)).tmod 16) = ((fld n 20 4 : Nat) : Int) := by
      have := em 20 4 (by decide); rw [show ((2 ^ 4 : Nat) : Int) = 16 from rfl] at this; have h := fld_lt n 20 4; rw [this, i64N (by omega)]
    have e24 : IntKind.i64.wrap (((n : Int).fdiv (2 ^ min 24 IntKind.u32.bits)).tmod 16) = ((fld n 24 4 : Nat) : Int) := by
      have := em 24 4 (by decide); rw [show ((2 ^ 4 : Nat) : Int) = 16 from rfl] at this; have h := fld_lt n 24 4; rw [this, i64N (by omega)]
    have e26 : decide (((n : Int).fdiv (2 ^ min 26 IntKind.u32.bits)).tmod 2 = 1) = (bt n 26 == 1) := by
      have := tmodN (n / 2 ^ 26) 2; rw [show ((2 : Nat) : Int) = 2 from rfl] at this
      rw [fdivL n 26 (by decide), this, ← bt_def]; exact natEq _ 1
    have e25 : decide (((n : Int).fdiv (2 ^ min 25 IntKind.u32.bits)).tmod 2 = 1) = (bt n 25 == 1) := by
      have := tmodN (n / 2 ^ 25) 2; rw [show ((2 : Nat) : Int) = 2 from rfl] at this
      rw [fdivL n 25 (by decide), this, ← bt_def]; exact natEq _ 1
    have k50 : decide ((k : Int) = 50) = (k == 50) := natEq k 50
    have k51 : decide ((k : Int) = 51) = (k == 51) := natEq k 51
    have s5 : decide ((shf k : Int) = 5) = (shf k == 5) := natEq _ 5
    have s6 : decide ((shf k : Int) = 6) = (shf k == 6) := natEq _ 6
    have f0 : decide ((0 : Int) < (fmtO k : Int)) = decide (0 < fmtO k) := by rw [Bool.eq_iff_iff]; simp only [decide_eq_true_eq]; omega
    have hg : 0 < fmtO k → F86 N (fmtO k) n = some (getI (fmtO k) n) := fun h => rGet_is hN hn _ h (fmtO_le k)
    simp only [jp_eq, tb.sortR, tb.shfR, tb.fmtR, tb.wrR, tb.fiR, tb.seR, bindS_some, e7, e15, e20, e206, e204, e24, e26, e25, k50, k51, s5, s6, f0]
    unfold insN immN
    have hs := shf_cases k
    have hf : shf k ≠ 0 → fmtO k = 0 := fun h => fmtO_shf (by omega)
    by_cases hp : 0 < fmtO k
    · have hz : shf k = 0 := by rcases hs with h | h | h
                                · exact h
                                · exact absurd (hf (by omega)) (by omega)
                                · exact absurd (hf (by omega)) (by omega)
      simp only [hz, hg hp, bindS_some, br_ite, decide_true, if_true, if_pos hp, decide_eq_true hp]
      cases wrO k <;> cases fiO k <;> cases seO k <;> cases decide (10 ≤ srt k) <;> by_cases h50 : k = 50 <;> by_cases h51 : k = 51 <;> simp [h50, h51]
    · have hz : fmtO k = 0 := by omega
      simp only [hz, br_ite, if_neg (show ¬ (0 < 0) by omega), decide_false, Nat.lt_irrefl, Bool.false_eq_true, if_false]
      rcases hs with h | h | h <;> simp only [h] <;> cases wrO k <;> cases fiO k <;> cases seO k <;> cases decide (10 ≤ srt k) <;> by_cases h50 : k = 50 <;> by_cases h51 : k = 51 <;> simp [h50, h51]
end Go.Proofs.Ytipdancojcdioaa
