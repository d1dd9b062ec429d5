/- Which operation a word has: the document's tests and the program's tree of cases are the same. No condition. -/
import Derived.Test.YtkcfkegkhopakaaGreatDoorPlX1
namespace Go.Proofs.YtkcfkegkhopakaaGreatDoor
open Go Go.Ev Go.Sh
set_option linter.unusedVariables false
set_option linter.unusedSimpArgs false
set_option maxRecDepth 100000

/-- what is looked at of a word -/
structure Lk where
  a : Nat
  f3 : Nat
  z7 : Bool
  t7 : Bool
  z6 : Bool
  t6 : Bool
  five : Nat
  r0 : Bool
  fen : Bool
  e1 : Bool
  e2 : Bool

def lk (n : Nat) : Lk := ⟨n % 128, fld n 12 3, n / 2 ^ 25 == 0, n / 2 ^ 25 == 32, n / 2 ^ 26 == 0, n / 2 ^ 26 == 16, n / 2 ^ 27, fld n 20 5 == 0, n / 2 ^ 20 == 2099, n == 115, n == 1048691⟩

/-- the document's test -/
def isP (l : Lk) (k : Nat) : Bool :=
  (l.a == opc k) && (bif decide (srt k = 1) || k == 3 then true else bif decide (srt k = 9) then (l.e1 && k == 52) || (l.e2 && k == 53) else
  bif decide (srt k = 8) then l.f3 == 0 && (l.fen == (k == 51)) else (l.f3 == f3O k) && (
    bif decide (srt k = 7) || shf k == 5 then (bif trn k then l.t7 else l.z7) else bif shf k == 6 then (bif trn k then l.t6 else l.z6) else
    bif decide (srt k = 10) then (l.five == 2 && l.r0) else bif decide (10 < srt k) then l.five == fiv k else true))

def atP (l : Lk) : Nat :=
  bif l.five == 2 then (bif l.r0 then 54 else 0) else bif l.five == 3 then 56 else bif l.five == 1 then 58 else bif l.five == 0 then 59 else bif l.five == 4 then 60 else bif l.five == 12 then 61 else
  bif l.five == 8 then 62 else bif l.five == 16 then 63 else bif l.five == 20 then 64 else bif l.five == 24 then 65 else bif l.five == 28 then 66 else 0

/-- the program's tree -/
def dP (l : Lk) : Nat :=
  bif l.a == 55 then 1 else bif l.a == 23 then 2 else bif l.a == 111 then 3 else bif l.a == 103 then (bif l.f3 == 0 then 4 else 0) else
  bif l.a == 99 then [5, 6, 0, 0, 7, 8, 9, 10].getD l.f3 0 else bif l.a == 3 then [11, 12, 13, 14, 15, 16, 17, 0].getD l.f3 0 else bif l.a == 35 then [18, 19, 20, 21].getD l.f3 0 else
  bif l.a == 19 then (bif l.f3 == 1 && l.z6 then 28 else bif l.f3 == 5 && l.z6 then 29 else bif l.f3 == 5 && l.t6 then 30 else [22, 0, 23, 24, 25, 0, 26, 27].getD l.f3 0) else
  bif l.a == 27 then (bif l.f3 == 0 then 31 else bif l.f3 == 1 && l.z7 then 32 else bif l.f3 == 5 && l.z7 then 33 else bif l.f3 == 5 && l.t7 then 34 else 0) else
  bif l.a == 51 then (bif l.z7 then [35, 37, 38, 39, 40, 41, 43, 44].getD l.f3 0 else bif l.t7 then [36, 0, 0, 0, 0, 42, 0, 0].getD l.f3 0 else 0) else
  bif l.a == 59 then (bif l.z7 then [45, 47, 0, 0, 0, 48, 0, 0].getD l.f3 0 else bif l.t7 then [46, 0, 0, 0, 0, 49, 0, 0].getD l.f3 0 else 0) else
  bif l.a == 15 then (bif l.f3 == 0 then (bif l.fen then 51 else 50) else 0) else
  bif l.a == 115 then (bif l.e1 then 52 else bif l.e2 then 53 else 0) else
  bif l.a == 47 then (bif (atP l == 0) || l.f3 == 2 then atP l else bif !(l.f3 == 3) then 0 else bif Nat.ble (atP l) 56 then atP l + 1 else atP l + 9) else 0

def agree (l : Lk) : Bool := (List.range 75).all fun i => isP l (i + 1) == (dP l == i + 1)

def prs : List (Bool × Bool) := [(false, false), (true, false), (false, true)]
section
variable (f3 : Nat) (z7 t7 z6 t6 : Bool) (five : Nat) (r0 fen e1 e2 : Bool)
theorem ag55 : agree ⟨55, f3, z7, t7, z6, t6, five, r0, fen, e1, e2⟩ = true := by kernel_rfl
theorem ag23 : agree ⟨23, f3, z7, t7, z6, t6, five, r0, fen, e1, e2⟩ = true := by kernel_rfl
theorem ag111 : agree ⟨111, f3, z7, t7, z6, t6, five, r0, fen, e1, e2⟩ = true := by kernel_rfl
theorem ag103 : ((List.range 8).all fun f3 => agree ⟨103, f3, z7, t7, z6, t6, five, r0, fen, e1, e2⟩) = true := by kernel_rfl
theorem ag99 : ((List.range 8).all fun f3 => agree ⟨99, f3, z7, t7, z6, t6, five, r0, fen, e1, e2⟩) = true := by kernel_rfl
theorem ag3 : ((List.range 8).all fun f3 => agree ⟨3, f3, z7, t7, z6, t6, five, r0, fen, e1, e2⟩) = true := by kernel_rfl
theorem ag35 : ((List.range 8).all fun f3 => agree ⟨35, f3, z7, t7, z6, t6, five, r0, fen, e1, e2⟩) = true := by kernel_rfl
theorem ag19 : ((List.range 8).all fun f3 => prs.all fun p => agree ⟨19, f3, z7, t7, p.1, p.2, five, r0, fen, e1, e2⟩) = true := by kernel_rfl
theorem ag27 : ((List.range 8).all fun f3 => prs.all fun p => agree ⟨27, f3, p.1, p.2, z6, t6, five, r0, fen, e1, e2⟩) = true := by kernel_rfl
theorem ag51 : ((List.range 8).all fun f3 => prs.all fun p => agree ⟨51, f3, p.1, p.2, z6, t6, five, r0, fen, e1, e2⟩) = true := by kernel_rfl
theorem ag59 : ((List.range 8).all fun f3 => prs.all fun p => agree ⟨59, f3, p.1, p.2, z6, t6, five, r0, fen, e1, e2⟩) = true := by kernel_rfl
theorem ag15 : ((List.range 8).all fun f3 => [false, true].all fun fen => agree ⟨15, f3, z7, t7, z6, t6, five, r0, fen, e1, e2⟩) = true := by kernel_rfl
theorem ag115 : (prs.all fun p => agree ⟨115, f3, z7, t7, z6, t6, five, r0, fen, p.1, p.2⟩) = true := by kernel_rfl
theorem ag47 : ((List.range 8).all fun f3 => (List.range 32).all fun five => [false, true].all fun r0 => agree ⟨47, f3, z7, t7, z6, t6, five, r0, fen, e1, e2⟩) = true := by kernel_rfl
end

def codes : List Nat := [55, 23, 111, 103, 99, 3, 35, 19, 27, 51, 59, 15, 115, 47]
theorem opc_code : ((List.range 75).all fun i => codes.contains (opc (i + 1))) = true := by kernel_rfl

theorem prs_mem {p q : Bool} (h : ¬ (p = true ∧ q = true)) : (p, q) ∈ prs := by
  cases p <;> cases q <;> simp [prs] at h ⊢
theorem bool_mem (b : Bool) : b ∈ [false, true] := by cases b <;> simp

theorem dP_none (l : Lk) (h : ¬ l.a ∈ codes) : dP l = 0 := by
  simp only [codes, List.mem_cons, List.not_mem_nil, or_false, not_or] at h
  obtain ⟨h1, h2, h3, h4, h5, h6, h7, h8, h9, h10, h11, h12, h13, h14⟩ := h
  unfold dP
  simp only [beq_eq_false_iff_ne.2 h1, beq_eq_false_iff_ne.2 h2, beq_eq_false_iff_ne.2 h3, beq_eq_false_iff_ne.2 h4, beq_eq_false_iff_ne.2 h5, beq_eq_false_iff_ne.2 h6, beq_eq_false_iff_ne.2 h7, beq_eq_false_iff_ne.2 h8, beq_eq_false_iff_ne.2 h9, beq_eq_false_iff_ne.2 h10, beq_eq_false_iff_ne.2 h11, beq_eq_false_iff_ne.2 h12, beq_eq_false_iff_ne.2 h13, beq_eq_false_iff_ne.2 h14, cond_false]

theorem agree_all (l : Lk) (h3 : l.f3 < 8) (h5 : l.five < 32) (h7 : ¬ (l.z7 = true ∧ l.t7 = true)) (h6 : ¬ (l.z6 = true ∧ l.t6 = true)) (he : ¬ (l.e1 = true ∧ l.e2 = true)) : agree l = true := by
  obtain ⟨a, f3, z7, t7, z6, t6, five, r0, fen, e1, e2⟩ := l
  simp only at h3 h5 h7 h6 he
  by_cases hc : a ∈ codes
  · simp only [codes, List.mem_cons, List.not_mem_nil, or_false] at hc
    have m3 := List.mem_range.2 h3
    obtain rfl | rfl | rfl | rfl | rfl | rfl | rfl | rfl | rfl | rfl | rfl | rfl | rfl | rfl := hc
    · exact ag55 f3 z7 t7 z6 t6 five r0 fen e1 e2
    · exact ag23 f3 z7 t7 z6 t6 five r0 fen e1 e2
    · exact ag111 f3 z7 t7 z6 t6 five r0 fen e1 e2
    · exact List.all_eq_true.1 (ag103 z7 t7 z6 t6 five r0 fen e1 e2) f3 m3
    · exact List.all_eq_true.1 (ag99 z7 t7 z6 t6 five r0 fen e1 e2) f3 m3
    · exact List.all_eq_true.1 (ag3 z7 t7 z6 t6 five r0 fen e1 e2) f3 m3
    · exact List.all_eq_true.1 (ag35 z7 t7 z6 t6 five r0 fen e1 e2) f3 m3
    · exact List.all_eq_true.1 (List.all_eq_true.1 (ag19 z7 t7 five r0 fen e1 e2) f3 m3) (z6, t6) (prs_mem h6)
    · exact List.all_eq_true.1 (List.all_eq_true.1 (ag27 z6 t6 five r0 fen e1 e2) f3 m3) (z7, t7) (prs_mem h7)
    · exact List.all_eq_true.1 (List.all_eq_true.1 (ag51 z6 t6 five r0 fen e1 e2) f3 m3) (z7, t7) (prs_mem h7)
    · exact List.all_eq_true.1 (List.all_eq_true.1 (ag59 z6 t6 five r0 fen e1 e2) f3 m3) (z7, t7) (prs_mem h7)
    · exact List.all_eq_true.1 (List.all_eq_true.1 (ag15 z7 t7 z6 t6 five r0 e1 e2) f3 m3) fen (bool_mem _)
    · exact List.all_eq_true.1 (ag115 f3 z7 t7 z6 t6 five r0 fen) (e1, e2) (prs_mem he)
    · exact List.all_eq_true.1 (List.all_eq_true.1 (List.all_eq_true.1 (ag47 z7 t7 z6 t6 fen e1 e2) f3 m3) five (List.mem_range.2 h5)) r0 (bool_mem _)
  · unfold agree
    rw [dP_none _ hc]
    refine List.all_eq_true.2 fun i hi => ?_
    have := List.all_eq_true.1 opc_code i hi
    have hne : ¬ a = opc (i + 1) := fun e => hc (by rw [e]; simpa using this)
    simp only [isP, beq_eq_false_iff_ne.2 hne, Bool.false_and]
    rfl

theorem agree_lk (n : Nat) (hn : n < 4294967296) : agree (lk n) = true := by
  refine agree_all _ (fld_lt n 12 3) ?_ ?_ ?_ ?_ <;> simp only [lk, beq_iff_eq] <;> omega

/-- a word's operation -/
def dOp (n : Nat) : Nat := dP (lk n)

theorem isP_iff {n : Nat} (hn : n < 4294967296) {k : Nat} (h1 : 1 ≤ k) (h2 : k ≤ 75) : isP (lk n) k = (dOp n == k) := by
  have := List.all_eq_true.1 (agree_lk n hn) (k - 1) (List.mem_range.2 (by omega))
  rw [show k - 1 + 1 = k by omega] at this
  exact beq_iff_eq.1 this

theorem dP_le (l : Lk) : dP l ≤ 75 := by
  have hl : ∀ (t : List Nat) (i : Nat), (∀ x ∈ t, x ≤ 75) → t.getD i 0 ≤ 75 := by
    intro t i h
    rw [List.getD_eq_getElem?_getD]
    cases hx : t[i]? with
    | none => simp
    | some x => exact h x (List.mem_of_getElem? hx)
  have ha : atP l ≤ 66 := by
    unfold atP
    simp only [Bool.cond_eq_ite]
    repeat' split
    all_goals omega
  unfold dP
  have e : ∀ (c : Bool) (x y : Nat), x ≤ 75 → y ≤ 75 → (bif c then x else y) ≤ 75 := by intro c x y h1 h2; cases c <;> assumption
  repeat' apply e
  all_goals first | decide | omega | (apply hl; decide)

theorem dOp_le (n : Nat) : dOp n ≤ 75 := dP_le _
theorem dOp_opc {n : Nat} (hn : n < 4294967296) (h : dOp n ≠ 0) : n % 128 = opc (dOp n) := by
  have := isP_iff hn (k := dOp n) (by omega) (dOp_le n)
  rw [beq_self_eq_true] at this
  simp only [isP, lk, Bool.and_eq_true, beq_iff_eq] at this
  exact this.1
end Go.Proofs.YtkcfkegkhopakaaGreatDoor

/- The document's decoder: the instruction of every word. No condition. -/

namespace Go.Proofs.YtkcfkegkhopakaaGreatDoor
open Go Go.Ev Go.Sh
set_option linter.unusedVariables false
set_option linter.unusedSimpArgs false
set_option maxRecDepth 100000

theorem fdivL (n k : Nat) {b : Nat} (h : k ≤ b) : (n : Int).fdiv (2 ^ min k b) = ((n / 2 ^ k : Nat) : Int) := by
  rw [Nat.min_eq_left h, fdivN]

theorem natEq (a b : Nat) : decide ((a : Int) = (b : Int)) = (a == b) := by
  rw [Bool.eq_iff_iff]; simp only [decide_eq_true_eq, beq_iff_eq]; omega

theorem fivCast (t : Bool) : (if t then (32 : Int) else 0) = ((if t then 32 else 0 : Nat) : Int) := by cases t <;> rfl

theorem srt_gt_all : ((List.range 75).all fun i => !decide (10 < srt ((i + 1 : Nat) : Int)) || Nat.ble 54 (i + 1)) = true := by kernel_rfl
theorem srt_gt {k : Nat} (h1 : 1 ≤ k) (h2 : k ≤ 75) (h : 10 < srt k) : 54 ≤ k := by
  have := List.all_eq_true.1 srt_gt_all (k - 1) (List.mem_range.2 (by omega))
  rw [show k - 1 + 1 = k by omega, decide_eq_true h] at this
  simpa using this

theorem Is_is {N : Nat} (hN : 100 ≤ N) {n k : Nat} (hn : n < 4294967296) (h1 : 1 ≤ k) (h2 : k ≤ 75) : F113 N n k = some (isP (lk n) k) := by
  have tb := tab_is hN h1 h2
  have hc : ∀ m : Nat, decide ((n : Int).tmod 128 = (m : Int)) = (n % 128 == m) := fun m => by
    have := tmodN n 128
    rw [show ((128 : Nat) : Int) = 128 from rfl] at this
    rw [this, natEq]
  have e12 : ((n : Int).fdiv (2 ^ min 12 IntKind.u32.bits)).tmod 8 = ((fld n 12 3 : Nat) : Int) := by
    rw [fdivL n 12 (by decide), fld_def]
    exact tmodN _ 8
  have e20 : (n : Int).fdiv (2 ^ min 20 IntKind.u32.bits) = ((n / 2 ^ 20 : Nat) : Int) := fdivL n 20 (by decide)
  have e25 : (n : Int).fdiv (2 ^ min 25 IntKind.u32.bits) = ((n / 2 ^ 25 : Nat) : Int) := fdivL n 25 (by decide)
  have e27 : (n : Int).fdiv (2 ^ min 27 IntKind.u32.bits) = ((n / 2 ^ 27 : Nat) : Int) := fdivL n 27 (by decide)
  have er2 : ((n / 2 ^ 20 : Nat) : Int).tmod 32 = ((fld n 20 5 : Nat) : Int) := by rw [fld_def]; exact tmodN _ 32
  have e26 : ((n / 2 ^ 25 : Nat) : Int).tdiv 2 = ((n / 2 ^ 26 : Nat) : Int) := by
    have := tdivN (n / 2 ^ 25) 2
    rw [show ((2 : Nat) : Int) = 2 from rfl] at this
    rw [this, Nat.div_div_eq_div_mul]
  have w26 : IntKind.u32.wrap ((n / 2 ^ 26 : Nat) : Int) = ((n / 2 ^ 26 : Nat) : Int) := u32N (Nat.lt_of_le_of_lt (Nat.div_le_self _ _) hn)
  unfold F113 R113
  rw [tb.sortR, bindS_some, tb.opcR, bindS_some, hc]
  simp only [jp_eq, tb.f3R, tb.trnR, tb.shfR, bindS_some, e12, e20, e25, e27, er2, e26, w26]
  unfold isP lk
  simp only
  cases c1 : (n % 128 == opc k) with
  | false => rfl
  | true =>
    simp only [Bool.not_true, br_f, Bool.true_and]
    have ke : ∀ m : Nat, decide ((k : Int) = (m : Int)) = (k == m) := natEq k
    have k3 : decide ((k : Int) = 3) = (k == 3) := natEq k 3
    have k51 : decide ((k : Int) = 51) = (k == 51) := natEq k 51
    have k52 : decide ((k : Int) = 52) = (k == 52) := natEq k 52
    have k53 : decide ((k : Int) = 53) = (k == 53) := natEq k 53
    have n1 : decide ((n : Int) = 115) = (n == 115) := natEq n 115
    have n2 : decide ((n : Int) = 1048691) = (n == 1048691) := natEq n 1048691
    have n20 : decide (((n / 2 ^ 20 : Nat) : Int) = 2099) = (n / 2 ^ 20 == 2099) := natEq _ 2099
    have nf : decide (((fld n 12 3 : Nat) : Int) = 0) = (fld n 12 3 == 0) := natEq _ 0
    have nr : decide (((fld n 20 5 : Nat) : Int) = 0) = (fld n 20 5 == 0) := natEq _ 0
    have n27 : decide (((n / 2 ^ 27 : Nat) : Int) = 2) = (n / 2 ^ 27 == 2) := natEq _ 2
    have nf3 : decide (((fld n 12 3 : Nat) : Int) = (f3O k : Int)) = (fld n 12 3 == f3O k) := natEq _ _
    have s5 : decide ((shf k : Int) = 5) = (shf k == 5) := natEq _ 5
    have s6 : decide ((shf k : Int) = 6) = (shf k == 6) := natEq _ 6
    have t0 : decide (((n / 2 ^ 25 : Nat) : Int) = 0) = (n / 2 ^ 25 == 0) := natEq _ 0
    have t32 : decide (((n / 2 ^ 25 : Nat) : Int) = 32) = (n / 2 ^ 25 == 32) := natEq _ 32
    have v0 : decide (((n / 2 ^ 26 : Nat) : Int) = IntKind.u32.wrap (Int.tdiv 0 2)) = (n / 2 ^ 26 == 0) := natEq _ 0
    have v32 : decide (((n / 2 ^ 26 : Nat) : Int) = IntKind.u32.wrap (Int.tdiv 32 2)) = (n / 2 ^ 26 == 16) := natEq _ 16
    simp only [k3, k51, k52, k53, n1, n2, n20, nf, nr, n27, nf3, s5, s6, t0, t32, v0, v32]
    cases c2 : decide (srt k = 1) with
    | true => rfl
    | false =>
      cases c3 : (k == 3) with
      | true => rfl
      | false =>
        simp only [br_f, Bool.or_false, cond_false, Bool.false_or]
        cases c4 : decide (srt k = 9) with
        | true =>
          simp only [br_t, cond_true]
          cases (n == 115) <;> cases (n == 1048691) <;> cases (k == 52) <;> cases (k == 53) <;> rfl
        | false =>
          simp only [br_f, cond_false]
          cases c5 : decide (srt k = 8) with
          | true =>
            simp only [br_t, cond_true]
            cases (fld n 12 3 == 0) <;> rfl
          | false =>
            simp only [br_f, cond_false]
            cases c6 : (fld n 12 3 == f3O k) with
            | false => rfl
            | true =>
              simp only [Bool.not_true, br_f, Bool.true_and]
              cases c7 : decide (srt k = 7) with
              | true =>
                cases trn k with
                | true => rfl
                | false => rfl
              | false =>
                simp only [br_f, Bool.false_or]
                cases c9 : (shf k == 5) with
                | true =>
                  cases trn k with
                  | true => rfl
                  | false => rfl
                | false =>
                  simp only [br_f, cond_false]
                  cases c10 : (shf k == 6) with
                  | true =>
                    cases trn k with
                    | true => rfl
                    | false => rfl
                  | false =>
                    simp only [br_f, cond_false]
                    cases c11 : decide (srt k = 10) with
                    | true =>
                      cases trn k <;> cases (n / 2 ^ 27 == 2) <;> rfl
                    | false =>
                      simp only [br_f, cond_false]
                      cases c12 : decide (10 < srt k) with
                      | true =>
                        have h54 : 54 ≤ k := srt_gt h1 h2 (of_decide_eq_true c12)
                        rw [tb.fivR h54]
                        cases trn k <;> exact congrArg some (natEq _ _)
                      | false => cases trn k <;> rfl

/-- the immediate of an operation's word -/
def immN (n k : Nat) : Int := if shf k = 5 then (fld n 20 5 : Nat) else if shf k = 6 then (fld n 20 6 : Nat) else if 0 < fmtO k then getI (fmtO k) n else 0
/-- a word's instruction, if that is its operation -/
def insN (n k : Nat) : Ins := ((k : Int), if wrO k then (fld n 7 5 : Nat) else 0, if fiO k then (fld n 15 5 : Nat) else 0, if seO k then (fld n 20 5 : Nat) else 0, immN n k,
  decide (10 ≤ srt k) && bt n 26 == 1, decide (10 ≤ srt k) && bt n 25 == 1, if k = 51 then 3 else if k = 50 then (fld n 24 4 : Nat) else 0, if k = 51 then 3 else if k = 50 then (fld n 20 4 : Nat) else 0)
def noIns : Ins := (0, 0, 0, 0, 0, false, false, 0, 0)

theorem shf_cases (k : Nat) : shf k = 0 ∨ shf k = 5 ∨ shf k = 6 := by
  unfold shf; repeat' split
  all_goals simp
theorem fmtO_le (k : Nat) : fmtO k ≤ 5 := by
  unfold fmtO; repeat' split
  all_goals omega
theorem fmtO_shf {k : Nat} (h : 0 < shf k) : fmtO k = 0 := by unfold fmtO; rw [if_pos h]

theorem Dec_loop {N : Nat} (hN : 100 ≤ N) {n : Nat} (hn : n < 4294967296) (F : Int → Option (Ins × Bool)) :
    fixN N (fun again0 (y1 : Int) => br (decide (y1 ≤ 75)) (bindS (F113 N n y1) (fun (y2 : Bool) => br (!y2) (again0 (IntKind.i64.wrap (y1 + 1))) (F y1))) (some (noIns, false))) 1 =
      if dOp n = 0 then some (noIns, false) else F (dOp n) := by
  refine fixN_ind (fun m (y : Int) => ∃ i : Nat, y = i ∧ 1 ≤ i ∧ i + m = 76 ∧ (dOp n = 0 ∨ i ≤ dOp n)) (fun _ o => o = if dOp n = 0 then some (noIns, false) else F (dOp n)) ?_ N 75 1 (by omega) ⟨1, rfl, by omega, by omega, by omega⟩
  rintro m y again ⟨i, rfl, h1, h2, h3⟩ ih
  have hle := dOp_le n
  rcases Nat.eq_zero_or_pos m with h0 | h0
  · rw [brF (by omega), if_pos (by omega)]
  · rw [brT (by omega), Is_is hN hn h1 (by omega), bindS_some, isP_iff hn h1 (by omega)]
    by_cases hd : dOp n = i
    · rw [hd, if_neg (by omega)]
      simp only [beq_self_eq_true, Bool.not_true, br_f]
    · rw [beq_eq_false_iff_ne.2 hd, Bool.not_false, br_t, wrap64 (by omega) (by omega)]
      exact ih (m - 1) _ (by omega) ⟨i + 1, by omega, by omega, by omega, by omega⟩

theorem rDecode_is {N : Nat} (hN : 100 ≤ N) {n : Nat} (hn : n < 4294967296) : F61 N n = some (if dOp n = 0 then (noIns, false) else (insN n (dOp n), true)) := by
  unfold F61 R61
  refine (Dec_loop hN hn _).trans ?_
  by_cases h0 : dOp n = 0
  · rw [if_pos h0, if_pos h0]
  · rw [if_neg h0, if_neg h0]
    have hle := dOp_le n
    generalize dOp n = k at h0 hle ⊢
    have tb := tab_is hN (k := k) (by omega) hle
    have em : ∀ j m : Nat, j ≤ 32 → ((n : Int).fdiv (2 ^ min j IntKind.u32.bits)).tmod ((2 ^ m : Nat) : Int) = ((fld n j m : Nat) : Int) := fun j m h => by
      rw [fdivL n j (b := IntKind.u32.bits) h, tmodN, fld_def]
    have e7 : IntKind.i64.wrap (((n : Int).fdiv (2 ^ min 7 IntKind.u32.bits)).tmod 32) = ((fld n 7 5 : Nat) : Int) := by
      have := em 7 5 (by decide); rw [show ((2 ^ 5 : Nat) : Int) = 32 from rfl] at this; have h := fld_lt n 7 5; rw [this, i64N (by omega)]
    have e15 : IntKind.i64.wrap (((n : Int).fdiv (2 ^ min 15 IntKind.u32.bits)).tmod 32) = ((fld n 15 5 : Nat) : Int) := by
      have := em 15 5 (by decide); rw [show ((2 ^ 5 : Nat) : Int) = 32 from rfl] at this; have h := fld_lt n 15 5; rw [this, i64N (by omega)]
    have e20 : IntKind.i64.wrap (((n : Int).fdiv (2 ^ min 20 IntKind.u32.bits)).tmod 32) = ((fld n 20 5 : Nat) : Int) := by
      have := em 20 5 (by decide); rw [show ((2 ^ 5 : Nat) : Int) = 32 from rfl] at this; have h := fld_lt n 20 5; rw [this, i64N (by omega)]
    have e206 : IntKind.i64.wrap (((n : Int).fdiv (2 ^ min 20 IntKind.u32.bits)).tmod 64) = ((fld n 20 6 : Nat) : Int) := by
      have := em 20 6 (by decide); rw [show ((2 ^ 6 : Nat) : Int) = 64 from rfl] at this; have h := fld_lt n 20 6; rw [this, i64N (by omega)]
    have e204 : IntKind.i64.wrap (((n : Int).fdiv (2 ^ min 20 IntKind.u32.bits)).tmod 16) = ((fld n 20 4 : Nat) : Int) := by
      have := em 20 4 (by decide); rw [show ((2 ^ 4 : Nat) : Int) = 16 from rfl] at this; have h := fld_lt n 20 4; rw [this, i64N (by omega)]
    have e24 : IntKind.i64.wrap (((n : Int).fdiv (2 ^ min 24 IntKind.u32.bits)).tmod 16) = ((fld n 24 4 : Nat) : Int) := by
      have := em 24 4 (by decide); rw [show ((2 ^ 4 : Nat) : Int) = 16 from rfl] at this; have h := fld_lt n 24 4; rw [this, i64N (by omega)]
    have e26 : decide (((n : Int).fdiv (2 ^ min 26 IntKind.u32.bits)).tmod 2 = 1) = (bt n 26 == 1) := by
      have := tmodN (n / 2 ^ 26) 2; rw [show ((2 : Nat) : Int) = 2 from rfl] at this
      rw [fdivL n 26 (by decide), this, ← bt_def]; exact natEq _ 1
    have e25 : decide (((n : Int).fdiv (2 ^ min 25 IntKind.u32.bits)).tmod 2 = 1) = (bt n 25 == 1) := by
      have := tmodN (n / 2 ^ 25) 2; rw [show ((2 : Nat) : Int) = 2 from rfl] at this
      rw [fdivL n 25 (by decide), this, ← bt_def]; exact natEq _ 1
    have k50 : decide ((k : Int) = 50) = (k == 50) := natEq k 50
    have k51 : decide ((k : Int) = 51) = (k == 51) := natEq k 51
    have s5 : decide ((shf k : Int) = 5) = (shf k == 5) := natEq _ 5
    have s6 : decide ((shf k : Int) = 6) = (shf k == 6) := natEq _ 6
    have f0 : decide ((0 : Int) < (fmtO k : Int)) = decide (0 < fmtO k) := by rw [Bool.eq_iff_iff]; simp only [decide_eq_true_eq]; omega
    have hg : 0 < fmtO k → F114 N (fmtO k) n = some (getI (fmtO k) n) := fun h => rGet_is hN hn _ h (fmtO_le k)
    simp only [jp_eq, tb.sortR, tb.shfR, tb.fmtR, tb.wrR, tb.fiR, tb.seR, bindS_some, e7, e15, e20, e206, e204, e24, e26, e25, k50, k51, s5, s6, f0]
    unfold insN immN
    have hs := shf_cases k
    have hf : shf k ≠ 0 → fmtO k = 0 := fun h => fmtO_shf (by omega)
    by_cases hp : 0 < fmtO k
    · have hz : shf k = 0 := by rcases hs with h | h | h
                                · exact h
                                · exact absurd (hf (by omega)) (by omega)
                                · exact absurd (hf (by omega)) (by omega)
      simp only [hz, hg hp, bindS_some, br_ite, decide_true, if_true, if_pos hp, decide_eq_true hp]
      cases wrO k <;> cases fiO k <;> cases seO k <;> cases decide (10 ≤ srt k) <;> by_cases h50 : k = 50 <;> by_cases h51 : k = 51 <;> simp [h50, h51]
    · have hz : fmtO k = 0 := by omega
      simp only [hz, br_ite, if_neg (show ¬ (0 < 0) by omega), decide_false, Nat.lt_irrefl, Bool.false_eq_true, if_false]
      rcases hs with h | h | h <;> simp only [h] <;> cases wrO k <;> cases fiO k <;> cases seO k <;> cases decide (10 ≤ srt k) <;> by_cases h50 : k = 50 <;> by_cases h51 : k = 51 <;> simp [h50, h51]
end Go.Proofs.YtkcfkegkhopakaaGreatDoor

/- The program's decoder: the instruction of every word. No condition. -/

namespace Go.Proofs.YtkcfkegkhopakaaGreatDoor
open Go Go.Ev Go.Sh
set_option linter.unusedVariables false
set_option linter.unusedSimpArgs false
set_option maxRecDepth 100000

abbrev Parts := Int × Int × Int × Int × Int × Int
def parts (n : Nat) : Parts := ((n : Int), (fld n 7 5 : Nat), (fld n 15 5 : Nat), (fld n 20 5 : Nat), (fld n 12 3 : Nat), (fld n 25 7 : Nat))

theorem FieldL (N : Nat) {n : Nat} (hn : n < 4294967296) : F168 N n 11 7 = some ((fld n 7 5 : Nat) : Int) ∧ F168 N n 19 15 = some ((fld n 15 5 : Nat) : Int) ∧ F168 N n 24 20 = some ((fld n 20 5 : Nat) : Int) ∧
    F168 N n 14 12 = some ((fld n 12 3 : Nat) : Int) ∧ F168 N n 31 25 = some ((fld n 25 7 : Nat) : Int) ∧ F168 N n 25 20 = some ((fld n 20 6 : Nat) : Int) ∧ F168 N n 31 26 = some ((fld n 26 6 : Nat) : Int) ∧
    F168 N n 31 27 = some ((fld n 27 5 : Nat) : Int) ∧ F168 N n 31 20 = some ((fld n 20 12 : Nat) : Int) ∧ F168 N n 27 24 = some ((fld n 24 4 : Nat) : Int) ∧ F168 N n 23 20 = some ((fld n 20 4 : Nat) : Int) :=
  ⟨Field_is N hn (hi := 11) (lo := 7) (by decide) (by decide), Field_is N hn (hi := 19) (lo := 15) (by decide) (by decide), Field_is N hn (hi := 24) (lo := 20) (by decide) (by decide), Field_is N hn (hi := 14) (lo := 12) (by decide) (by decide),
   Field_is N hn (hi := 31) (lo := 25) (by decide) (by decide), Field_is N hn (hi := 25) (lo := 20) (by decide) (by decide), Field_is N hn (hi := 31) (lo := 26) (by decide) (by decide), Field_is N hn (hi := 31) (lo := 27) (by decide) (by decide),
   Field_is N hn (hi := 31) (lo := 20) (by decide) (by decide), Field_is N hn (hi := 27) (lo := 24) (by decide) (by decide), Field_is N hn (hi := 23) (lo := 20) (by decide) (by decide)⟩

theorem split_is (N : Nat) {n : Nat} (hn : n < 4294967296) : F105 N n = some (parts n) := by
  obtain ⟨a1, a2, a3, a4, a5, -⟩ := FieldL N hn
  have l1 := fld_lt n 7 5
  have l2 := fld_lt n 15 5
  have l3 := fld_lt n 20 5
  unfold F105 R105 F167 R167
  rw [a1, a2, a3, a4, a5]
  simp only [bindS_some]
  rw [i64N (by omega), i64N (by omega), i64N (by omega)]
  rfl

/-- facts of the operations of a code -/
def grpOk (k : Nat) : Bool :=
  (opc k == 55 || opc k == 23) && (fmtO k == 4 && shf k == 0 && Nat.blt k 50) || (opc k == 111) && (fmtO k == 5 && shf k == 0 && Nat.blt k 50) || (opc k == 103 || opc k == 3) && (fmtO k == 1 && shf k == 0 && Nat.blt k 50) ||
  (opc k == 99) && (fmtO k == 3 && shf k == 0 && Nat.blt k 50) || (opc k == 35) && (fmtO k == 2 && shf k == 0 && Nat.blt k 50) ||
  (opc k == 19) && ((Nat.ble 28 k && Nat.ble k 30) && shf k == 6 || !(Nat.ble 28 k && Nat.ble k 30) && shf k == 0 && fmtO k == 1) && Nat.blt k 50 ||
  (opc k == 27) && (Nat.ble 32 k && shf k == 5 || Nat.blt k 32 && shf k == 0 && fmtO k == 1) && Nat.blt k 50 ||
  (opc k == 51 || opc k == 59) && (fmtO k == 0 && shf k == 0 && Nat.blt k 50) ||
  (opc k == 15) && (fmtO k == 0 && shf k == 0 && (k == 50 || k == 51) && !(wrO k) && !(fiO k) && !(seO k)) ||
  (opc k == 115) && (fmtO k == 0 && shf k == 0 && (k == 52 || k == 53)) || (opc k == 47) && (fmtO k == 0 && shf k == 0 && Nat.ble 54 k)
theorem grp_all : ((List.range 75).all fun i => grpOk (i + 1) && (decide (10 ≤ srt ((i + 1 : Nat) : Int)) == Nat.ble 54 (i + 1))) = true := by kernel_rfl
theorem grp_is {k : Nat} (h1 : k ≠ 0) (h2 : k ≤ 75) : grpOk k = true ∧ (decide (10 ≤ srt k) = Nat.ble 54 k) := by
  have := List.all_eq_true.1 grp_all (k - 1) (List.mem_range.2 (by omega))
  rw [show k - 1 + 1 = k by omega, Bool.and_eq_true, beq_iff_eq] at this
  exact this

/-- what an instruction must be -/
def Fits (n : Nat) (x : Ins) : Prop := x.1 = dOp n ∧ (dOp n ≠ 0 → clean x = insN n (dOp n))

theorem fits_plain {n : Nat} {k : Nat} (hk : dOp n = k) (imm : Int) (h : k ≠ 0 → k < 50 ∨ k = 52 ∨ k = 53) (hi : k ≠ 0 → immN n k = imm) :
    Fits n ((k : Int), (fld n 7 5 : Nat), (fld n 15 5 : Nat), (fld n 20 5 : Nat), imm, false, false, 0, 0) := by
  refine ⟨by rw [hk], fun h0 => ?_⟩
  rw [hk] at h0 ⊢
  have hle : k ≤ 75 := hk ▸ dOp_le n
  obtain ⟨-, g2⟩ := grp_is h0 hle
  have hb : Nat.ble 54 k = false := by
    cases hb : Nat.ble 54 k with
    | false => rfl
    | true => have := Nat.le_of_ble_eq_true hb; have := h h0; omega
  have := h h0
  unfold clean insN
  simp only [g2, hb, Bool.false_and, hi h0, if_neg (show ¬ k = 51 by omega), if_neg (show ¬ k = 50 by omega)]

theorem eq_of_beq' {a b : Nat} (h : (a == b) = true) : a = b := by simpa using h
/-- the tests on a word's code -/
theorem code_is {n : Nat} (hn : n < 4294967296) : bits .and .u32 (n : Int) 127 = ((n % 128 : Nat) : Int) := and_mask32 hn (k := 7) (by decide)
theorem codeEq (n m : Nat) : decide (((n % 128 : Nat) : Int) = (m : Int)) = (n % 128 == m) := natEq _ _

theorem f7_is {n : Nat} (hn : n < 4294967296) : fld n 25 7 = n / 2 ^ 25 ∧ fld n 26 6 = n / 2 ^ 26 ∧ fld n 27 5 = n / 2 ^ 27 ∧ fld n 20 12 = n / 2 ^ 20 := by
  simp only [fld_def]
  omega

theorem bit_is {n : Nat} (hn : n < 4294967296) (i : Nat) (hi : i ≤ 32) : decide (bits .and .u32 ((n : Int).fdiv (2 ^ min i IntKind.u32.bits)) 1 = 1) = (bt n i == 1) := by
  rw [fdivL n i (b := IntKind.u32.bits) hi]
  have := and_mask32 (x := n / 2 ^ i) (Nat.lt_of_le_of_lt (Nat.div_le_self _ _) hn) (k := 1) (by decide)
  rw [show ((2 ^ 1 - 1 : Nat) : Int) = 1 from rfl] at this
  rw [this, bt_def]
  exact natEq _ 1

theorem dOp_at {n a : Nat} (h : n % 128 = a) : dOp n = dP ⟨a, fld n 12 3, n / 2 ^ 25 == 0, n / 2 ^ 25 == 32, n / 2 ^ 26 == 0, n / 2 ^ 26 == 16, n / 2 ^ 27, fld n 20 5 == 0, n / 2 ^ 20 == 2099, n == 115, n == 1048691⟩ := by
  subst h; rfl

theorem imm_of {n k : Nat} {f : Nat} (h1 : shf k = 0) (h2 : fmtO k = f) (h3 : 0 < f) : immN n k = getI f n := by
  unfold immN; rw [if_neg (by omega), if_neg (by omega), if_pos (by omega), h2]
theorem imm_no {n k : Nat} (h1 : shf k = 0) (h2 : fmtO k = 0) : immN n k = 0 := by
  unfold immN; rw [if_neg (by omega), if_neg (by omega), if_neg (by omega)]

theorem and3 {a b c : Bool} (h : (a && b && c) = true) : a = true ∧ b = true ∧ c = true := by
  cases a <;> cases b <;> cases c <;> simp at h ⊢

/-- the facts of an operation by a word's code -/
theorem grp_at {n : Nat} (hn : n < 4294967296) (h : dOp n ≠ 0) : n % 128 = opc (dOp n) ∧ grpOk (dOp n) = true ∧ (decide (10 ≤ srt (dOp n)) = Nat.ble 54 (dOp n)) :=
  ⟨dOp_opc hn h, grp_is h (dOp_le n)⟩

theorem grp_simple {n a f : Nat} (hn : n < 4294967296) (ha : n % 128 = a) (hf : (a = 55 ∨ a = 23) ∧ f = 4 ∨ a = 111 ∧ f = 5 ∨ (a = 103 ∨ a = 3) ∧ f = 1 ∨ a = 99 ∧ f = 3 ∨ a = 35 ∧ f = 2) (h : dOp n ≠ 0) : fmtO (dOp n) = f ∧ shf (dOp n) = 0 ∧ dOp n < 50 := by
  obtain ⟨h1, h2, -⟩ := grp_at hn h
  rw [ha] at h1
  simp only [grpOk, Bool.or_eq_true, Bool.and_eq_true, beq_iff_eq, ← h1] at h2
  have hb : ∀ m, Nat.blt m 50 = true → m < 50 := fun m hm => by rw [Nat.blt_eq] at hm; exact hm
  obtain ⟨rfl | rfl, rfl⟩ | ⟨rfl, rfl⟩ | ⟨rfl | rfl, rfl⟩ | ⟨rfl, rfl⟩ | ⟨rfl, rfl⟩ := hf <;> simp at h2 <;> exact ⟨h2.1.1, h2.1.2, h2.2⟩

theorem simple_fits {n a f : Nat} (hn : n < 4294967296) (ha : n % 128 = a) (hf : (a = 55 ∨ a = 23) ∧ f = 4 ∨ a = 111 ∧ f = 5 ∨ (a = 103 ∨ a = 3) ∧ f = 1 ∨ a = 99 ∧ f = 3 ∨ a = 35 ∧ f = 2) {k : Int} (hk : k = dOp n) {imm : Int} (hi : dOp n ≠ 0 → imm = getI f n) :
    Fits n (k, (fld n 7 5 : Nat), (fld n 15 5 : Nat), (fld n 20 5 : Nat), imm, false, false, 0, 0) := by
  subst hk
  refine fits_plain rfl imm (fun h => ?_) fun h => ?_
  · obtain ⟨_, _, h3⟩ := grp_simple hn ha hf h; omega
  · obtain ⟨h1, h2, h3⟩ := grp_simple hn ha hf h
    rw [hi h]
    exact imm_of h2 h1 (by omega)

theorem f3_cases (n : Nat) : fld n 12 3 = 0 ∨ fld n 12 3 = 1 ∨ fld n 12 3 = 2 ∨ fld n 12 3 = 3 ∨ fld n 12 3 = 4 ∨ fld n 12 3 = 5 ∨ fld n 12 3 = 6 ∨ fld n 12 3 = 7 := by
  have := fld_lt n 12 3
  omega

theorem number_is {N : Nat} (hN : 100 ≤ N) {n : Nat} (hn : n < 4294967296) (ha : n % 128 = 19) : ∃ imm, F160 N (parts n) = some ((dOp n : Int), imm) ∧ (dOp n ≠ 0 → immN n (dOp n) = imm ∧ dOp n < 50) := by
  obtain ⟨a1, a2, a3, a4, a5, a6, a7, a8, a9, a10, a11⟩ := FieldL N hn
  have l6 := fld_lt n 20 6
  obtain ⟨g1, g2, g3, g4⟩ := f7_is hn
  have hg := grp_at hn
  have hd := dOp_at ha
  unfold F160 R160 parts
  simp only [a6, a7, bindS_some, jp_eq, g2]
  rw [i64N (by omega)]
  have hz : decide (((n / 2 ^ 26 : Nat) : Int) = 0) = (n / 2 ^ 26 == 0) := natEq _ 0
  have ht : decide (((n / 2 ^ 26 : Nat) : Int) = 16) = (n / 2 ^ 26 == 16) := natEq _ 16
  rw [hz, ht]
  have hs : ∀ m, dOp n = m → (m = 28 ∨ m = 29 ∨ m = 30) → dOp n ≠ 0 → immN n (dOp n) = ((fld n 20 6 : Nat) : Int) ∧ dOp n < 50 := by
    rintro m h1 h2 h3
    rw [h1]
    obtain rfl | rfl | rfl := h2 <;> exact ⟨rfl, by decide⟩
  have hi : dOp n < 28 → dOp n ≠ 0 → immN n (dOp n) = getI 1 n ∧ dOp n < 50 := by
    rintro h1 h3
    obtain ⟨q1, q2, -⟩ := hg h3
    rw [ha] at q1
    simp only [grpOk, Bool.or_eq_true, Bool.and_eq_true, beq_iff_eq, ← q1] at q2
    have hb : Nat.ble 28 (dOp n) = false := by
      cases hb : Nat.ble 28 (dOp n) with
      | false => rfl
      | true => have := Nat.le_of_ble_eq_true hb; omega
    simp [hb] at q2
    exact ⟨imm_of q2.1.1 q2.1.2 (by decide), by omega⟩
  have hget := Get_is N (by omega) hn 1 (by decide) (by decide)
  rw [show ((1 : Nat) : Int) = 1 from rfl] at hget
  have tl : ∀ (f : Nat), fld n 12 3 = f → ∀ z t : Bool, (n / 2 ^ 26 == 0) = z → (n / 2 ^ 26 == 16) = t →
      dOp n = bif f == 1 && z then 28 else bif f == 5 && z then 29 else bif f == 5 && t then 30 else [22, 0, 23, 24, 25, 0, 26, 27].getD f 0 := by
    intro f hf z t h1 h2
    rw [hd, hf, h1, h2]
    rfl
  cases hz : (n / 2 ^ 26 == 0) <;> cases ht : (n / 2 ^ 26 == 16) <;> obtain hf | hf | hf | hf | hf | hf | hf | hf := f3_cases n <;> have h := tl _ hf _ _ hz ht <;> rw [hf] <;>
    first
    | exact ⟨_, congrArg some (Prod.ext (by rw [h]; rfl) rfl), hs _ h (by decide)⟩
    | (refine ⟨getI 1 n, ?_, hi (by rw [h]; decide)⟩
       rw [hget, h]
       rfl)

theorem numberW_is {N : Nat} (hN : 100 ≤ N) {n : Nat} (hn : n < 4294967296) (ha : n % 128 = 27) : ∃ imm, F161 N (parts n) = some ((dOp n : Int), imm) ∧ (dOp n ≠ 0 → immN n (dOp n) = imm ∧ dOp n < 50) := by
  obtain ⟨g1, g2, g3, g4⟩ := f7_is hn
  have hd := dOp_at ha
  unfold F161 R161 parts
  simp only [jp_eq, g1]
  have hz : decide (((n / 2 ^ 25 : Nat) : Int) = 0) = (n / 2 ^ 25 == 0) := natEq _ 0
  have ht : decide (((n / 2 ^ 25 : Nat) : Int) = 32) = (n / 2 ^ 25 == 32) := natEq _ 32
  rw [hz, ht]
  have hs : ∀ m, dOp n = m → (m = 32 ∨ m = 33 ∨ m = 34) → dOp n ≠ 0 → immN n (dOp n) = ((fld n 20 5 : Nat) : Int) ∧ dOp n < 50 := by
    rintro m h1 h2 h3
    rw [h1]
    obtain rfl | rfl | rfl := h2 <;> exact ⟨rfl, by decide⟩
  have hi : dOp n = 31 → dOp n ≠ 0 → immN n (dOp n) = getI 1 n ∧ dOp n < 50 := by
    rintro h1 h3
    rw [h1]
    exact ⟨imm_of rfl rfl (by decide), by decide⟩
  have hget := Get_is N (by omega) hn 1 (by decide) (by decide)
  rw [show ((1 : Nat) : Int) = 1 from rfl] at hget
  have tl : ∀ (f : Nat), fld n 12 3 = f → ∀ z t : Bool, (n / 2 ^ 25 == 0) = z → (n / 2 ^ 25 == 32) = t →
      dOp n = bif f == 0 then 31 else bif f == 1 && z then 32 else bif f == 5 && z then 33 else bif f == 5 && t then 34 else 0 := by
    intro f hf z t h1 h2
    rw [hd, hf, h1, h2]
    rfl
  cases hz : (n / 2 ^ 25 == 0) <;> cases ht : (n / 2 ^ 25 == 32) <;> obtain hf | hf | hf | hf | hf | hf | hf | hf := f3_cases n <;> have h := tl _ hf _ _ hz ht <;> rw [hf] <;>
    first
    | exact ⟨_, congrArg some (Prod.ext (by rw [h]; rfl) rfl), hs _ h (by decide)⟩
    | exact ⟨_, congrArg some (Prod.ext (by rw [h]; rfl) rfl), fun h0 => absurd h h0⟩
    | (refine ⟨getI 1 n, ?_, hi h⟩
       rw [hget, h]
       rfl)

noncomputable def atRep (N v f : Nat) (z : Bool) : Bool := F166 N (((v * 134217728 : Nat) : Int), 0, 0, (bif z then 0 else 1), (f : Int), 0) == some ((dP ⟨47, f, false, false, false, false, v, z, false, false, false⟩ : Nat) : Int)
theorem atRep_all (N : Nat) : ((List.range 32).all fun v => (List.range 8).all fun f => [false, true].all fun z => atRep N v f z) = true := by kernel_rfl

theorem atomic_is {N : Nat} {n : Nat} (hn : n < 4294967296) (ha : n % 128 = 47) : F166 N (parts n) = some (dOp n : Int) := by
  obtain ⟨a1, a2, a3, a4, a5, a6, a7, a8, a9, a10, a11⟩ := FieldL N hn
  have l5 := fld_lt n 27 5
  have l3 := fld_lt n 12 3
  have hrep := List.all_eq_true.1 (List.all_eq_true.1 (List.all_eq_true.1 (atRep_all N) (fld n 27 5) (List.mem_range.2 (by omega))) (fld n 12 3) (List.mem_range.2 (by omega))) (fld n 20 5 == 0) (bool_mem _)
  unfold atRep at hrep
  rw [beq_iff_eq] at hrep
  have hd : dOp n = dP ⟨47, fld n 12 3, false, false, false, false, fld n 27 5, fld n 20 5 == 0, false, false, false⟩ := by
    rw [dOp_at ha, (f7_is hn).2.2.1]; rfl
  rw [hd, ← hrep]
  have hw : fld n 27 5 * 134217728 < 4294967296 := by omega
  have hf := (FieldL N hw).2.2.2.2.2.2.2.1
  have e : fld (fld n 27 5 * 134217728) 27 5 = fld n 27 5 := by
    generalize fld n 27 5 = v at l5 ⊢
    rw [fld_def]; omega
  rw [e] at hf
  unfold F166 R166 parts
  simp only [a8, hf, bindS_some]
  have hr : decide (((fld n 20 5 : Nat) : Int) = 0) = (fld n 20 5 == 0) := natEq _ 0
  have hq : decide ((bif fld n 20 5 == 0 then (0 : Int) else 1) = 0) = (fld n 20 5 == 0) := by cases (fld n 20 5 == 0) <;> rfl
  rw [hr, hq]

theorem fence_is {N : Nat} {n : Nat} (hn : n < 4294967296) (ha : n % 128 = 15) (h0 : fld n 12 3 = 0) : ∃ x, F165 N n = some x ∧ Fits n x := by
  obtain ⟨a1, a2, a3, a4, a5, a6, a7, a8, a9, a10, a11⟩ := FieldL N hn
  obtain ⟨g1, g2, g3, g4⟩ := f7_is hn
  have l1 := fld_lt n 24 4
  have l2 := fld_lt n 20 4
  have hd := dOp_at ha
  rw [h0] at hd
  unfold F165 R165
  rw [a9, bindS_some, a10, a11]
  have he : decide (((fld n 20 12 : Nat) : Int) = 2099) = (n / 2 ^ 20 == 2099) := by rw [g4]; exact natEq _ 2099
  rw [he]
  cases hc : (n / 2 ^ 20 == 2099) with
  | true =>
    rw [hc] at hd
    have h : dOp n = 51 := hd
    exact ⟨_, rfl, by rw [h]; rfl, fun _ => by rw [h]; rfl⟩
  | false =>
    rw [hc] at hd
    have h : dOp n = 50 := hd
    refine ⟨_, rfl, by rw [h]; rfl, fun _ => ?_⟩
    rw [h, i64N (by omega), i64N (by omega)]
    rfl

theorem wide_is {N : Nat} {n : Nat} (hn : n < 4294967296) (ha : n % 128 = 51) : F163 N (parts n) [35, 37, 38, 39, 40, 41, 43, 44] [36, 0, 0, 0, 0, 42, 0, 0] = some (dOp n : Int) := by
  obtain ⟨g1, g2, g3, g4⟩ := f7_is hn
  have hd := dOp_at ha
  unfold F163 parts
  simp only [g1]
  have hz : decide (((n / 2 ^ 25 : Nat) : Int) = 0) = (n / 2 ^ 25 == 0) := natEq _ 0
  have ht : decide (((n / 2 ^ 25 : Nat) : Int) = 32) = (n / 2 ^ 25 == 32) := natEq _ 32
  rw [hz, ht]
  cases hz : (n / 2 ^ 25 == 0) <;> cases ht : (n / 2 ^ 25 == 32) <;> obtain hf | hf | hf | hf | hf | hf | hf | hf := f3_cases n <;> rw [hf, hz, ht] at hd <;> rw [hf, hd] <;> rfl

theorem narrow_is {N : Nat} {n : Nat} (hn : n < 4294967296) (ha : n % 128 = 59) : F163 N (parts n) [45, 47, 0, 0, 0, 48, 0, 0] [46, 0, 0, 0, 0, 49, 0, 0] = some (dOp n : Int) := by
  obtain ⟨g1, g2, g3, g4⟩ := f7_is hn
  have hd := dOp_at ha
  unfold F163 parts
  simp only [g1]
  have hz : decide (((n / 2 ^ 25 : Nat) : Int) = 0) = (n / 2 ^ 25 == 0) := natEq _ 0
  have ht : decide (((n / 2 ^ 25 : Nat) : Int) = 32) = (n / 2 ^ 25 == 32) := natEq _ 32
  rw [hz, ht]
  cases hz : (n / 2 ^ 25 == 0) <;> cases ht : (n / 2 ^ 25 == 32) <;> obtain hf | hf | hf | hf | hf | hf | hf | hf := f3_cases n <;> rw [hf, hz, ht] at hd <;> rw [hf, hd] <;> rfl

theorem grp_no {n a : Nat} (hn : n < 4294967296) (ha : n % 128 = a) (hf : a = 51 ∨ a = 59) (h : dOp n ≠ 0) : fmtO (dOp n) = 0 ∧ shf (dOp n) = 0 ∧ dOp n < 50 := by
  obtain ⟨h1, h2, -⟩ := grp_at hn h
  rw [ha] at h1
  simp only [grpOk, Bool.or_eq_true, Bool.and_eq_true, beq_iff_eq, ← h1] at h2
  obtain rfl | rfl := hf <;> simp at h2 <;> exact ⟨h2.1.1, h2.1.2, h2.2⟩

theorem no_fits {n : Nat} (h : dOp n = 0) {x : Ins} (hx : x.1 = 0) : Fits n x := ⟨by rw [h, hx]; rfl, fun h0 => absurd h h0⟩

theorem inst_is {N : Nat} (hN : 100 ≤ N) {n : Nat} (hn : n < 4294967296) : ∃ x, F104 N (parts n) = some x ∧ Fits n x := by
  have g : ∀ f : Nat, 1 ≤ f → f ≤ 5 → F159 N f n = some (getI f n) := fun f h1 h2 => Get_is N (by omega) hn f h1 h2
  have q1 : F159 N 1 n = some (getI 1 n) := g 1 (by decide) (by decide)
  have q2 : F159 N 2 n = some (getI 2 n) := g 2 (by decide) (by decide)
  have q3 : F159 N 3 n = some (getI 3 n) := g 3 (by decide) (by decide)
  have q4 : F159 N 4 n = some (getI 4 n) := g 4 (by decide) (by decide)
  have q5 : F159 N 5 n = some (getI 5 n) := g 5 (by decide) (by decide)
  have e25 := bit_is hn 25 (by decide)
  have e26 := bit_is hn 26 (by decide)
  have nz : ∀ m : Nat, decide (((fld n 12 3 : Nat) : Int) = (m : Int)) = (fld n 12 3 == m) := fun m => natEq _ m
  unfold F104 R104
  simp only [jp_eq]
  rw [show (parts n).1 = (n : Int) from rfl, code_is hn]
  by_cases c1 : n % 128 = 55
  · rw [brT (by omega), q4, bindS_some]
    exact ⟨_, rfl, simple_fits (f := 4) hn c1 (by simp) (by rw [dOp_at c1]; rfl) fun _ => rfl⟩
  rw [brF (by omega)]
  by_cases c2 : n % 128 = 23
  · rw [brT (by omega), q4, bindS_some]
    exact ⟨_, rfl, simple_fits (f := 4) hn c2 (by simp) (by rw [dOp_at c2]; rfl) fun _ => rfl⟩
  rw [brF (by omega)]
  by_cases c3 : n % 128 = 111
  · rw [brT (by omega), q5, bindS_some]
    exact ⟨_, rfl, simple_fits (f := 5) hn c3 (by simp) (by rw [dOp_at c3]; rfl) fun _ => rfl⟩
  rw [brF (by omega)]
  by_cases c4 : n % 128 = 103
  · rw [brT (by omega), q1]
    have hd := dOp_at c4
    by_cases h0 : fld n 12 3 = 0
    · rw [h0] at hd
      rw [show (parts n).2.2.2.2.1 = ((fld n 12 3 : Nat) : Int) from rfl, h0]
      exact ⟨_, rfl, simple_fits (f := 1) hn c4 (by simp) (by rw [hd]; rfl) fun _ => rfl⟩
    · rw [show (parts n).2.2.2.2.1 = ((fld n 12 3 : Nat) : Int) from rfl, brF (by omega)]
      refine ⟨_, rfl, no_fits ?_ rfl⟩
      rw [hd]
      show (bif fld n 12 3 == 0 then 4 else 0) = 0
      rw [beq_eq_false_iff_ne.2 h0]; rfl
  rw [brF (by omega)]
  by_cases c5 : n % 128 = 99
  · rw [brT (by omega), q3, show (parts n).2.2.2.2.1 = ((fld n 12 3 : Nat) : Int) from rfl]
    have hd := dOp_at c5
    obtain hf | hf | hf | hf | hf | hf | hf | hf := f3_cases n <;> rw [hf] at hd ⊢ <;> exact ⟨_, rfl, simple_fits (f := 3) hn c5 (by simp) (by rw [hd]; rfl) fun _ => rfl⟩
  rw [brF (by omega)]
  by_cases c6 : n % 128 = 3
  · rw [brT (by omega), q1, show (parts n).2.2.2.2.1 = ((fld n 12 3 : Nat) : Int) from rfl]
    have hd := dOp_at c6
    obtain hf | hf | hf | hf | hf | hf | hf | hf := f3_cases n <;> rw [hf] at hd ⊢ <;> first
    | exact ⟨_, rfl, simple_fits (f := 1) hn c6 (by simp) (by rw [hd]; rfl) fun _ => rfl⟩
    | exact ⟨_, rfl, no_fits hd rfl⟩
  rw [brF (by omega)]
  by_cases c7 : n % 128 = 35
  · rw [brT (by omega), q2, show (parts n).2.2.2.2.1 = ((fld n 12 3 : Nat) : Int) from rfl]
    have hd := dOp_at c7
    obtain hf | hf | hf | hf | hf | hf | hf | hf := f3_cases n <;> rw [hf] at hd ⊢ <;> first
    | exact ⟨_, rfl, simple_fits (f := 2) hn c7 (by simp) (by rw [hd]; rfl) fun _ => rfl⟩
    | exact ⟨_, rfl, no_fits hd rfl⟩
  rw [brF (by omega)]
  by_cases c8 : n % 128 = 19
  · obtain ⟨imm, h1, h2⟩ := number_is hN hn c8
    rw [brT (by omega), h1, bindS_some]
    exact ⟨_, rfl, fits_plain rfl imm (fun h => by have := (h2 h).2; omega) fun h => (h2 h).1⟩
  rw [brF (by omega)]
  by_cases c9 : n % 128 = 27
  · obtain ⟨imm, h1, h2⟩ := numberW_is hN hn c9
    rw [brT (by omega), h1, bindS_some]
    exact ⟨_, rfl, fits_plain rfl imm (fun h => by have := (h2 h).2; omega) fun h => (h2 h).1⟩
  rw [brF (by omega)]
  by_cases c10 : n % 128 = 51
  · rw [brT (by omega)]
    have h1 : F162 N = some ([35, 37, 38, 39, 40, 41, 43, 44], [36, 0, 0, 0, 0, 42, 0, 0]) := rfl
    rw [h1, bindS_some, wide_is hn c10, bindS_some]
    exact ⟨_, rfl, fits_plain rfl 0 (fun h => by have := (grp_no hn c10 (by simp) h).2.2; omega) fun h => by obtain ⟨h1, h2, _⟩ := grp_no hn c10 (by simp) h; exact imm_no h2 h1⟩
  rw [brF (by omega)]
  by_cases c11 : n % 128 = 59
  · rw [brT (by omega)]
    have h1 : F164 N = some ([45, 47, 0, 0, 0, 48, 0, 0], [46, 0, 0, 0, 0, 49, 0, 0]) := rfl
    rw [h1, bindS_some, narrow_is hn c11, bindS_some]
    exact ⟨_, rfl, fits_plain rfl 0 (fun h => by have := (grp_no hn c11 (by simp) h).2.2; omega) fun h => by obtain ⟨h1, h2, _⟩ := grp_no hn c11 (by simp) h; exact imm_no h2 h1⟩
  rw [brF (by omega)]
  by_cases c12 : n % 128 = 15
  · rw [brT (by omega), show (parts n).2.2.2.2.1 = ((fld n 12 3 : Nat) : Int) from rfl]
    by_cases h0 : fld n 12 3 = 0
    · obtain ⟨x, h1, h2⟩ := fence_is (N := N) hn c12 h0
      rw [brT (by omega), h1, bindS_some]
      exact ⟨x, rfl, h2⟩
    · rw [brF (by omega)]
      refine ⟨_, rfl, no_fits ?_ rfl⟩
      rw [dOp_at c12]
      show (bif fld n 12 3 == 0 then _ else 0) = 0
      rw [beq_eq_false_iff_ne.2 h0]; rfl
  rw [brF (by omega)]
  by_cases c13 : n % 128 = 115
  · rw [brT (by omega)]
    have hd := dOp_at c13
    by_cases h1 : n = 115
    · have h : dOp n = 52 := by rw [h1]; rfl
      rw [brT (by omega)]
      exact ⟨_, rfl, fits_plain (k := 52) h 0 (fun _ => by omega) fun _ => imm_no rfl rfl⟩
    · rw [brF (by omega)]
      by_cases h2 : n = 1048691
      · have h : dOp n = 53 := by rw [h2]; rfl
        rw [brT (by omega)]
        exact ⟨_, rfl, fits_plain (k := 53) h 0 (fun _ => by omega) fun _ => imm_no rfl rfl⟩
      · rw [brF (by omega)]
        refine ⟨_, rfl, no_fits ?_ rfl⟩
        rw [hd, beq_eq_false_iff_ne.2 h1, beq_eq_false_iff_ne.2 h2]; rfl
  rw [brF (by omega)]
  by_cases c14 : n % 128 = 47
  · rw [brT (by omega), atomic_is hn c14, bindS_some, e26, e25]
    refine ⟨_, rfl, rfl, fun h => ?_⟩
    obtain ⟨h1, h2, h3⟩ := grp_at hn h
    rw [c14] at h1
    simp only [grpOk, Bool.or_eq_true, Bool.and_eq_true, beq_iff_eq, ← h1] at h2
    simp at h2
    have h54 : Nat.ble 54 (dOp n) = true := by simpa using h2.2
    have h54' := Nat.le_of_ble_eq_true h54
    unfold clean insN
    rw [h3, h54, imm_no h2.1.2 h2.1.1]
    simp only [if_neg (show ¬ dOp n = 51 by omega), if_neg (show ¬ dOp n = 50 by omega), Bool.true_and]
    rfl
  rw [brF (by omega)]
  refine ⟨_, rfl, no_fits (dP_none _ ?_) rfl⟩
  simp only [lk, codes, List.mem_cons, List.not_mem_nil, or_false, not_or]
  omega

theorem Decode_is {N : Nat} (hN : 100 ≤ N) {n : Nat} (hn : n < 4294967296) : F56 N n = some (if dOp n = 0 then (noIns, 2) else (insN n (dOp n), 0)) := by
  obtain ⟨x, h1, h2, h3⟩ := inst_is hN hn
  unfold F56 R56
  rw [split_is N hn, bindS_some, h1, bindS_some, h2]
  by_cases h0 : dOp n = 0
  · rw [brT (by omega), if_pos h0]; rfl
  · rw [brF (by omega), Clean_is hN, bindS_some, if_neg h0, h3 h0]
end Go.Proofs.YtkcfkegkhopakaaGreatDoor
