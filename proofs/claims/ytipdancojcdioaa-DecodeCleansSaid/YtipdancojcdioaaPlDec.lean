/- Which operation a word has: the document's tests and the program's tree of cases are the same. No condition. -/
import Derived.Test.YtipdancojcdioaaPlOps
namespace Go.Proofs.Ytipdancojcdioaa
open Go Go.Ev Go.Sh
set_option linter.unusedVariables false
set_option linter.unusedSimpArgs false
set_option maxRecDepth 100000

/-- what is looked at of a word -/
structure Lk where
  a : Nat
  f3 : Nat
  z7 : Bool
  t7 : Bool
  z6 : Bool
  t6 : Bool
  five : Nat
  r0 : Bool
  fen : Bool
  e1 : Bool
  e2 : Bool

def lk (n : Nat) : Lk := ⟨n % 128, fld n 12 3, n / 2 ^ 25 == 0, n / 2 ^ 25 == 32, n / 2 ^ 26 == 0, n / 2 ^ 26 == 16, n / 2 ^ 27, fld n 20 5 == 0, n / 2 ^ 20 == 2099, n == 115, n == 1048691⟩

/-- the document's test -/
def isP (l : Lk) (k : Nat) : Bool :=
  (l.a == opc k) && (bif decide (srt k = 1) || k == 3 then true else bif decide (srt k = 9) then (l.e1 && k == 52) || (l.e2 && k == 53) else
  bif decide (srt k = 8) then l.f3 == 0 && (l.fen == (k == 51)) else (l.f3 == f3O k) && (
    bif decide (srt k = 7) || shf k == 5 then (bif trn k then l.t7 else l.z7) else bif shf k == 6 then (bif trn k then l.t6 else l.z6) else
    bif decide (srt k = 10) then (l.five == 2 && l.r0) else bif decide (10 < srt k) then l.five == fiv k else true))

def atP (l : Lk) : Nat :=
  bif l.five == 2 then (bif l.r0 then 54 else 0) else bif l.five == 3 then 56 else bif l.five == 1 then 58 else bif l.five == 0 then 59 else bif l.five == 4 then 60 else bif l.five == 12 then 61 else
  bif l.five == 8 then 62 else bif l.five == 16 then 63 else bif l.five == 20 then 64 else bif l.five == 24 then 65 else bif l.five == 28 then 66 else 0

/-- the program's tree -/
def dP (l : Lk) : Nat :=
  bif l.a == 55 then 1 else bif l.a == 23 then 2 else bif l.a == 111 then 3 else bif l.a == 103 then (bif l.f3 == 0 then 4 else 0) else
  bif l.a == 99 then [5, 6, 0, 0, 7, 8, 9, 10].getD l.f3 0 else bif l.a == 3 then [11, 12, 13, 14, 15, 16, 17, 0].getD l.f3 0 else bif l.a == 35 then [18, 19, 20, 21].getD l.f3 0 else
  bif l.a == 19 then (bif l.f3 == 1 && l.z6 then 28 else bif l.f3 == 5 && l.z6 then 29 else bif l.f3 == 5 && l.t6 then 30 else [22, 0, 23, 24, 25, 0, 26, 27].getD l.f3 0) else
  bif l.a == 27 then (bif l.f3 == 0 then 31 else bif l.f3 == 1 && l.z7 then 32 else bif l.f3 == 5 && l.z7 then 33 else bif l.f3 == 5 && l.t7 then 34 else 0) else
  bif l.a == 51 then (bif l.z7 then [35, 37, 38, 39, 40, 41, 43, 44].getD l.f3 0 else bif l.t7 then [36, 0, 0, 0, 0, 42, 0, 0].getD l.f3 0 else 0) else
  bif l.a == 59 then (bif l.z7 then [45, 47, 0, 0, 0, 48, 0, 0].getD l.f3 0 else bif l.t7 then [46, 0, 0, 0, 0, 49, 0, 0].getD l.f3 0 else 0) else
  bif l.a == 15 then (bif l.f3 == 0 then (bif l.fen then 51 else 50) else 0) else
  bif l.a == 115 then (bif l.e1 then 52 else bif l.e2 then 53 else 0) else
  bif l.a == 47 then (bif (atP l == 0) || l.f3 == 2 then atP l else bif !(l.f3 == 3) then 0 else bif Nat.ble (atP l) 56 then atP l + 1 else atP l + 9) else 0

def agree (l : Lk) : Bool := (List.range 75).all fun i => isP l (i + 1) == (dP l == i + 1)

def prs : List (Bool × Bool) := [(false, false), (true, false), (false, true)]
section
variable (f3 : Nat) (z7 t7 z6 t6 : Bool) (five : Nat) (r0 fen e1 e2 : Bool)
theorem ag55 : agree ⟨55, f3, z7, t7, z6, t6, five, r0, fen, e1, e2⟩ = true := by kernel_rfl
theorem ag23 : agree ⟨23, f3, z7, t7, z6, t6, five, r0, fen, e1, e2⟩ = true := by kernel_rfl
theorem ag111 : agree ⟨111, f3, z7, t7, z6, t6, five, r0, fen, e1, e2⟩ = true := by kernel_rfl
theorem ag103 : ((List.range 8).all fun f3 => agree ⟨103, f3, z7, t7, z6, t6, five, r0, fen, e1, e2⟩) = true := by kernel_rfl
theorem ag99 : ((List.range 8).all fun f3 => agree ⟨99, f3, z7, t7, z6, t6, five, r0, fen, e1, e2⟩) = true := by kernel_rfl
theorem ag3 : ((List.range 8).all fun f3 => agree ⟨3, f3, z7, t7, z6, t6, five, r0, fen, e1, e2⟩) = true := by kernel_rfl
theorem ag35 : ((List.range 8).all fun f3 => agree ⟨35, f3, z7, t7, z6, t6, five, r0, fen, e1, e2⟩) = true := by kernel_rfl
theorem ag19 : ((List.range 8).all fun f3 => prs.all fun p => agree ⟨19, f3, z7, t7, p.1, p.2, five, r0, fen, e1, e2⟩) = true := by kernel_rfl
theorem ag27 : ((List.range 8).all fun f3 => prs.all fun p => agree ⟨27, f3, p.1, p.2, z6, t6, five, r0, fen, e1, e2⟩) = true := by kernel_rfl
theorem ag51 : ((List.range 8).all fun f3 => prs.all fun p => agree ⟨51, f3, p.1, p.2, z6, t6, five, r0, fen, e1, e2⟩) = true := by kernel_rfl
theorem ag59 : ((List.range 8).all fun f3 => prs.all fun p => agree ⟨59, f3, p.1, p.2, z6, t6, five, r0, fen, e1, e2⟩) = true := by kernel_rfl
theorem ag15 : ((List.range 8).all fun f3 => [false, true].all fun fen => agree ⟨15, f3, z7, t7, z6, t6, five, r0, fen, e1, e2⟩) = true := by kernel_rfl
theorem ag115 : (prs.all fun p => agree ⟨115, f3, z7, t7, z6, t6, five, r0, fen, p.1, p.2⟩) = true := by kernel_rfl
theorem ag47 : ((List.range 8).all fun f3 => (List.range 32).all fun five => [false, true].all fun r0 => agree ⟨47, f3, z7, t7, z6, t6, five, r0, fen, e1, e2⟩) = true := by kernel_rfl
end

def codes : List Nat := [55, 23, 111, 103, 99, 3, 35, 19, 27, 51, 59, 15, 115, 47]
theorem opc_code : ((List.range 75).all fun i => codes.contains (opc (i + 1))) = true := by kernel_rfl

theorem prs_mem {p q : Bool} (h : ¬ (p = true ∧ q = true)) : (p, q) ∈ prs := by
  cases p <;> cases q <;> simp [prs] at h ⊢
theorem bool_mem (b : Bool) : b ∈ [false, true] := by cases b <;> simp

theorem dP_none (l : Lk) (h : ¬ l.a ∈ codes) : dP l = 0 := by
  simp only [codes, List.mem_cons, List.not_mem_nil, or_false, not_or] at h
  obtain ⟨h1, h2, h3, h4, h5, h6, h7, h8, h9, h10, h11, h12, h13, h14⟩ := h
  unfold dP
  simp only [beq_eq_false_iff_ne.2 h1, beq_eq_false_iff_ne.2 h2, beq_eq_false_iff_ne.2 h3, beq_eq_false_iff_ne.2 h4, beq_eq_false_iff_ne.2 h5, beq_eq_false_iff_ne.2 h6, beq_eq_false_iff_ne.2 h7, beq_eq_false_iff_ne.2 h8, beq_eq_false_iff_ne.2 h9, beq_eq_false_iff_ne.2 h10, beq_eq_false_iff_ne.2 h11, beq_eq_false_iff_ne.2 h12, beq_eq_false_iff_ne.2 h13, beq_eq_false_iff_ne.2 h14, cond_false]

theorem agree_all (l : Lk) (h3 : l.f3 < 8) (h5 : l.five < 32) (h7 : ¬ (l.z7 = true ∧ l.t7 = true)) (h6 : ¬ (l.z6 = true ∧ l.t6 = true)) (he : ¬ (l.e1 = true ∧ l.e2 = true)) : agree l = true := by
  obtain ⟨a, f3, z7, t7, z6, t6, five, r0, fen, e1, e2⟩ := l
  simp only at h3 h5 h7 h6 he
  by_cases hc : a ∈ codes
  · simp only [codes, List.mem_cons, List.not_mem_nil, or_false] at hc
    have m3 := List.mem_range.2 h3
    obtain rfl | rfl | rfl | rfl | rfl | rfl | rfl | rfl | rfl | rfl | rfl | rfl | rfl | rfl := hc
    · exact ag55 f3 z7 t7 z6 t6 five r0 fen e1 e2
    · exact ag23 f3 z7 t7 z6 t6 five r0 fen e1 e2
    · exact ag111 f3 z7 t7 z6 t6 five r0 fen e1 e2
    · exact List.all_eq_true.1 (ag103 z7 t7 z6 t6 five r0 fen e1 e2) f3 m3
    · exact List.all_eq_true.1 (ag99 z7 t7 z6 t6 five r0 fen e1 e2) f3 m3
    · exact List.all_eq_true.1 (ag3 z7 t7 z6 t6 five r0 fen e1 e2) f3 m3
    · exact List.all_eq_true.1 (ag35 z7 t7 z6 t6 five r0 fen e1 e2) f3 m3
    · exact List.all_eq_true.1 (List.all_eq_true.1 (ag19 z7 t7 five r0 fen e1 e2) f3 m3) (z6, t6) (prs_mem h6)
    · exact List.all_eq_true.1 (List.all_eq_true.1 (ag27 z6 t6 five r0 fen e1 e2) f3 m3) (z7, t7) (prs_mem h7)
    · exact List.all_eq_true.1 (List.all_eq_true.1 (ag51 z6 t6 five r0 fen e1 e2) f3 m3) (z7, t7) (prs_mem h7)
    · exact List.all_eq_true.1 (List.all_eq_true.1 (ag59 z6 t6 five r0 fen e1 e2) f3 m3) (z7, t7) (prs_mem h7)
    · exact List.all_eq_true.1 (List.all_eq_true.1 (ag15 z7 t7 z6 t6 five r0 e1 e2) f3 m3) fen (bool_mem _)
    · exact List.all_eq_true.1 (ag115 f3 z7 t7 z6 t6 five r0 fen) (e1, e2) (prs_mem he)
    · exact List.all_eq_true.1 (List.all_eq_true.1 (List.all_eq_true.1 (ag47 z7 t7 z6 t6 fen e1 e2) f3 m3) five (List.mem_range.2 h5)) r0 (bool_mem _)
  · unfold agree
    rw [dP_none _ hc]
    refine List.all_eq_true.2 fun i hi => ?_
    have := List.all_eq_true.1 opc_code i hi
    have hne : ¬ a = opc (i + 1) := fun e => hc (by rw [e]; simpa using this)
    simp only [isP, beq_eq_false_iff_ne.2 hne, Bool.false_and]
    rfl

theorem agree_lk (n : Nat) (hn : n < 4294967296) : agree (lk n) = true := by
  refine agree_all _ (fld_lt n 12 3) ?_ ?_ ?_ ?_ <;> simp only [lk, beq_iff_eq] <;> omega

/-- a word's operation -/
def dOp (n : Nat) : Nat := dP (lk n)

theorem isP_iff {n : Nat} (hn : n < 4294967296) {k : Nat} (h1 : 1 ≤ k) (h2 : k ≤ 75) : isP (lk n) k = (dOp n == k) := by
  have := List.all_eq_true.1 (agree_lk n hn) (k - 1) (List.mem_range.2 (by omega))
  rw [show k - 1 + 1 = k by omega] at this
  exact beq_iff_eq.1 this

theorem dP_le (l : Lk) : dP l ≤ 75 := by
  have hl : ∀ (t : List Nat) (i : Nat), (∀ x ∈ t, x ≤ 75) → t.getD i 0 ≤ 75 := by
    intro t i h
    rw [List.getD_eq_getElem?_getD]
    cases hx : t[i]? with
    | none => simp
    | some x => exact h x (List.mem_of_getElem? hx)
  have ha : atP l ≤ 66 := by
    unfold atP
    simp only [Bool.cond_eq_ite]
    repeat' split
    all_goals omega
  unfold dP
  have e : ∀ (c : Bool) (x y : Nat), x ≤ 75 → y ≤ 75 → (bif c then x else y) ≤ 75 := by intro c x y h1 h2; cases c <;> assumption
  repeat' apply e
  all_goals first | decide | omega | (apply hl; decide)

theorem dOp_le (n : Nat) : dOp n ≤ 75 := dP_le _
theorem dOp_opc {n : Nat} (hn : n < 4294967296) (h : dOp n ≠ 0) : n % 128 = opc (dOp n) := by
  have := isP_iff hn (k := dOp n) (by omega) (dOp_le n)
  rw [beq_self_eq_true] at this
  simp only [isP, lk, Bool.and_eq_true, beq_iff_eq] at this
  exact this.1
end Go.Proofs.Ytipdancojcdioaa
