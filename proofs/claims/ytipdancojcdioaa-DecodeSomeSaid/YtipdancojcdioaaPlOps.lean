/- Operations: sorts, codes, registers, of the program and of the document. No condition. -/
import Derived.Test.YtipdancojcdioaaPlGet
import Derived.Test.YtipdancojcdioaaShT
namespace Go.Proofs.Ytipdancojcdioaa
open Go Go.Ev Go.Sh
set_option linter.unusedVariables false
set_option linter.unusedSimpArgs false
set_option maxRecDepth 100000

/-- an operation's sort -/
def srt (op : Int) : Int :=
  if op < 1 then 0 else if op ≤ 2 then 1 else if op ≤ 4 then 2 else if op ≤ 10 then 3 else if op ≤ 17 then 4 else if op ≤ 21 then 5 else if op ≤ 34 then 6 else if op ≤ 49 then 7
  else if op ≤ 51 then 8 else if op ≤ 53 then 9 else if op ≤ 55 then 10 else if op ≤ 57 then 11 else if op ≤ 75 then 12 else 0

theorem srt_out {op : Int} (h : op < 1 ∨ 75 < op) : srt op = 0 := by
  unfold srt
  by_cases h1 : op < 1
  · rw [if_pos h1]
  · rw [if_neg h1, if_neg (by omega), if_neg (by omega), if_neg (by omega), if_neg (by omega), if_neg (by omega), if_neg (by omega), if_neg (by omega), if_neg (by omega), if_neg (by omega), if_neg (by omega), if_neg (by omega), if_neg (by omega)]

theorem ite_P {α : Type} {P : α → Prop} {c : Prop} [Decidable c] {a b : α} (ha : P a) (hb : P b) : P (if c then a else b) := by
  split <;> assumption

def Sp (s : Int) : Prop := s = 0 ∨ s = 1 ∨ s = 2 ∨ s = 3 ∨ s = 4 ∨ s = 5 ∨ s = 6 ∨ s = 7 ∨ s = 8 ∨ s = 9 ∨ s = 10 ∨ s = 11 ∨ s = 12
theorem srt_cases (op : Int) : srt op = 0 ∨ srt op = 1 ∨ srt op = 2 ∨ srt op = 3 ∨ srt op = 4 ∨ srt op = 5 ∨ srt op = 6 ∨ srt op = 7 ∨ srt op = 8 ∨ srt op = 9 ∨ srt op = 10 ∨ srt op = 11 ∨ srt op = 12 := by
  have : Sp (srt op) := by
    unfold srt
    iterate 13 refine ite_P (P := Sp) (by simp [Sp]) ?_
    simp [Sp]
  exact this

/-- it reads rs2; rs1; writes rd -/
def seO (op : Int) : Bool := decide (srt op = 3) || (decide (srt op = 5) || (decide (srt op = 7) || (decide (srt op = 11) || decide (srt op = 12))))
def fiO (op : Int) : Bool := seO op || (decide (srt op = 4) || (decide (srt op = 6) || (decide (srt op = 10) || (decide (srt op = 2) && decide (op = 4)))))
def wrO (op : Int) : Bool := !(decide (srt op = 0) || (decide (srt op = 3) || (decide (srt op = 5) || (decide (srt op = 8) || decide (srt op = 9)))))

def opcT : List Nat := [0, 55, 23, 111, 103, 99, 99, 99, 99, 99, 99, 3, 3, 3, 3, 3, 3, 3, 35, 35, 35, 35, 19, 19, 19, 19, 19, 19, 19, 19, 19, 27, 27, 27, 27, 51, 51, 51, 51, 51, 51, 51, 51, 51, 51, 59, 59, 59, 59, 59, 15, 15, 115, 115,
  47, 47, 47, 47, 47, 47, 47, 47, 47, 47, 47, 47, 47, 47, 47, 47, 47, 47, 47, 47, 47, 47]
def f3T : List Nat := [0, 0, 0, 0, 0, 0, 1, 4, 5, 6, 7, 0, 1, 2, 3, 4, 5, 6, 0, 1, 2, 3, 0, 2, 3, 4, 6, 7, 1, 5, 5, 0, 1, 5, 5, 0, 0, 1, 2, 3, 4, 5, 5, 6, 7, 0, 0, 1, 5, 5, 0, 0, 0, 0,
  2, 3, 2, 3, 2, 2, 2, 2, 2, 2, 2, 2, 2, 3, 3, 3, 3, 3, 3, 3, 3, 3]
def fivT : List Nat := [2, 2, 3, 3, 1, 0, 4, 12, 8, 16, 20, 24, 28, 1, 0, 4, 12, 8, 16, 20, 24, 28]
def opc (k : Nat) : Nat := opcT.getD k 0
def f3O (k : Nat) : Nat := f3T.getD k 0
def trn (k : Nat) : Bool := k == 30 || (k == 34 || (k == 36 || (k == 42 || (k == 46 || k == 49))))
def shf (k : Nat) : Nat := if k = 28 ∨ k = 29 ∨ k = 30 then 6 else if k = 32 ∨ k = 33 ∨ k = 34 then 5 else 0
def fmtO (k : Nat) : Nat := if shf k > 0 then 0 else if srt k = 1 then 4 else if srt k = 2 then (if k = 3 then 5 else 1) else if srt k = 3 then 3 else if srt k = 4 ∨ srt k = 6 then 1 else if srt k = 5 then 2 else 0
def fiv (k : Nat) : Nat := fivT.getD (k - 54) 0

def chkTab (N : Nat) (k : Nat) : Bool :=
  (F57 N k == some (srt k)) && ((F63 N k == some (srt k)) && ((F48 N k == some (opc k : Int)) && ((F49 N k == some (opc k : Int)) && ((F50 N k == some (f3O k : Int)) && ((F99 N k == some (trn k)) &&
  ((F87 N k == some (shf k : Int)) && ((F85 N k == some (fmtO k : Int)) && ((Nat.blt k 54 || F100 N k == some (fiv k : Int)) && ((F51 N k == some (wrO k)) && ((F52 N k == some (fiO k)) && (F53 N k == some (seO k))))))))))))

theorem tab_all (M : Nat) : ((List.range 75).all fun i => chkTab (M + 100) (i + 1)) = true := by kernel_rfl

structure TabOk (N k : Nat) : Prop where
  sortP : F57 N k = some (srt k)
  sortR : F63 N k = some (srt k)
  opcR : F48 N k = some (opc k : Int)
  opcP : F49 N k = some (opc k : Int)
  f3R : F50 N k = some (f3O k : Int)
  trnR : F99 N k = some (trn k)
  shfR : F87 N k = some (shf k : Int)
  fmtR : F85 N k = some (fmtO k : Int)
  fivR : 54 ≤ k → F100 N k = some (fiv k : Int)
  wrR : F51 N k = some (wrO k)
  fiR : F52 N k = some (fiO k)
  seR : F53 N k = some (seO k)

theorem tab_is {N : Nat} (hN : 100 ≤ N) {k : Nat} (h1 : 1 ≤ k) (h2 : k ≤ 75) : TabOk N k := by
  obtain ⟨M, rfl⟩ : ∃ M, N = M + 100 := ⟨N - 100, by omega⟩
  have := List.all_eq_true.1 (tab_all M) (k - 1) (List.mem_range.2 (by omega))
  rw [show k - 1 + 1 = k by omega] at this
  simp only [chkTab, Bool.and_eq_true, beq_iff_eq, Bool.or_eq_true] at this
  obtain ⟨a0, a1, a2, a3, a4, a5, a6, a7, a8, a9, a10, a11⟩ := this
  refine ⟨a0, a1, a2, a3, a4, a5, a6, a7, fun h => ?_, a9, a10, a11⟩
  rcases a8 with a8 | a8
  · rw [Nat.blt_eq] at a8; omega
  · exact a8

theorem Sort_is {N : Nat} (hN : 100 ≤ N) (op : Int) : F57 N op = some (srt op) := by
  by_cases h : op < 1 ∨ 75 < op
  · rw [srt_out h]
    unfold F57
    simp only [jp_eq, br_ite]
    by_cases h1 : op < 1
    · simp [h1]
    · have h2 : 75 < op := by omega
      simp [h1, h2]
  · obtain ⟨k, hk⟩ : ∃ k : Nat, op = (k : Int) := ⟨op.toNat, by omega⟩
    subst hk
    exact (tab_is hN (k := k) (by omega) (by omega)).sortP

/-! ### what is no operation -/
theorem rSort_out {N : Nat} (hN : 100 ≤ N) {op : Int} (h : op < 1 ∨ 75 < op) (hm : op ≤ 9223372036854775807) : F63 N op = some 0 := by
  unfold F63
  cases h1 : decide (op < 1) with
  | true => rfl
  | false =>
    have h2 := of_decide_eq_false h1
    rw [br_f]
    have hsum : ∀ i, i < 12 → (([2, 2, 6, 7, 4, 13, 15, 2, 2, 2, 2, 18] : List Int).getD i 0) + ((([2, 2, 6, 7, 4, 13, 15, 2, 2, 2, 2, 18] : List Int).drop (i + 1)).foldl (· + ·) 0) = (([2, 2, 6, 7, 4, 13, 15, 2, 2, 2, 2, 18] : List Int).drop i).foldl (· + ·) 0 := by decide
    have hpos : ∀ i, i ≤ 12 → 0 ≤ ((([2, 2, 6, 7, 4, 13, 15, 2, 2, 2, 2, 18] : List Int).drop i).foldl (· + ·) 0) := by decide
    have hpos2 : ∀ i, i < 12 → 0 ≤ (([2, 2, 6, 7, 4, 13, 15, 2, 2, 2, 2, 18] : List Int).getD i 0) := by decide
    refine fixN_ind (fun m (y : Int × Int) => ∃ i : Nat, y.2 = i ∧ i + m = 12 ∧ (([2, 2, 6, 7, 4, 13, 15, 2, 2, 2, 2, 18] : List Int).drop i).foldl (· + ·) 0 < y.1 ∧ y.1 ≤ 9223372036854775807) (fun _ o => o = some 0) ?_ N 12 _ (by omega) ⟨0, rfl, rfl, by show (75 : Int) < op; omega, hm⟩
    rintro m ⟨v, i0⟩ again ⟨i, g1, g2, g3, g4⟩ ih
    simp only at g1 g3 g4
    subst g1
    rcases Nat.eq_zero_or_pos m with h0 | h0
    · obtain rfl : i = 12 := by omega
      rfl
    · have a := hsum i (by omega)
      have b := hpos (i + 1) (by omega)
      have c := hpos2 i (by omega)
      have d1 : decide ((i : Int) < (↑[2, 2, 6, 7, 4, 13, 15, 2, 2, 2, 2, 18].length : Int)) = true := decide_eq_true (by simp only [List.length_cons, List.length_nil]; omega)
      have d2 : decide ((0 : Int) ≤ (i : Int)) = true := decide_eq_true (by omega)
      have d3 : decide (v ≤ ([2, 2, 6, 7, 4, 13, 15, 2, 2, 2, 2, 18] : List Int).getD i 0) = false := decide_eq_false (by omega)
      simp only [Int.toNat_natCast]
      rw [br_true d1, chk_true (by rw [d2, d1]; rfl), br_false d3, chk_true (by rw [d2, d1]; rfl)]
      rw [wrap64 (n := (i : Int) + 1) (by omega) (by omega), wrap64 (by omega) (by omega)]
      exact ih (m - 1) (v - ([2, 2, 6, 7, 4, 13, 15, 2, 2, 2, 2, 18] : List Int).getD i 0, (i : Int) + 1) (by omega) ⟨i + 1, rfl, by omega, by show _ < v - _; omega, by show v - _ ≤ _; omega⟩

theorem rName_out (N : Nat) {op : Int} (h : op < 1 ∨ 75 < op) : F68 N op = some [] := by
  unfold F68
  have e : F25 N = some ((F25 N).getD []) := rfl
  rw [e, bindS_some]
  have e2 : (((F25 N).getD []).length : Int) = 75 := by kernel_rfl
  simp only [jp_eq, e2, br_ite]
  by_cases h1 : op < 1
  · simp [h1]
  · have h2 : 75 < op := by omega
    simp [h1, h2]

theorem opcode_out {N : Nat} (hN : 100 ≤ N) {op : Int} (h : op < 1 ∨ 75 < op) (hm : op ≤ 9223372036854775807) : F49 N op = some 0 ∧ F48 N op = some 0 := by
  refine ⟨?_, ?_⟩
  · unfold F49; rw [Sort_is hN, srt_out h]; rfl
  · unfold F48; rw [rName_out N h, rSort_out hN h hm]; rfl

/-- the document's three, of every operation -/
theorem rRegs_is {N : Nat} (hN : 100 ≤ N) (op : Int) (hm : op ≤ 9223372036854775807) : F51 N op = some (wrO op) ∧ F52 N op = some (fiO op) ∧ F53 N op = some (seO op) := by
  by_cases h : op < 1 ∨ 75 < op
  · have e2 := rSort_out hN h hm
    have ek := srt_out h
    have e3 := rName_out N h
    unfold wrO fiO seO
    rw [ek]
    refine ⟨?_, ?_, ?_⟩
    · unfold F51; rw [e2]; rfl
    · unfold F52; first | (rw [e2, e3]; rfl) | (rw [e2]; rfl)
    · unfold F53; rw [e2]; rfl
  · obtain ⟨k, hk⟩ : ∃ k : Nat, op = (k : Int) := ⟨op.toNat, by omega⟩
    subst hk
    have := tab_is hN (k := k) (by omega) (by omega)
    exact ⟨this.wrR, this.fiR, this.seR⟩

/-! ### the program's registers -/
def clp (x : Int) : Int := if x < 0 ∨ 31 < x then 0 else x
theorem register_is (N : Nat) (x : Int) : F61 N x = some (clp x) := by
  unfold F61 clp
  simp only [jp_eq, br_ite]
  by_cases h1 : x < 0 <;> by_cases h2 : 31 < x <;> simp [h1, h2]

abbrev Ins := Int × Int × Int × Int × Int × Bool × Bool × Int × Int

theorem Target_full {N : Nat} (hN : 100 ≤ N) (op : Int) : F40 N (op, 1, 2, 3, 0, false, false, 0, 0) = some (if wrO op then 1 else 0) := by
  unfold F40 wrO
  rw [Sort_is hN, bindS_some, register_is]
  obtain h | h | h | h | h | h | h | h | h | h | h | h | h := srt_cases op <;> rw [h] <;> rfl

theorem Sources_full {N : Nat} (hN : 100 ≤ N) (op : Int) : F38 N (op, 1, 2, 3, 0, false, false, 0, 0) = some (if seO op then [2, 3] else if fiO op then [2] else []) := by
  obtain ⟨M, rfl⟩ : ∃ M, N = M + 100 := ⟨N - 100, by omega⟩
  unfold F38 fiO seO
  rw [Sort_is hN, bindS_some]
  simp only [register_is]
  generalize decide (op = 4) = b
  obtain h | h | h | h | h | h | h | h | h | h | h | h | h := srt_cases op <;> rw [h] <;> cases b <;> kernel_rfl

/-- an instruction without the registers that its operation hasn't -/
def clean (x : Ins) : Ins := (x.1, if wrO x.1 then x.2.1 else 0, if fiO x.1 then x.2.2.1 else 0, if seO x.1 then x.2.2.2.1 else 0, x.2.2.2.2)

theorem Clean_is {N : Nat} (hN : 100 ≤ N) (x : Ins) : F54 N x = some (clean x) := by
  obtain ⟨M, rfl⟩ : ∃ M, N = M + 100 := ⟨N - 100, by omega⟩
  obtain ⟨op, rd, r1, r2, rest⟩ := x
  unfold F54 clean
  simp only
  rw [Target_full (by omega), Sources_full (by omega)]
  simp only [bindS_some, jp_eq]
  have hs : seO op = true → fiO op = true := fun h => by unfold fiO; rw [h]; rfl
  generalize wrO op = w
  generalize hf : fiO op = f at hs ⊢
  generalize hz : seO op = z at hs ⊢
  clear hf hz
  cases z with
  | true =>
    obtain rfl := hs rfl
    cases w <;> (show _ = _; kernel_rfl)
  | false => cases f <;> cases w <;> (show _ = _; kernel_rfl)
end Go.Proofs.Ytipdancojcdioaa
