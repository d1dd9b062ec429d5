/- The program's decoder: the instruction of every word. No condition. -/
import Derived.Test.YtipdancojcdioaaPlDec2
namespace Go.Proofs.Ytipdancojcdioaa
open Go Go.Ev Go.Sh
set_option linter.unusedVariables false
set_option linter.unusedSimpArgs false
set_option maxRecDepth 100000

abbrev Parts := Int × Int × Int × Int × Int × Int
def parts (n : Nat) : Parts := ((n : Int), (fld n 7 5 : Nat), (fld n 15 5 : Nat), (fld n 20 5 : Nat), (fld n 12 3 : Nat), (fld n 25 7 : Nat))

theorem FieldL (N : Nat) {n : Nat} (hn : n < 4294967296) : F97 N n 11 7 = some ((fld n 7 5 : Nat) : Int) ∧ F97 N n 19 15 = some ((fld n 15 5 : Nat) : Int) ∧ F97 N n 24 20 = some ((fld n 20 5 : Nat) : Int) ∧
    F97 N n 14 12 = some ((fld n 12 3 : Nat) : Int) ∧ F97 N n 31 25 = some ((fld n 25 7 : Nat) : Int) ∧ F97 N n 25 20 = some ((fld n 20 6 : Nat) : Int) ∧ F97 N n 31 26 = some ((fld n 26 6 : Nat) : Int) ∧
    F97 N n 31 27 = some ((fld n 27 5 : Nat) : Int) ∧ F97 N n 31 20 = some ((fld n 20 12 : Nat) : Int) ∧ F97 N n 27 24 = some ((fld n 24 4 : Nat) : Int) ∧ F97 N n 23 20 = some ((fld n 20 4 : Nat) : Int) :=
  ⟨Field_is N hn (hi := 11) (lo := 7) (by decide) (by decide), Field_is N hn (hi := 19) (lo := 15) (by decide) (by decide), Field_is N hn (hi := 24) (lo := 20) (by decide) (by decide), Field_is N hn (hi := 14) (lo := 12) (by decide) (by decide),
   Field_is N hn (hi := 31) (lo := 25) (by decide) (by decide), Field_is N hn (hi := 25) (lo := 20) (by decide) (by decide), Field_is N hn (hi := 31) (lo := 26) (by decide) (by decide), Field_is N hn (hi := 31) (lo := 27) (by decide) (by decide),
   Field_is N hn (hi := 31) (lo := 20) (by decide) (by decide), Field_is N hn (hi := 27) (lo := 24) (by decide) (by decide), Field_is N hn (hi := 23) (lo := 20) (by decide) (by decide)⟩

theorem split_is (N : Nat) {n : Nat} (hn : n < 4294967296) : F80 N n = some (parts n) := by
  obtain ⟨a1, a2, a3, a4, a5, -⟩ := FieldL N hn
  have l1 := fld_lt n 7 5
  have l2 := fld_lt n 15 5
  have l3 := fld_lt n 20 5
  unfold F80 F96
  rw [a1, a2, a3, a4, a5]
  simp only [bindS_some]
  rw [i64N (by omega), i64N (by omega), i64N (by omega)]
  rfl

/-- facts of the operations of a code -/
def grpOk (k : Nat) : Bool :=
  (opc k == 55 || opc k == 23) && (fmtO k == 4 && shf k == 0 && Nat.blt k 50) || (opc k == 111) && (fmtO k == 5 && shf k == 0 && Nat.blt k 50) || (opc k == 103 || opc k == 3) && (fmtO k == 1 && shf k == 0 && Nat.blt k 50) ||
  (opc k == 99) && (fmtO k == 3 && shf k == 0 && Nat.blt k 50) || (opc k == 35) && (fmtO k == 2 && shf k == 0 && Nat.blt k 50) ||
  (opc k == 19) && ((Nat.ble 28 k && Nat.ble k 30) && shf k == 6 || !(Nat.ble 28 k && Nat.ble k 30) && shf k == 0 && fmtO k == 1) && Nat.blt k 50 ||
  (opc k == 27) && (Nat.ble 32 k && shf k == 5 || Nat.blt k 32 && shf k == 0 && fmtO k == 1) && Nat.blt k 50 ||
  (opc k == 51 || opc k == 59) && (fmtO k == 0 && shf k == 0 && Nat.blt k 50) ||
  (opc k == 15) && (fmtO k == 0 && shf k == 0 && (k == 50 || k == 51) && !(wrO k) && !(fiO k) && !(seO k)) ||
  (opc k == 115) && (fmtO k == 0 && shf k == 0 && (k == 52 || k == 53)) || (opc k == 47) && (fmtO k == 0 && shf k == 0 && Nat.ble 54 k)
theorem grp_all : ((List.range 75).all fun i => grpOk (i + 1) && (decide (10 ≤ srt ((i + 1 : Nat) : Int)) == Nat.ble 54 (i + 1))) = true := by kernel_rfl
theorem grp_is {k : Nat} (h1 : k ≠ 0) (h2 : k ≤ 75) : grpOk k = true ∧ (decide (10 ≤ srt k) = Nat.ble 54 k) := by
  have := List.all_eq_true.1 grp_all (k - 1) (List.mem_range.2 (by omega))
  rw [show k - 1 + 1 = k by omega, Bool.and_eq_true, beq_iff_eq] at this
  exact this

/-- what an instruction must be -/
def Fits (n : Nat) (x : Ins) : Prop := x.1 = dOp n ∧ (dOp n ≠ 0 → clean x = insN n (dOp n))

theorem fits_plain {n : Nat} {k : Nat} (hk : dOp n = k) (imm : Int) (h : k ≠ 0 → k < 50 ∨ k = 52 ∨ k = 53) (hi : k ≠ 0 → immN n k = imm) :
    Fits n ((k : Int), (fld n 7 5 : Nat), (fld n 15 5 : Nat), (fld n 20 5 : Nat), imm, false, false, 0, 0) := by
  refine ⟨by rw [hk], fun h0 => ?_⟩
  rw [hk] at h0 ⊢
  have hle : k ≤ 75 := hk ▸ dOp_le n
  obtain ⟨-, g2⟩ := grp_is h0 hle
  have hb : Nat.ble 54 k = false := by
    cases hb : Nat.ble 54 k with
    | false => rfl
    | true => have := Nat.le_of_ble_eq_true hb; have := h h0; omega
  have := h h0
  unfold clean insN
  simp only [g2, hb, Bool.false_and, hi h0, if_neg (show ¬ k = 51 by omega), if_neg (show ¬ k = 50 by omega)]

theorem eq_of_beq' {a b : Nat} (h : (a == b) = true) : a = b := by simpa using h
/-- the tests on a word's code -/
theorem code_is {n : Nat} (hn : n < 4294967296) : bits .and .u32 (n : Int) 127 = ((n % 128 : Nat) : Int) := and_mask32 hn (k := 7) (by decide)
theorem codeEq (n m : Nat) : decide (((n % 128 : Nat) : Int) = (m : Int)) = (n % 128 == m) := natEq _ _

theorem f7_is {n : Nat} (hn : n < 4294967296) : fld n 25 7 = n / 2 ^ 25 ∧ fld n 26 6 = n / 2 ^ 26 ∧ fld n 27 5 = n / 2 ^ 27 ∧ fld n 20 12 = n / 2 ^ 20 := by
  simp only [fld_def]
  omega

theorem bit_is {n : Nat} (hn : n < 4294967296) (i : Nat) (hi : i ≤ 32) : decide (bits .and .u32 ((n : Int).fdiv (2 ^ min i IntKind.u32.bits)) 1 = 1) = (bt n i == 1) := by
  rw [fdivL n i (b := IntKind.u32.bits) hi]
  have := and_mask32 (x := n / 2 ^ i) (Nat.lt_of_le_of_lt (Nat.div_le_self _ _) hn) (k := 1) (by decide)
  rw [show ((2 ^ 1 - 1 : Nat) : Int) = 1 from rfl] at this
  rw [this, bt_def]
  exact natEq _ 1

theorem dOp_at {n a : Nat} (h : n % 128 = a) : dOp n = dP ⟨a, fld n 12 3, n / 2 ^ 25 == 0, n / 2 ^ 25 == 32, n / 2 ^ 26 == 0, n / 2 ^ 26 == 16, n / 2 ^ 27, fld n 20 5 == 0, n / 2 ^ 20 == 2099, n == 115, n == 1048691⟩ := by
  subst h; rfl

theorem imm_of {n k : Nat} {f : Nat} (h1 : shf k = 0) (h2 : fmtO k = f) (h3 : 0 < f) : immN n k = getI f n := by
  unfold immN; rw [if_neg (by omega), if_neg (by omega), if_pos (by omega), h2]
theorem imm_no {n k : Nat} (h1 : shf k = 0) (h2 : fmtO k = 0) : immN n k = 0 := by
  unfold immN; rw [if_neg (by omega), if_neg (by omega), if_neg (by omega)]

theorem and3 {a b c : Bool} (h : (a && b && c) = true) : a = true ∧ b = true ∧ c = true := by
  cases a <;> cases b <;> cases c <;> simp at h ⊢

/-- the facts of an operation by a word's code -/
theorem grp_at {n : Nat} (hn : n < 4294967296) (h : dOp n ≠ 0) : n % 128 = opc (dOp n) ∧ grpOk (dOp n) = true ∧ (decide (10 ≤ srt (dOp n)) = Nat.ble 54 (dOp n)) :=
  ⟨dOp_opc hn h, grp_is h (dOp_le n)⟩

theorem grp_simple {n a f : Nat} (hn : n < 4294967296) (ha : n % 128 = a) (hf : (a = 55 ∨ a = 23) ∧ f = 4 ∨ a = 111 ∧ f = 5 ∨ (a = 103 ∨ a = 3) ∧ f = 1 ∨ a = 99 ∧ f = 3 ∨ a = 35 ∧ f = 2) (h : dOp n ≠ 0) : fmtO (dOp n) = f ∧ shf (dOp n) = 0 ∧ dOp n < 50 := by
  obtain ⟨h1, h2, -⟩ := grp_at hn h
  rw [ha] at h1
  simp only [grpOk, Bool.or_eq_true, Bool.and_eq_true, beq_iff_eq, ← h1] at h2
  have hb : ∀ m, Nat.blt m 50 = true → m < 50 := fun m hm => by rw [Nat.blt_eq] at hm; exact hm
  obtain ⟨rfl | rfl, rfl⟩ | ⟨rfl, rfl⟩ | ⟨rfl | rfl, rfl⟩ | ⟨rfl, rfl⟩ | ⟨rfl, rfl⟩ := hf <;> simp at h2 <;> exact ⟨h2.1.1, h2.1.2, h2.2⟩

theorem simple_fits {n a f : Nat} (hn : n < 4294967296) (ha : n % 128 = a) (hf : (a = 55 ∨ a = 23) ∧ f = 4 ∨ a = 111 ∧ f = 5 ∨ (a = 103 ∨ a = 3) ∧ f = 1 ∨ a = 99 ∧ f = 3 ∨ a = 35 ∧ f = 2) {k : Int} (hk : k = dOp n) {imm : Int} (hi : dOp n ≠ 0 → imm = getI f n) :
    Fits n (k, (fld n 7 5 : Nat), (fld n 15 5 : Nat), (fld n 20 5 : Nat), imm, false, false, 0, 0) := by
  subst hk
  refine fits_plain rfl imm (fun h => ?_) fun h => ?_
  · obtain ⟨_, _, h3⟩ := grp_simple hn ha hf h; omega
  · obtain ⟨h1, h2, h3⟩ := grp_simple hn ha hf h
    rw [hi h]
    exact imm_of h2 h1 (by omega)

theorem f3_cases (n : Nat) : fld n 12 3 = 0 ∨ fld n 12 3 = 1 ∨ fld n 12 3 = 2 ∨ fld n 12 3 = 3 ∨ fld n 12 3 = 4 ∨ fld n 12 3 = 5 ∨ fld n 12 3 = 6 ∨ fld n 12 3 = 7 := by
  have := fld_lt n 12 3
  omega

theorem number_is {N : Nat} (hN : 100 ≤ N) {n : Nat} (hn : n < 4294967296) (ha : n % 128 = 19) : ∃ imm, F89 N (parts n) = some ((dOp n : Int), imm) ∧ (dOp n ≠ 0 → immN n (dOp n) = imm ∧ dOp n < 50) := by
  obtain ⟨a1, a2, a3, a4, a5, a6, a7, a8, a9, a10, a11⟩ := FieldL N hn
  have l6 := fld_lt n 20 6
  obtain ⟨g1, g2, g3, g4⟩ := f7_is hn
  have hg := grp_at hn
  have hd := dOp_at ha
  unfold F89 parts
  simp only [a6, a7, bindS_some, jp_eq, g2]
  rw [i64N (by omega)]
  have hz : decide (((n / 2 ^ 26 : Nat) : Int) = 0) = (n / 2 ^ 26 == 0) := natEq _ 0
  have ht : decide (((n / 2 ^ 26 : Nat) : Int) = 16) = (n / 2 ^ 26 == 16) := natEq _ 16
  rw [hz, ht]
  have hs : ∀ m, dOp n = m → (m = 28 ∨ m = 29 ∨ m = 30) → dOp n ≠ 0 → immN n (dOp n) = ((fld n 20 6 : Nat) : Int) ∧ dOp n < 50 := by
    rintro m h1 h2 h3
    rw [h1]
    obtain rfl | rfl | rfl := h2 <;> exact ⟨rfl, by decide⟩
  have hi : dOp n < 28 → dOp n ≠ 0 → immN n (dOp n) = getI 1 n ∧ dOp n < 50 := by
    rintro h1 h3
    obtain ⟨q1, q2, -⟩ := hg h3
    rw [ha] at q1
    simp only [grpOk, Bool.or_eq_true, Bool.and_eq_true, beq_iff_eq, ← q1] at q2
    have hb : Nat.ble 28 (dOp n) = false := by
      cases hb : Nat.ble 28 (dOp n) with
      | false => rfl
      | true => have := Nat.le_of_ble_eq_true hb; omega
    simp [hb] at q2
    exact ⟨imm_of q2.1.1 q2.1.2 (by decide), by omega⟩
  have hget := Get_is N (by omega) hn 1 (by decide) (by decide)
  rw [show ((1 : Nat) : Int) = 1 from rfl] at hget
  have tl : ∀ (f : Nat), fld n 12 3 = f → ∀ z t : Bool, (n / 2 ^ 26 == 0) = z → (n / 2 ^ 26 == 16) = t →
      dOp n = bif f == 1 && z then 28 else bif f == 5 && z then 29 else bif f == 5 && t then 30 else [22, 0, 23, 24, 25, 0, 26, 27].getD f 0 := by
    intro f hf z t h1 h2
    rw [hd, hf, h1, h2]
    rfl
  cases hz : (n / 2 ^ 26 == 0) <;> cases ht : (n / 2 ^ 26 == 16) <;> obtain hf | hf | hf | hf | hf | hf | hf | hf := f3_cases n <;> have h := tl _ hf _ _ hz ht <;> rw [hf] <;>
    first
    | exact ⟨_, congrArg some (Prod.ext (by rw [h]; rfl) rfl), hs _ h (by decide)⟩
    | (refine ⟨getI 1 n, ?_, hi (by rw [h]; decide)⟩
       rw [hget, h]
       rfl)

theorem numberW_is {N : Nat} (hN : 100 ≤ N) {n : Nat} (hn : n < 4294967296) (ha : n % 128 = 27) : ∃ imm, F90 N (parts n) = some ((dOp n : Int), imm) ∧ (dOp n ≠ 0 → immN n (dOp n) = imm ∧ dOp n < 50) := by
  obtain ⟨g1, g2, g3, g4⟩ := f7_is hn
  have hd := dOp_at ha
  unfold F90 parts
  simp only [jp_eq, g1]
  have hz : decide (((n / 2 ^ 25 : Nat) : Int) = 0) = (n / 2 ^ 25 == 0) := natEq _ 0
  have ht : decide (((n / 2 ^ 25 : Nat) : Int) = 32) = (n / 2 ^ 25 == 32) := natEq _ 32
  rw [hz, ht]
  have hs : ∀ m, dOp n = m → (m = 32 ∨ m = 33 ∨ m = 34) → dOp n ≠ 0 → immN n (dOp n) = ((fld n 20 5 : Nat) : Int) ∧ dOp n < 50 := by
    rintro m h1 h2 h3
    rw [h1]
    obtain rfl | rfl | rfl := h2 <;> exact ⟨rfl, by decide⟩
  have hi : dOp n = 31 → dOp n ≠ 0 → immN n (dOp n) = getI 1 n ∧ dOp n < 50 := by
    rintro h1 h3
    rw [h1]
    exact ⟨imm_of rfl rfl (by decide), by decide⟩
  have hget := Get_is N (by omega) hn 1 (by decide) (by decide)
  rw [show ((1 : Nat) : Int) = 1 from rfl] at hget
  have tl : ∀ (f : Nat), fld n 12 3 = f → ∀ z t : Bool, (n / 2 ^ 25 == 0) = z → (n / 2 ^ 25 == 32) = t →
      dOp n = bif f == 0 then 31 else bif f == 1 && z then 32 else bif f == 5 && z then 33 else bif f == 5 && t then 34 else 0 := by
    intro f hf z t h1 h2
    rw [hd, hf, h1, h2]
    rfl
  cases hz : (n / 2 ^ 25 == 0) <;> cases ht : (n / 2 ^ 25 == 32) <;> obtain hf | hf | hf | hf | hf | hf | hf | hf := f3_cases n <;> have h := tl _ hf _ _ hz ht <;> rw [hf] <;>
    first
    | exact ⟨_, congrArg some (Prod.ext (by rw [h]; rfl) rfl), hs _ h (by decide)⟩
    | exact ⟨_, congrArg some (Prod.ext (by rw [h]; rfl) rfl), fun h0 => absurd h h0⟩
    | (refine ⟨getI 1 n, ?_, hi h⟩
       rw [hget, h]
       rfl)

def atRep (N v f : Nat) (z : Bool) : Bool := F95 N (((v * 134217728 : Nat) : Int), 0, 0, (bif z then 0 else 1), (f : Int), 0) == some ((dP ⟨47, f, false, false, false, false, v, z, false, false, false⟩ : Nat) : Int)
theorem atRep_all (N : Nat) : ((List.range 32).all fun v => (List.range 8).all fun f => [false, true].all fun z => atRep N v f z) = true := by kernel_rfl

theorem atomic_is {N : Nat} {n : Nat} (hn : n < 4294967296) (ha : n % 128 = 47) : F95 N (parts n) = some (dOp n : Int) := by
  obtain ⟨a1, a2, a3, a4, a5, a6, a7, a8, a9, a10, a11⟩ := FieldL N hn
  have l5 := fld_lt n 27 5
  have l3 := fld_lt n 12 3
  have hrep := List.all_eq_true.1 (List.all_eq_true.1 (List.all_eq_true.1 (atRep_all N) (fld n 27 5) (List.mem_range.2 (by omega))) (fld n 12 3) (List.mem_range.2 (by omega))) (fld n 20 5 == 0) (bool_mem _)
  unfold atRep at hrep
  rw [beq_iff_eq] at hrep
  have hd : dOp n = dP ⟨47, fld n 12 3, false, false, false, false, fld n 27 5, fld n 20 5 == 0, false, false, false⟩ := by
    rw [dOp_at ha, (f7_is hn).2.2.1]; rfl
  rw [hd, ← hrep]
  have hw : fld n 27 5 * 134217728 < 4294967296 := by omega
  have hf := (FieldL N hw).2.2.2.2.2.2.2.1
  have e : fld (fld n 27 5 * 134217728) 27 5 = fld n 27 5 := by
    generalize fld n 27 5 = v at l5 ⊢
    rw [fld_def]; omega
  rw [e] at hf
  unfold F95 parts
  simp only [a8, hf, bindS_some]
  have hr : decide (((fld n 20 5 : Nat) : Int) = 0) = (fld n 20 5 == 0) := natEq _ 0
  have hq : decide ((bif fld n 20 5 == 0 then (0 : Int) else 1) = 0) = (fld n 20 5 == 0) := by cases (fld n 20 5 == 0) <;> rfl
  rw [hr, hq]

theorem fence_is {N : Nat} {n : Nat} (hn : n < 4294967296) (ha : n % 128 = 15) (h0 : fld n 12 3 = 0) : ∃ x, F94 N n = some x ∧ Fits n x := by
  obtain ⟨a1, a2, a3, a4, a5, a6, a7, a8, a9, a10, a11⟩ := FieldL N hn
  obtain ⟨g1, g2, g3, g4⟩ := f7_is hn
  have l1 := fld_lt n 24 4
  have l2 := fld_lt n 20 4
  have hd := dOp_at ha
  rw [h0] at hd
  unfold F94
  rw [a9, bindS_some, a10, a11]
  have he : decide (((fld n 20 12 : Nat) : Int) = 2099) = (n / 2 ^ 20 == 2099) := by rw [g4]; exact natEq _ 2099
  rw [he]
  cases hc : (n / 2 ^ 20 == 2099) with
  | true =>
    rw [hc] at hd
    have h : dOp n = 51 := hd
    exact ⟨_, rfl, by rw [h]; rfl, fun _ => by rw [h]; rfl⟩
  | false =>
    rw [hc] at hd
    have h : dOp n = 50 := hd
    refine ⟨_, rfl, by rw [h]; rfl, fun _ => ?_⟩
    rw [h, i64N (by omega), i64N (by omega)]
    rfl

theorem wide_is {N : Nat} {n : Nat} (hn : n < 4294967296) (ha : n % 128 = 51) : F92 N (parts n) [35, 37, 38, 39, 40, 41, 43, 44] [36, 0, 0, 0, 0, 42, 0, 0] = some (dOp n : Int) := by
  obtain ⟨g1, g2, g3, g4⟩ := f7_is hn
  have hd := dOp_at ha
  unfold F92 parts
  simp only [g1]
  have hz : decide (((n / 2 ^ 25 : Nat) : Int) = 0) = (n / 2 ^ 25 == 0) := natEq _ 0
  have ht : decide (((n / 2 ^ 25 : Nat) : Int) = 32) = (n / 2 ^ 25 == 32) := natEq _ 32
  rw [hz, ht]
  cases hz : (n / 2 ^ 25 == 0) <;> cases ht : (n / 2 ^ 25 == 32) <;> obtain hf | hf | hf | hf | hf | hf | hf | hf := f3_cases n <;> rw [hf, hz, ht] at hd <;> rw [hf, hd] <;> rfl

theorem narrow_is {N : Nat} {n : Nat} (hn : n < 4294967296) (ha : n % 128 = 59) : F92 N (parts n) [45, 47, 0, 0, 0, 48, 0, 0] [46, 0, 0, 0, 0, 49, 0, 0] = some (dOp n : Int) := by
  obtain ⟨g1, g2, g3, g4⟩ := f7_is hn
  have hd := dOp_at ha
  unfold F92 parts
  simp only [g1]
  have hz : decide (((n / 2 ^ 25 : Nat) : Int) = 0) = (n / 2 ^ 25 == 0) := natEq _ 0
  have ht : decide (((n / 2 ^ 25 : Nat) : Int) = 32) = (n / 2 ^ 25 == 32) := natEq _ 32
  rw [hz, ht]
  cases hz : (n / 2 ^ 25 == 0) <;> cases ht : (n / 2 ^ 25 == 32) <;> obtain hf | hf | hf | hf | hf | hf | hf | hf := f3_cases n <;> rw [hf, hz, ht] at hd <;> rw [hf, hd] <;> rfl

theorem grp_no {n a : Nat} (hn : n < 4294967296) (ha : n % 128 = a) (hf : a = 51 ∨ a = 59) (h : dOp n ≠ 0) : fmtO (dOp n) = 0 ∧ shf (dOp n) = 0 ∧ dOp n < 50 := by
  obtain ⟨h1, h2, -⟩ := grp_at hn h
  rw [ha] at h1
  simp only [grpOk, Bool.or_eq_true, Bool.and_eq_true, beq_iff_eq, ← h1] at h2
  obtain rfl | rfl := hf <;> simp at h2 <;> exact ⟨h2.1.1, h2.1.2, h2.2⟩

theorem no_fits {n : Nat} (h : dOp n = 0) {x : Ins} (hx : x.1 = 0) : Fits n x := ⟨by rw [h, hx]; rfl, fun h0 => absurd h h0⟩

theorem inst_is {N : Nat} (hN : 100 ≤ N) {n : Nat} (hn : n < 4294967296) : ∃ x, F79 N (parts n) = some x ∧ Fits n x := by
  have g : ∀ f : Nat, 1 ≤ f → f ≤ 5 → F88 N f n = some (getI f n) := fun f h1 h2 => Get_is N (by omega) hn f h1 h2
  have q1 : F88 N 1 n = some (getI 1 n) := g 1 (by decide) (by decide)
  have q2 : F88 N 2 n = some (getI 2 n) := g 2 (by decide) (by decide)
  have q3 : F88 N 3 n = some (getI 3 n) := g 3 (by decide) (by decide)
  have q4 : F88 N 4 n = some (getI 4 n) := g 4 (by decide) (by decide)
  have q5 : F88 N 5 n = some (getI 5 n) := g 5 (by decide) (by decide)
  have e25 := bit_is hn 25 (by decide)
  have e26 := bit_is hn 26 (by decide)
  have nz : ∀ m : Nat, decide (((fld n 12 3 : Nat) : Int) = (m : Int)) = (fld n 12 3 == m) := fun m => natEq _ m
  unfold F79
  simp only [jp_eq]
  rw [show (parts n).1 = (n : Int) from rfl, code_is hn]
  by_cases c1 : n % 128 = 55
  · rw [brT (by omega), q4, bindS_some]
    exact ⟨_, rfl, simple_fits (f := 4) hn c1 (by simp) (by rw [dOp_at c1]; rfl) fun _ => rfl⟩
  rw [brF (by omega)]
  by_cases c2 : n % 128 = 23
  · rw [brT (by omega), q4, bindS_some]
    exact ⟨_, rfl, simple_fits (f := 4) hn c2 (by simp) (by rw [dOp_at c2]; rfl) fun _ => rfl⟩
  rw [brF (by omega)]
  by_cases c3 : n % 128 = 111
  · rw [brT (by omega), q5, bindS_some]
    exact ⟨_, rfl, simple_fits (f := 5) hn c3 (by simp) (by rw [dOp_at c3]; rfl) fun _ => rfl⟩
  rw [brF (by omega)]
  by_cases c4 : n % 128 = 103
  · rw [brT (by omega), q1]
    have hd := dOp_at c4
    by_cases h0 : fld n 12 3 = 0
    · rw [h0] at hd
      rw [show (parts n).2.2.2.2.1 = ((fld n 12 3 : Nat) : Int) from rfl, h0]
      exact ⟨_, rfl, simple_fits (f := 1) hn c4 (by simp) (by rw [hd]; rfl) fun _ => rfl⟩
    · rw [show (parts n).2.2.2.2.1 = ((fld n 12 3 : Nat) : Int) from rfl, brF (by omega)]
      refine ⟨_, rfl, no_fits ?_ rfl⟩
      rw [hd]
      show (bif fld n 12 3 == 0 then 4 else 0) = 0
      rw [beq_eq_false_iff_ne.2 h0]; rfl
  rw [brF (by omega)]
  by_cases c5 : n % 128 = 99
  · rw [brT (by omega), q3, show (parts n).2.2.2.2.1 = ((fld n 12 3 : Nat) : Int) from rfl]
    have hd := dOp_at c5
    obtain hf | hf | hf | hf | hf | hf | hf | hf := f3_cases n <;> rw [hf] at hd ⊢ <;> exact ⟨_, rfl, simple_fits (f := 3) hn c5 (by simp) (by rw [hd]; rfl) fun _ => rfl⟩
  rw [brF (by omega)]
  by_cases c6 : n % 128 = 3
  · rw [brT (by omega), q1, show (parts n).2.2.2.2.1 = ((fld n 12 3 : Nat) : Int) from rfl]
    have hd := dOp_at c6
    obtain hf | hf | hf | hf | hf | hf | hf | hf := f3_cases n <;> rw [hf] at hd ⊢ <;> first
    | exact ⟨_, rfl, simple_fits (f := 1) hn c6 (by simp) (by rw [hd]; rfl) fun _ => rfl⟩
    | exact ⟨_, rfl, no_fits hd rfl⟩
  rw [brF (by omega)]
  by_cases c7 : n % 128 = 35
  · rw [brT (by omega), q2, show (parts n).2.2.2.2.1 = ((fld n 12 3 : Nat) : Int) from rfl]
    have hd := dOp_at c7
    obtain hf | hf | hf | hf | hf | hf | hf | hf := f3_cases n <;> rw [hf] at hd ⊢ <;> first
    | exact ⟨_, rfl, simple_fits (f := 2) hn c7 (by simp) (by rw [hd]; rfl) fun _ => rfl⟩
    | exact ⟨_, rfl, no_fits hd rfl⟩
  rw [brF (by omega)]
  by_cases c8 : n % 128 = 19
  · obtain ⟨imm, h1, h2⟩ := number_is hN hn c8
    rw [brT (by omega), h1, bindS_some]
    exact ⟨_, rfl, fits_plain rfl imm (fun h => by have := (h2 h).2; omega) fun h => (h2 h).1⟩
  rw [brF (by omega)]
  by_cases c9 : n % 128 = 27
  · obtain ⟨imm, h1, h2⟩ := numberW_is hN hn c9
    rw [brT (by omega), h1, bindS_some]
    exact ⟨_, rfl, fits_plain rfl imm (fun h => by have := (h2 h).2; omega) fun h => (h2 h).1⟩
  rw [brF (by omega)]
  by_cases c10 : n % 128 = 51
  · rw [brT (by omega)]
    have h1 : F91 N = some ([35, 37, 38, 39, 40, 41, 43, 44], [36, 0, 0, 0, 0, 42, 0, 0]) := rfl
    rw [h1, bindS_some, wide_is hn c10, bindS_some]
    exact ⟨_, rfl, fits_plain rfl 0 (fun h => by have := (grp_no hn c10 (by simp) h).2.2; omega) fun h => by obtain ⟨h1, h2, _⟩ := grp_no hn c10 (by simp) h; exact imm_no h2 h1⟩
  rw [brF (by omega)]
  by_cases c11 : n % 128 = 59
  · rw [brT (by omega)]
    have h1 : F93 N = some ([45, 47, 0, 0, 0, 48, 0, 0], [46, 0, 0, 0, 0, 49, 0, 0]) := rfl
    rw [h1, bindS_some, narrow_is hn c11, bindS_some]
    exact ⟨_, rfl, fits_plain rfl 0 (fun h => by have := (grp_no hn c11 (by simp) h).2.2; omega) fun h => by obtain ⟨h1, h2, _⟩ := grp_no hn c11 (by simp) h; exact imm_no h2 h1⟩
  rw [brF (by omega)]
  by_cases c12 : n % 128 = 15
  · rw [brT (by omega), show (parts n).2.2.2.2.1 = ((fld n 12 3 : Nat) : Int) from rfl]
    by_cases h0 : fld n 12 3 = 0
    · obtain ⟨x, h1, h2⟩ := fence_is (N := N) hn c12 h0
      rw [brT (by omega), h1, bindS_some]
      exact ⟨x, rfl, h2⟩
    · rw [brF (by omega)]
      refine ⟨_, rfl, no_fits ?_ rfl⟩
      rw [dOp_at c12]
      show (bif fld n 12 3 == 0 then _ else 0) = 0
      rw [beq_eq_false_iff_ne.2 h0]; rfl
  rw [brF (by omega)]
  by_cases c13 : n % 128 = 115
  · rw [brT (by omega)]
    have hd := dOp_at c13
    by_cases h1 : n = 115
    · have h : dOp n = 52 := by rw [h1]; rfl
      rw [brT (by omega)]
      exact ⟨_, rfl, fits_plain (k := 52) h 0 (fun _ => by omega) fun _ => imm_no rfl rfl⟩
    · rw [brF (by omega)]
      by_cases h2 : n = 1048691
      · have h : dOp n = 53 := by rw [h2]; rfl
        rw [brT (by omega)]
        exact ⟨_, rfl, fits_plain (k := 53) h 0 (fun _ => by omega) fun _ => imm_no rfl rfl⟩
      · rw [brF (by omega)]
        refine ⟨_, rfl, no_fits ?_ rfl⟩
        rw [hd, beq_eq_false_iff_ne.2 h1, beq_eq_false_iff_ne.2 h2]; rfl
  rw [brF (by omega)]
  by_cases c14 : n % 128 = 47
  · rw [brT (by omega), atomic_is hn c14, bindS_some, e26, e25]
    refine ⟨_, rfl, rfl, fun h => ?_⟩
    obtain ⟨h1, h2, h3⟩ := grp_at hn h
    rw [c14] at h1
    simp only [grpOk, Bool.or_eq_true, Bool.and_eq_true, beq_iff_eq, ← h1] at h2
    simp at h2
    have h54 : Nat.ble 54 (dOp n) = true := by simpa using h2.2
    have h54' := Nat.le_of_ble_eq_true h54
    unfold clean insN
    rw [h3, h54, imm_no h2.1.2 h2.1.1]
    simp only [if_neg (show ¬ dOp n = 51 by omega), if_neg (show ¬ dOp n = 50 by omega), Bool.true_and]
    rfl
  rw [brF (by omega)]
  refine ⟨_, rfl, no_fits (dP_none _ ?_) rfl⟩
  simp only [lk, codes, List.mem_cons, List.not_mem_nil, or_false, not_or]
  omega

theorem Decode_is {N : Nat} (hN : 100 ≤ N) {n : Nat} (hn : n < 4294967296) : F55 N n = some (if dOp n = 0 then (noIns, 2) else (insN n (dOp n), 0)) := by
  obtain ⟨x, h1, h2, h3⟩ := inst_is hN hn
  unfold F55
  rw [split_is N hn, bindS_some, h1, bindS_some, h2]
  by_cases h0 : dOp n = 0
  · rw [brT (by omega), if_pos h0]; rfl
  · rw [brF (by omega), Clean_is hN, bindS_some, if_neg h0, h3 h0]
end Go.Proofs.Ytipdancojcdioaa
