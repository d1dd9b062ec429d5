/- The lines of bytes, and which texts may be a label's name. No condition beyond the inputs'. -/
import Derived.Test.YtkcfkegkhopakaaGreatDoorPlOf
import Derived.Test.YtkcfkegkhopakaaGreatDoorPlBy
import Derived.Test.YtkcfkegkhopakaaGreatDoorPlTy
import Derived.Test.YtkcfkegkhopakaaGreatDoorPlFu
import Derived.Lib.ItoaMem
namespace Go.Proofs.YtkcfkegkhopakaaGreatDoor
open Go Go.Ev Go.Sh
set_option linter.unusedVariables false
set_option linter.unusedSimpArgs false
set_option maxRecDepth 100000

/-! ### a label's name -/
def okC (i : Nat) (x : Nat) : Bool := (decide (97 ≤ x) && decide (x ≤ 122)) || (decide (0 < i) && ((decide (48 ≤ x) && decide (x ≤ 57)) || decide (x = 95)))
def okAll (s : List UInt8) : Bool := (List.range s.length).all fun i => okC i (s.getD i 0).toNat
def nameB (s : List UInt8) : Bool := okAll s && (decide (1 ≤ s.length) && decide (s.length ≤ 16))

theorem okAll_of {s : List UInt8} (h : ∀ j, j < s.length → okC j (s.getD j 0).toNat = true) : okAll s = true := by
  unfold okAll
  rw [List.all_eq_true]
  intro i hi
  exact h i (by simpa using hi)
theorem okAll_no {s : List UInt8} {i : Nat} (hi : i < s.length) (h : okC i (s.getD i 0).toNat = false) : okAll s = false := by
  unfold okAll
  rw [List.all_eq_false]
  exact ⟨i, by simpa using hi, by rw [h]; decide⟩

theorem dI {a b : Nat} : decide ((a : Int) ≤ (b : Int)) = decide (a ≤ b) := decide_eq_decide.mpr (by omega)
theorem dI0 {a : Nat} : decide ((0 : Int) < (a : Int)) = decide (0 < a) := decide_eq_decide.mpr (by omega)
theorem dIz {a : Nat} : decide ((a : Int) = 0) = decide (a = 0) := decide_eq_decide.mpr (by omega)
theorem d97 {x : Nat} : decide ((97 : Int) ≤ (x : Int)) = decide (97 ≤ x) := decide_eq_decide.mpr (by omega)
theorem d122 {x : Nat} : decide ((x : Int) ≤ 122) = decide (x ≤ 122) := decide_eq_decide.mpr (by omega)
theorem d48 {x : Nat} : decide ((48 : Int) ≤ (x : Int)) = decide (48 ≤ x) := decide_eq_decide.mpr (by omega)
theorem d57 {x : Nat} : decide ((x : Int) ≤ 57) = decide (x ≤ 57) := decide_eq_decide.mpr (by omega)
theorem d48l {x : Nat} : decide ((x : Int) < 48) = !decide (48 ≤ x) := by rw [← decide_not]; exact decide_eq_decide.mpr (by omega)
theorem d57l {x : Nat} : decide ((57 : Int) < (x : Int)) = !decide (x ≤ 57) := by rw [← decide_not]; exact decide_eq_decide.mpr (by omega)
theorem d95 {x : Nat} : decide ((x : Int) = 95) = decide (x = 95) := decide_eq_decide.mpr (by omega)

theorem IsName_is {N : Nat} {s : List UInt8} (hN : s.length < N) (hs : s.length ≤ 1000) : F22 N s = some (nameB s) := by
  unfold F22
  refine fixN_ind (fun m (y : Int) => m ≤ s.length ∧ y = ((s.length - m : Nat) : Int) ∧ ∀ j, j < s.length - m → okC j (s.getD j 0).toNat = true) (fun _ o => o = some (nameB s)) ?_ N s.length _ hN ⟨Nat.le_refl _, by simp, fun j hj => by omega⟩
  rintro m y again ⟨hm, rfl, ht⟩ ih
  rcases Nat.eq_zero_or_pos m with h0 | h0
  · subst h0
    rw [brF (by omega)]
    have ho := okAll_of (s := s) (fun j hj => ht j (by omega))
    unfold nameB
    rw [ho]
    simp only [jp_eq, Bool.true_and]
    by_cases hl : s = []
    · subst hl; rfl
    · have : 1 ≤ s.length := by rcases s with _ | ⟨a, r⟩; exact absurd rfl hl; simp
      rw [br_true (by simp [hl]), decide_eq_true this, Bool.true_and, show decide ((s.length : Int) ≤ 16) = decide (s.length ≤ 16) from decide_eq_decide.mpr (by omega)]
  · rw [brT (by omega), chk_true (by rw [Bool.and_eq_true]; exact ⟨decide_eq_true (by omega), decide_eq_true (by omega)⟩), Int.toNat_natCast]
    generalize hi : s.length - m = i at ht
    have hil : i < s.length := by omega
    generalize hx : (s.getD i 0).toNat = x
    simp only [jp_eq]
    refine Eq.trans (b := if okC i x = true then again (IntKind.i64.wrap ((i : Int) + 1)) else some false) ?_ ?_
    · unfold okC
      simp only [d97, d122, d48l, d57l, d95, dIz]
      by_cases a1 : 97 ≤ x <;> by_cases a2 : x ≤ 122 <;> by_cases a3 : i = 0 <;> by_cases a4 : x = 95 <;> by_cases a5 : 48 ≤ x <;> by_cases a6 : x ≤ 57 <;> first | omega | (simp [br, a1, a2, a3, a4, a5, a6]; done)
    · by_cases ho : okC i x = true
      · rw [if_pos ho, wrap64 (by omega) (by omega)]
        refine ih (m - 1) _ (by omega) ⟨by omega, by omega, fun j hj => ?_⟩
        by_cases hji : j = i
        · subst hji; rw [hx]; exact ho
        · exact ht j (by omega)
      · rw [if_neg ho]
        have := okAll_no hil (by rw [hx]; simpa using ho)
        unfold nameB
        rw [this]; rfl

theorem rName_is {N : Nat} {s : List UInt8} (hN : s.length < N) (hs : s.length ≤ 1000) : F23 N s = some (nameB s) := by
  unfold F23
  simp only [jp_eq]
  by_cases h1 : s.length < 1
  · rw [brT (by omega), br_t]
    obtain rfl : s = [] := List.eq_nil_of_length_eq_zero (by omega)
    rfl
  rw [brF (by omega)]
  by_cases h2 : 16 < s.length
  · rw [br_true (decide_eq_true (by omega))]
    unfold nameB
    rw [show decide (s.length ≤ 16) = false from decide_eq_false (by omega), Bool.and_false, Bool.and_false]
  rw [brF (by omega)]
  refine fixN_ind (fun m (y : Int) => m ≤ s.length ∧ y = ((s.length - m : Nat) : Int) ∧ ∀ j, j < s.length - m → okC j (s.getD j 0).toNat = true) (fun _ o => o = some (nameB s)) ?_ N s.length _ hN ⟨Nat.le_refl _, by simp, fun j hj => by omega⟩
  rintro m y again ⟨hm, rfl, ht⟩ ih
  rcases Nat.eq_zero_or_pos m with h0 | h0
  · subst h0
    rw [brF (by omega)]
    have ho := okAll_of (s := s) (fun j hj => ht j (by omega))
    unfold nameB
    rw [ho, decide_eq_true (show 1 ≤ s.length by omega), decide_eq_true (show s.length ≤ 16 by omega)]
    rfl
  · rw [brT (by omega), chk_true (by rw [Bool.and_eq_true]; exact ⟨decide_eq_true (by omega), decide_eq_true (by omega)⟩), Int.toNat_natCast]
    generalize hi : s.length - m = i at ht
    have hil : i < s.length := by omega
    generalize hx : (s.getD i 0).toNat = x
    refine Eq.trans (b := if okC i x = true then again (IntKind.i64.wrap ((i : Int) + 1)) else some false) ?_ ?_
    · unfold okC
      simp only [d97, d122, d48, d57, d95, dI0]
      by_cases a1 : 97 ≤ x <;> by_cases a2 : x ≤ 122 <;> by_cases a3 : 0 < i <;> by_cases a4 : x = 95 <;> by_cases a5 : 48 ≤ x <;> by_cases a6 : x ≤ 57 <;> first | omega | (simp [br, a1, a2, a3, a4, a5, a6]; done)
    · by_cases ho : okC i x = true
      · rw [if_pos ho, wrap64 (by omega) (by omega)]
        refine ih (m - 1) _ (by omega) ⟨by omega, by omega, fun j hj => ?_⟩
        by_cases hji : j = i
        · subst hji; rw [hx]; exact ho
        · exact ht j (by omega)
      · rw [if_neg ho]
        have := okAll_no hil (by rw [hx]; simpa using ho)
        unfold nameB
        rw [this]; rfl

/-! ### a word's line -/
noncomputable def txtN (n : Nat) : List UInt8 := (F15 100 (insN n (dOp n))).getD []
theorem txt_at {N : Nat} (hN : 100 ≤ N) {n : Nat} (hn : n < 4294967296) (h0 : dOp n ≠ 0) : F13 N (insN n (dOp n)) = some (txtN n, 0) ∧ F15 N (insN n (dOp n)) = some (txtN n) := by
  have src : Src n (dOp n) _ _ _ _ _ _ _ _ := ⟨rfl, rfl, rfl, rfl, rfl, rfl, rfl, rfl⟩
  have rt := rt_of hn (by omega) (dOp_le n) src
  have hv : I64 (immN n (dOp n)) := imm_I64 hn
  have a := rText_is (Nat.le_refl 100) rt hv
  have b := rText_is hN rt hv
  have c := Text_right hN (x := insN n (dOp n)) (by rw [rt.eq]; exact hv) (rt_right rt) rt
  have et : ∀ T, F15 100 (insN n (dOp n)) = some T → txtN n = T := fun T h => by unfold txtN; rw [h]; rfl
  rw [et _ a]
  exact ⟨c, b⟩
theorem rWord_ins {N : Nat} (hN : 100 ≤ N) {n : Nat} (hn : n < 4294967296) (h0 : dOp n ≠ 0) : F62 N (insN n (dOp n)) = some ((fenceMask (dOp n) n : Nat) : Int) := by
  have src : Src n (dOp n) _ _ _ _ _ _ _ _ := ⟨rfl, rfl, rfl, rfl, rfl, rfl, rfl, rfl⟩
  have rt := rt_of hn (by omega) (dOp_le n) src
  rw [rWord_is hN rt, word_ins hn rfl (by omega) src]

noncomputable def lineW (n : Nat) : List UInt8 := if dOp n ≠ 0 ∧ fenceMask (dOp n) n = n then txtN n else [46, 119, 111, 114, 100, 32] ++ Lib.itoa (n : Int)
def lineB (x : Int) : List UInt8 := [46, 98, 121, 116, 101, 32] ++ Lib.itoa x
noncomputable def linesL : List Int → List (List UInt8)
  | a :: b :: c :: d :: r => lineW (ofN [a, b, c, d]) :: linesL r
  | l => l.map lineB

theorem fu_is (N : Nat) {n : Nat} (hn : n < 4294967296) : F58 N (n : Int) 10 = some (Lib.itoa (n : Int)) := by
  unfold F58 fuintS
  rw [chk_true (by rw [Bool.and_eq_true]; exact ⟨by unfold u64B; rw [Bool.and_eq_true]; exact ⟨decide_eq_true (by omega), decide_eq_true (by omega)⟩, rfl⟩), fuF_is (by omega), Int.toNat_natCast, Lib.itoa_nonneg]
theorem it_is (N : Nat) {n : Nat} (hn : n < 4294967296) : F59 N (n : Int) = some (Lib.itoa (n : Int)) := by
  unfold F59 itoaS
  have hv : I64 (n : Int) := ⟨by omega, by omega⟩
  rw [chk_true (i64B_of hv), itoaF_is hv.1 hv.2]
theorem itl {n : Nat} (hn : n < 4294967296) : (Lib.itoa (n : Int)).length ≤ 20 := itoa_len ⟨by omega, by omega⟩

/-- the words' loop, the bytes' behind it -/
theorem drop4 (a b c d : Int) (r : List Int) : List.take ((a :: b :: c :: d :: r).length - 4) (List.drop (0 + 4) (a :: b :: c :: d :: r)) = r := by
  show List.take (r.length + 1 + 1 + 1 + 1 - 4) r = r
  rw [List.take_of_length_le (by omega)]
theorem BY4 {a b c d : Int} {r : List Int} (h : BY (a :: b :: c :: d :: r)) : BY [a, b, c, d] ∧ BY r := ⟨fun x hx => h x (by simp at hx ⊢; rcases hx with h | h | h | h <;> simp [h]), fun x hx => h x (by simp [hx])⟩

end Go.Proofs.YtkcfkegkhopakaaGreatDoor
