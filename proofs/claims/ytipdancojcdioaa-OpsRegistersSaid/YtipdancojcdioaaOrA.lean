/- Plain law: the registers that an instruction reads and writes. No condition. -/
import Derived.Test.YtipdancojcdioaaEqOr
import Derived.Test.YtipdancojcdioaaShT
namespace Go.Proofs.Ytipdancojcdioaa
open Go Go.Ev Go.Sh
set_option linter.unusedVariables false
set_option linter.unusedSimpArgs false
set_option maxRecDepth 100000

theorem F24_is : F24 100 = some true := by kernel_rfl

def r2 (k : Int) : Bool := decide (k = 3) || (decide (k = 5) || (decide (k = 7) || (decide (k = 11) || decide (k = 12))))
def r1 (k op : Int) : Bool := decide (k = 4) || (decide (k = 6) || (decide (k = 10) || (decide (k = 2) && decide (op = 4))))
def nw (k : Int) : Bool := decide (k = 0) || (decide (k = 3) || (decide (k = 5) || (decide (k = 8) || decide (k = 9))))
def kOf (op : Int) : Int := (F57 100 op).getD 0

def chk2 (op : Int) : Bool := (F57 100 op == some (kOf op)) && ((F52 100 op == some (r2 (kOf op) || r1 (kOf op) op)) && ((F53 100 op == some (r2 (kOf op))) && (F51 100 op == some (!nw (kOf op)))))
theorem chk2_all : ((List.range 75).all fun i => chk2 ((i + 1 : Nat) : Int)) = true := by kernel_rfl

theorem F57_out {op : Int} (h : op < 1 ∨ 75 < op) : F57 100 op = some 0 := by
  unfold F57
  simp only [jp_eq, br_ite]
  by_cases h1 : op < 1
  · simp [h1]
  · have h2 : 75 < op := by omega
    simp [h1, h2]

theorem F63_out {op : Int} (h : op < 1 ∨ 75 < op) (hm : op ≤ 9223372036854775807) : F63 100 op = some 0 := by
  unfold F63
  cases h1 : decide (op < 1) with
  | true => rfl
  | false =>
    have h2 := of_decide_eq_false h1
    rw [br_f]
    have hsum : ∀ i, i < 12 → (([2, 2, 6, 7, 4, 13, 15, 2, 2, 2, 2, 18] : List Int).getD i 0) + ((([2, 2, 6, 7, 4, 13, 15, 2, 2, 2, 2, 18] : List Int).drop (i + 1)).foldl (· + ·) 0) = (([2, 2, 6, 7, 4, 13, 15, 2, 2, 2, 2, 18] : List Int).drop i).foldl (· + ·) 0 := by decide
    have hpos : ∀ i, i ≤ 12 → 0 ≤ ((([2, 2, 6, 7, 4, 13, 15, 2, 2, 2, 2, 18] : List Int).drop i).foldl (· + ·) 0) := by decide
    have hpos2 : ∀ i, i < 12 → 0 ≤ (([2, 2, 6, 7, 4, 13, 15, 2, 2, 2, 2, 18] : List Int).getD i 0) := by decide
    refine fixN_ind (fun m (y : Int × Int) => ∃ i : Nat, y.2 = i ∧ i + m = 12 ∧ (([2, 2, 6, 7, 4, 13, 15, 2, 2, 2, 2, 18] : List Int).drop i).foldl (· + ·) 0 < y.1 ∧ y.1 ≤ 9223372036854775807) (fun _ o => o = some 0) ?_ 100 12 _ (by omega) ⟨0, rfl, rfl, by show (75 : Int) < op; omega, hm⟩
    rintro m ⟨v, i0⟩ again ⟨i, g1, g2, g3, g4⟩ ih
    simp only at g1 g3 g4
    subst g1
    rcases Nat.eq_zero_or_pos m with h0 | h0
    · obtain rfl : i = 12 := by omega
      rfl
    · have a := hsum i (by omega)
      have b := hpos (i + 1) (by omega)
      have c := hpos2 i (by omega)
      have d1 : decide ((i : Int) < (↑[2, 2, 6, 7, 4, 13, 15, 2, 2, 2, 2, 18].length : Int)) = true := decide_eq_true (by simp only [List.length_cons, List.length_nil]; omega)
      have d2 : decide ((0 : Int) ≤ (i : Int)) = true := decide_eq_true (by omega)
      have d3 : decide (v ≤ ([2, 2, 6, 7, 4, 13, 15, 2, 2, 2, 2, 18] : List Int).getD i 0) = false := decide_eq_false (by omega)
      simp only [Int.toNat_natCast]
      rw [br_true d1, chk_true (by rw [d2, d1]; rfl), br_false d3, chk_true (by rw [d2, d1]; rfl)]
      rw [wrap64 (n := (i : Int) + 1) (by omega) (by omega), wrap64 (by omega) (by omega)]
      exact ih (m - 1) (v - ([2, 2, 6, 7, 4, 13, 15, 2, 2, 2, 2, 18] : List Int).getD i 0, (i : Int) + 1) (by omega) ⟨i + 1, rfl, by omega, by show _ < v - _; omega, by show v - _ ≤ _; omega⟩

theorem F68_out {op : Int} (h : op < 1 ∨ 75 < op) : F68 100 op = some [] := by
  unfold F68
  have e : F25 100 = some ((F25 100).getD []) := rfl
  rw [e, bindS_some]
  have e2 : (((F25 100).getD []).length : Int) = 75 := by kernel_rfl
  simp only [jp_eq, e2, br_ite]
  by_cases h1 : op < 1
  · simp [h1]
  · have h2 : 75 < op := by omega
    simp [h1, h2]

theorem ops_is (op : Int) (hm : op ≤ 9223372036854775807) : F57 100 op = some (kOf op) ∧ F52 100 op = some (r2 (kOf op) || r1 (kOf op) op) ∧ F53 100 op = some (r2 (kOf op)) ∧ F51 100 op = some (!nw (kOf op)) := by
  by_cases h : op < 1 ∨ 75 < op
  · have e1 := F57_out h
    have e2 := F63_out h hm
    have e3 := F68_out h
    have ek : kOf op = 0 := by unfold kOf; rw [e1]; rfl
    rw [ek]
    have ho : decide ((0 : Int) = 2) = false := rfl
    refine ⟨e1, ?_, ?_, ?_⟩
    · unfold F52; rw [e2, e3]; rfl
    · unfold F53; rw [e2]; rfl
    · unfold F51; rw [e2]; rfl
  · obtain ⟨k, hk⟩ : ∃ k : Nat, op = ((k + 1 : Nat) : Int) := ⟨(op - 1).toNat, by omega⟩
    subst hk
    have := List.all_eq_true.1 chk2_all k (List.mem_range.2 (by omega))
    simp only [chk2, Bool.and_eq_true, beq_iff_eq] at this
    exact this

/-! ### the sources -/
def clp (x : Int) : Int := if x < 0 ∨ 31 < x then 0 else x
theorem F61_is (x : Int) : F61 100 x = some (clp x) := by
  unfold F61 clp
  simp only [jp_eq, br_ite]
  by_cases h1 : x < 0 <;> by_cases h2 : 31 < x <;> simp [h1, h2]
theorem F62_is (x : Int) : F62 100 x = some (clp x) := by
  unfold F62 clp
  simp only [jp_eq, br_ite]
  by_cases h1 : x < 0 <;> by_cases h2 : 31 < x <;> simp [h1, h2]
theorem clp_pos {x : Int} (h : ¬ clp x = 0) : clp x = x ∧ 0 < clp x := by
  unfold clp at h ⊢
  split
  · rename_i h1; rw [if_pos h1] at h; exact absurd rfl h
  · rename_i h1; rw [if_neg h1] at h; exact ⟨rfl, by omega⟩

def nz (l : List Int) : List Int := l.filter fun x => !decide (x = 0)

theorem nz_loop (l : List Int) (hl : l.length ≤ 2) : fixN 100 (fun again2 (y3 : Int × List Int) => br (decide (y3.1 < (↑l.length : Int)))
 (jp (fun (y4 : List Int) => again2 ((IntKind.i64.wrap (y3.1 + 1), y4)))
 (fun K5 => chk (decide (0 ≤ y3.1) && decide (y3.1 < (↑l.length : Int))) (br (!decide (l.getD y3.1.toNat 0 = 0))
 (chk (decide ((y3.2.length + [l.getD y3.1.toNat 0].length) * 8 ≤ lim)) (K5 (y3.2 ++ [l.getD y3.1.toNat 0])))
 (K5 y3.2))))
 (some y3.2)) (0, []) = some (nz l) := by
  refine fixN_ind (fun m (y : Int × List Int) => ∃ i : Nat, y.1 = i ∧ i + m = l.length ∧ y.2 = nz (l.take i) ∧ y.2.length ≤ i) (fun _ o => o = some (nz l)) ?_ 100 l.length _ (by omega) ⟨0, rfl, by omega, rfl, Nat.le_refl _⟩
  rintro m ⟨i0, r⟩ again ⟨i, h1, h2, h3, h4⟩ ih
  simp only at h1 h3 h4
  subst h1 h3
  rcases Nat.eq_zero_or_pos m with h0 | h0
  · have d1 : decide ((i : Int) < (l.length : Int)) = false := decide_eq_false (by omega)
    simp only [d1, br_f]
    rw [List.take_of_length_le (by omega)]
  · have hi : i < l.length := by omega
    have d1 : decide ((i : Int) < (l.length : Int)) = true := decide_eq_true (by omega)
    have d2 : decide ((0 : Int) ≤ (i : Int)) = true := decide_eq_true (by omega)
    have d3 : decide (((nz (l.take i)).length + [l.getD i 0].length) * 8 ≤ lim) = true := decide_eq_true (by simp only [List.length_singleton, lim]; omega)
    have hg : l.getD i 0 = l[i] := by rw [List.getD_eq_getElem?_getD, List.getElem?_eq_getElem hi, Option.getD_some]
    have ht : nz (l.take (i + 1)) = if l.getD i 0 = 0 then nz (l.take i) else nz (l.take i) ++ [l.getD i 0] := by
      rw [List.take_succ_eq_append_getElem hi, hg]
      unfold nz
      rw [List.filter_append]
      by_cases e : l[i] = 0 <;> simp [e]
    simp only [d1, d2, br_t, Bool.and_self, chk_t, Int.toNat_natCast, jp_eq]
    rw [wrap64 (by omega) (by omega)]
    by_cases e : l.getD i 0 = 0
    · rw [if_pos e] at ht
      have d4 : decide (l.getD i 0 = 0) = true := decide_eq_true e
      simp only [d4, Bool.not_true, br_f]
      exact ih (m - 1) _ (by omega) ⟨i + 1, rfl, by omega, ht.symm, by show (nz (l.take i)).length ≤ _; omega⟩
    · rw [if_neg e] at ht
      have d4 : decide (l.getD i 0 = 0) = false := decide_eq_false e
      rw [d4, Bool.not_false, br_t, chk_true d3]
      exact ih (m - 1) _ (by omega) ⟨i + 1, rfl, by omega, ht.symm, by show (nz (l.take i) ++ [l.getD i 0]).length ≤ _; simp only [List.length_append, List.length_singleton]; omega⟩

end Go.Proofs.Ytipdancojcdioaa
