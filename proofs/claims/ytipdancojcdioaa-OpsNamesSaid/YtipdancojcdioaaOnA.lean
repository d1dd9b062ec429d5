/- Plain law: the operations' names. No condition. -/
import Derived.Test.YtipdancojcdioaaEqOn
import Derived.Test.YtipdancojcdioaaShT
namespace Go.Proofs.Ytipdancojcdioaa
open Go Go.Ev Go.Sh
set_option linter.unusedVariables false
set_option linter.unusedSimpArgs false
set_option maxRecDepth 100000

def nmL : List (List UInt8) := (F25 0).getD []
def nmA : List (List UInt8) := (F59 0).getD []

theorem F24_is : F24 100 = some true := by kernel_rfl
theorem F25_is : F25 100 = some nmL := by kernel_rfl
theorem F59_is : F59 100 = some nmA := by kernel_rfl
theorem nmL_len : nmL.length = 75 := by kernel_rfl
theorem nmA_len : nmA.length = 76 := by kernel_rfl
theorem nmA_is : nmA = [] :: nmL := by kernel_rfl

def chk1 (i : Nat) : Bool := (F26 100 (nmL.getD i []) == some ((i + 1 : Nat) : Int)) && (F27 100 ((i + 1 : Nat) : Int) == some (nmL.getD i []))
theorem chk1_all : ((List.range 75).all chk1) = true := by kernel_rfl
theorem chk1_is {i : Nat} (h : i < 75) : F26 100 (nmL.getD i []) = some ((i + 1 : Nat) : Int) ∧ F27 100 ((i + 1 : Nat) : Int) = some (nmL.getD i []) := by
  have := List.all_eq_true.1 chk1_all i (List.mem_range.2 h)
  simp only [chk1, Bool.and_eq_true, beq_iff_eq] at this
  exact this

theorem F27_out {op : Int} (h : op < 1 ∨ 75 < op) : F27 100 op = some [] := by
  have : F57 100 op = some 0 := by
    unfold F57
    simp only [jp_eq, br_ite]
    by_cases h1 : op < 1
    · simp [h1]
    · have h2 : 75 < op := by omega
      simp [h1, h2]
  unfold F27
  rw [this]
  rfl

theorem F26_none {s : List UInt8} (h : ∀ j, j < 75 → ¬ nmL.getD j [] = s) : F26 100 s = some 0 := by
  unfold F26
  rw [F59_is, bindS_some, search_list nmA (fun x => x == s) [] (by rw [nmA_len]; omega) (by rw [nmA_len]; omega) (by rw [nmA_len]; rfl) (by rw [nmA_len]; rfl) (fun i => rfl), nmA_is, List.findIdx?_cons]
  cases h0 : (([] : List UInt8) == s) with
  | true => rfl
  | false =>
    have : nmL.findIdx? (fun x => x == s) = none := by
      rw [List.findIdx?_eq_none_iff]
      intro x hx
      obtain ⟨j, hj, rfl⟩ := List.getElem_of_mem hx
      have := h j (by rw [← nmL_len]; exact hj)
      rw [List.getD_eq_getElem?_getD, List.getElem?_eq_getElem hj, Option.getD_some] at this
      simpa using this
    rw [this]
    rfl

theorem F5_is (s : List UInt8) (op : Int) : F5 100 s op = some true := by
  unfold F5
  simp only [F24_is, F25_is, bindS_some, Bool.not_true, br_f]
  refine fixN_ind (fun m (y : Int × Int) => ∃ i : Nat, y.2 = i ∧ i + m = 75 ∧ (F26 100 s = some y.1 ∨ (y.1 = 0 ∧ ∀ j, j < i → ¬ nmL.getD j [] = s))) (fun _ o => o = some true) ?_ 100 75 _ (by omega) ⟨0, rfl, rfl, .inr ⟨rfl, fun j hj => by omega⟩⟩
  rintro m ⟨w, i0⟩ again ⟨i, h1, h2, h3⟩ ih
  simp only at h1 h3
  subst h1
  rcases Nat.eq_zero_or_pos m with h0 | h0
  · have d1 : decide ((i : Int) < (nmL.length : Int)) = false := decide_eq_false (by rw [nmL_len]; omega)
    have hw : F26 100 s = some w := by
      rcases h3 with h3 | ⟨rfl, h3⟩
      · exact h3
      · exact F26_none fun j hj => h3 j (by omega)
    have d2 : decide ((nmL.length : Int) = 75) = true := decide_eq_true (by rw [nmL_len]; rfl)
    simp only [d1, br_f, jp_eq, hw, bindS_some, br_t, decide_true, d2]
    by_cases ho : op < 1 ∨ 75 < op
    · rw [F27_out ho]
      rfl
    · obtain ⟨k, hk⟩ : ∃ k : Nat, op = ((k + 1 : Nat) : Int) := ⟨(op - 1).toNat, by omega⟩
      subst hk
      obtain ⟨c1, c2⟩ := chk1_is (i := k) (by omega)
      rw [c2]
      simp only [bindS_some, c1, decide_true, Bool.not_true, br_f]
      cases (!nmL.getD k [] == []) <;> rfl
  · have d1 : decide ((i : Int) < (nmL.length : Int)) = true := decide_eq_true (by rw [nmL_len]; omega)
    have d2 : decide ((0 : Int) ≤ (i : Int)) = true := decide_eq_true (by omega)
    obtain ⟨c1, c2⟩ := chk1_is (i := i) (by omega)
    have hw : IntKind.i64.wrap ((i : Int) + 1) = ((i + 1 : Nat) : Int) := by rw [wrap64 (by omega) (by omega)]; rfl
    simp only [d1, d2, br_t, Bool.and_self, chk_t, Int.toNat_natCast, hw, c1, c2, bindS_some, decide_true, Bool.not_true, br_f, jp_eq, beq_self_eq_true]
    cases he : (nmL.getD i [] == s) with
    | true =>
      rw [br_t]
      have he' : nmL.getD i [] = s := by simpa using he
      exact ih (m - 1) _ (by omega) ⟨i + 1, rfl, by omega, .inl (by rw [← he']; exact c1)⟩
    | false =>
      rw [br_f]
      have he' : ¬ nmL.getD i [] = s := by simpa using he
      refine ih (m - 1) _ (by omega) ⟨i + 1, rfl, by omega, ?_⟩
      rcases h3 with h3 | ⟨h3, h4⟩
      · exact .inl h3
      · refine .inr ⟨h3, fun j hj => ?_⟩
        rcases Nat.lt_or_ge j i with hlt | hge
        · exact h4 j hlt
        · obtain rfl : j = i := by omega
          exact he'

end Go.Proofs.Ytipdancojcdioaa
