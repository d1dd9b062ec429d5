/- Plain law: OpsRegisters. No condition. -/
import Derived.Test.YtipdancojcdioaaOrA
namespace Go.Proofs.Ytipdancojcdioaa
open Go Go.Ev Go.Sh
set_option linter.unusedVariables false
set_option linter.unusedSimpArgs false
set_option maxRecDepth 100000

abbrev INST := Int × (Int × (Int × (Int × (Int × (Bool × (Bool × (Int × Int)))))))

theorem jp_cut3 {α ρ : Type} {k : α → Option ρ} {b : (α → Option ρ) → Option ρ} {z : Option ρ} (P : α → Prop) (hk : ∀ a, P a → k a = z) (hb : ∀ K : α → Option ρ, (∀ a, P a → K a = z) → b K = z) : jp k b = z := hb k hk

def srcs (x : INST) : List Int := bif r2 (kOf x.1) then [clp x.2.2.1, clp x.2.2.2.1] else bif r1 (kOf x.1) x.1 then [clp x.2.2.1] else []

theorem srcs_len (x : INST) : (srcs x).length ≤ 2 := by
  unfold srcs
  cases r2 (kOf x.1) <;> cases r1 (kOf x.1) x.1 <;> simp

theorem F38_is (x : INST) (hm : x.1 ≤ 9223372036854775807) : F38 100 x = some (nz (srcs x)) := by
  obtain ⟨e1, _, _, _⟩ := ops_is x.1 hm
  unfold F38
  rw [e1, bindS_some]
  refine jp_cut3 (fun l => l = srcs x) (fun l hl => by subst hl; exact nz_loop _ (srcs_len x)) (fun K hK => ?_)
  refine jp_cut3 (fun y => y = r2 (kOf x.1)) (fun y hy => ?_) (fun K' hK' => ?_)
  · simp only [F61_is, bindS_some]
    cases h2 : r2 (kOf x.1) with
    | true =>
      subst hy
      rw [h2, br_t]
      exact hK _ (by unfold srcs; rw [h2]; rfl)
    | false =>
      subst hy
      rw [h2, br_f]
      have key : ∀ l, l = srcs x → K l = some (nz (srcs x)) := hK
      have hs1 : r1 (kOf x.1) x.1 = true → K [clp x.2.2.1] = some (nz (srcs x)) := fun h => hK _ (by unfold srcs; rw [h2, h]; rfl)
      have hs0 : r1 (kOf x.1) x.1 = false → K [] = some (nz (srcs x)) := fun h => hK _ (by unfold srcs; rw [h2, h]; rfl)
      refine jp_cut3 (fun y => y = (decide (kOf x.1 = 4) || (decide (kOf x.1 = 6) || decide (kOf x.1 = 10)))) (fun y hy => ?_) (fun K' hK' => ?_)
      · subst hy
        unfold r1 at hs1 hs0
        cases a : decide (kOf x.1 = 4) <;> cases b : decide (kOf x.1 = 6) <;> cases c : decide (kOf x.1 = 10) <;> cases d : decide (kOf x.1 = 2) <;> cases e : decide (x.1 = 4) <;> rw [a, b, c, d, e] at hs1 hs0 <;> first | exact hs1 rfl | exact hs0 rfl
      · cases a : decide (kOf x.1 = 4) <;> cases b : decide (kOf x.1 = 6) <;> cases c : decide (kOf x.1 = 10) <;> rw [a, b, c] at hK' <;> exact hK' _ rfl
  · unfold r2 at hK'
    cases a : decide (kOf x.1 = 3) <;> cases b : decide (kOf x.1 = 5) <;> cases c : decide (kOf x.1 = 7) <;> cases d : decide (kOf x.1 = 11) <;> cases e : decide (kOf x.1 = 12) <;> rw [a, b, c, d, e] at hK' <;> exact hK' _ rfl

theorem F39_is (x : INST) (hm : x.1 ≤ 9223372036854775807) : F39 100 x = some (nz (srcs x)) := by
  obtain ⟨_, e2, e3, _⟩ := ops_is x.1 hm
  unfold F39
  simp only [e2, e3, bindS_some, F62_is, jp_eq]
  have hp : ∀ y : Int, decide (0 < clp y) = !decide (clp y = 0) := by
    intro y
    by_cases h : clp y = 0
    · rw [h]; rfl
    · have := clp_pos h
      rw [decide_eq_true this.2, decide_eq_false h]; rfl
  have hl : ∀ (l : List Int) (a : Int), l.length ≤ 1 → decide ((l.length + [a].length) * 8 ≤ lim) = true := fun l a h => decide_eq_true (by simp only [List.length_singleton, lim]; omega)
  simp only [hp]
  unfold srcs nz
  cases h2 : r2 (kOf x.1) <;> cases h1 : r1 (kOf x.1) x.1 <;> by_cases a : clp x.2.2.1 = 0 <;> by_cases b : clp x.2.2.2.1 = 0 <;>
    simp [a, b, hl] <;> (try rw [(clp_pos a).1]) <;> (try rw [(clp_pos b).1]) <;> (try exact chk_true (decide_eq_true (by unfold lim; omega)))

theorem F37_is (l : List Int) (hl : l.length ≤ 2) : F37 100 l l = some true := by
  unfold F37
  simp only [decide_true, Bool.not_true, br_f]
  refine fixN_ind (fun m (y : Int) => ∃ i : Nat, y = i ∧ i + m = l.length) (fun _ o => o = some true) ?_ 100 l.length _ (by omega) ⟨0, rfl, by omega⟩
  rintro m _ again ⟨i, rfl, h⟩ ih
  rcases Nat.eq_zero_or_pos m with h0 | h0
  · have d1 : decide ((i : Int) < (l.length : Int)) = false := decide_eq_false (by omega)
    simp only [d1, br_f]
  · have d1 : decide ((i : Int) < (l.length : Int)) = true := decide_eq_true (by omega)
    have d2 : decide ((0 : Int) ≤ (i : Int)) = true := decide_eq_true (by omega)
    simp only [d1, d2, br_t, Bool.and_self, chk_t]
    rw [wrap64 (by omega) (by omega)]
    exact ih (m - 1) _ (by omega) ⟨i + 1, rfl, by omega⟩

theorem F8_is (x : INST) (hm : x.1 ≤ 9223372036854775807) : F8 100 x = some true := by
  obtain ⟨e1, _, _, e4⟩ := ops_is x.1 hm
  unfold F8
  have hlen : (nz (srcs x)).length ≤ 2 := Nat.le_trans (List.length_filter_le _ _) (srcs_len x)
  have e40 : F40 100 x = some (bif nw (kOf x.1) then 0 else clp x.2.1) := by
    unfold F40
    rw [e1, bindS_some]
    refine jp_cut3 (fun y => y = nw (kOf x.1)) (fun y hy => ?_) (fun K hK => ?_)
    · subst hy
      rw [F61_is, bindS_some]
      cases nw (kOf x.1) <;> rfl
    · have hK2 := hK (decide (kOf x.1 = 0) || (decide (kOf x.1 = 3) || (decide (kOf x.1 = 5) || (decide (kOf x.1 = 8) || decide (kOf x.1 = 9))))) rfl
      cases a : decide (kOf x.1 = 0) <;> cases b : decide (kOf x.1 = 3) <;> cases c : decide (kOf x.1 = 5) <;> cases d : decide (kOf x.1 = 8) <;> cases e : decide (kOf x.1 = 9) <;> rw [a, b, c, d, e] at hK2 <;> exact hK2
  have e41 : F41 100 x = some (bif nw (kOf x.1) then 0 else clp x.2.1) := by
    unfold F41
    rw [e4, bindS_some, F62_is, bindS_some]
    cases nw (kOf x.1) <;> rfl
  simp only [F24_is, bindS_some, Bool.not_true, br_f, jp_eq, br_t, F38_is x hm, F39_is x hm, F37_is _ hlen, e40, e41, decide_true]

theorem i64_wf1 {b : Int} (this : Ty.wf (.int .i64) b) : b ≤ 9223372036854775807 := by
  simp only [Ty.wf, Lit.wf, Bool.and_eq_true, decide_eq_true_eq] at this
  have e2 : IntKind.i64.max = 9223372036854775807 := by kernel_rfl
  rw [e2] at this
  exact this.2

end Go.Proofs.Ytipdancojcdioaa
