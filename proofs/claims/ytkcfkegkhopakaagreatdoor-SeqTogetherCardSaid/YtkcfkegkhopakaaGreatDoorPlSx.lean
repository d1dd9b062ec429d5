/- The law of a hart alone. No condition beyond the inputs'. -/
import Derived.Test.YtkcfkegkhopakaaGreatDoorPlSw
namespace Go.Proofs.YtkcfkegkhopakaaGreatDoor
open Go Go.Ev Go.Sh
set_option linter.unusedVariables false
set_option linter.unusedSimpArgs false
set_option maxRecDepth 100000

theorem refl_loop {N L : Nat} (hN : L < N) (hL : L < 9223372036854775807) (body : Int → Bool) (hb : ∀ i, body i = false) :
    fixN N (fun again0 (y1 : Int) => br (decide (y1 < (L : Int))) (chk (decide (0 ≤ y1) && decide (y1 < (L : Int))) (chk (decide (0 ≤ y1) && decide (y1 < (L : Int))) (br (body y1) (some false) (again0 (IntKind.i64.wrap (y1 + 1)))))) (some true)) 0 = some true := by
  refine fixN_ind (fun m (y : Int) => ∃ i : Nat, i + m = L ∧ y = (i : Int)) (fun _ o => o = some true) ?_ N L _ hN ⟨0, by omega, rfl⟩
  rintro m y again ⟨i, hi, rfl⟩ ih
  rcases Nat.eq_zero_or_pos m with h0 | h0
  · rw [brF (by omega)]
  · have hc : (decide ((0 : Int) ≤ (i : Int)) && decide ((i : Int) < (L : Int))) = true := by rw [Bool.and_eq_true]; exact ⟨decide_eq_true (by omega), decide_eq_true (by omega)⟩
    rw [brT (by omega), chk_true hc, chk_true hc, br_false (hb _), wrap64 (by omega) (by omega)]
    exact ih (m - 1) _ (by omega) ⟨i + 1, by omega, by omega⟩

theorem sameBytes_refl {N : Nat} (l : List Int) (hN : l.length < N) (hL : l.length < 9223372036854775807) : F25 N l l = some true := by
  unfold F25
  rw [br_false (by rw [decide_eq_true rfl]; rfl)]
  exact refl_loop hN hL (fun y1 => !decide (l.getD y1.toNat 0 = l.getD y1.toNat 0)) (fun i => by simp)

theorem same_refl {N : Nat} (l : List DoneT) (hN : l.length < N) (hL : l.length < 9223372036854775807) : F33 N l l = some true := by
  unfold F33
  rw [br_false (by rw [decide_eq_true rfl]; rfl)]
  exact refl_loop hN hL _ (fun i => by rw [tyEq_refl]; rfl)

theorem alone_t {N : Nat} (hN : 1100 ≤ N) {h : HartT} (g : HartY.wf h) {most : Int} (hm : (Ty.int .i64).wf most) {img : List Int} (hb : ∀ x ∈ img, (Ty.int .u8).wf x) : F8 N h most img = some true := by
  obtain ⟨⟨p, hp, hp2⟩, hlen, hX⟩ := rg_wf g
  have hB := by_wf hb
  obtain ⟨pc, X, c0⟩ := h
  simp only at hp2 hlen hX
  subst hp2
  unfold F8 R8
  have ha : F26 N = some true := rfl
  rw [ha, bindS_some, bindS_some]
  simp only [Bool.not_true, br_f]
  by_cases hl : img.length ≤ 1024
  · rw [br_false (decide_eq_false (by omega)), jp_eq]
    have key : ∀ n : Int, n ≤ 300 → ∃ v : AloneT, F31 N ((p : Int), X, c0) n img = some v ∧ F32 N ((p : Int), X, c0) n img = some v ∧ F25 N v.2.1 v.2.1 = some true ∧ F33 N v.2.2 v.2.2 = some true := by
      intro n hn
      obtain ⟨v, h1, h2, h3, h4⟩ := alone_same hN (u_nat hp) hX hlen c0 hl hB hn
      exact ⟨v, h1, h2, sameBytes_refl _ (by omega) (by omega), same_refl _ (by omega) (by omega)⟩
    by_cases h3 : 300 < most
    · obtain ⟨v, h1, h2, h4, h5⟩ := key 300 (by omega)
      rw [brT h3]
      dsimp only
      rw [h1, bindS_some, h2, bindS_some, jp_eq]
      simp only [bindS_some, br_t, tyEq_refl, h4, h5]
    · obtain ⟨v, h1, h2, h4, h5⟩ := key most (by omega)
      rw [brF h3]
      dsimp only
      rw [h1, bindS_some, h2, bindS_some, jp_eq]
      simp only [bindS_some, br_t, tyEq_refl, h4, h5]
  · rw [br_true (decide_eq_true (by omega))]
end Go.Proofs.YtkcfkegkhopakaaGreatDoor
