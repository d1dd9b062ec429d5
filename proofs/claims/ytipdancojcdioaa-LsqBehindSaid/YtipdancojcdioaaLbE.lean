/- Plain law: LsqBehind. No condition. -/
import Derived.Test.YtipdancojcdioaaLbD
namespace Go.Proofs.Ytipdancojcdioaa
open Go Go.Ev Go.Sh
set_option linter.unusedVariables false
set_option linter.unusedSimpArgs false
set_option maxRecDepth 100000

theorem getD_set2 {α : Type} {d : α} {xs : List α} {i j : Nat} {y : α} (h : i < xs.length) : (xs.set i y).getD j d = if i = j then y else xs.getD j d := by
  simp only [List.getD_eq_getElem?_getD, List.getElem?_set]
  split
  · rename_i e; subst e; simp [h]
  · rfl

theorem F10_is {x1 : Int} {x2 : Bool} {l : List SLOT} (h1 : 0 ≤ x1) (h2 : x1 < 256) : F10 100 x1 x2 l = some true := by
  unfold F10
  simp only [F43_is, bindS_some, Bool.not_true, br_f]
  rw [wrap64 (n := x1) (by omega) (by omega)]
  cases c1 : decide (40 < (l.length : Int)) with
  | true => rfl
  | false =>
    have hl : l.length ≤ 40 := by have := of_decide_eq_false c1; omega
    simp only [br_f]
    cases c2 : decide ((l.length : Int) ≤ x1) with
    | true => rfl
    | false =>
      have hx := of_decide_eq_false c2
      obtain ⟨k, rfl⟩ := Int.eq_ofNat_of_zero_le h1
      have hk : k < l.length := by omega
      simp only [br_f]
      rw [wrap64 (n := (k : Int) + 1) (by omega) (by omega)]
      have hkk : ((k : Int) + 1).toNat = k + 1 := by omega
      have e1 : decide ((0 : Int) ≤ (k : Int) + 1) = true := decide_eq_true (by omega)
      have e3 : Nat.ble (k + 1) l.length = true := Nat.ble_eq_true_of_le (by omega)
      have e4 : Nat.ble 0 (k + 1) = true := Nat.ble_eq_true_of_le (by omega)
      have htl : k < (l.take (k + 1)).length := by rw [List.length_take]; omega
      have htl2 : (l.take (k + 1)).length ≤ 40 := by rw [List.length_take]; omega
      have htg : ∀ j, j ≤ k → (fun j => (l.take (k + 1)).getD j DD) j = (fun j => l.getD j DD) j := by
        intro j hj
        simp only [List.getD_eq_getElem?_getD]
        rw [List.getElem?_take_of_lt (by omega)]
      refine jp_cut2 (fun y => y = false) (fun y hy => ?_) (fun K hK => ?_)
      · subst hy
        have e5 : decide (l.length * 144 ≤ lim) = true := decide_eq_true (by unfold lim; omega)
        simp only [br_f, e5, chk_t]
        refine fixN_ind (fun m (y : Int × List SLOT) => ∃ i : Nat, y.1 = i ∧ i + m = l.length ∧ y.2.length = l.length ∧ ∀ j, y.2.getD j DD = if j < i then setB (l.getD j DD) else l.getD j DD) (fun _ o => o = some true) ?_ 100 l.length _ (by omega) ⟨0, rfl, by omega, rfl, fun j => by simp⟩
        rintro m ⟨i, all⟩ again ⟨n, g1, g2, g3, g4⟩ ih
        simp only at g1 g3 g4
        subst g1
        rcases Nat.eq_zero_or_pos m with h0 | h0
        · have d1 : decide ((n : Int) < (all.length : Int)) = false := decide_eq_false (by omega)
          simp only [d1, br_f]
          have hall : ∀ j, j ≤ k → (fun j => all.getD j DD) j = (fun j => setB (l.getD j DD)) j := by
            intro j hj
            show all.getD j DD = _
            rw [g4 j, if_pos (by omega)]
          refine jp_cut2 (fun y => y = true) (fun y hy => by rw [hy]) (fun K hK => ?_)
          simp only [br_t, F45_is x2 hk hl, F45_is true hk hl, F45_is x2 (show k < all.length by omega) (by omega), bindS_some]
          cases hp : pas (fun j => l.getD j DD) x2 k with
          | false => exact hK _ rfl
          | true =>
            obtain ⟨p1, p2⟩ := pas_mono hp
            rw [pas_ext hall, p1, p2]
            exact hK _ rfl
        · have d1 : decide ((n : Int) < (all.length : Int)) = true := decide_eq_true (by omega)
          have d2 : decide ((0 : Int) ≤ (n : Int)) = true := decide_eq_true (by omega)
          simp only [d1, d2, br_t, Bool.and_self, chk_t, Int.toNat_natCast]
          rw [wrap64 (by omega) (by omega)]
          refine ih (m - 1) _ (by omega) ⟨n + 1, by show (n : Int) + 1 = _; omega, by omega, by show (all.set n _).length = _; rw [List.length_set, g3], fun j => ?_⟩
          show (all.set n (setB (all.getD n DD))).getD j DD = _
          rw [getD_set2 (by omega)]
          by_cases e : n = j
          · subst e
            rw [if_pos rfl, if_pos (by omega), g4 n, if_neg (by omega)]
          · rw [if_neg e, g4 j]
            by_cases e2 : j < n
            · rw [if_pos e2, if_pos (by omega)]
            · rw [if_neg e2, if_neg (by omega)]
      · simp only [hkk, e1, e3, e4, Bool.and_self, chk_t, Nat.sub_zero, Nat.add_zero, List.drop_zero, F44_is x2 hk hl, F44_is x2 htl htl2, F45_is x2 hk hl, F45_is x2 htl htl2, bindS_some, wai_ext htg, pas_ext htg, decide_true, Bool.not_true, br_f, beq_self_eq_true]
        exact hK _ rfl

theorem u8_wf1 {b : Int} (this : Ty.wf (.int .u8) b) : 0 ≤ b ∧ b < 256 := by
  simp only [Ty.wf, Lit.wf, Bool.and_eq_true, decide_eq_true_eq] at this
  have e1 : IntKind.u8.min = 0 := by kernel_rfl
  have e2 : IntKind.u8.max = 255 := by kernel_rfl
  rw [e1, e2] at this
  exact ⟨this.1, by omega⟩

end Go.Proofs.Ytipdancojcdioaa
