/- Plain law: the names play as the document's. No condition. -/
import Derived.Test.YtipdancojcdioaaNmF
namespace Go.Proofs.Ytipdancojcdioaa
open Go Go.Ev Go.Sh
set_option linter.unusedVariables false
set_option linter.unusedSimpArgs false
set_option maxRecDepth 100000

theorem jp_cut {α ρ : Type} {k : α → Option ρ} {b : (α → Option ρ) → Option ρ} {z : Option ρ} (P : α → Prop) (hk : ∀ a, P a → k a = z) (hb : ∀ K : α → Option ρ, (∀ a, P a → K a = z) → b K = z) : jp k b = z := hb k hk

theorem start_rl {C0 : List (Int × Bool)} {S0 : List Int} {Q0 : List RC} {W : List Int} (hC0 : C0.length = 44) (hS0 : S0.length = 32) (hs : ∀ j, j < 32 → S0.getD j 0 = (j : Int)) (hc : ∀ j, j < 32 → C0.getD j (0, false) = (W.getD j 0, true))
    (hQ0 : Q0.length = 32) (hq : ∀ j, j < 32 → Q0.getD j dRC = ((j : Int), (j : Int), W.getD j 0, true)) : S0 = st Q0 ∧ Rl C0 Q0 [] := by
  have hst : S0 = st Q0 := list_ext hS0 (by unfold st; rw [List.length_map, hQ0]) fun j hj => by rw [hs j hj, st_getD Q0 j (by omega), hq j hj]
  have hmem : ∀ q ∈ Q0, ∃ j : Nat, j < 32 ∧ q = ((j : Int), (j : Int), W.getD j 0, true) := by
    intro q hm
    obtain ⟨j, hj, hjq⟩ := List.getElem_of_mem hm
    refine ⟨j, by omega, ?_⟩
    rw [← hq j (by omega), ← hjq, List.getD_eq_getElem?_getD, List.getElem?_eq_getElem hj, Option.getD_some]
  refine ⟨hst, ⟨⟨hC0, by rw [← hst]; exact hS0, fun s hs' => ?_, fun x hx => by simp [cl] at hx⟩, hQ0, ?_, fun q hm => ?_, fun m hm => by simp at hm⟩⟩
  · obtain ⟨q, h1, h2⟩ := List.mem_map.1 hs'
    obtain ⟨j, h3, h4⟩ := hmem q h1
    rw [h4] at h2
    simp only at h2
    omega
  · rw [show ((cl []).map (·.2) : List Int) = [] from rfl, List.append_nil, ← hst]
    refine List.pairwise_iff_getElem.2 fun i j hi hj hij => ?_
    have a := hs i (by omega)
    have b := hs j (by omega)
    rw [List.getD_eq_getElem?_getD, List.getElem?_eq_getElem hi, Option.getD_some] at a
    rw [List.getD_eq_getElem?_getD, List.getElem?_eq_getElem hj, Option.getD_some] at b
    rw [a, b]
    omega
  · obtain ⟨j, h3, h4⟩ := hmem q hm
    subst h4
    exact ⟨hc j h3, rfl⟩

theorem F6_is {x1 : List Int} {x2 : List (Int × (Int × Int))} (h1 : x1.length = 32) : F6 100 x1 x2 = some true := by
  unfold F6
  have hN : 64 ≤ 100 := by omega
  obtain ⟨C0, S0, e0, hC0, hS0, hs, hc⟩ := F16_is hN x1
  obtain ⟨Q0, f0, hQ0, hq⟩ := F28_is hN h1
  obtain ⟨hst, hR0⟩ := start_rl hC0 hS0 hs hc hQ0 hq
  simp only [F15_is, bindS_some, Bool.not_true, br_f, e0, f0]
  refine fixN_ind (fun m (y : Int × List (Int × Bool) × List Int × List RC × List (Int × Int) × List RC) => ∃ (k : Nat) (C : List (Int × Bool)) (Q M : List RC), y = ((k : Int), C, st Q, Q, cl M, M) ∧ k + m = 60 ∧ Rl C Q M ∧ M.length ≤ k)
    (fun _ o => o = some true) ?_ 100 60 _ (by omega) ⟨0, C0, Q0, [], by rw [hst]; rfl, rfl, hR0, Nat.le_refl _⟩
  rintro m _ again ⟨k, C, Q, M, rfl, hk, hR, hM⟩ ih
  refine jp2 (fun c1 c3 => ?_) ?_
  · have c1' := of_decide_eq_true c1
    have c3' := of_decide_eq_true c3
    simp only at c1' c3'
    have hkN : IntKind.i64.wrap ((k : Int) + 1) = ((k + 1 : Nat) : Int) := by rw [wrap64 (by omega) (by omega)]; rfl
    have d1 : decide ((0 : Int) ≤ (k : Int)) = true := decide_eq_true (by omega)
    rw [br_t, chk_true (by rw [d1, c1]; rfl)]
    refine jp_cut (fun _ => True) (fun last _ => ?_) (fun K hK => ?_)
    · refine jp_cut (fun y : List (Int × Bool) × List Int × List RC × List (Int × Int) × List RC => ∃ (C' : List (Int × Bool)) (Q' M' : List RC), y = (C', st Q', Q', cl M', M') ∧ Rl C' Q' M' ∧ M'.length ≤ k + 1) ?_ (fun K hK => ?_)
      · rintro _ ⟨C', Q', M', rfl, hR', hM'⟩
        refine jp_cut (fun y : Bool => y = false) (fun y hy => ?_) (fun K hK => ?_)
        · subst hy
          rw [br_f, hkN]
          exact ih (m - 1) _ (by omega) ⟨k + 1, C', Q', M', rfl, by omega, hR', hM'⟩
        · obtain ⟨a, a1, a2⟩ := lookR hN hR' (by omega) (x2.getD k (0, 0, 0)).2.1
          obtain ⟨V, v1, v2⟩ := valuesR hN hR'
          have e : (Ty.arr 32 (Ty.int IntKind.u64)).eq V V = true := eqN_refl (f := fun a b : Int => decide (a = b)) (d := (0 : Int)) (fun x => decide_eq_true rfl) 32 V
          have e2 : decide (((cl M').length : Int) = (M'.length : Int)) = true := decide_eq_true (by rw [cl_len])
          simp only [F17_is, bindS_some, e2, Bool.not_true, br_f, Int.toNat_natCast, a1, a2, v1, v2, e, decide_true]
          exact hK _ rfl
      · have go : ∀ {C' : List (Int × Bool)} {Q' M' : List RC}, Rl C' Q' M' → M'.length ≤ k + 1 → K (C', st Q', Q', cl M', M') = some true := fun {C' Q' M'} g1 g2 => hK _ ⟨C', Q', M', rfl, g1, g2⟩
        cases decide ((x2.getD ((k : Int), C, st Q, Q, cl M, M).1.toNat (0, 0, 0)).1 = 0) with
        | true =>
          obtain ⟨c, ok, C', M', g1, g2, g3, g4⟩ := claimR hN hR (by omega) (x2.getD k (0, 0, 0)).2.1
          simp only [br_t, Int.toNat_natCast, g1, g2, bindS_some, jp_eq, decide_true, Bool.not_true, br_f, beq_self_eq_true]
          exact go g3 (by omega)
        | false =>
          rw [br_f]
          cases decide ((x2.getD ((k : Int), C, st Q, Q, cl M, M).1.toNat (0, 0, 0)).1 = 1) with
          | true =>
            obtain ⟨ok, C', M', g1, g2, g3, g4⟩ := setR hN hR (by omega) (x2.getD k (0, 0, 0)).2.1 (x2.getD k (0, 0, 0)).2.2
            simp only [br_t, Int.toNat_natCast, g1, g2, bindS_some, Bool.not_true, br_f, beq_self_eq_true]
            exact go g3 (by omega)
          | false =>
            rw [br_f]
            cases decide ((x2.getD ((k : Int), C, st Q, Q, cl M, M).1.toNat (0, 0, 0)).1 = 2) with
            | true =>
              obtain ⟨ok, Q', M', g1, g2, g3, g4⟩ := retireR hN hR (by omega)
              simp only [br_t, Int.toNat_natCast, g1, g2, bindS_some, Bool.not_true, br_f, beq_self_eq_true]
              exact go g3 (by omega)
            | false =>
              rw [br_f]
              cases decide ((x2.getD ((k : Int), C, st Q, Q, cl M, M).1.toNat (0, 0, 0)).1 = 3) with
              | true =>
                obtain ⟨g1, g2, g3⟩ := undoR (N := 100) hR (by omega)
                simp only [br_t, Int.toNat_natCast, g1, g2, bindS_some, Bool.not_true, br_f, beq_self_eq_true]
                exact go g3 (by rw [List.length_dropLast]; omega)
              | false =>
                rw [br_f]
                cases decide ((x2.getD ((k : Int), C, st Q, Q, cl M, M).1.toNat (0, 0, 0)).1 = 4) with
                | true =>
                  obtain ⟨ok, C', M', g1, g2, g3, g4⟩ := setR hN hR (by omega) last (x2.getD k (0, 0, 0)).2.2
                  simp only [br_t, Int.toNat_natCast, g1, g2, bindS_some, Bool.not_true, br_f, beq_self_eq_true]
                  exact go g3 (by omega)
                | false => exact go hR (by omega)
    · simp only
      cases hz : decide ((0 : Int) < (M.length : Int)) with
      | false => exact hK _ trivial
      | true =>
        have hz' := of_decide_eq_true hz
        rw [br_t, wrap64 (by omega) (by omega)]
        have e1 : decide ((0 : Int) ≤ (M.length : Int) - 1) = true := decide_eq_true (by omega)
        have e2 : decide ((M.length : Int) - 1 < (M.length : Int)) = true := decide_eq_true (by omega)
        rw [chk_true (by rw [e1, e2]; rfl)]
        exact hK _ trivial
  · rw [br_f]
    refine fixN_ind (fun m (y : Int) => m ≤ 47 ∧ y = 46 - (m : Int)) (fun _ o => o = some true) ?_ 100 47 _ (by omega) ⟨by omega, by omega⟩
    rintro m2 _ again2 ⟨hm2, rfl⟩ ih2
    rcases Nat.eq_zero_or_pos m2 with hz | hz
    · have e1 : decide ((46 : Int) - (m2 : Int) < 46) = false := decide_eq_false (by omega)
      simp only [e1, br_f]
    · have e1 : decide ((46 : Int) - (m2 : Int) < 46) = true := decide_eq_true (by omega)
      obtain ⟨a, a1, a2⟩ := lookR hN hR (by omega) (46 - (m2 : Int))
      obtain ⟨v, v1, v2⟩ := valueR hN hR (by omega) (46 - (m2 : Int))
      simp only [e1, br_t, a1, a2, v1, v2, bindS_some, jp_eq, decide_true, Bool.not_true, br_f, beq_self_eq_true]
      rw [wrap64 (by omega) (by omega)]
      exact ih2 (m2 - 1) _ (by omega) ⟨by omega, by omega⟩

end Go.Proofs.Ytipdancojcdioaa
