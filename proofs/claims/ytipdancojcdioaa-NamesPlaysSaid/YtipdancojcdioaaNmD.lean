/- Plain law: the names undone. No condition. -/
import Derived.Test.YtipdancojcdioaaNmC
namespace Go.Proofs.Ytipdancojcdioaa
open Go Go.Ev Go.Sh
set_option linter.unusedVariables false
set_option linter.unusedSimpArgs false
set_option maxRecDepth 100000

theorem F15_any (M : Nat) : F15 (M + 100) = some true := by kernel_rfl

theorem set_any {N : Nat} (hN : 64 ≤ N) {C : List (Int × Bool)} {S : List Int} {L : List (Int × Int)} (h : NI C S L) (hr : Rdy C L) (hl : L.length ≤ 60) (c v : Int) :
    ∃ ok C', F19 N c v C S L = some (ok, C', S, L) ∧ NI C' S L ∧ Rdy C' L := by
  rw [F19_is h.cl (fun x hx => (h.l0 x hx).2.2) hl hN]
  split
  · refine ⟨_, _, rfl, ⟨by rw [List.length_set]; exact h.cl, h.sl, h.s0, h.l0⟩, fun x hx => ?_⟩
    have := h.l0 x hx
    by_cases e : c.toNat = x.2.toNat
    · rw [e, getD_set (by rw [h.cl]; omega), if_pos rfl]
    · simp only [List.getD_eq_getElem?_getD, List.getElem?_set, if_neg e]
      rw [← List.getD_eq_getElem?_getD]
      exact hr x hx
  · exact ⟨_, _, rfl, h, hr⟩

theorem claim_only {N : Nat} (hN : 64 ≤ N) {C : List (Int × Bool)} {S : List Int} {L : List (Int × Int)} (h : NI C S L) (hl : L.length ≤ 11) {r : Int} (h1 : 1 ≤ r) (h2 : r < 32) :
    ∃ c C1, F18 N r C S L = some (c, true, C1, S, L ++ [(r, c)]) ∧ NI C1 S (L ++ [(r, c)]) := by
  obtain ⟨c, hc⟩ := firstFree_some (S := S) (L := L) (by rw [h.sl]; omega)
  obtain ⟨_, hc1, hc2, _⟩ := find1_some hc
  refine ⟨c, C.set c (0, false), ?_, ⟨by rw [List.length_set]; exact h.cl, h.sl, h.s0, fun x hx => ?_⟩⟩
  · rw [F18_in h1 h2 h.sl h.cl (by omega) hN, hc]
  · rcases List.mem_append.1 hx with hx | hx
    · exact h.l0 x hx
    · obtain rfl := List.mem_singleton.1 hx
      exact ⟨h1, h2, by show (0 : Int) ≤ c; omega, by show (c : Int) < 44; omega⟩

theorem NI.drop {C : List (Int × Bool)} {S : List Int} {L : List (Int × Int)} (h : NI C S L) : NI C S L.dropLast :=
  ⟨h.cl, h.sl, h.s0, fun x hx => h.l0 x ((List.dropLast_sublist L).subset hx)⟩

theorem jp2b {ρ : Type} {c1 c2 : Bool} {A : Bool → Option ρ} {t : Option Int} {n : Int} {g : Int → Bool} (ht : t = some n) (hc : c2 = g n) {z : Option ρ} (hT : c1 = true → c2 = true → A true = z) (hF : A false = z) :
    jp A (fun K => br c1 (bindS t fun y => K (g y)) (K Bool.false)) = z := by
  subst ht hc
  simp only [jp_eq, bindS_some]
  cases c1
  · exact hF
  · cases h : g n with
    | true => exact hT rfl h
    | false => exact hF

theorem F3_is {x1 : List Int} {x2 : List (Int × (Int × Int))} {x3 : List Int} (h1 : x1.length = 32) (h3 : ∀ b ∈ x3, 0 ≤ b ∧ b < 256) (hl3 : x3.length ≤ maxLen) : F3 (x3.length + 100) x1 x2 x3 = some true := by
  have hmax : x3.length ≤ 9223372036854775807 := Nat.le_trans hl3 (by decide)
  have hN : 64 ≤ x3.length + 100 := by omega
  unfold F3
  obtain ⟨C0, S0, e0, hC0, hS0, hs, hc⟩ := F16_is hN x1
  simp only [F15_any, bindS_some, Bool.not_true, br_f, e0]
  refine fixN_ind (fun m (y : Int × List (Int × Bool) × List Int × List (Int × Int)) => ∃ k : Nat, y.1 = k ∧ k + m = 60 ∧ y.2.2.2.length ≤ 12 ∧ NI y.2.1 y.2.2.1 y.2.2.2 ∧ Rdy y.2.1 y.2.2.2)
    (fun _ o => o = some true) ?_ (x3.length + 100) 60 _ (by omega) ⟨0, rfl, rfl, by simp, ⟨hC0, hS0, fun s hs' => ?_, fun x hx => by simp at hx⟩, fun x hx => by simp at hx⟩
  · rintro m ⟨i, C, S, L⟩ again ⟨k, hi, hk, hL, hNI, hR⟩ ih
    simp only at hi hL hNI hR
    subst hi
    refine jp2 (fun c1 c3 => ?_) ?_
    · have c1' := of_decide_eq_true c1
      have c3' := of_decide_eq_true c3
      simp only at c1' c3'
      have hkN : IntKind.i64.wrap ((k : Int) + 1) = ((k + 1 : Nat) : Int) := by rw [wrap64 (by omega) (by omega)]; rfl
      have d1 : decide ((0 : Int) ≤ (k : Int)) = true := decide_eq_true (by omega)
      have go : ∀ {C' : List (Int × Bool)} {S' : List Int} {L' : List (Int × Int)}, L'.length ≤ 12 → NI C' S' L' → Rdy C' L' → again (((k + 1 : Nat) : Int), C', S', L') = some true :=
        fun {C' S' L'} g1 g2 g3 => ih (m - 1) _ (by omega) ⟨k + 1, rfl, by omega, g1, g2, g3⟩
      simp only [br_t, d1, c1, Bool.and_self, chk_t, Int.toNat_natCast, hkN]
      simp only [jp_eq, F17_is, bindS_some]
      have stp : br (decide ((x2.getD k (0, 0, 0)).1 = 2)) (bindS (F20 (x3.length + 100) C S L) fun y12 => again (((k + 1 : Nat) : Int), y12.2.1, y12.2.2.1, y12.2.2.2))
          (br (decide ((x2.getD k (0, 0, 0)).1 = 3)) (bindS (F21 (x3.length + 100) C S L) fun y13 => again (((k + 1 : Nat) : Int), y13.2.1, y13.2.2.1, y13.2.2.2)) (again (((k + 1 : Nat) : Int), C, S, L))) = some true := by
        cases decide ((x2.getD k (0, 0, 0)).1 = 2) with
        | true =>
          rw [br_t]
          cases L with
          | nil => exact go hL hNI hR
          | cons x L =>
            obtain ⟨r, c⟩ := x
            obtain ⟨g1, g2, g3, _⟩ := retire_one (N := x3.length + 100) hNI hR
            rw [g1, bindS_some]
            simp only [List.length_cons] at hL
            exact go (L' := L) (by omega) g2 g3
        | false =>
          rw [br_f]
          cases decide ((x2.getD k (0, 0, 0)).1 = 3) with
          | true =>
            rw [br_t, F21_is (by omega), bindS_some]
            exact go (by rw [List.length_dropLast]; omega) hNI.drop fun x hx => hR x ((List.dropLast_sublist L).subset hx)
          | false => exact go hL hNI hR
      cases hkd : decide ((x2.getD k (0, 0, 0)).1 = 0) with
      | false => simp only [br_f]; exact stp
      | true =>
        simp only [br_t]
        cases hlt : decide ((L.length : Int) < 12) with
        | false => simp only [br_f]; exact stp
        | true =>
          have hlt' := of_decide_eq_true hlt
          simp only [br_t]
          by_cases hr : 1 ≤ (x2.getD k (0, 0, 0)).2.1 ∧ (x2.getD k (0, 0, 0)).2.1 < 32
          · obtain ⟨c, C1, C2, f1, f2, f3, f4, _⟩ := claim_set hN hNI hR (by omega) (r := (x2.getD k (0, 0, 0)).2.1) (v := (x2.getD k (0, 0, 0)).2.2) hr.1 hr.2
            have e1 : decide (0 < (x2.getD k (0, 0, 0)).2.1) = true := decide_eq_true (by omega)
            have e2 : decide ((x2.getD k (0, 0, 0)).2.1 < 32) = true := decide_eq_true (by omega)
            simp only [f1, bindS_some, e1, e2, br_t, br_f, beq_self_eq_true, Bool.not_true, f2]
            exact go (by simp; omega) f3 f4
          · rw [F18_out (by omega)]
            obtain ⟨ok, C', f1, f2, f3⟩ := set_any hN hNI hR (by omega) 0 (x2.getD k (0, 0, 0)).2.2
            by_cases hp : 0 < (x2.getD k (0, 0, 0)).2.1
            · have e1 : decide (0 < (x2.getD k (0, 0, 0)).2.1) = true := decide_eq_true (by omega)
              have e2 : decide ((x2.getD k (0, 0, 0)).2.1 < 32) = false := decide_eq_false (by omega)
              simp only [bindS_some, e1, e2, br_t, br_f, beq_self_eq_true, Bool.not_true, f1]
              exact go hL f2 f3
            · have e1 : decide (0 < (x2.getD k (0, 0, 0)).2.1) = false := decide_eq_false (by omega)
              simp only [bindS_some, e1, br_t, br_f, beq_self_eq_true, Bool.not_true, f1]
              exact go hL f2 f3
    · simp only [br_f]
      refine fixN_ind (fun m (y : Int × List Int) => m ≤ 32 ∧ y.1 = ((32 - m : Nat) : Int) ∧ y.2.length = 32 ∧ ∀ j : Nat, j < 32 - m → y.2.getD j 0 = look S L j)
        (fun _ o => o = some true) ?_ (x3.length + 100) 32 _ (by omega) ⟨by omega, rfl, rfl, fun j hj => by omega⟩
      rintro m2 ⟨i2, was⟩ again2 ⟨hm2, hi2, hwl, hwas⟩ ih2
      simp only at hi2 hwl hwas
      subst hi2
      rcases Nat.eq_zero_or_pos m2 with hz | hz
      · subst hz
        have d0 : decide (((32 - 0 : Nat) : Int) < 32) = false := rfl
        simp only [d0, br_f]
        refine fixN_ind (fun m (y : Int × Int × List (Int × Bool) × List Int × List (Int × Int)) => ∃ (k : Nat) (Mm : List (Int × Int)), y.2.1 = k ∧ k + m = x3.length ∧ y.2.2.2.1 = S ∧ y.2.2.2.2 = L ++ Mm ∧ y.1 = Mm.length ∧ (L ++ Mm).length ≤ 12 ∧ NI y.2.2.1 S (L ++ Mm))
          (fun _ o => o = some true) ?_ (x3.length + 100) x3.length _ (by omega) ⟨0, [], rfl, by simp, rfl, by simp, rfl, by simpa using hL, by simpa using hNI⟩
        rintro m3 ⟨cnt, i3, C3, S3, L3⟩ again3 ⟨k3, Mm, g1, g2, g3, g4, g5, g6, g7⟩ ih3
        simp only at g1 g3 g4 g5 g7
        subst g1 g4 g5
        have g3' := g3.symm
        subst g3'
        refine jp2b (c2 := decide (((L ++ Mm).length : Int) < 12)) (F17_is _ _ _ _) rfl (fun c1 c2 => ?_) ?_
        · have c1' := of_decide_eq_true c1
          have c2' := of_decide_eq_true c2
          simp only at c1' c2'
          have hb := h3 _ (getD_mem (d := 0) (xs := x3) (i := k3) (by omega))
          have hkN : IntKind.i64.wrap ((k3 : Int) + 1) = ((k3 + 1 : Nat) : Int) := by rw [wrap64 (by omega) (by omega)]; rfl
          have d1 : decide ((0 : Int) ≤ (k3 : Int)) = true := decide_eq_true (by omega)
          simp only [br_t, jp_eq, d1, c1, Bool.and_self, chk_t, Int.toNat_natCast, tmod32 hb.1 hb.2, hkN]
          by_cases hr : x3.getD k3 0 % 32 < 1
          · rw [F18_out (.inl hr)]
            simp only [bindS_some, br_f]
            exact ih3 (m3 - 1) _ (by omega) ⟨k3 + 1, Mm, rfl, by omega, rfl, rfl, rfl, g6, g7⟩
          · obtain ⟨c, C1, f1, f2⟩ := claim_only hN g7 (by omega) (r := x3.getD k3 0 % 32) (by omega) (by omega)
            simp only [f1, bindS_some, br_t]
            rw [wrap64 (by omega) (by simp only [List.length_append] at g6; omega)]
            exact ih3 (m3 - 1) _ (by omega) ⟨k3 + 1, Mm ++ [(x3.getD k3 0 % 32, c)], rfl, by omega, rfl, by simp, by simp, by simp only [List.length_append, List.length_singleton] at c2' ⊢; omega, by rw [← List.append_assoc]; exact f2⟩
        · simp only [br_f]
          refine fixN_ind (fun m (y : Int × List (Int × Bool) × List Int × List (Int × Int)) => ∃ (k : Nat) (Mq : List (Int × Int)), y.1 = k ∧ k + m = Mm.length ∧ y.2.2.1 = S ∧ y.2.2.2 = L ++ Mq ∧ Mq.length = m ∧ NI y.2.1 S (L ++ Mq))
            (fun _ o => o = some true) ?_ (x3.length + 100) Mm.length _ (by simp only [List.length_append] at g6; omega) ⟨0, Mm, rfl, by simp, rfl, rfl, rfl, g7⟩
          rintro m4 ⟨j4, C4, S4, L4⟩ again4 ⟨k4, Mq, q1, q2, q3, q4, q5, q7⟩ ih4
          simp only at q1 q3 q4 q7
          subst q1 q4
          have q3' := q3.symm
          subst q3'
          have hlen : (L ++ Mq).length ≤ 60 := by simp only [List.length_append] at g6 ⊢; omega
          rcases Nat.eq_zero_or_pos m4 with hz4 | hz4
          · have d4 : decide ((k4 : Int) < (Mm.length : Int)) = false := decide_eq_false (by omega)
            obtain rfl : Mq = [] := List.length_eq_zero_iff.1 (by omega)
            simp only [d4, br_f, List.append_nil] at *
            refine fixN_ind (fun m (y : Int) => m ≤ 32 ∧ y = ((32 - m : Nat) : Int)) (fun _ o => o = some true) ?_ (x3.length + 100) 32 _ (by omega) ⟨by omega, rfl⟩
            rintro m5 i5 again5 ⟨hm5, hi5⟩ ih5
            subst hi5
            rcases Nat.eq_zero_or_pos m5 with hz5 | hz5
            · subst hz5
              have d5 : decide (((32 - 0 : Nat) : Int) < 32) = false := rfl
              simp only [d5, br_f]
            · have d5 : decide (((32 - m5 : Nat) : Int) < 32) = true := decide_eq_true (by omega)
              have d6 : decide ((0 : Int) ≤ ((32 - m5 : Nat) : Int)) = true := decide_eq_true (by omega)
              simp only [d5, d6, br_t]
              rw [F22_in (by omega) (by omega) hlen hN, bindS_some]
              have e := hwas (32 - m5) (by omega)
              have d7 : decide (((32 - m5 : Nat) : Int) < (↑(32 : Nat) : Int)) = true := decide_eq_true (by omega)
              simp only [d7, Bool.and_self, chk_t, Int.toNat_natCast, e, decide_true, Bool.not_true, br_f]
              rw [wrap64 (by omega) (by omega)]
              exact ih5 (m5 - 1) _ (by omega) ⟨by omega, by omega⟩
          · have d4 : decide ((k4 : Int) < (Mm.length : Int)) = true := decide_eq_true (by omega)
            have hne : Mq ≠ [] := by intro e; rw [e] at q5; simp at q5; omega
            have hdl : (L ++ Mq).dropLast = L ++ Mq.dropLast := List.dropLast_append_of_ne_nil hne
            have hem : (L ++ Mq).isEmpty = false := by
              cases Mq with
              | nil => exact absurd rfl hne
              | cons a b => cases L <;> rfl
            simp only [d4, br_t]
            rw [F21_is hlen, bindS_some]
            simp only [hem, Bool.not_false, Bool.not_true, br_f]
            rw [wrap64 (by omega) (by simp only [List.length_append] at g6; omega)]
            exact ih4 (m4 - 1) _ (by omega) ⟨k4 + 1, Mq.dropLast, rfl, by omega, rfl, hdl, by rw [List.length_dropLast]; omega, by rw [← hdl]; exact q7.drop⟩
      · have e1 : decide (((32 - m2 : Nat) : Int) < 32) = true := decide_eq_true (by omega)
        have e2 : decide ((0 : Int) ≤ ((32 - m2 : Nat) : Int)) = true := decide_eq_true (by omega)
        have e3 : decide (((32 - m2 : Nat) : Int) < (↑(32 : Nat) : Int)) = true := decide_eq_true (by omega)
        simp only [e1, e2, br_t]
        rw [F22_in (by omega) (by omega) (by omega) hN, bindS_some]
        simp only [e3, Bool.and_self, chk_t, Int.toNat_natCast]
        rw [setD_set (by omega), wrap64 (by omega) (by omega)]
        refine ih2 (m2 - 1) _ (by omega) ⟨by omega, by show ((32 - m2 : Nat) : Int) + 1 = _; omega, by simp [hwl], fun j hj => ?_⟩
        show (was.set (32 - m2) _).getD j 0 = _
        rw [getD_set (by omega)]
        split
        · rename_i e; subst e; rfl
        · exact hwas j (by omega)
  · have hs2 : s ∈ S0 := hs'
    obtain ⟨j, hj, hjs⟩ := List.getElem_of_mem hs2
    have := hs j (by omega)
    rw [List.getD_eq_getElem?_getD, List.getElem?_eq_getElem hj, Option.getD_some] at this
    rw [hjs] at this
    omega

end Go.Proofs.Ytipdancojcdioaa
