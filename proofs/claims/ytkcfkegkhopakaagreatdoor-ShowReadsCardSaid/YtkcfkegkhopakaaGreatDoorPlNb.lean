/- Numbers and registers of texts: the program's and the document's are the same. No condition beyond the inputs'. -/
import Derived.Test.YtkcfkegkhopakaaGreatDoorEqSw
import Derived.Test.YtkcfkegkhopakaaGreatDoorPlX1
import Derived.Test.YtkcfkegkhopakaaGreatDoorPlNu
namespace Go.Proofs.YtkcfkegkhopakaaGreatDoor
open Go Go.Ev Go.Sh
set_option linter.unusedVariables false
set_option linter.unusedSimpArgs false
set_option maxRecDepth 100000

theorem Number_is (N : Nat) {s : List UInt8} (hs : s.length ≤ 1000) : F36 N s = some (numO s) := by
  unfold F36 R36 F88 F89
  unfold pintS fintS
  rw [chk_true (by simp only [Bool.and_eq_true, decide_eq_true_eq]; exact ⟨⟨by omega, trivial⟩, trivial⟩), bindS_some]
  simp only [jp_eq]
  unfold numO
  cases he : pintE s with
  | true => rfl
  | false =>
    rw [br_f, chk_true (by rw [i64B_of (pint_rng he)]; rfl), bindS_some, cond_false]
    by_cases h : itoaF (pintN s) = s
    · rw [if_pos h, br_false (by rw [h]; simp)]
    · rw [if_neg h, br_true (by simp [h])]

/-! ### the document's -/
theorem getB {d : List UInt8} {i : Nat} (h : i < d.length) : d.getD i 0 = d[i] := by
  rw [List.getD_eq_getElem?_getD, List.getElem?_eq_getElem h]; rfl

instance isDec (c : UInt8) : Decidable (isD c) := inferInstanceAs (Decidable (48 ≤ c.toNat ∧ c.toNat ≤ 57))

/-- the digits' loop -/
theorem rNum_loop {ρ : Type} {N : Nat} (hN : 100 ≤ N) {d : List UInt8} (hd : d.length ≤ 19) (A : Option ρ) (B : Int × Int → Option ρ) :
    fixN N (fun again2 (y3 : Int × Int) => br (decide (y3.2 < (↑d.length : Int)))
 (jp (fun (y4 : Bool) => br y4
 A
 (chk (decide (0 ≤ y3.2) && decide (y3.2 < (↑d.length : Int))) (again2 ((IntKind.u64.wrap (IntKind.u64.wrap (10 * y3.1) + IntKind.u64.wrap (IntKind.u8.wrap ((↑(d.getD y3.2.toNat 0).toNat : Int) - 48))), IntKind.i64.wrap (y3.2 + 1))))))
 (fun K5 => chk (decide (0 ≤ y3.2) && decide (y3.2 < (↑d.length : Int))) (br (decide ((↑(d.getD y3.2.toNat 0).toNat : Int) < 48))
 (K5 true)
 (chk (decide (0 ≤ y3.2) && decide (y3.2 < (↑d.length : Int))) (K5 (decide (57 < (↑(d.getD y3.2.toNat 0).toNat : Int))))))))
 (B y3)) (0, 0) = if (∀ c ∈ d, isD c) then B (((vl d 0 : Nat) : Int), (d.length : Int)) else A := by
  refine fixN_ind (fun m (y : Int × Int) => ∃ i : Nat, i + m = d.length ∧ allD (d.take i) ∧ y = (((vl (d.take i) 0 : Nat) : Int), (i : Int))) (fun _ o => o = if (∀ c ∈ d, isD c) then B (((vl d 0 : Nat) : Int), (d.length : Int)) else A) ?_ N d.length _ (by omega) ⟨0, by omega, by intro c hc; simp at hc, rfl⟩
  rintro m y again ⟨i, hi, ha, rfl⟩ ih
  simp only
  rcases Nat.eq_zero_or_pos m with h0 | h0
  · obtain rfl : i = d.length := by omega
    rw [List.take_length] at ha ⊢
    rw [brF (by omega), if_pos (show ∀ c ∈ d, isD c from ha)]
  · have hlt : i < d.length := by omega
    have hc : (decide ((0 : Int) ≤ (i : Int)) && decide ((i : Int) < (d.length : Int))) = true := by rw [Bool.and_eq_true]; exact ⟨decide_eq_true (by omega), decide_eq_true (by omega)⟩
    rw [brT (by omega), jp_eq, chk_true hc]
    simp only [Int.toNat_natCast, getB hlt]
    have bad : ¬ isD d[i] → A = if (∀ c ∈ d, isD c) then B (((vl d 0 : Nat) : Int), (d.length : Int)) else A := fun hn => by
      rw [if_neg (fun h => hn (h _ (List.getElem_mem hlt)))]
    by_cases h1 : (d[i].toNat : Int) < 48
    · rw [brT h1, br_t]
      exact bad (fun h => by have := h.1; omega)
    · rw [brF h1, chk_true hc]
      by_cases h2 : (57 : Int) < (d[i].toNat : Int)
      · rw [br_true (decide_eq_true h2)]
        exact bad (fun h => by have := h.2; omega)
      · have hd2 : isD d[i] := ⟨by omega, by omega⟩
        have hnext : allD (d.take (i + 1)) := by
          rw [List.take_succ_eq_append_getElem hlt]
          intro c hc
          rw [List.mem_append, List.mem_singleton] at hc
          rcases hc with hc | rfl
          · exact ha c hc
          · exact hd2
        have hv : vl (d.take (i + 1)) 0 = vl (d.take i) 0 * 10 + (d[i].toNat - 48) := by
          rw [List.take_succ_eq_append_getElem hlt, vl_app]; rfl
        have hb := vl_lt 0 hnext
        rw [List.length_take, Nat.min_eq_left (by omega)] at hb
        have hp0 : 10 ^ (i + 1) ≤ 10 ^ 19 := Nat.pow_le_pow_right (by decide) (by omega)
        have hp : (0 + 1) * 10 ^ (i + 1) ≤ 10000000000000000000 := by
          rw [Nat.zero_add, Nat.one_mul]
          exact hp0
        have e8 : IntKind.u8.wrap ((d[i].toNat : Int) - 48) = ((d[i].toNat - 48 : Nat) : Int) := by
          rw [u8_wrap_eq]; have := hd2.2; omega
        rw [br_false (decide_eq_false h2), chk_true hc, e8, show (10 : Int) * ((vl (d.take i) 0 : Nat) : Int) = ((10 * vl (d.take i) 0 : Nat) : Int) by omega, u64N (n := 10 * vl (d.take i) 0) (by omega), u64N (n := d[i].toNat - 48) (by omega), ← Int.natCast_add, u64N (by omega), wrap64 (by omega) (by omega)]
        refine ih (m - 1) _ (by omega) ⟨i + 1, by omega, hnext, ?_⟩
        rw [hv, Nat.mul_comm]
        rfl

theorem rNumber_is {N : Nat} (hN : 100 ≤ N) {s : List UInt8} (hs : s.length ≤ 1000) : F53 N s = some (numO s) := by
  unfold F53
  -- the sign
  have key : ∀ (d : List UInt8) (neg : Bool), d.length ≤ 1000 → (∀ c r, d = c :: r → c.toNat ≠ 45 ∨ neg = true) →
      jp (fun (y1 : Bool) => br y1
              (some ((0, false)))
              (fixN N (fun again2 (y3 : Int × Int) => br (decide (y3.2 < (↑d.length : Int)))
              (jp (fun (y4 : Bool) => br y4
              (some ((0, false)))
              (chk (decide (0 ≤ y3.2) && decide (y3.2 < (↑d.length : Int))) (again2 ((IntKind.u64.wrap (IntKind.u64.wrap (10 * y3.1) + IntKind.u64.wrap (IntKind.u8.wrap ((↑(d.getD y3.2.toNat 0).toNat : Int) - 48))), IntKind.i64.wrap (y3.2 + 1))))))
              (fun K5 => chk (decide (0 ≤ y3.2) && decide (y3.2 < (↑d.length : Int))) (br (decide ((↑(d.getD y3.2.toNat 0).toNat : Int) < 48))
              (K5 true)
              (chk (decide (0 ≤ y3.2) && decide (y3.2 < (↑d.length : Int))) (K5 (decide (57 < (↑(d.getD y3.2.toNat 0).toNat : Int))))))))
              (jp (fun (y6 : Bool) => br y6
              (some ((0, false)))
              (br neg
              (some ((IntKind.i64.wrap (IntKind.u64.wrap (0 - y3.1)), true)))
              (some ((IntKind.i64.wrap y3.1, true)))))
              (fun K7 => br (decide (9223372036854775808 < y3.1))
              (K7 true)
              (br (decide (y3.1 = 9223372036854775808))
              (K7 (!neg))
              (K7 false)))))
              ((0, 0))))
              (fun K8 => br (decide ((↑d.length : Int) = 0))
              (K8 true)
              (br (decide (19 < (↑d.length : Int)))
              (K8 true)
              (chk (decide (0 < (↑d.length : Int))) (br (decide ((↑(d.getD 0 0).toNat : Int) = 48))
              (br (decide (1 < (↑d.length : Int)))
              (K8 true)
              (K8 neg))
              (K8 false))))) = some (numO (sgn neg d)) := by
    intro d neg hl h45
    simp only [jp_eq]
    have not := num_not (neg := neg) (d := d) h45
    by_cases h0 : d.length = 0
    · rw [brT (by omega), br_t, not (fun h => h.1.ne (List.eq_nil_of_length_eq_zero h0))]
    · rw [brF (by omega)]
      by_cases h19 : 19 < d.length
      · rw [brT (by omega), br_t, not (fun h => by omega)]
      · rw [brF (by omega), chk_true (decide_eq_true (by omega)), getB (by omega)]
        have L := rNum_loop (ρ := Int × Bool) hN (d := d) (by omega) (some ((0, false)))
        simp only [jp_eq] at L
        have rest : (∀ c r, d = c :: r → c.toNat = 48 → r = [] ∧ neg = false) →
            (if (∀ c ∈ d, isD c) then (br (decide ((9223372036854775808 : Int) < ((vl d 0 : Nat) : Int)))
              (br true (some ((0, false))) (br neg (some ((IntKind.i64.wrap (IntKind.u64.wrap (0 - ((vl d 0 : Nat) : Int))), true))) (some ((IntKind.i64.wrap ((vl d 0 : Nat) : Int), true)))))
              (br (decide (((vl d 0 : Nat) : Int) = 9223372036854775808))
              (br (!neg) (some ((0, false))) (br neg (some ((IntKind.i64.wrap (IntKind.u64.wrap (0 - ((vl d 0 : Nat) : Int))), true))) (some ((IntKind.i64.wrap ((vl d 0 : Nat) : Int), true)))))
              (br false (some ((0, false))) (br neg (some ((IntKind.i64.wrap (IntKind.u64.wrap (0 - ((vl d 0 : Nat) : Int))), true))) (some ((IntKind.i64.wrap ((vl d 0 : Nat) : Int), true))))))) else some ((0, false))) = some (numO (sgn neg d)) := by
          intro hz
          by_cases ha : ∀ c ∈ d, isD c
          · rw [if_pos ha]
            have hb := vl_lt 0 (l := d) ha
            have hp0 : 10 ^ d.length ≤ 10 ^ 19 := Nat.pow_le_pow_right (by decide) (by omega)
            have hp : (0 + 1) * 10 ^ d.length ≤ 10000000000000000000 := by
              rw [Nat.zero_add, Nat.one_mul]
              exact hp0
            have hne : d ≠ [] := fun e => h0 (by rw [e]; rfl)
            have fin : (vl d 0 < 9223372036854775808 ∨ (vl d 0 = 9223372036854775808 ∧ neg = true)) → br neg (some ((IntKind.i64.wrap (IntKind.u64.wrap (0 - ((vl d 0 : Nat) : Int))), true))) (some ((IntKind.i64.wrap ((vl d 0 : Nat) : Int), true))) = some (numO (sgn neg d)) := by
              intro hr
              rw [num_okd ⟨hne, ha, hz, hr⟩]
              cases neg with
              | true =>
                have hpos : 0 < vl d 0 := by
                  cases hd : d with
                  | nil => exact absurd hd hne
                  | cons c r =>
                    refine vl_pos rfl (ha c (by rw [hd]; exact List.mem_cons_self ..)) (fun e => ?_)
                    have := (hz c r hd e).2
                    simp at this
                rw [br_t]
                have e1 : IntKind.u64.wrap (0 - ((vl d 0 : Nat) : Int)) = ((18446744073709551616 - vl d 0 : Nat) : Int) := by rw [u64_wrap_eq]; omega
                rw [e1, i64_wrap_eq]
                show some (_, true) = some (-((vl d 0 : Nat) : Int), true)
                congr 2
                split <;> omega
              | false =>
                have hr : vl d 0 < 9223372036854775808 := by rcases hr with h | ⟨_, h⟩; exact h; simp at h
                rw [br_f, i64N hr]
                rfl
            by_cases h1 : (9223372036854775808 : Int) < ((vl d 0 : Nat) : Int)
            · rw [brT h1, br_t, not (fun h => by rcases h.1.rng with h2 | ⟨h2, _⟩ <;> omega)]
            · rw [brF h1]
              by_cases h2 : ((vl d 0 : Nat) : Int) = 9223372036854775808
              · rw [br_true (decide_eq_true h2)]
                cases hneg : neg with
                | true =>
                  rw [hneg] at fin
                  exact fin (Or.inr ⟨by omega, rfl⟩)
                | false =>
                  rw [← hneg, hneg]
                  rw [hneg] at not
                  rw [not (fun h => by rcases h.1.rng with h3 | ⟨_, h3⟩; omega; simp at h3)]
                  rfl
              · rw [br_false (decide_eq_false h2), br_f]
                exact fin (Or.inl (by omega))
          · rw [if_neg ha, not (fun h => ha h.1.all)]
        have hcons : d = d[0] :: d.drop 1 := by rw [← List.drop_eq_getElem_cons (by omega : 0 < d.length), List.drop_zero]
        by_cases hz : (d[0].toNat : Int) = 48
        · rw [br_true (decide_eq_true hz)]
          by_cases h1 : 1 < d.length
          · rw [brT (by omega), br_t, not (fun h => by
              have := (h.1.zero _ _ hcons (by omega)).1
              have hl := congrArg List.length this
              rw [List.length_drop, List.length_nil] at hl
              omega)]
          · rw [brF (by omega)]
            by_cases hneg : neg = true
            · rw [br_true hneg, not (fun h => by
                have := (h.1.zero _ _ hcons (by omega)).2
                rw [hneg] at this
                simp at this)]
            · have hneg : neg = false := by simpa using hneg
              rw [br_false hneg]
              refine (L _).trans ?_
              refine rest ?_
              intro c r e hc
              have hl := congrArg List.length e
              rw [List.length_cons] at hl
              exact ⟨List.eq_nil_of_length_eq_zero (by omega), hneg⟩
        · rw [br_false (decide_eq_false hz), br_f]
          refine (L _).trans ?_
          refine rest ?_
          intro c r e hc
          exfalso
          have e2 : d[0] = c := by subst e; rfl
          rw [← e2] at hc
          omega
  rw [jp_eq, jp_eq]
  dsimp only
  by_cases h : (0 : Int) < (s.length : Int)
  · rw [brT h, chk_true (decide_eq_true h)]
    have g0 := getB (d := s) (i := 0) (by omega)
    have hcons : s = s[0] :: s.drop 1 := by rw [← List.drop_eq_getElem_cons (by omega : 0 < s.length), List.drop_zero]
    by_cases h45 : ((s.getD 0 0).toNat : Int) = 45
    · have h45' := h45
      rw [g0] at h45'
      have e45 : s[0] = 45 := by
        apply UInt8.toNat.inj
        show s[0].toNat = 45
        omega
      rw [br_true (decide_eq_true h45), chk_true (by rw [Nat.ble_eq_true_of_le (by omega), Nat.ble_eq_true_of_le (Nat.le_refl _)]; rfl)]
      have := key (List.take (s.length - 1) (List.drop 1 s)) true (by rw [List.length_take, List.length_drop]; omega) (fun _ _ _ => Or.inr rfl)
      refine this.trans ?_
      rw [List.take_of_length_le (by rw [List.length_drop]; exact Nat.le_refl _)]
      show some (numO (45 :: s.drop 1)) = _
      rw [← e45, ← hcons]
    · rw [br_false (decide_eq_false h45)]
      exact key s false hs (fun c r e => Or.inl (fun e2 => h45 (by
        have : s[0] = c := by subst e; rfl
        rw [g0, this]; omega)))
  · rw [brF h, br_f]
    exact key s false hs (fun c r e => by rw [e] at h; simp at h)

/-! ### a number's text -/
theorem tmod10 (n : Nat) : ((n : Int)).tmod 10 = ((n % 10 : Nat) : Int) := tmodN n 10
theorem tdiv10 (n : Nat) : ((n : Int)).tdiv 10 = ((n / 10 : Nat) : Int) := tdivN n 10

theorem Digits_is {N : Nat} (hN : 100 ≤ N) {v : Int} (hv : I64 v) : F48 N v = some (Lib.itoa v) := by
  obtain ⟨h1, h2⟩ := hv
  unfold F48
  simp only [jp_eq]
  have loop : ∀ m : Nat, m < 18446744073709551616 →
      fixN N (fun again1 (y2 : List UInt8 × Int) => chk (decide ((List.map (fun n => UInt8.ofNat n.toNat) [IntKind.u8.wrap (IntKind.u64.wrap (48 + y2.2.tmod 10))]).length + y2.1.length ≤ 9223372036854775807)) (br (decide (IntKind.u64.wrap (y2.2.tdiv 10) = 0))
        (br (decide (v < 0))
          (chk (decide (([45] : List UInt8).length + (List.map (fun n => UInt8.ofNat n.toNat) [IntKind.u8.wrap (IntKind.u64.wrap (48 + y2.2.tmod 10))] ++ y2.1).length ≤ 9223372036854775807)) (some (([45] : List UInt8) ++ (List.map (fun n => UInt8.ofNat n.toNat) [IntKind.u8.wrap (IntKind.u64.wrap (48 + y2.2.tmod 10))] ++ y2.1))))
          (some (List.map (fun n => UInt8.ofNat n.toNat) [IntKind.u8.wrap (IntKind.u64.wrap (48 + y2.2.tmod 10))] ++ y2.1)))
        (again1 ((List.map (fun n => UInt8.ofNat n.toNat) [IntKind.u8.wrap (IntKind.u64.wrap (48 + y2.2.tmod 10))] ++ y2.1, IntKind.u64.wrap (y2.2.tdiv 10))))))
        ([], (m : Int)) = some (if v < 0 then 45 :: Lib.decDigits m else Lib.decDigits m) := by
    intro m hm
    have hn20 : ∀ u : Nat, u < 18446744073709551616 → Lib.nDigits u ≤ 20 := by
      intro u hu
      rcases Nat.lt_or_ge 20 (Lib.nDigits u) with h | h
      · exfalso
        have key : ∀ (k w : Nat), k < Lib.nDigits w → 10 ^ k ≤ w ∨ k = 0 := by
          intro k
          induction k with
          | zero => intro w _; exact Or.inr rfl
          | succ k ih =>
            intro w hw
            by_cases h : w < 10
            · rw [Lib.nDigits_small h] at hw; omega
            · rw [Lib.nDigits_big h] at hw
              left
              rcases ih (w / 10) (by omega) with h3 | h3
              · rw [Nat.pow_succ]; omega
              · subst h3; omega
        rcases key 20 u h with h3 | h3
        · have : (10 : Nat) ^ 20 = 100000000000000000000 := by decide
          omega
        · omega
      · exact h
    refine fixN_ind (fun k (y : List UInt8 × Int) => ∃ (acc : List UInt8) (u : Nat), y = (acc, (u : Int)) ∧ u < 18446744073709551616 ∧ Lib.nDigits u ≤ k ∧ acc.length + Lib.nDigits u ≤ 20 ∧ Lib.decDigits u ++ acc = Lib.decDigits m) (fun _ o => o = some (if v < 0 then 45 :: Lib.decDigits m else Lib.decDigits m)) ?_ N 20 _ (by omega) ⟨[], m, rfl, hm, hn20 m hm, by simpa using hn20 m hm, by simp⟩
    rintro k y again ⟨acc, u, rfl, hu, hk, hl, hd⟩ ih
    have hp := Lib.nDigits_pos u
    have eD : (List.map (fun n : Int => UInt8.ofNat n.toNat) [IntKind.u8.wrap (IntKind.u64.wrap (48 + ((u % 10 : Nat) : Int)))]) = [UInt8.ofNat (48 + u % 10)] := by
      have e : IntKind.u64.wrap (48 + ((u % 10 : Nat) : Int)) = ((48 + u % 10 : Nat) : Int) := by rw [wrapU64 (by omega) (by omega)]; omega
      have e8 : IntKind.u8.wrap ((48 + u % 10 : Nat) : Int) = ((48 + u % 10 : Nat) : Int) := by rw [u8_wrap_eq]; omega
      rw [e, e8]
      rfl
    simp only [tmod10, tdiv10, eD]
    rw [chk_true (decide_eq_true (by simp only [List.length_cons, List.length_nil]; omega)), u64N (n := u / 10) (by omega)]
    by_cases h10 : u < 10
    · rw [br_true (decide_eq_true (by omega))]
      have ed : UInt8.ofNat (48 + u % 10) :: acc = Lib.decDigits m := by
        rw [← hd, Lib.decDigits, dif_pos h10, Nat.mod_eq_of_lt h10]; rfl
      by_cases hneg : v < 0
      · rw [brT hneg, if_pos hneg, chk_true (decide_eq_true (by simp only [List.length_cons, List.length_nil, List.length_append]; omega))]
        show some (45 :: (UInt8.ofNat (48 + u % 10) :: acc)) = _
        rw [ed]
      · rw [brF hneg, if_neg hneg]
        show some (UInt8.ofNat (48 + u % 10) :: acc) = _
        rw [ed]
    · rw [br_false (decide_eq_false (by omega))]
      have hb := Lib.nDigits_big h10
      refine ih (k - 1) _ (by omega) ⟨UInt8.ofNat (48 + u % 10) :: acc, u / 10, rfl, by omega, by omega, by simp only [List.length_cons]; omega, ?_⟩
      rw [← hd]
      conv => rhs; rw [Lib.decDigits, dif_neg h10]
      rw [List.append_assoc]; rfl
  unfold Lib.itoa
  by_cases hneg : v < 0
  · have e : IntKind.u64.wrap (0 - IntKind.u64.wrap v) = ((v.natAbs : Nat) : Int) := by rw [u64_wrap_eq, u64_wrap_eq]; omega
    rw [brT hneg, e]
    refine (loop _ (by omega)).trans ?_
    rw [if_pos hneg, if_pos hneg]
  · have e : IntKind.u64.wrap v = ((v.toNat : Nat) : Int) := by rw [u64_wrap_eq]; omega
    rw [brF hneg, e]
    refine (loop _ (by omega)).trans ?_
    rw [if_neg hneg, if_neg hneg]
end Go.Proofs.YtkcfkegkhopakaaGreatDoor
