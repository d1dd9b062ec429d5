/- Numbers and registers of texts: the program's and the document's are the same. No condition beyond the inputs'. -/
import Derived.Test.YtkcfkegkhopakaaGreatDoorEqSa
import Derived.Test.YtkcfkegkhopakaaGreatDoorPlX1
import Derived.Test.YtkcfkegkhopakaaGreatDoorPlNu
namespace Go.Proofs.YtkcfkegkhopakaaGreatDoor
open Go Go.Ev Go.Sh
set_option linter.unusedVariables false
set_option linter.unusedSimpArgs false
set_option maxRecDepth 100000

theorem getB {d : List UInt8} {i : Nat} (h : i < d.length) : d.getD i 0 = d[i] := by
  rw [List.getD_eq_getElem?_getD, List.getElem?_eq_getElem h]; rfl

instance isDec (c : UInt8) : Decidable (isD c) := inferInstanceAs (Decidable (48 ≤ c.toNat ∧ c.toNat ≤ 57))

/-- the digits' loop -/
theorem rNum_loop {ρ : Type} {N : Nat} (hN : 100 ≤ N) {d : List UInt8} (hd : d.length ≤ 19) (A : Option ρ) (B : Int × Int → Option ρ) :
    fixN N (fun again2 (y3 : Int × Int) => br (decide (y3.2 < (↑d.length : Int)))
 (jp (fun (y4 : Bool) => br y4
 A
 (chk (decide (0 ≤ y3.2) && decide (y3.2 < (↑d.length : Int))) (again2 ((IntKind.u64.wrap (IntKind.u64.wrap (10 * y3.1) + IntKind.u64.wrap (IntKind.u8.wrap ((↑(d.getD y3.2.toNat 0).toNat : Int) - 48))), IntKind.i64.wrap (y3.2 + 1))))))
 (fun K5 => chk (decide (0 ≤ y3.2) && decide (y3.2 < (↑d.length : Int))) (br (decide ((↑(d.getD y3.2.toNat 0).toNat : Int) < 48))
 (K5 true)
 (chk (decide (0 ≤ y3.2) && decide (y3.2 < (↑d.length : Int))) (K5 (decide (57 < (↑(d.getD y3.2.toNat 0).toNat : Int))))))))
 (B y3)) (0, 0) = if (∀ c ∈ d, isD c) then B (((vl d 0 : Nat) : Int), (d.length : Int)) else A := by
  refine fixN_ind (fun m (y : Int × Int) => ∃ i : Nat, i + m = d.length ∧ allD (d.take i) ∧ y = (((vl (d.take i) 0 : Nat) : Int), (i : Int))) (fun _ o => o = if (∀ c ∈ d, isD c) then B (((vl d 0 : Nat) : Int), (d.length : Int)) else A) ?_ N d.length _ (by omega) ⟨0, by omega, by intro c hc; simp at hc, rfl⟩
  rintro m y again ⟨i, hi, ha, rfl⟩ ih
  simp only
  rcases Nat.eq_zero_or_pos m with h0 | h0
  · obtain rfl : i = d.length := by omega
    rw [List.take_length] at ha ⊢
    rw [brF (by omega), if_pos (show ∀ c ∈ d, isD c from ha)]
  · have hlt : i < d.length := by omega
    have hc : (decide ((0 : Int) ≤ (i : Int)) && decide ((i : Int) < (d.length : Int))) = true := by rw [Bool.and_eq_true]; exact ⟨decide_eq_true (by omega), decide_eq_true (by omega)⟩
    rw [brT (by omega), jp_eq, chk_true hc]
    simp only [Int.toNat_natCast, getB hlt]
    have bad : ¬ isD d[i] → A = if (∀ c ∈ d, isD c) then B (((vl d 0 : Nat) : Int), (d.length : Int)) else A := fun hn => by
      rw [if_neg (fun h => hn (h _ (List.getElem_mem hlt)))]
    by_cases h1 : (d[i].toNat : Int) < 48
    · rw [brT h1, br_t]
      exact bad (fun h => by have := h.1; omega)
    · rw [brF h1, chk_true hc]
      by_cases h2 : (57 : Int) < (d[i].toNat : Int)
      · rw [br_true (decide_eq_true h2)]
        exact bad (fun h => by have := h.2; omega)
      · have hd2 : isD d[i] := ⟨by omega, by omega⟩
        have hnext : allD (d.take (i + 1)) := by
          rw [List.take_succ_eq_append_getElem hlt]
          intro c hc
          rw [List.mem_append, List.mem_singleton] at hc
          rcases hc with hc | rfl
          · exact ha c hc
          · exact hd2
        have hv : vl (d.take (i + 1)) 0 = vl (d.take i) 0 * 10 + (d[i].toNat - 48) := by
          rw [List.take_succ_eq_append_getElem hlt, vl_app]; rfl
        have hb := vl_lt 0 hnext
        rw [List.length_take, Nat.min_eq_left (by omega)] at hb
        have hp0 : 10 ^ (i + 1) ≤ 10 ^ 19 := Nat.pow_le_pow_right (by decide) (by omega)
        have hp : (0 + 1) * 10 ^ (i + 1) ≤ 10000000000000000000 := by
          rw [Nat.zero_add, Nat.one_mul]
          exact hp0
        have e8 : IntKind.u8.wrap ((d[i].toNat : Int) - 48) = ((d[i].toNat - 48 : Nat) : Int) := by
          rw [u8_wrap_eq]; have := hd2.2; omega
        rw [br_false (decide_eq_false h2), chk_true hc, e8, show (10 : Int) * ((vl (d.take i) 0 : Nat) : Int) = ((10 * vl (d.take i) 0 : Nat) : Int) by omega, u64N (n := 10 * vl (d.take i) 0) (by omega), u64N (n := d[i].toNat - 48) (by omega), ← Int.natCast_add, u64N (by omega), wrap64 (by omega) (by omega)]
        refine ih (m - 1) _ (by omega) ⟨i + 1, by omega, hnext, ?_⟩
        rw [hv, Nat.mul_comm]
        rfl

theorem tmod10 (n : Nat) : ((n : Int)).tmod 10 = ((n % 10 : Nat) : Int) := tmodN n 10
theorem tdiv10 (n : Nat) : ((n : Int)).tdiv 10 = ((n / 10 : Nat) : Int) := tdivN n 10

theorem Digits_is {N : Nat} (hN : 100 ≤ N) {v : Int} (hv : I64 v) : F48 N v = some (Lib.itoa v) := by
  obtain ⟨h1, h2⟩ := hv
  unfold F48
  simp only [jp_eq]
  have loop : ∀ m : Nat, m < 18446744073709551616 →
      fixN N (fun again1 (y2 : List UInt8 × Int) => chk (decide ((List.map (fun n => UInt8.ofNat n.toNat) [IntKind.u8.wrap (IntKind.u64.wrap (48 + y2.2.tmod 10))]).length + y2.1.length ≤ 9223372036854775807)) (br (decide (IntKind.u64.wrap (y2.2.tdiv 10) = 0))
        (br (decide (v < 0))
          (chk (decide (([45] : List UInt8).length + (List.map (fun n => UInt8.ofNat n.toNat) [IntKind.u8.wrap (IntKind.u64.wrap (48 + y2.2.tmod 10))] ++ y2.1).length ≤ 9223372036854775807)) (some (([45] : List UInt8) ++ (List.map (fun n => UInt8.ofNat n.toNat) [IntKind.u8.wrap (IntKind.u64.wrap (48 + y2.2.tmod 10))] ++ y2.1))))
          (some (List.map (fun n => UInt8.ofNat n.toNat) [IntKind.u8.wrap (IntKind.u64.wrap (48 + y2.2.tmod 10))] ++ y2.1)))
        (again1 ((List.map (fun n => UInt8.ofNat n.toNat) [IntKind.u8.wrap (IntKind.u64.wrap (48 + y2.2.tmod 10))] ++ y2.1, IntKind.u64.wrap (y2.2.tdiv 10))))))
        ([], (m : Int)) = some (if v < 0 then 45 :: Lib.decDigits m else Lib.decDigits m) := by
    intro m hm
    have hn20 : ∀ u : Nat, u < 18446744073709551616 → Lib.nDigits u ≤ 20 := by
      intro u hu
      rcases Nat.lt_or_ge 20 (Lib.nDigits u) with h | h
      · exfalso
        have key : ∀ (k w : Nat), k < Lib.nDigits w → 10 ^ k ≤ w ∨ k = 0 := by
          intro k
          induction k with
          | zero => intro w _; exact Or.inr rfl
          | succ k ih =>
            intro w hw
            by_cases h : w < 10
            · rw [Lib.nDigits_small h] at hw; omega
            · rw [Lib.nDigits_big h] at hw
              left
              rcases ih (w / 10) (by omega) with h3 | h3
              · rw [Nat.pow_succ]; omega
              · subst h3; omega
        rcases key 20 u h with h3 | h3
        · have : (10 : Nat) ^ 20 = 100000000000000000000 := by decide
          omega
        · omega
      · exact h
    refine fixN_ind (fun k (y : List UInt8 × Int) => ∃ (acc : List UInt8) (u : Nat), y = (acc, (u : Int)) ∧ u < 18446744073709551616 ∧ Lib.nDigits u ≤ k ∧ acc.length + Lib.nDigits u ≤ 20 ∧ Lib.decDigits u ++ acc = Lib.decDigits m) (fun _ o => o = some (if v < 0 then 45 :: Lib.decDigits m else Lib.decDigits m)) ?_ N 20 _ (by omega) ⟨[], m, rfl, hm, hn20 m hm, by simpa using hn20 m hm, by simp⟩
    rintro k y again ⟨acc, u, rfl, hu, hk, hl, hd⟩ ih
    have hp := Lib.nDigits_pos u
    have eD : (List.map (fun n : Int => UInt8.ofNat n.toNat) [IntKind.u8.wrap (IntKind.u64.wrap (48 + ((u % 10 : Nat) : Int)))]) = [UInt8.ofNat (48 + u % 10)] := by
      have e : IntKind.u64.wrap (48 + ((u % 10 : Nat) : Int)) = ((48 + u % 10 : Nat) : Int) := by rw [wrapU64 (by omega) (by omega)]; omega
      have e8 : IntKind.u8.wrap ((48 + u % 10 : Nat) : Int) = ((48 + u % 10 : Nat) : Int) := by rw [u8_wrap_eq]; omega
      rw [e, e8]
      rfl
    simp only [tmod10, tdiv10, eD]
    rw [chk_true (decide_eq_true (by simp only [List.length_cons, List.length_nil]; omega)), u64N (n := u / 10) (by omega)]
    by_cases h10 : u < 10
    · rw [br_true (decide_eq_true (by omega))]
      have ed : UInt8.ofNat (48 + u % 10) :: acc = Lib.decDigits m := by
        rw [← hd, Lib.decDigits, dif_pos h10, Nat.mod_eq_of_lt h10]; rfl
      by_cases hneg : v < 0
      · rw [brT hneg, if_pos hneg, chk_true (decide_eq_true (by simp only [List.length_cons, List.length_nil, List.length_append]; omega))]
        show some (45 :: (UInt8.ofNat (48 + u % 10) :: acc)) = _
        rw [ed]
      · rw [brF hneg, if_neg hneg]
        show some (UInt8.ofNat (48 + u % 10) :: acc) = _
        rw [ed]
    · rw [br_false (decide_eq_false (by omega))]
      have hb := Lib.nDigits_big h10
      refine ih (k - 1) _ (by omega) ⟨UInt8.ofNat (48 + u % 10) :: acc, u / 10, rfl, by omega, by omega, by simp only [List.length_cons]; omega, ?_⟩
      rw [← hd]
      conv => rhs; rw [Lib.decDigits, dif_neg h10]
      rw [List.append_assoc]; rfl
  unfold Lib.itoa
  by_cases hneg : v < 0
  · have e : IntKind.u64.wrap (0 - IntKind.u64.wrap v) = ((v.natAbs : Nat) : Int) := by rw [u64_wrap_eq, u64_wrap_eq]; omega
    rw [brT hneg, e]
    refine (loop _ (by omega)).trans ?_
    rw [if_pos hneg, if_pos hneg]
  · have e : IntKind.u64.wrap v = ((v.toNat : Nat) : Int) := by rw [u64_wrap_eq]; omega
    rw [brF hneg, e]
    refine (loop _ (by omega)).trans ?_
    rw [if_neg hneg, if_neg hneg]
end Go.Proofs.YtkcfkegkhopakaaGreatDoor
