/- Numbers of bytes. No condition. -/
import Derived.Test.YtkcfkegkhopakaaGreatDoorPlX3
namespace Go.Proofs.YtkcfkegkhopakaaGreatDoor
open Go Go.Ev Go.Sh
set_option linter.unusedVariables false
set_option linter.unusedSimpArgs false
set_option maxRecDepth 100000

/-! ### numbers of bytes -/
def BY (l : List Int) : Prop := ∀ x ∈ l, 0 ≤ x ∧ x < 256
def ofN : List Int → Nat
  | [] => 0
  | b :: l => b.toNat + 256 * ofN l

theorem BY.tail {b : Int} {l : List Int} (h : BY (b :: l)) : BY l := fun x hx => h x (List.mem_cons_of_mem _ hx)
theorem BY.drop {l : List Int} (h : BY l) (n : Nat) : BY (l.drop n) := fun x hx => h x (List.mem_of_mem_drop hx)
theorem BY.take {l : List Int} (h : BY l) (n : Nat) : BY (l.take n) := fun x hx => h x (List.mem_of_mem_take hx)
theorem ofN_lt : ∀ {l : List Int}, BY l → ofN l < 256 ^ l.length
  | [], _ => by decide
  | b :: l, h => by
    have h1 := ofN_lt h.tail
    have h2 := h b (List.mem_cons_self ..)
    rw [List.length_cons, Nat.pow_succ]
    show b.toNat + 256 * ofN l < _
    omega
theorem getD_get {l : List Int} {i : Nat} (h : i < l.length) : l.getD i 0 = l[i] := by
  rw [List.getD_eq_getElem?_getD, List.getElem?_eq_getElem h]; rfl
theorem by_get {l : List Int} (hb : BY l) {i : Nat} (h : i < l.length) : ∃ n : Nat, n < 256 ∧ l.getD i 0 = n := by
  rw [getD_get h]
  have := hb _ (List.getElem_mem h)
  exact ⟨l[i].toNat, by omega, by omega⟩
theorem ofN_drop {l : List Int} {i : Nat} (h : i < l.length) : ofN (l.drop i) = (l.getD i 0).toNat + 256 * ofN (l.drop (i + 1)) := by
  rw [List.drop_eq_getElem_cons h, getD_get h]; rfl
theorem ofN_take : ∀ {l : List Int} {i : Nat}, i < l.length → ofN (l.take (i + 1)) = ofN (l.take i) + 256 ^ i * (l.getD i 0).toNat
  | [], i, h => absurd h (Nat.not_lt_zero _)
  | b :: l, 0, h => by
    show b.toNat + 256 * 0 = 0 + 256 ^ 0 * b.toNat
    omega
  | b :: l, i + 1, h => by
    have h1 := ofN_take (l := l) (i := i) (by simpa using h)
    show b.toNat + 256 * ofN (l.take (i + 1)) = b.toNat + 256 * ofN (l.take i) + 256 ^ (i + 1) * (l.getD i 0).toNat
    rw [h1, Nat.pow_succ, Nat.mul_add, ← Nat.mul_assoc, Nat.mul_comm 256 (256 ^ i)]
    omega
theorem pow256 {i : Nat} (h : i ≤ 8) : 256 ^ i ≤ 18446744073709551616 := Nat.pow_le_pow_right (n := 256) (by decide) h
theorem pow256' {i : Nat} (h : i ≤ 7) : 256 ^ i ≤ 72057594037927936 := Nat.pow_le_pow_right (n := 256) (by decide) h

theorem Of_full {N : Nat} (hN : 100 ≤ N) {l : List Int} (hb : BY l) (hl : l.length ≤ 8) : F55 N l = some ((ofN l : Nat) : Int) := by
  unfold F55
  refine fixN_ind (fun m (y : Int × Int) => m ≤ l.length ∧ y.2 = (m : Int) - 1 ∧ y.1 = ((ofN (l.drop m) : Nat) : Int)) (fun _ o => o = some ((ofN l : Nat) : Int)) ?_ N l.length _ (by omega) ⟨Nat.le_refl _, ?_, by rw [List.drop_length]; rfl⟩
  · rintro m ⟨v, j⟩ again ⟨g0, g1, g2⟩ ih
    simp only at g1 g2
    subst g1 g2
    rcases Nat.eq_zero_or_pos m with h0 | h0
    · subst h0
      rw [brF (by omega)]
      rfl
    · obtain ⟨q, rfl⟩ : ∃ q, m = q + 1 := ⟨m - 1, by omega⟩
      have e1 : ((q + 1 : Nat) : Int) - 1 = (q : Int) := by omega
      obtain ⟨b, hb1, hb2⟩ := by_get hb (i := q) (by omega)
      have hlt := ofN_lt (hb.drop (q + 1))
      rw [List.length_drop] at hlt
      have hp := pow256' (i := l.length - (q + 1)) (by omega)
      have hd := ofN_drop (l := l) (i := q) (by omega)
      rw [hb2, Int.toNat_natCast] at hd
      simp only [e1]
      rw [brT (by omega), chk_true (by rw [Bool.and_eq_true]; exact ⟨decide_eq_true (by omega), decide_eq_true (by omega)⟩), Int.toNat_natCast, hb2, u64N (by omega), show (2 : Int) ^ Min.min 8 IntKind.u64.bits = ((256 : Nat) : Int) from rfl, ← Int.natCast_mul, u64N (by omega), or64 (by omega) (by omega), or_add (m := 8) (by omega) (by omega), wrap64 (by omega) (by omega)]
      exact ih q _ (by omega) ⟨by omega, by simp only, by simp only; rw [hd]; omega⟩
  · show IntKind.i64.wrap _ = _
    rw [if_neg (by omega), wrap64 (by omega) (by omega)]

theorem rOf_full {N : Nat} (hN : 100 ≤ N) {l : List Int} (hb : BY l) (hl : l.length ≤ 8) : F60 N l = some ((ofN l : Nat) : Int) := by
  unfold F60
  refine fixN_ind (fun m (y : Int × Int × Int) => ∃ i : Nat, y.2.2 = i ∧ i + m = l.length ∧ y.2.1 = ((256 ^ i % 18446744073709551616 : Nat) : Int) ∧ y.1 = ((ofN (l.take i) : Nat) : Int)) (fun _ o => o = some ((ofN l : Nat) : Int)) ?_ N l.length _ (by omega) ⟨0, rfl, by omega, rfl, rfl⟩
  rintro m ⟨v, p, j⟩ again ⟨i, g1, g2, g3, g4⟩ ih
  simp only at g1 g3 g4
  subst g1 g3 g4
  simp only [jp_eq]
  rcases Nat.eq_zero_or_pos m with h0 | h0
  · obtain rfl : i = l.length := by omega
    rw [brF (by omega), br_f, List.take_length]
  · obtain ⟨b, hb1, hb2⟩ := by_get hb (i := i) (by omega)
    have ht := ofN_take (l := l) (i := i) (by omega)
    have hlt := ofN_lt (hb.take (i + 1))
    rw [List.length_take, Nat.min_eq_left (by omega)] at hlt
    have hp := pow256 (i := i + 1) (by omega)
    have hp7 := pow256' (i := i) (by omega)
    rw [hb2, Int.toNat_natCast] at ht
    have hm : 256 ^ i * b < 18446744073709551616 := by omega
    rw [brT (by omega), br_true (decide_eq_true (by omega)), chk_true (by rw [Bool.and_eq_true]; exact ⟨decide_eq_true (by omega), decide_eq_true (by omega)⟩), Int.toNat_natCast, hb2, u64N (n := b) (by omega), Nat.mod_eq_of_lt (by omega), ← Int.natCast_mul, u64N hm, ← Int.natCast_add, ← ht, u64N (by omega), wrap64 (n := (i : Int) + 1) (by omega) (by omega)]
    refine ih (m - 1) _ (by omega) ⟨i + 1, rfl, by omega, ?_, rfl⟩
    simp only
    rw [u64_wrap_eq, Nat.pow_succ]
    omega

end Go.Proofs.YtkcfkegkhopakaaGreatDoor
