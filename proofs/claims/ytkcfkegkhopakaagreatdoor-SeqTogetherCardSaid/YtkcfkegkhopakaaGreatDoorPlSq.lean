/- A step: the program's and the document's are the same. No condition beyond the inputs'. -/
import Derived.Test.YtkcfkegkhopakaaGreatDoorPlSt
import Derived.Test.YtkcfkegkhopakaaGreatDoorPlAo
namespace Go.Proofs.YtkcfkegkhopakaaGreatDoor
open Go Go.Ev Go.Sh
set_option linter.unusedVariables false
set_option linter.unusedSimpArgs false
set_option maxRecDepth 100000

/-! ### numbers of bytes -/
def BY (l : List Int) : Prop := ∀ x ∈ l, 0 ≤ x ∧ x < 256
def ofN : List Int → Nat
  | [] => 0
  | b :: l => b.toNat + 256 * ofN l

theorem BY.tail {b : Int} {l : List Int} (h : BY (b :: l)) : BY l := fun x hx => h x (List.mem_cons_of_mem _ hx)
theorem BY.drop {l : List Int} (h : BY l) (n : Nat) : BY (l.drop n) := fun x hx => h x (List.mem_of_mem_drop hx)
theorem BY.take {l : List Int} (h : BY l) (n : Nat) : BY (l.take n) := fun x hx => h x (List.mem_of_mem_take hx)
theorem ofN_lt : ∀ {l : List Int}, BY l → ofN l < 256 ^ l.length
  | [], _ => by decide
  | b :: l, h => by
    have h1 := ofN_lt h.tail
    have h2 := h b (List.mem_cons_self ..)
    rw [List.length_cons, Nat.pow_succ]
    show b.toNat + 256 * ofN l < _
    omega
theorem getD_get {l : List Int} {i : Nat} (h : i < l.length) : l.getD i 0 = l[i] := by
  rw [List.getD_eq_getElem?_getD, List.getElem?_eq_getElem h]; rfl
theorem by_get {l : List Int} (hb : BY l) {i : Nat} (h : i < l.length) : ∃ n : Nat, n < 256 ∧ l.getD i 0 = n := by
  rw [getD_get h]
  have := hb _ (List.getElem_mem h)
  exact ⟨l[i].toNat, by omega, by omega⟩
theorem ofN_drop {l : List Int} {i : Nat} (h : i < l.length) : ofN (l.drop i) = (l.getD i 0).toNat + 256 * ofN (l.drop (i + 1)) := by
  rw [List.drop_eq_getElem_cons h, getD_get h]; rfl
theorem ofN_take : ∀ {l : List Int} {i : Nat}, i < l.length → ofN (l.take (i + 1)) = ofN (l.take i) + 256 ^ i * (l.getD i 0).toNat
  | [], i, h => absurd h (Nat.not_lt_zero _)
  | b :: l, 0, h => by
    show b.toNat + 256 * 0 = 0 + 256 ^ 0 * b.toNat
    omega
  | b :: l, i + 1, h => by
    have h1 := ofN_take (l := l) (i := i) (by simpa using h)
    show b.toNat + 256 * ofN (l.take (i + 1)) = b.toNat + 256 * ofN (l.take i) + 256 ^ (i + 1) * (l.getD i 0).toNat
    rw [h1, Nat.pow_succ, Nat.mul_add, ← Nat.mul_assoc, Nat.mul_comm 256 (256 ^ i)]
    omega
theorem pow256 {i : Nat} (h : i ≤ 8) : 256 ^ i ≤ 18446744073709551616 := Nat.pow_le_pow_right (n := 256) (by decide) h
theorem pow256' {i : Nat} (h : i ≤ 7) : 256 ^ i ≤ 72057594037927936 := Nat.pow_le_pow_right (n := 256) (by decide) h

theorem Of_full {N : Nat} (hN : 100 ≤ N) {l : List Int} (hb : BY l) (hl : l.length ≤ 8) : F55 N l = some ((ofN l : Nat) : Int) := by
  unfold F55
  refine fixN_ind (fun m (y : Int × Int) => m ≤ l.length ∧ y.2 = (m : Int) - 1 ∧ y.1 = ((ofN (l.drop m) : Nat) : Int)) (fun _ o => o = some ((ofN l : Nat) : Int)) ?_ N l.length _ (by omega) ⟨Nat.le_refl _, ?_, by rw [List.drop_length]; rfl⟩
  · rintro m ⟨v, j⟩ again ⟨g0, g1, g2⟩ ih
    simp only at g1 g2
    subst g1 g2
    rcases Nat.eq_zero_or_pos m with h0 | h0
    · subst h0
      rw [brF (by omega)]
      rfl
    · obtain ⟨q, rfl⟩ : ∃ q, m = q + 1 := ⟨m - 1, by omega⟩
      have e1 : ((q + 1 : Nat) : Int) - 1 = (q : Int) := by omega
      obtain ⟨b, hb1, hb2⟩ := by_get hb (i := q) (by omega)
      have hlt := ofN_lt (hb.drop (q + 1))
      rw [List.length_drop] at hlt
      have hp := pow256' (i := l.length - (q + 1)) (by omega)
      have hd := ofN_drop (l := l) (i := q) (by omega)
      rw [hb2, Int.toNat_natCast] at hd
      simp only [e1]
      rw [brT (by omega), chk_true (by rw [Bool.and_eq_true]; exact ⟨decide_eq_true (by omega), decide_eq_true (by omega)⟩), Int.toNat_natCast, hb2, u64N (by omega), show (2 : Int) ^ Min.min 8 IntKind.u64.bits = ((256 : Nat) : Int) from rfl, ← Int.natCast_mul, u64N (by omega), or64 (by omega) (by omega), or_add (m := 8) (by omega) (by omega), wrap64 (by omega) (by omega)]
      exact ih q _ (by omega) ⟨by omega, by simp only, by simp only; rw [hd]; omega⟩
  · show IntKind.i64.wrap _ = _
    rw [if_neg (by omega), wrap64 (by omega) (by omega)]

theorem rOf_full {N : Nat} (hN : 100 ≤ N) {l : List Int} (hb : BY l) (hl : l.length ≤ 8) : F60 N l = some ((ofN l : Nat) : Int) := by
  unfold F60
  refine fixN_ind (fun m (y : Int × Int × Int) => ∃ i : Nat, y.2.2 = i ∧ i + m = l.length ∧ y.2.1 = ((256 ^ i % 18446744073709551616 : Nat) : Int) ∧ y.1 = ((ofN (l.take i) : Nat) : Int)) (fun _ o => o = some ((ofN l : Nat) : Int)) ?_ N l.length _ (by omega) ⟨0, rfl, by omega, rfl, rfl⟩
  rintro m ⟨v, p, j⟩ again ⟨i, g1, g2, g3, g4⟩ ih
  simp only at g1 g3 g4
  subst g1 g3 g4
  simp only [jp_eq]
  rcases Nat.eq_zero_or_pos m with h0 | h0
  · obtain rfl : i = l.length := by omega
    rw [brF (by omega), br_f, List.take_length]
  · obtain ⟨b, hb1, hb2⟩ := by_get hb (i := i) (by omega)
    have ht := ofN_take (l := l) (i := i) (by omega)
    have hlt := ofN_lt (hb.take (i + 1))
    rw [List.length_take, Nat.min_eq_left (by omega)] at hlt
    have hp := pow256 (i := i + 1) (by omega)
    have hp7 := pow256' (i := i) (by omega)
    rw [hb2, Int.toNat_natCast] at ht
    have hm : 256 ^ i * b < 18446744073709551616 := by omega
    rw [brT (by omega), br_true (decide_eq_true (by omega)), chk_true (by rw [Bool.and_eq_true]; exact ⟨decide_eq_true (by omega), decide_eq_true (by omega)⟩), Int.toNat_natCast, hb2, u64N (n := b) (by omega), Nat.mod_eq_of_lt (by omega), ← Int.natCast_mul, u64N hm, ← Int.natCast_add, ← ht, u64N (by omega), wrap64 (n := (i : Int) + 1) (by omega) (by omega)]
    refine ih (m - 1) _ (by omega) ⟨i + 1, rfl, by omega, ?_, rfl⟩
    simp only
    rw [u64_wrap_eq, Nat.pow_succ]
    omega

/-! ### the instruction at a place -/
def FOk (i : Ins) (c : Int) : Prop := (i = noIns ∧ (c = 3 ∨ c = 4)) ∨ (c = 0 ∧ ∃ n k : Nat, 1 ≤ k ∧ k ≤ 75 ∧ n < 4294967296 ∧ i = insN n k)

theorem dOp_le' (n : Nat) : dOp n ≤ 75 := dOp_le n

theorem Fetch_is {N : Nat} (hN : 100 ≤ N) {p : Nat} (hp : p < 18446744073709551616) {img : List Int} (hl : img.length ≤ 1024) (hb : BY img) :
    ∃ i c, F28 N p img = some (i, c) ∧ F27 N p img = some (i, c) ∧ FOk i c := by
  have e4 : ((p : Int).tmod 4) = ((p % 4 : Nat) : Int) := tmodN p 4
  by_cases hc : p % 4 = 0 ∧ p + 4 ≤ img.length
  · obtain ⟨h4, h5⟩ := hc
    have w1 : IntKind.i64.wrap (p : Int) = p := i64N (by omega)
    have w2 : IntKind.i64.wrap ((p : Int) + 4) = ((p + 4 : Nat) : Int) := by rw [wrap64 (by omega) (by omega)]; omega
    have w3 : IntKind.u64.wrap ((p : Int) + 4) = ((p + 4 : Nat) : Int) := by rw [wrapU64 (by omega) (by omega)]; omega
    have hs : (List.take 4 (List.drop p img)).length = 4 := by rw [List.length_take, List.length_drop]; omega
    have hby : BY (List.take 4 (List.drop p img)) := (hb.drop p).take 4
    have hlt := ofN_lt hby
    rw [hs] at hlt
    have hlt : ofN (List.take 4 (List.drop p img)) < 4294967296 := hlt
    have o1 := Of_full hN hby (by omega)
    have o2 := rOf_full hN hby (by omega)
    have hd := dOp_le (ofN (List.take 4 (List.drop p img)))
    have sl : ∀ q : Nat, List.take (p + 4 - p) (List.drop (0 + p) img) = List.take 4 (List.drop p img) := fun _ => by rw [Nat.add_sub_cancel_left, Nat.zero_add]
    have k1 : (decide ((0 : Int) ≤ (p : Int)) && decide ((0 : Int) ≤ ((p + 4 : Nat) : Int)) && Nat.ble p (p + 4) && Nat.ble (p + 4) img.length) = true := by
      rw [decide_eq_true (by omega), decide_eq_true (by omega), Nat.ble_eq_true_of_le (by omega), Nat.ble_eq_true_of_le h5]; rfl
    refine ⟨if dOp (ofN (List.take 4 (List.drop p img))) = 0 then noIns else insN (ofN (List.take 4 (List.drop p img))) (dOp (ofN (List.take 4 (List.drop p img)))), if dOp (ofN (List.take 4 (List.drop p img))) = 0 then 3 else 0, ?_, ?_, ?_⟩
    · unfold F28 R28
      simp only [jp_eq, e4, w1, w2, Int.toNat_natCast, sl 0]
      rw [br_false (by rw [h4]; rfl), brF (by omega), br_false (decide_eq_false (by omega)), chk_true k1, o2, bindS_some, u32N hlt, rDecode_is hN hlt, bindS_some]
      split <;> rfl
    · unfold F27 R27
      simp only [jp_eq, e4, w3, Int.toNat_natCast, sl 0]
      rw [br_false (by rw [h4]; rfl), brF (by omega), br_false (decide_eq_false (by rw [wrap64 (by omega) (by omega), wrapU64 (by omega) (by omega)]; omega)), chk_true k1, o1, bindS_some, u32N hlt, Decode_is hN hlt, bindS_some]
      split <;> rfl
    · split
      · exact Or.inl ⟨rfl, Or.inl rfl⟩
      · exact Or.inr ⟨rfl, _, _, by omega, hd, hlt, rfl⟩
  · refine ⟨noIns, 4, ?_, ?_, Or.inl ⟨rfl, Or.inr rfl⟩⟩
    · unfold F28 R28
      simp only [jp_eq, e4]
      by_cases h4 : p % 4 = 0
      · rw [br_false (by rw [h4]; rfl)]
        by_cases h2 : (2000 : Int) < p
        · rw [brT h2, br_t]; rfl
        · rw [brF h2, br_true (decide_eq_true (by rw [i64N (by omega), wrap64 (by omega) (by omega)]; omega))]; rfl
      · rw [br_true (by rw [decide_eq_false (by omega)]; rfl), br_t]; rfl
    · unfold F27 R27
      simp only [jp_eq, e4]
      by_cases h4 : p % 4 = 0
      · rw [br_false (by rw [h4]; rfl)]
        by_cases h2 : (img.length : Int) < 4
        · rw [brT h2, br_t]; rfl
        · rw [brF h2, br_true (decide_eq_true (by rw [wrap64 (by omega) (by omega), wrapU64 (by omega) (by omega)]; omega))]; rfl
      · rw [br_true (by rw [decide_eq_false (by omega)]; rfl), br_t]; rfl

/-! ### registers -/
def RG (l : List Int) : Prop := ∀ v ∈ l, 0 ≤ v ∧ v < 18446744073709551616
theorem rg_get {l : List Int} (h : RG l) (i : Nat) : ∃ n : Nat, n < 18446744073709551616 ∧ l.getD i 0 = n := by
  rw [List.getD_eq_getElem?_getD]
  cases e : l[i]? with
  | none => exact ⟨0, by decide, rfl⟩
  | some v =>
    have := h v (List.mem_of_getElem? e)
    exact ⟨v.toNat, by omega, by simp only [Option.getD_some]; omega⟩
theorem rg_set {l : List Int} (h : RG l) {i : Nat} (hi : i < l.length) {v : Int} (hv : 0 ≤ v ∧ v < 18446744073709551616) : RG (setD 0 l i v) := by
  intro x hx
  rw [setD_eq _ _ _ hi] at hx
  rcases List.mem_or_eq_of_mem_set hx with h1 | h1
  · exact h x h1
  · rw [h1]; exact hv

/-! ### by sorts -/
theorem op_size {k : Nat} (hk : k ≤ 75) : decide ((0 : Int) < (siz k : Int)) = (decide (srt k = 4) || (decide (srt k = 5) || (decide (srt k = 10) || (decide (srt k = 11) || decide (srt k = 12))))) := by
  have : AllN (fun k => decide ((0 : Int) < (siz k : Int)) = (decide (srt k = 4) || (decide (srt k = 5) || (decide (srt k = 10) || (decide (srt k = 11) || decide (srt k = 12)))))) 76 := by
    iterate 76 refine AllN.mk ?_ (by show _ = _; decide)
    exact trivial
  exact this.get k (by omega)
theorem op_env {k : Nat} (hk : k ≤ 75) : (decide ((k : Int) = 52) || decide ((k : Int) = 53)) = decide (srt k = 9) := by
  have : AllN (fun k => (decide ((k : Int) = 52) || decide ((k : Int) = 53)) = decide (srt k = 9)) 76 := by
    iterate 76 refine AllN.mk ?_ (by show _ = _; decide)
    exact trivial
  exact this.get k (by omega)
theorem Loads_is {N : Nat} (hN : 100 ≤ N) (op : Int) : F69 N op = some (decide (srt op = 4) || (decide (srt op = 10) || decide (srt op = 12))) := by
  unfold F69 R69
  rw [Sort_is hN, bindS_some]
  obtain h | h | h | h | h | h | h | h | h | h | h | h | h := srt_cases op <;> rw [h] <;> rfl
theorem Stores_is {N : Nat} (hN : 100 ≤ N) (op : Int) : F73 N op = some (decide (srt op = 5) || (decide (srt op = 11) || decide (srt op = 12))) := by
  unfold F73 R73
  rw [Sort_is hN, bindS_some]
  obtain h | h | h | h | h | h | h | h | h | h | h | h | h := srt_cases op <;> rw [h] <;> rfl
theorem Target_is {N : Nat} (hN : 100 ≤ N) (i : Ins) : F76 N i = some (if wrO i.1 then clp i.2.1 else 0) := by
  unfold F76 R76 wrO
  rw [Sort_is hN, bindS_some, register_is]
  obtain h | h | h | h | h | h | h | h | h | h | h | h | h := srt_cases i.1 <;> rw [h] <;> rfl
theorem rTarget_is {N : Nat} (hN : 100 ≤ N) (i : Ins) (hm : i.1 ≤ 9223372036854775807) : F82 N i = some (if wrO i.1 then clp i.2.1 else 0) := by
  unfold F82 R82 F135
  rw [(rRegs_is hN i.1 hm).1, bindS_some]
  unfold clp
  simp only [jp_eq, br_ite]
  cases wrO i.1 <;> by_cases h1 : i.2.1 < 0 <;> by_cases h2 : 31 < i.2.1 <;> simp [h1, h2]
theorem Address_nat {N : Nat} (hN : 100 ≤ N) (i : Ins) {a : Nat} (ha : a < 18446744073709551616) : ∃ n : Nat, n < 18446744073709551616 ∧ F124 N i a = some (n : Int) := by
  unfold F124 R124
  rw [Sort_is hN, bindS_some]
  obtain ⟨n, h1, h2⟩ := wrap_nat ((a : Int) + IntKind.u64.wrap i.2.2.2.2.1)
  rw [h2]
  obtain h | h | h | h | h | h | h | h | h | h | h | h | h := srt_cases i.1 <;> rw [h] <;> first | exact ⟨n, h1, rfl⟩ | exact ⟨a, ha, rfl⟩ | exact ⟨0, by decide, rfl⟩
end Go.Proofs.YtkcfkegkhopakaaGreatDoor
