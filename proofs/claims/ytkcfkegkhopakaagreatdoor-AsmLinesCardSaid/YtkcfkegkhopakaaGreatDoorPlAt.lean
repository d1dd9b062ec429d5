/- The lines of all bytes are the document's. No condition beyond the inputs'. -/
import Derived.Test.YtkcfkegkhopakaaGreatDoorPlAs
namespace Go.Proofs.YtkcfkegkhopakaaGreatDoor
open Go Go.Ev Go.Sh
set_option linter.unusedVariables false
set_option linter.unusedSimpArgs false
set_option maxRecDepth 100000

theorem wlen {n : Nat} (hn : n < 4294967296) : (([46, 119, 111, 114, 100, 32] : List UInt8).length + (Lib.itoa (n : Int)).length) ≤ 9223372036854775807 := by
  have := itl hn
  simp only [List.length_cons, List.length_nil]; omega
theorem wlenB {n : Nat} (hn : n < 4294967296) : (([46, 98, 121, 116, 101, 32] : List UInt8).length + (Lib.itoa (n : Int)).length) ≤ 9223372036854775807 := by
  have := itl hn
  simp only [List.length_cons, List.length_nil]; omega

theorem cap_ok {α : Type} (out : List α) (x : α) (h : out.length ≤ 1000000) : decide ((out.length + [x].length) * 16 ≤ lim) = true := by
  rw [decide_eq_true_eq, List.length_singleton]
  unfold lim
  omega

theorem linesL_short {b : List Int} (h : b.length < 4) : linesL b = b.map lineB := by
  match b, h with
  | [], _ => rfl
  | [_], _ => rfl
  | [_, _], _ => rfl
  | [_, _, _], _ => rfl
  | _ :: _ :: _ :: _ :: _, h => simp only [List.length_cons] at h; omega

theorem four {b : List Int} (h : ¬ b.length < 4) : ∃ a c d e r, b = a :: c :: d :: e :: r := by
  match b, h with
  | a :: c :: d :: e :: r, _ => exact ⟨a, c, d, e, r, rfl⟩
  | [], h => exact absurd (by decide) h
  | [_], h => exact absurd (by simp) h
  | [_, _], h => exact absurd (by simp) h
  | [_, _, _], h => exact absurd (by simp) h

theorem linesL_len : ∀ (n : Nat) (b : List Int), b.length = n → (linesL b).length ≤ n := by
  intro n
  induction n using Nat.strongRecOn with
  | _ n ih =>
    intro b hb
    by_cases h4 : b.length < 4
    · rw [linesL_short h4, List.length_map]; omega
    · obtain ⟨a, c, d, e, r, rfl⟩ := four h4
      simp only [List.length_cons] at hb
      have := ih r.length (by omega) r rfl
      simp only [linesL, List.length_cons]
      omega

/-- the bytes' loop -/
theorem map_snoc {b : List Int} {i : Nat} (h : i < b.length) : (b.take (i + 1)).map lineB = (b.take i).map lineB ++ [lineB (b.getD i 0)] := by
  rw [List.take_add_one, List.map_append, List.getElem?_eq_getElem h, getD_get h]
  rfl

theorem bytes_loop {G : Nat → Int → Option (List UInt8)} (hG : ∀ N n : Nat, 100 ≤ N → n < 4294967296 → G N (n : Int) = some (Lib.itoa (n : Int))) {N : Nat} (hN : 100 ≤ N) {b : List Int} (hb : BY b) (hl : b.length < 4) (out : List (List UInt8)) (ho : out.length ≤ 10000) :
    (fixN N (fun again11 (y12 : Int × List (List UInt8)) => br (decide (y12.1 < (↑b.length : Int)))
 (chk (decide (0 ≤ y12.1) && decide (y12.1 < (↑b.length : Int))) (bindS (G N ((IntKind.i64.wrap (b.getD y12.1.toNat 0)))) (fun (y13 : List UInt8) => chk (decide (([46, 98, 121, 116, 101, 32] : List UInt8).length + y13.length ≤ 9223372036854775807)) (chk (decide ((y12.2.length + [([46, 98, 121, 116, 101, 32] : List UInt8) ++ y13].length) * 16 ≤ lim)) (again11 ((IntKind.i64.wrap (y12.1 + 1), y12.2 ++ [([46, 98, 121, 116, 101, 32] : List UInt8) ++ y13])))))))
 (some y12.2)) ((0, out)) : Option (List (List UInt8))) = some (out ++ b.map lineB) := by
  refine fixN_ind (fun m (y : Int × List (List UInt8)) => m ≤ b.length ∧ y.1 = ((b.length - m : Nat) : Int) ∧ y.2 = out ++ (b.take (b.length - m)).map lineB) (fun _ o => o = some (out ++ b.map lineB)) ?_ N b.length _ (by omega) ⟨Nat.le_refl _, by simp, by simp⟩
  rintro m ⟨y, z⟩ again ⟨hm, g1, g2⟩ ih
  simp only at g1 g2
  subst g1 g2
  rcases Nat.eq_zero_or_pos m with h0 | h0
  · subst h0
    rw [brF (by omega), Nat.sub_zero, List.take_length]
  · generalize hi : b.length - m = i
    have hil : i < b.length := by omega
    obtain ⟨x, hx, ex⟩ := by_get hb hil
    simp only
    rw [brT (by omega), chk_true (by rw [Bool.and_eq_true]; exact ⟨decide_eq_true (by omega), decide_eq_true (by omega)⟩), Int.toNat_natCast, ex, i64N (by omega), hG N x hN (by omega), bindS_some, chkT (wlenB (by omega)), chk_true (cap_ok _ _ (by simp only [List.length_append, List.length_map, List.length_take]; omega)), wrap64 (by omega) (by omega)]
    refine ih (m - 1) _ (by omega) ⟨by omega, by simp only; omega, ?_⟩
    simp only
    rw [show b.length - (m - 1) = i + 1 by omega, map_snoc hil, ex, ← List.append_assoc]
    rfl

theorem Lines_is {N : Nat} (hN : 100 ≤ N) {b0 : List Int} (hb : BY b0) (hl : b0.length < N) (h2 : b0.length ≤ 10000) : F20 N b0 = some (linesL b0) := by
  unfold F20 R20
  have dig : ∀ N n : Nat, 100 ≤ N → n < 4294967296 → F48 N (n : Int) = some (Lib.itoa (n : Int)) := fun N n hN h => Digits_is hN ⟨by omega, by omega⟩
  refine fixN_ind (fun m (y : List Int × List (List UInt8)) => y.1.length = m ∧ BY y.1 ∧ y.2.length + m ≤ 10000 ∧ y.2 ++ linesL y.1 = linesL b0) (fun _ o => o = some (linesL b0)) ?_ N b0.length _ hl ⟨rfl, hb, by simp; omega, by simp⟩
  rintro m ⟨b, out⟩ again ⟨g1, g2, g3, g4⟩ ih
  simp only at g1 g2 g3 g4
  simp only
  by_cases h4 : b.length < 4
  · rw [brF (by omega), bytes_loop (G := F59) (fun N n _ h => it_is N h) hN g2 h4 out (by omega), ← g4, linesL_short h4]
  · obtain ⟨a, c, d, e, r, rfl⟩ := four h4
    simp only [List.length_cons] at g1
    obtain ⟨by4, byr⟩ := BY4 g2
    have hw := ofN_lt by4
    generalize hq : ofN [a, c, d, e] = w at hw
    rw [show ([a, c, d, e] : List Int).length = 4 from rfl, show 256 ^ 4 = 4294967296 from by decide] at hw
    have e4 : List.take (4 - 0) (List.drop (0 + 0) (a :: c :: d :: e :: r)) = [a, c, d, e] := rfl
    have fin : ∀ T : List UInt8, lineW w = T → again (r, out ++ [T]) = some (linesL b0) := fun T hT => by
      refine ih r.length _ (by omega) ⟨rfl, byr, by simp only [List.length_append, List.length_singleton]; omega, ?_⟩
      simp only [linesL, hq, hT] at g4
      rw [← g4, List.append_assoc, List.singleton_append]
    have c1 : decide ((4 : Int) ≤ ((a :: c :: d :: e :: r).length : Int)) = true := decide_eq_true (by simp only [List.length_cons]; omega)
    have c2 : Nat.ble 4 (a :: c :: d :: e :: r).length = true := Nat.ble_eq.mpr (by simp only [List.length_cons]; omega)
    have c3 : (a :: c :: d :: e :: r).length.ble (a :: c :: d :: e :: r).length = true := Nat.ble_eq.mpr (Nat.le_refl _)
    have c4 : ∀ T : List UInt8, decide ((out.length + [T].length) * 16 ≤ lim) = true := fun T => cap_ok _ _ (by omega)
    have t : ∀ (ρ : Type) (x : Option ρ), chk true x = x := fun _ _ => rfl
    simp only [c1, c2, c3, c4, br_t, t, jp_eq, Bool.and_self, e4, drop4]
    rw [Of_full hN by4 (by simp), bindS_some, hq, u32N hw, u64N (by omega), fu_is N hw, Decode_is hN hw, bindS_some]
    simp only [bindS_some]
    rw [chkT (wlen hw)]
    by_cases h0 : dOp w = 0
    · rw [if_pos h0, brF (by decide)]
      exact fin _ (by unfold lineW; rw [if_neg (by omega)])
    · rw [if_neg h0, brT (by rfl), Encode_ins hN hw h0, bindS_some]
      by_cases hm : fenceMask (dOp w) w = w
      · simp only
        rw [hm, brT rfl, (txt_at hN hw h0).1, bindS_some]
        exact fin _ (by unfold lineW; rw [if_pos ⟨h0, hm⟩])
      · rw [brF (by simp only; omega)]
        exact fin _ (by unfold lineW; rw [if_neg (fun h => hm h.2)])

theorem rLines_is {N : Nat} (hN : 100 ≤ N) {b0 : List Int} (hb : BY b0) (hl : b0.length < N) (h2 : b0.length ≤ 10000) : F21 N b0 = some (linesL b0) := by
  unfold F21 R21
  have dig : ∀ N n : Nat, 100 ≤ N → n < 4294967296 → F48 N (n : Int) = some (Lib.itoa (n : Int)) := fun N n hN h => Digits_is hN ⟨by omega, by omega⟩
  refine fixN_ind (fun m (y : List Int × List (List UInt8)) => y.1.length = m ∧ BY y.1 ∧ y.2.length + m ≤ 10000 ∧ y.2 ++ linesL y.1 = linesL b0) (fun _ o => o = some (linesL b0)) ?_ N b0.length _ hl ⟨rfl, hb, by simp; omega, by simp⟩
  rintro m ⟨b, out⟩ again ⟨g1, g2, g3, g4⟩ ih
  simp only at g1 g2 g3 g4
  simp only
  by_cases h4 : b.length < 4
  · rw [brF (by omega), bytes_loop (G := F48) dig hN g2 h4 out (by omega), ← g4, linesL_short h4]
  · obtain ⟨a, c, d, e, r, rfl⟩ := four h4
    simp only [List.length_cons] at g1
    obtain ⟨by4, byr⟩ := BY4 g2
    have hw := ofN_lt by4
    generalize hq : ofN [a, c, d, e] = w at hw
    rw [show ([a, c, d, e] : List Int).length = 4 from rfl, show 256 ^ 4 = 4294967296 from by decide] at hw
    have e4 : List.take (4 - 0) (List.drop (0 + 0) (a :: c :: d :: e :: r)) = [a, c, d, e] := rfl
    have fin : ∀ T : List UInt8, lineW w = T → again (r, out ++ [T]) = some (linesL b0) := fun T hT => by
      refine ih r.length _ (by omega) ⟨rfl, byr, by simp only [List.length_append, List.length_singleton]; omega, ?_⟩
      simp only [linesL, hq, hT] at g4
      rw [← g4, List.append_assoc, List.singleton_append]
    have c1 : decide ((4 : Int) ≤ ((a :: c :: d :: e :: r).length : Int)) = true := decide_eq_true (by simp only [List.length_cons]; omega)
    have c2 : Nat.ble 4 (a :: c :: d :: e :: r).length = true := Nat.ble_eq.mpr (by simp only [List.length_cons]; omega)
    have c3 : (a :: c :: d :: e :: r).length.ble (a :: c :: d :: e :: r).length = true := Nat.ble_eq.mpr (Nat.le_refl _)
    have c4 : ∀ T : List UInt8, decide ((out.length + [T].length) * 16 ≤ lim) = true := fun T => cap_ok _ _ (by omega)
    have t : ∀ (ρ : Type) (x : Option ρ), chk true x = x := fun _ _ => rfl
    simp only [c1, c2, c3, c4, br_t, t, jp_eq, Bool.and_self, e4, drop4]
    rw [rOf_full hN by4 (by simp), bindS_some, hq, u32N hw, i64N (by omega), dig N w hN hw, rDecode_is hN hw, bindS_some]
    simp only [bindS_some]
    rw [chkT (wlen hw)]
    by_cases h0 : dOp w = 0
    · rw [if_pos h0]
      simp only [br_f]
      exact fin _ (by unfold lineW; rw [if_neg (by omega)])
    · rw [if_neg h0]
      simp only [br_t]
      rw [rWord_ins hN hw h0, bindS_some]
      by_cases hm : fenceMask (dOp w) w = w
      · rw [hm, brT rfl, (txt_at hN hw h0).2, bindS_some]
        exact fin _ (by unfold lineW; rw [if_pos ⟨h0, hm⟩])
      · rw [brF (by omega)]
        exact fin _ (by unfold lineW; rw [if_neg (fun h => hm h.2)])

theorem SameTexts_is {N : Nat} (a b : List (List UInt8)) (hN : a.length < N) (hb : a.length < 9223372036854775807) : F19 N a b = some (decide (a = b)) := by
  unfold F19
  by_cases hl : a.length = b.length
  · rw [br_false (by simp [hl])]
    exact same_loop N a b [] (fun x y => x == y) (fun x y => by by_cases h : x = y <;> simp [h]) hl hN hb
  · have : ¬ a = b := fun h => hl (by rw [h])
    rw [br_true (by simp; omega), decide_eq_false this]

theorem lines_t {N : Nat} (hN : 1200 ≤ N) {s : List UInt8} {b : List Int} (hb : BY b) : F5 N s b = some true := by
  unfold F5 R5
  have ha : F18 N = some true := rfl
  simp only [ha, bindS_some, Bool.not_true, br_f, jp_eq, br_t]
  by_cases h1 : 1100 < b.length
  · rw [brT (by omega)]
  · rw [brF (by omega)]
    by_cases h2 : 100 < s.length
    · rw [br_true (decide_eq_true (by omega))]
    · have hlen := linesL_len b.length b rfl
      rw [br_false (decide_eq_false (by omega)), Lines_is (by omega) hb (by omega) (by omega), bindS_some, rLines_is (by omega) hb (by omega) (by omega), bindS_some, SameTexts_is _ _ (by omega) (by omega), bindS_some, brT rfl, IsName_is (by omega) (by omega), bindS_some, rName_is (by omega) (by omega), bindS_some, beq_self_eq_true]
theorem u8_BY {b : List Int} (h : ∀ x ∈ b, (Ty.int .u8).wf x) : BY b := fun x hx => by
  have h : (Lit.int .u8 x).wf = true := h x hx
  simp only [Lit.wf, Bool.and_eq_true, decide_eq_true_eq, IntKind.min, IntKind.max, IntKind.signed, IntKind.bits] at h
  simp at h
  omega
end Go.Proofs.YtkcfkegkhopakaaGreatDoor
