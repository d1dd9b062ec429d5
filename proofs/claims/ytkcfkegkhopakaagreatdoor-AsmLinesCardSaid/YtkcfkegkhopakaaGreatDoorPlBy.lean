/- Bytes of words, words of bytes; lists that are the same. No condition. -/
import Derived.Test.YtkcfkegkhopakaaGreatDoorPlL07
namespace Go.Proofs.YtkcfkegkhopakaaGreatDoor
open Go Go.Ev Go.Sh
set_option linter.unusedVariables false
set_option linter.unusedSimpArgs false
set_option maxRecDepth 100000

def byt4 (w : Nat) : List Int := [((w % 256 : Nat) : Int), ((w / 256 % 256 : Nat) : Int), ((w / 65536 % 256 : Nat) : Int), ((w / 16777216 % 256 : Nat) : Int)]

theorem u8N (n : Nat) : IntKind.u8.wrap (n : Int) = ((n % 256 : Nat) : Int) := by rw [u8_wrap_eq]; omega

theorem Of4 (M : Nat) (a b c d : Int) : F55 (M + 100) [a, b, c, d] = some (Go.bits Go.BinOp.or IntKind.u64 (IntKind.u64.wrap (Go.bits Go.BinOp.or IntKind.u64 (IntKind.u64.wrap (Go.bits Go.BinOp.or IntKind.u64 (IntKind.u64.wrap (Go.bits Go.BinOp.or IntKind.u64 (IntKind.u64.wrap (0 * 2 ^ Min.min 8 IntKind.u64.bits))
  (IntKind.u64.wrap d) * 2 ^ Min.min 8 IntKind.u64.bits)) (IntKind.u64.wrap c) * 2 ^ Min.min 8 IntKind.u64.bits)) (IntKind.u64.wrap b) * 2 ^ Min.min 8 IntKind.u64.bits)) (IntKind.u64.wrap a)) := by kernel_rfl

theorem Of_is {N : Nat} (hN : 100 ≤ N) {a b c d : Nat} (ha : a < 256) (hb : b < 256) (hc : c < 256) (hd : d < 256) : F55 N [(a : Int), (b : Int), (c : Int), (d : Int)] = some ((a + 256 * b + 65536 * c + 16777216 * d : Nat) : Int) := by
  obtain ⟨M, rfl⟩ : ∃ M, N = M + 100 := ⟨N - 100, by omega⟩
  rw [Of4]
  have h8 : (2 : Int) ^ Min.min 8 IntKind.u64.bits = ((256 : Nat) : Int) := rfl
  have st : ∀ x y : Nat, x < 72057594037927936 → y < 256 → bits .or .u64 (IntKind.u64.wrap ((x : Int) * ((256 : Nat) : Int))) (IntKind.u64.wrap (y : Int)) = ((x * 256 + y : Nat) : Int) := by
    intro x y hx hy
    rw [← Int.natCast_mul, u64N (by omega), u64N (by omega), or64 (by omega) (by omega), or_add (m := 8) (by omega) (by omega)]
  have h0 := st 0 d (by decide) hd
  rw [show ((0 : Nat) : Int) = 0 from rfl] at h0
  rw [h8, h0, st _ c (by omega) hc, st _ b (by omega) hb, st _ a (by omega) ha]
  congr 2
  omega

/-! ### lists that are the same -/
theorem same_loop {α : Type} [DecidableEq α] (N : Nat) (a b : List α) (z : α) (eqB : α → α → Bool) (he : ∀ x y, eqB x y = decide (x = y)) (hl : a.length = b.length) (hN : a.length < N) (hb : a.length < 9223372036854775807) :
    fixN N (fun again0 (y1 : Int) => br (decide (y1 < (↑a.length : Int)))
 (chk (decide (0 ≤ y1) && decide (y1 < (↑a.length : Int))) (chk (decide (0 ≤ y1) && decide (y1 < (↑b.length : Int))) (br (!eqB (a.getD y1.toNat z) (b.getD y1.toNat z))
 (some Bool.false)
 (again0 (IntKind.i64.wrap (y1 + 1))))))
 (some Bool.true)) 0 = some (decide (a = b)) := by
  refine fixN_ind (fun m (s : Int) => m ≤ a.length ∧ s = ((a.length - m : Nat) : Int) ∧ a.take (a.length - m) = b.take (a.length - m)) (fun s o => o = some (decide (a = b))) ?_ N a.length 0 hN ⟨Nat.le_refl _, by simp, by simp⟩
  rintro m s again ⟨hm, rfl, ht⟩ ih
  rcases Nat.eq_zero_or_pos m with h0 | h0
  · subst h0
    rw [brF (by omega)]
    rw [Nat.sub_zero, List.take_length, hl, List.take_length] at ht
    rw [decide_eq_true ht]
  · have hlt : a.length - m < a.length := by omega
    have hlt2 : a.length - m < b.length := by omega
    have ga : a.getD (a.length - m) z = a[a.length - m] := by rw [List.getD_eq_getElem?_getD, List.getElem?_eq_getElem hlt, Option.getD_some]
    have gb : b.getD (a.length - m) z = b[a.length - m] := by rw [List.getD_eq_getElem?_getD, List.getElem?_eq_getElem hlt2, Option.getD_some]
    rw [brT (by omega), chk_true (by simp; omega), chk_true (by simp; omega), Int.toNat_natCast, ga, gb, he]
    by_cases heq : a[a.length - m] = b[a.length - m]
    · rw [decide_eq_true heq, Bool.not_true, br_f, wrap64 (by omega) (by omega)]
      refine ih (m - 1) _ (by omega) ⟨by omega, by omega, ?_⟩
      rw [show a.length - (m - 1) = a.length - m + 1 by omega, List.take_succ_eq_append_getElem hlt, List.take_succ_eq_append_getElem hlt2, ht, heq]
    · rw [decide_eq_false heq, Bool.not_false, br_t]
      have : ¬ a = b := by
        rintro rfl
        exact heq rfl
      rw [decide_eq_false this]

noncomputable instance insDec : DecidableEq Ins := fun a b => Classical.propDecidable (a = b)

theorem insEqB (x y : Ins) : InsT.eq x y = decide (x = y) := by
  rw [Bool.eq_iff_iff, insEq, decide_eq_true_eq]

def decI (n : Nat) : Ins := if dOp n = 0 then noIns else insN n (dOp n)
def lstI : List Int → List Ins
  | a :: b :: c :: d :: r => decI (a + 256 * b + 65536 * c + 16777216 * d).toNat :: lstI r
  | _ => []
def isBy (x : Int) : Prop := 0 ≤ x ∧ x < 256

theorem lstI_len : ∀ l : List Int, (lstI l).length ≤ l.length / 4
  | a :: b :: c :: d :: r => by
    have := lstI_len r
    simp only [lstI, List.length_cons]
    omega
  | [] => by simp [lstI]
  | [_] => by simp [lstI]
  | [_, _] => by simp [lstI]
  | [_, _, _] => by simp [lstI]

theorem by_nat {x : Int} (h : isBy x) : ∃ n : Nat, n < 256 ∧ x = n := ⟨x.toNat, by have := h.1; have := h.2; omega, by have := h.1; omega⟩

theorem List_loop {N : Nat} (hN : 100 ≤ N) : ∀ (n : Nat) (fuel : Nat) (b : List Int) (out : List Ins), b.length / 4 < fuel → b.length < 1000000 → out.length + b.length / 4 < 1000000 → (∀ x ∈ b, isBy x) → b.length = n →
    fixN fuel (fun again0 (y1 : List Int × List Ins) => br (decide (4 ≤ (↑y1.1.length : Int)))
 (chk (Nat.ble 4 y1.1.length) (bindS (F55 N ((List.take (4 - 0) (List.drop (0 + 0) y1.1)))) (fun (y2 : Int) => bindS (F56 N ((IntKind.u32.wrap y2))) (fun (y3 : Ins × Int) => chk (decide ((y1.2.length + [y3.1].length) * 64 ≤ lim)) (chk (Nat.ble 4 y1.1.length && y1.1.length.ble y1.1.length) (again0 ((List.take (y1.1.length - 4) (List.drop (0 + 4) y1.1), y1.2 ++ [y3.1]))))))))
 (some y1.2)) (b, out) = some (out ++ lstI b) := by
  intro n
  induction n using Nat.strongRecOn with
  | _ n ih =>
    intro fuel b out hf hb ho hby hn
    obtain ⟨f, rfl⟩ : ∃ f, fuel = f + 1 := ⟨fuel - 1, by omega⟩
    rw [fixN]
    match b, hn, hf, hb, ho, hby with
    | a :: b :: c :: d :: r, hn, hf, hb, ho, hby =>
      obtain ⟨a, ha, rfl⟩ := by_nat (hby a (by simp))
      obtain ⟨b, hb', rfl⟩ := by_nat (hby b (by simp))
      obtain ⟨c, hc, rfl⟩ := by_nat (hby c (by simp))
      obtain ⟨d, hd, rfl⟩ := by_nat (hby d (by simp))
      simp only [List.length_cons] at hn hf hb ho
      rw [brT (by simp only [List.length_cons]; omega), chk_true (Nat.ble_eq.mpr (by simp only [List.length_cons]; omega))]
      show bindS (F55 N [(a : Int), (b : Int), (c : Int), (d : Int)]) _ = _
      rw [Of_is hN ha hb' hc hd, bindS_some, u32N (by omega), Decode_is hN (by omega), bindS_some]
      rw [chkT (by simp only [List.length_cons, List.length_nil, lim]; omega), chk_true (by simp)]
      have hdr : List.take (((a : Int) :: (b : Int) :: (c : Int) :: (d : Int) :: r).length - 4) (List.drop (0 + 4) ((a : Int) :: (b : Int) :: (c : Int) :: (d : Int) :: r)) = r := by
        show List.take (r.length + 1 + 1 + 1 + 1 - 4) r = r
        rw [List.take_of_length_le (by omega)]
      rw [hdr, ih r.length (by omega) f r _ (by omega) (by omega) (by simp only [List.length_append, List.length_singleton]; omega) (fun x hx => hby x (by simp [hx])) rfl]
      have e : ((a : Int) + 256 * (b : Int) + 65536 * (c : Int) + 16777216 * (d : Int)).toNat = a + 256 * b + 65536 * c + 16777216 * d := by omega
      simp only [lstI, e, List.append_assoc, List.singleton_append]
      congr 3
      unfold decI
      split <;> rfl
    | [], hn, _, _, _, _ => rw [brF (by simp)]; simp [lstI]
    | [_], hn, _, _, _, _ => rw [brF (by simp)]; simp [lstI]
    | [_, _], hn, _, _, _, _ => rw [brF (by simp)]; simp [lstI]
    | [_, _, _], hn, _, _, _, _ => rw [brF (by simp)]; simp [lstI]

end Go.Proofs.YtkcfkegkhopakaaGreatDoor
