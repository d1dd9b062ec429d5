/- The document's reading of a text. No condition beyond a text's length. -/
import Derived.Test.YtkcfkegkhopakaaGreatDoorPlRd
namespace Go.Proofs.YtkcfkegkhopakaaGreatDoor
open Go Go.Ev Go.Sh
set_option linter.unusedVariables false
set_option linter.unusedSimpArgs false
set_option maxRecDepth 100000

/-! ### words -/
def isW (c : UInt8) : Bool := (decide (97 ≤ (c.toNat : Int)) && decide ((c.toNat : Int) ≤ 122)) || ((decide (48 ≤ (c.toNat : Int)) && decide ((c.toNat : Int) ≤ 57)) || (decide ((c.toNat : Int) = 46) || decide ((c.toNat : Int) = 45)))
def fls (w : List UInt8) : List (List UInt8) := bif w.isEmpty then [] else [w]
def wrd : List UInt8 → List UInt8 → List (List UInt8)
  | w, [] => fls w
  | w, c :: r => if isW c = true then wrd (w ++ [c]) r else fls w ++ wrd [] r
theorem wrd_cons (w : List UInt8) (c : UInt8) (r : List UInt8) : wrd w (c :: r) = if isW c = true then wrd (w ++ [c]) r else fls w ++ wrd [] r := rfl

theorem fls_len (w : List UInt8) : (fls w).length ≤ 1 := by unfold fls; cases w.isEmpty <;> simp
theorem wrd_len : ∀ (s w : List UInt8), (wrd w s).length ≤ s.length + 1
  | [], w => by have := fls_len w; simpa [wrd] using this
  | c :: r, w => by
    rw [wrd_cons, List.length_cons]
    split
    · have := wrd_len r (w ++ [c]); omega
    · have := wrd_len r []; have := fls_len w; rw [List.length_append]; omega
theorem wrd_mem : ∀ (s w x : List UInt8), x ∈ wrd w s → x.length ≤ w.length + s.length
  | [], w, x, h => by
    unfold wrd fls at h
    cases hw : w.isEmpty with
    | true => rw [hw] at h; simp at h
    | false => rw [hw] at h; simp only [cond_false, List.mem_singleton] at h; subst h; simp
  | c :: r, w, x, h => by
    rw [wrd_cons] at h
    rw [List.length_cons]
    split at h
    · have := wrd_mem r _ x h
      simp only [List.length_append, List.length_cons, List.length_nil] at this
      omega
    · rw [List.mem_append] at h
      rcases h with h | h
      · unfold fls at h
        cases hw : w.isEmpty with
        | true => rw [hw] at h; simp at h
        | false => rw [hw] at h; simp only [cond_false, List.mem_singleton] at h; subst h; omega
      · have := wrd_mem r _ x h
        simp only [List.length_nil] at this
        omega
theorem wrd_atom : ∀ (a w r : List UInt8), (∀ c ∈ a, isW c = true) → wrd w (a ++ r) = wrd (w ++ a) r
  | [], w, r, _ => by rw [List.nil_append, List.append_nil]
  | c :: a, w, r, h => by
    rw [List.cons_append, wrd_cons, if_pos (h c (List.mem_cons_self ..)), wrd_atom a _ r (fun x hx => h x (List.mem_cons_of_mem _ hx)), List.append_assoc]
    rfl
theorem wrd_one {a : List UInt8} (hn : a ≠ []) (h : ∀ c ∈ a, isW c = true) : wrd [] a = [a] := by
  have := wrd_atom a [] [] h
  rw [List.append_nil, List.nil_append] at this
  rw [this]
  show fls a = [a]
  unfold fls
  cases a with
  | nil => exact absurd rfl hn
  | cons c r => rfl
/-- behind an atom something that is no word -/
theorem wrd_sep {a : List UInt8} (hn : a ≠ []) (h : ∀ c ∈ a, isW c = true) {c : UInt8} (hc : isW c = false) (r : List UInt8) : wrd [] (a ++ c :: r) = a :: wrd [] r := by
  rw [wrd_atom a [] _ h, List.nil_append, wrd_cons, if_neg (by rw [hc]; simp)]
  unfold fls
  cases a with
  | nil => exact absurd rfl hn
  | cons c r => rfl
theorem wrd_skip {c : UInt8} (hc : isW c = false) (r : List UInt8) : wrd [] (c :: r) = wrd [] r := by
  rw [wrd_cons, if_neg (by rw [hc]; simp)]; rfl


theorem words_is {N : Nat} {s : List UInt8} (hs : s.length ≤ 900) (hN : 1002 ≤ N) : F51 N s = some (wrd [] s) := by
  unfold F51
  refine fixN_ind (fun m (y : List UInt8 × Int × List (List UInt8)) => ∃ (w : List UInt8) (i : Nat) (out : List (List UInt8)), y = (w, ((i : Int), out)) ∧ i + m = s.length + 1 ∧ out.length ≤ i ∧ w.length ≤ i ∧
      (i ≤ s.length → out ++ wrd w (s.drop i) = wrd [] s) ∧ (s.length < i → out = wrd [] s)) (fun _ o => o = some (wrd [] s)) ?_ N (s.length + 1) _ (by omega)
    ⟨[], 0, [], rfl, by omega, Nat.le_refl _, Nat.le_refl _, fun _ => rfl, fun h => by omega⟩
  rintro m y again ⟨w, i, out, rfl, hi, hol, hwl, h1, h2⟩ ih
  have w1 : i ≤ s.length → IntKind.i64.wrap ((i : Int) + 1) = ((i + 1 : Nat) : Int) := fun h => by rw [wrap64 (by omega) (by omega)]; omega
  simp only
  rcases Nat.eq_zero_or_pos m with h0 | h0
  · rw [brF (by omega), h2 (by omega)]
  · have hle : i ≤ s.length := by omega
    have hinv := h1 hle
    rw [brT (by omega), w1 hle, jp_eq]
    -- behind a word
    have flush : jp (fun (y5 : List (List UInt8)) => (fun (y2 : List UInt8 × List (List UInt8)) => again ((y2.1, (((i + 1 : Nat) : Int), y2.2)))) (([], y5)))
        (fun K6 => br (decide (0 < (↑w.length : Int)))
          (chk (decide ((out.length + [w].length) * 16 ≤ lim)) (K6 (out ++ [w])))
          (K6 out)) = again ([], (((i + 1 : Nat) : Int), out ++ fls w)) := by
      rw [jp_eq]
      unfold fls
      cases w with
      | nil => rw [brF (by simp)]; simp only [List.isEmpty_nil, cond_true, List.append_nil]
      | cons c r => rw [brT (by simp only [List.length_cons]; omega), chk_true (decide_eq_true (by simp only [List.length_cons, List.length_nil, lim]; omega))]; rfl
    by_cases hlt : i < s.length
    · have hd := List.drop_eq_getElem_cons hlt
      have g0 := getB (d := s) hlt
      have ck : (decide ((0 : Int) ≤ (i : Int)) && decide ((i : Int) < (s.length : Int))) = true := by rw [Bool.and_eq_true]; exact ⟨decide_eq_true (by omega), decide_eq_true (by omega)⟩
      rw [hd, wrd_cons] at hinv
      rw [jp_val (v := isW s[i])]
      · by_cases hw : isW s[i] = true
        · rw [if_pos hw] at hinv
          rw [br_true hw, Int.toNat_natCast, Int.toNat_natCast, chk_true (by rw [decide_eq_true (by omega), decide_eq_true (by omega), Nat.ble_eq_true_of_le (by omega), Nat.ble_eq_true_of_le (by omega)]; rfl)]
          have e1 : List.take (i + 1 - i) (List.drop i s) = [s[i]] := by rw [hd, Nat.add_sub_cancel_left]; rfl
          rw [e1, chkL (by simp only [List.length_cons, List.length_nil]; omega)]
          exact ih (m - 1) _ (by omega) ⟨w ++ [s[i]], i + 1, out, rfl, by omega, by omega, by simp only [List.length_append, List.length_cons, List.length_nil]; omega, fun _ => hinv, fun h => by omega⟩
        · rw [if_neg hw] at hinv
          rw [br_false (by simpa using hw)]
          refine flush.trans (ih (m - 1) _ (by omega) ⟨[], i + 1, out ++ fls w, rfl, by omega, by have := fls_len w; rw [List.length_append]; omega, by simp, fun _ => by rw [List.append_assoc]; exact hinv, fun h => by omega⟩)
      · intro K
        simp only [Int.toNat_natCast, g0]
        rw [brT (by omega)]
        unfold isW
        simp only [chk_true ck]
        cases decide (97 ≤ (s[i].toNat : Int)) <;> cases decide ((s[i].toNat : Int) ≤ 122) <;> cases decide (48 ≤ (s[i].toNat : Int)) <;> cases decide ((s[i].toNat : Int) ≤ 57) <;> cases decide ((s[i].toNat : Int) = 46) <;> rfl
    · obtain rfl : i = s.length := by omega
      rw [jp_eq, brF (by omega)]
      change br false _ _ = _
      rw [br_f]
      rw [List.drop_length] at hinv
      refine flush.trans (ih (m - 1) _ (by omega) ⟨[], s.length + 1, out ++ fls w, rfl, by omega, by have := fls_len w; rw [List.length_append]; omega, by simp, fun h => by omega, fun _ => hinv⟩)

end Go.Proofs.YtkcfkegkhopakaaGreatDoor
