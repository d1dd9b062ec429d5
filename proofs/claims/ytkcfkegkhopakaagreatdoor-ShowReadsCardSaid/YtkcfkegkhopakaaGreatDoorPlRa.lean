/- Parts of texts: cut at a blank, at commas and brackets. No condition beyond a text's length. -/
import Derived.Test.YtkcfkegkhopakaaGreatDoorPlTx
namespace Go.Proofs.YtkcfkegkhopakaaGreatDoor
open Go Go.Ev Go.Sh
set_option linter.unusedVariables false
set_option linter.unusedSimpArgs false
set_option maxRecDepth 100000

/-! ### at the first byte of a kind -/
def spL (c : UInt8) : List UInt8 → List UInt8 × List UInt8 × Bool
  | [] => ([], [], false)
  | b :: r => if c = b then ([], r, true) else (b :: (spL c r).1, (spL c r).2.1, (spL c r).2.2)
theorem spL_cons (c b : UInt8) (r : List UInt8) : spL c (b :: r) = if c = b then ([], r, true) else (b :: (spL c r).1, (spL c r).2.1, (spL c r).2.2) := rfl

theorem idx1 (c : UInt8) : ∀ (s : List UInt8) (k : Nat), idxF s [c] k = if (spL c s).2.2 = true then ((k + (spL c s).1.length : Nat) : Int) else -1
  | [], k => rfl
  | b :: r, k => by
    have ih := idx1 c r (k + 1)
    unfold idxF
    rw [spL_cons, ih]
    have e : [c].isPrefixOf (b :: r) = (c == b) := by simp [List.isPrefixOf]
    rw [e]
    by_cases h : c = b
    · rw [if_pos h, beq_iff_eq.2 h]; rfl
    · rw [if_neg h, beq_eq_false_iff_ne.2 h, cond_false]
      simp only [List.length_cons]
      split
      · omega
      · rfl
theorem spL_join (c : UInt8) : ∀ s : List UInt8, ((spL c s).2.2 = true → s = (spL c s).1 ++ c :: (spL c s).2.1) ∧ ((spL c s).2.2 = false → s = (spL c s).1 ∧ (spL c s).2.1 = [])
  | [] => ⟨fun h => by simp [spL] at h, fun _ => ⟨rfl, rfl⟩⟩
  | b :: r => by
    obtain ⟨h1, h2⟩ := spL_join c r
    rw [spL_cons]
    by_cases h : c = b
    · rw [if_pos h]
      exact ⟨fun _ => by rw [h]; rfl, fun h => by simp at h⟩
    · rw [if_neg h]
      refine ⟨fun e => ?_, fun e => ?_⟩
      · show b :: r = b :: ((spL c r).1 ++ c :: (spL c r).2.1)
        rw [← h1 e]
      · obtain ⟨h3, h4⟩ := h2 e
        exact ⟨congrArg (b :: ·) h3, h4⟩
theorem spL_app (c : UInt8) : ∀ (a r : List UInt8), (∀ x ∈ a, x ≠ c) → spL c (a ++ c :: r) = (a, r, true)
  | [], r, _ => by rw [List.nil_append, spL_cons, if_pos rfl]
  | b :: a, r, h => by
    rw [List.cons_append, spL_cons, if_neg (fun e => h b (List.mem_cons_self ..) e.symm), spL_app c a r (fun x hx => h x (List.mem_cons_of_mem _ hx))]
theorem spL_no (c : UInt8) : ∀ a : List UInt8, (∀ x ∈ a, x ≠ c) → spL c a = (a, [], false)
  | [], _ => rfl
  | b :: a, h => by
    rw [spL_cons, if_neg (fun e => h b (List.mem_cons_self ..) e.symm), spL_no c a (fun x hx => h x (List.mem_cons_of_mem _ hx))]

theorem Cut_is (N : Nat) {s : List UInt8} (hs : s.length ≤ 1000) : F97 N s [32] = some (spL 32 s) := by
  unfold F97 R97 F153 R153 F191
  unfold indexS
  rw [chk_true (decide_eq_true (by show s.length < 4294967281; omega)), bindS_some, idx1]
  obtain ⟨h1, h2⟩ := spL_join 32 s
  generalize spL 32 s = q at h1 h2
  obtain ⟨h, t, b⟩ := q
  cases b with
  | true =>
    have e := h1 rfl
    simp only at e
    have hl : s.length = h.length + 1 + t.length := by rw [e]; simp only [List.length_append, List.length_cons]; omega
    have e1 : ((0 + h.length : Nat) : Int) + (↑([32] : List UInt8).length : Int) = ((h.length + 1 : Nat) : Int) := by simp only [List.length_cons, List.length_nil]; omega
    simp only [if_true]
    rw [brT (by omega), e1, i64N (by omega), Int.toNat_natCast, Int.toNat_natCast,
      chk_true (by rw [decide_eq_true (by omega), Nat.ble_eq_true_of_le (by omega), Nat.ble_eq_true_of_le (by omega)]; rfl),
      chk_true (by rw [decide_eq_true (by omega), Nat.ble_eq_true_of_le (by omega), Nat.ble_eq_true_of_le (Nat.le_refl _)]; rfl), bindS_some]
    have e2 : List.take (0 + h.length - 0) (List.drop 0 s) = h := by
      rw [Nat.zero_add, Nat.sub_zero, List.drop_zero, e, List.take_left]
    have e3 : List.take (s.length - (h.length + 1)) (List.drop (h.length + 1) s) = t := by
      rw [List.take_of_length_le (by rw [List.length_drop]; exact Nat.le_refl _), e, show h.length + 1 = (h ++ [32]).length by simp, show h ++ 32 :: t = (h ++ [32]) ++ t by simp, List.drop_left]
    rw [e2, e3]
  | false =>
    obtain ⟨e, e'⟩ := h2 rfl
    simp only at e e'
    simp only [Bool.false_eq_true, if_false]
    rw [brF (by omega), bindS_some, ← e, e']

/-! ### ends -/
def sufB (s t : List UInt8) : Bool := decide (t.length ≤ s.length) && (List.drop (s.length - t.length) s == t)
theorem HasSuffix_is (N : Nat) {s : List UInt8} (hs : s.length ≤ 1000) (t : List UInt8) : F193 N s t = some (sufB s t) := by
  unfold F193 sufB
  rw [jp_eq]
  by_cases h : t.length ≤ s.length
  · have e : IntKind.i64.wrap ((↑s.length : Int) - (↑t.length : Int)) = ((s.length - t.length : Nat) : Int) := by rw [wrap64 (by omega) (by omega)]; omega
    rw [brT (by omega), decide_eq_true h, Bool.true_and, e, Int.toNat_natCast, chk_true (by rw [decide_eq_true (by omega), Nat.ble_eq_true_of_le (by omega), Nat.ble_eq_true_of_le (Nat.le_refl _)]; rfl), List.take_of_length_le (by rw [List.length_drop]; exact Nat.le_refl _)]
  · rw [brF (by omega), decide_eq_false h]; rfl
theorem CutSuffix_is (N : Nat) {s : List UInt8} (hs : s.length ≤ 1000) (t : List UInt8) : F154 N s t = some (if sufB s t = true then (List.take (s.length - t.length) s, true) else (s, false)) := by
  unfold F154 R154 F192 R192
  rw [HasSuffix_is N hs, bindS_some]
  cases hb : sufB s t with
  | true =>
    have h : t.length ≤ s.length := by
      unfold sufB at hb
      rw [Bool.and_eq_true] at hb
      exact of_decide_eq_true hb.1
    have e : IntKind.i64.wrap ((↑s.length : Int) - (↑t.length : Int)) = ((s.length - t.length : Nat) : Int) := by rw [wrap64 (by omega) (by omega)]; omega
    rw [Bool.not_true, br_f, e, Int.toNat_natCast, chk_true (by rw [decide_eq_true (by omega), Nat.ble_eq_true_of_le (by omega), Nat.ble_eq_true_of_le (by omega)]; rfl), bindS_some]
    rfl
  | false => rfl
theorem TrimSuffix_is (N : Nat) {s : List UInt8} (hs : s.length ≤ 1000) (t : List UInt8) : F100 N s t = some (if sufB s t = true then List.take (s.length - t.length) s else s) := by
  unfold F100 R100 F157 R157
  rw [HasSuffix_is N hs, bindS_some]
  cases hb : sufB s t with
  | true =>
    have h : t.length ≤ s.length := by
      unfold sufB at hb
      rw [Bool.and_eq_true] at hb
      exact of_decide_eq_true hb.1
    have e : IntKind.i64.wrap ((↑s.length : Int) - (↑t.length : Int)) = ((s.length - t.length : Nat) : Int) := by rw [wrap64 (by omega) (by omega)]; omega
    rw [br_t, e, Int.toNat_natCast, chk_true (by rw [decide_eq_true (by omega), Nat.ble_eq_true_of_le (by omega), Nat.ble_eq_true_of_le (by omega)]; rfl), bindS_some]
    rfl
  | false => rfl

def trimP (s : List UInt8) : List UInt8 := if sufB s [41] = true then List.take (s.length - 1) s else s
theorem trimP_len (s : List UInt8) : (trimP s).length ≤ s.length := by
  unfold trimP
  split
  · rw [List.length_take]; omega
  · exact Nat.le_refl _
theorem trim_app (X : List UInt8) : trimP (X ++ [41]) = X := by
  have hl : (X ++ [41]).length - 1 = X.length := by simp
  have e : sufB (X ++ [41]) [41] = true := by
    unfold sufB
    rw [Bool.and_eq_true]
    refine ⟨decide_eq_true (by simp), ?_⟩
    have e3 : (X ++ [41]).length - ([41] : List UInt8).length = X.length := by simp
    rw [e3, List.drop_left]
    rfl
  unfold trimP
  rw [if_pos e, hl, List.take_left]
theorem trim_no {s : List UInt8} (h : ∀ X, s = X ++ [41] → False) : trimP s = s := by
  unfold trimP
  rw [if_neg]
  intro e
  unfold sufB at e
  rw [Bool.and_eq_true, beq_iff_eq] at e
  exact h (List.take (s.length - 1) s) (by
    have := List.take_append_drop (s.length - 1) s
    rw [show s.length - 1 = s.length - ([41] : List UInt8).length from rfl, e.2] at this
    exact this.symm)
theorem trim_atom (X : List UInt8) {a : List UInt8} (hn : a ≠ []) (ha : ∀ c ∈ a, c ≠ 41) : trimP (X ++ a) = X ++ a := by
  refine trim_no fun Y e => ?_
  rw [← List.dropLast_concat_getLast hn, ← List.append_assoc] at e
  have e1 := (List.append_inj' e rfl).2
  simp only [List.cons.injEq, and_true] at e1
  exact ha _ (List.getLast_mem hn) e1

/-! ### at commas and brackets -/
def cutG : Bool → List UInt8 → List UInt8 → List (List UInt8)
  | _, acc, [] => [acc]
  | true, acc, c :: r => cutG false [] r
  | false, acc, c :: r => if c = 44 ∧ r.head? = some 32 then acc :: cutG true [] r else if c = 40 then acc :: cutG false [] r else cutG false (acc ++ [c]) r
theorem cutG_nil (b : Bool) (acc : List UInt8) : cutG b acc [] = [acc] := by cases b <;> rfl
theorem cutG_sk (acc : List UInt8) (c : UInt8) (r : List UInt8) : cutG true acc (c :: r) = cutG false [] r := rfl
theorem cutG_go (acc : List UInt8) (c : UInt8) (r : List UInt8) : cutG false acc (c :: r) = if c = 44 ∧ r.head? = some 32 then acc :: cutG true [] r else if c = 40 then acc :: cutG false [] r else cutG false (acc ++ [c]) r := rfl
theorem cutG_atom : ∀ (a acc r : List UInt8), (∀ c ∈ a, c ≠ 44 ∧ c ≠ 40) → cutG false acc (a ++ r) = cutG false (acc ++ a) r
  | [], acc, r, _ => by rw [List.nil_append, List.append_nil]
  | c :: a, acc, r, h => by
    have hc := h c (List.mem_cons_self ..)
    rw [List.cons_append, cutG_go, if_neg (fun e => hc.1 e.1), if_neg hc.2, cutG_atom a _ r (fun x hx => h x (List.mem_cons_of_mem _ hx)), List.append_assoc]
    rfl
theorem cutG_comma (acc r : List UInt8) : cutG false acc ([44, 32] ++ r) = acc :: cutG false [] r := by
  rw [List.cons_append, cutG_go, if_pos ⟨rfl, rfl⟩]; rfl
theorem cutG_open (acc r : List UInt8) : cutG false acc ([40] ++ r) = acc :: cutG false [] r := by
  rw [List.cons_append, cutG_go, if_neg (fun e => absurd e.1 (by decide)), if_pos rfl]; rfl
theorem cutG_ne (b : Bool) : ∀ (s acc : List UInt8), 1 ≤ (cutG b acc s).length := by
  intro s
  induction s generalizing b with
  | nil => intro acc; rw [cutG_nil]; simp
  | cons c r ih =>
    intro acc
    cases b with
    | true => rw [cutG_sk]; exact ih _ _
    | false =>
      rw [cutG_go]
      split
      · simp
      · split
        · simp
        · exact ih _ _
theorem cutG_len (b : Bool) : ∀ (s acc : List UInt8), (cutG b acc s).length ≤ s.length + 1 := by
  intro s
  induction s generalizing b with
  | nil => intro acc; rw [cutG_nil]; simp
  | cons c r ih =>
    intro acc
    rw [List.length_cons]
    cases b with
    | true => rw [cutG_sk]; have := ih false []; omega
    | false =>
      rw [cutG_go]
      split
      · have := ih true []; simp only [List.length_cons]; omega
      · split
        · have := ih false []; simp only [List.length_cons]; omega
        · have := ih false (acc ++ [c]); omega
theorem cutG_mem (b : Bool) : ∀ (s acc x : List UInt8), x ∈ cutG b acc s → x.length ≤ acc.length + s.length := by
  intro s
  induction s generalizing b with
  | nil => intro acc x hx; rw [cutG_nil, List.mem_singleton] at hx; subst hx; simp
  | cons c r ih =>
    intro acc x hx
    rw [List.length_cons]
    cases b with
    | true => rw [cutG_sk] at hx; have := ih _ _ _ hx; simp only [List.length_nil] at this; omega
    | false =>
      rw [cutG_go] at hx
      split at hx
      · rw [List.mem_cons] at hx
        rcases hx with rfl | hx
        · omega
        · have := ih _ _ _ hx; simp only [List.length_nil] at this; omega
      · split at hx
        · rw [List.mem_cons] at hx
          rcases hx with rfl | hx
          · omega
          · have := ih _ _ _ hx; simp only [List.length_nil] at this; omega
        · have := ih _ _ _ hx; simp only [List.length_append, List.length_cons, List.length_nil] at this; omega

theorem HasPrefix2_is (N : Nat) (c : UInt8) (r : List UInt8) : F156 N (c :: r) [44, 32] = some (decide (c = 44 ∧ r.head? = some 32)) := by
  unfold F156 R156 F186
  rw [jp_eq]
  cases r with
  | nil =>
    rw [brF (by simp), bindS_some, decide_eq_false (fun h => by simp at h)]
  | cons d r =>
    rw [brT (by simp only [List.length_cons, List.length_nil]; omega), chk_true (Nat.ble_eq_true_of_le (by simp)), bindS_some]
    show some ([c, d] == [44, 32]) = _
    by_cases h : c = 44 ∧ d = 32
    · rw [h.1, h.2]; rfl
    · rw [decide_eq_false (fun e => h ⟨e.1, by simpa using e.2⟩)]
      congr 1
      rw [beq_eq_false_iff_ne]
      intro e
      simp only [List.cons.injEq, and_true] at e
      exact h e

theorem cut_is {N : Nat} {s : List UInt8} (hs : s.length ≤ 1000) (hN : 1002 ≤ N) : F99 N s = some (cutG false [] s) := by
  unfold F99 R99
  rw [jp_eq]
  refine fixN_ind (fun m (y : Int × Int × List (List UInt8)) => ∃ (a i : Nat) (out : List (List UInt8)), y = ((a : Int), ((i : Int), out)) ∧ i + m = s.length ∧ out.length ≤ i ∧
      ((a ≤ i ∧ out ++ cutG false ((s.take i).drop a) (s.drop i) = cutG false [] s) ∨ (a = i + 1 ∧ i < s.length ∧ (s.drop i).head? = some 32 ∧ out ++ cutG true [] (s.drop i) = cutG false [] s))) (fun _ o => o = some (cutG false [] s)) ?_ N s.length _ (by omega)
    ⟨0, 0, [], rfl, by omega, Nat.le_refl _, Or.inl ⟨Nat.le_refl _, rfl⟩⟩
  rintro m y again ⟨a, i, out, rfl, hi, hol, hinv⟩ ih
  simp only [jp_eq]
  rw [brT (by omega)]
  have w1 : IntKind.i64.wrap ((i : Int) + 1) = ((i + 1 : Nat) : Int) := by rw [wrap64 (by omega) (by omega)]; omega
  have w2 : IntKind.i64.wrap ((i : Int) + 2) = ((i + 2 : Nat) : Int) := by rw [wrap64 (by omega) (by omega)]; omega
  have lm : ∀ x : List UInt8, decide ((out.length + [x].length) * 16 ≤ lim) = true := fun x => decide_eq_true (by simp only [List.length_cons, List.length_nil, lim]; omega)
  rcases Nat.eq_zero_or_pos m with h0 | h0
  · obtain rfl : i = s.length := by omega
    rw [brT rfl]
    rcases hinv with ⟨ha, he⟩ | ⟨_, hlt, _⟩
    · rw [Int.toNat_natCast, chk_true (by rw [decide_eq_true (by omega), Nat.ble_eq_true_of_le (by omega), Nat.ble_eq_true_of_le (Nat.le_refl _)]; rfl), chk_true (lm _), ← he, List.drop_length, cutG_nil, List.take_length, List.take_of_length_le (by rw [List.length_drop]; exact Nat.le_refl _)]
    · omega
  · have hlt : i < s.length := by omega
    have hd := List.drop_eq_getElem_cons hlt
    rw [brF (by omega), Int.toNat_natCast, Int.toNat_natCast, chk_true (by rw [decide_eq_true (by omega), Nat.ble_eq_true_of_le (by omega), Nat.ble_eq_true_of_le (Nat.le_refl _)]; rfl), List.take_of_length_le (by rw [List.length_drop]; exact Nat.le_refl _)]
    have hp : F156 N (List.drop i s) ([44, 32] : List UInt8) = some (decide (s[i] = 44 ∧ (List.drop (i + 1) s).head? = some 32)) := by rw [hd, HasPrefix2_is]
    rw [hp, bindS_some]
    have g0 := getB (d := s) hlt
    have ck : (decide ((0 : Int) ≤ (i : Int)) && decide ((i : Int) < (s.length : Int))) = true := by rw [Bool.and_eq_true]; exact ⟨decide_eq_true (by omega), decide_eq_true (by omega)⟩
    have hc40 : decide (((s.getD i 0).toNat : Int) = 40) = decide (s[i] = 40) := by
      rw [g0]
      by_cases h : s[i] = 40
      · rw [h]; rfl
      · rw [decide_eq_false h, decide_eq_false]
        intro e
        exact h (UInt8.toNat.inj (by show s[i].toNat = 40; omega))
    rcases hinv with ⟨ha, he⟩ | ⟨ha, _, h32, he⟩
    · have hacc : List.take (i - a) (List.drop a s) = (s.take i).drop a := by rw [List.drop_take]
      rw [hd, cutG_go] at he
      by_cases hc : s[i] = 44 ∧ (List.drop (i + 1) s).head? = some 32
      · rw [if_pos hc] at he
        rw [br_true (decide_eq_true hc), chk_true (by rw [decide_eq_true (by omega), decide_eq_true (by omega), Nat.ble_eq_true_of_le ha, Nat.ble_eq_true_of_le (by omega)]; rfl), chk_true (lm _), w1, w2, hacc]
        have hlt2 : i + 1 < s.length := by
          rcases Nat.lt_or_ge (i + 1) s.length with h | h
          · exact h
          · have := hc.2
            rw [List.drop_eq_nil_of_le h] at this
            simp at this
        exact ih (m - 1) _ (by omega) ⟨i + 2, i + 1, _, rfl, by omega, by simp only [List.length_append, List.length_cons, List.length_nil]; omega, Or.inr ⟨rfl, hlt2, hc.2, by rw [List.append_assoc]; exact he⟩⟩
      · rw [if_neg hc] at he
        rw [br_false (decide_eq_false hc), chk_true ck, hc40]
        by_cases h40 : s[i] = 40
        · rw [if_pos h40] at he
          rw [br_true (decide_eq_true h40), chk_true (by rw [decide_eq_true (by omega), decide_eq_true (by omega), Nat.ble_eq_true_of_le ha, Nat.ble_eq_true_of_le (by omega)]; rfl), chk_true (lm _), w1, hacc]
          refine ih (m - 1) _ (by omega) ⟨i + 1, i + 1, _, rfl, by omega, by simp only [List.length_append, List.length_cons, List.length_nil]; omega, Or.inl ⟨Nat.le_refl _, ?_⟩⟩
          have e0 : List.drop (i + 1) (s.take (i + 1)) = [] := List.drop_eq_nil_of_le (by rw [List.length_take]; omega)
          rw [e0, List.append_assoc]
          exact he
        · rw [if_neg h40] at he
          rw [br_false (decide_eq_false h40), w1]
          refine ih (m - 1) _ (by omega) ⟨a, i + 1, _, rfl, by omega, by omega, Or.inl ⟨by omega, ?_⟩⟩
          rw [List.take_succ_eq_append_getElem hlt, List.drop_append_of_le_length (by rw [List.length_take]; omega)]
          exact he
    · have hs32 : s[i] = 32 := by rw [hd] at h32; exact Option.some.inj h32
      rw [br_false (decide_eq_false (fun h => by rw [hs32] at h; exact absurd h.1 (by decide))), chk_true ck, hc40, br_false (decide_eq_false (fun h => by rw [hs32] at h; exact absurd h (by decide))), w1]
      refine ih (m - 1) _ (by omega) ⟨a, i + 1, _, rfl, by omega, by omega, Or.inl ⟨by omega, ?_⟩⟩
      rw [hd, cutG_sk] at he
      have e0 : List.drop a (s.take (i + 1)) = [] := List.drop_eq_nil_of_le (by rw [List.length_take]; omega)
      rw [e0]
      exact he
end Go.Proofs.YtkcfkegkhopakaaGreatDoor
