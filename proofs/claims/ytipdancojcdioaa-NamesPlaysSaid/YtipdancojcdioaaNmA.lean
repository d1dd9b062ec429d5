/- Plain laws of the names: what the program's functions do. No condition. -/
import Derived.Test.YtipdancojcdioaaEqNm
import Derived.Test.YtipdancojcdioaaShT
namespace Go.Proofs.Ytipdancojcdioaa
open Go Go.Ev Go.Sh
set_option linter.unusedVariables false
set_option linter.unusedSimpArgs false
set_option maxRecDepth 100000

/-! ### words -/
theorem setD_set {α : Type} {d : α} {xs : List α} {i : Nat} {y : α} (h : i < xs.length) : setD d xs i y = xs.set i y := setD_eq xs i y h

theorem getD_set {α : Type} {d : α} {xs : List α} {i j : Nat} {y : α} (h : i < xs.length) : (xs.set i y).getD j d = if i = j then y else xs.getD j d := by
  simp only [List.getD_eq_getElem?_getD, List.getElem?_set]
  split
  · rename_i e; subst e; simp [h]
  · rfl

theorem getD_mem {α : Type} {d : α} {xs : List α} {i : Nat} (h : i < xs.length) : xs.getD i d ∈ xs := by
  rw [List.getD_eq_getElem?_getD, List.getElem?_eq_getElem h, Option.getD_some]
  exact List.getElem_mem h

/-- the last claim's cell, or what was before -/
def lastC : List (Int × Int) → Int → Int → Int
  | [], _, d => d
  | x :: l, r, d => lastC l r (if x.1 = r then x.2 else d)

theorem lastC_append : ∀ (l : List (Int × Int)) (r c x d : Int), lastC (l ++ [(r, c)]) x d = if r = x then c else lastC l x d
  | [], r, c, x, d => rfl
  | y :: l, r, c, x, d => by simp only [List.cons_append, lastC, lastC_append l]

def look (S : List Int) (L : List (Int × Int)) (r : Int) : Int := lastC L r (S.getD r.toNat 0)

theorem look_append (S : List Int) (L : List (Int × Int)) (r c x : Int) : look S (L ++ [(r, c)]) x = if r = x then c else look S L x := lastC_append L r c x _

theorem look_retire {S : List Int} {L : List (Int × Int)} {r c x : Int} (hr : 0 ≤ r) (hx : 0 ≤ x) (h : r.toNat < S.length) : look (S.set r.toNat c) L x = look S ((r, c) :: L) x := by
  unfold look
  rw [lastC, getD_set h]
  by_cases e : r = x
  · subst e; simp
  · rw [if_neg (by omega), if_neg e]

theorem lastC_mem : ∀ {L : List (Int × Int)} {x d : Int}, lastC L x d = d ∨ (x, lastC L x d) ∈ L
  | [], x, d => .inl rfl
  | y :: l, x, d => by
    simp only [lastC]
    by_cases e : y.1 = x
    · rw [if_pos e]
      rcases lastC_mem (L := l) (x := x) (d := y.2) with h | h
      · right
        rw [h]
        exact List.mem_cons.2 (.inl (by rw [← e]))
      · exact .inr (List.mem_cons_of_mem _ h)
    · rw [if_neg e]
      rcases lastC_mem (L := l) (x := x) (d := d) with h | h
      · exact .inl h
      · exact .inr (List.mem_cons_of_mem _ h)

/-! ### is a cell free -/
def free (S : List Int) (L : List (Int × Int)) (c : Int) : Bool := !(S.any fun s => decide (s = c)) && !(L.any fun x => decide (x.2 = c))

theorem find_any {α : Type} {l : List α} {q : α → Bool} : l.findIdx? q = none ↔ l.any q = false := by
  induction l with
  | nil => simp
  | cons a l ih => rw [List.findIdx?_cons]; cases h : q a <;> simp [h, ih]

theorem F56_is {N : Nat} {c : Int} {C : List (Int × Bool)} {S : List Int} {L : List (Int × Int)} (hS : S.length = 32) (hL : L.length ≤ 60) (hN : 64 ≤ N) : F56 N c C S L = some (free S L c) := by
  unfold F56
  rw [search_list S (fun s => decide (s = c)) 0 (by omega) (by omega) (by rw [hS]; rfl) (by rw [hS]; rfl) (fun i => rfl)]
  cases h1 : S.findIdx? fun s => decide (s = c) with
  | some k =>
    have : (S.any fun s => decide (s = c)) = true := by
      cases h : S.any fun s => decide (s = c) with
      | true => rfl
      | false => rw [← find_any] at h; rw [h] at h1; simp at h1
    simp only [free, this, Bool.not_true, Bool.false_and]
  | none =>
    have e1 := find_any.1 h1
    simp only
    rw [search_list L (fun x => decide (x.2 = c)) (0, 0) (by omega) (by omega) rfl rfl (fun i => rfl)]
    cases h2 : L.findIdx? fun x => decide (x.2 = c) with
    | some k =>
      have : (L.any fun x => decide (x.2 = c)) = true := by
        cases h : L.any fun x => decide (x.2 = c) with
        | true => rfl
        | false => rw [← find_any] at h; rw [h] at h2; simp at h2
      simp only [free, this, Bool.not_true, Bool.and_false]
    | none =>
      have e2 := find_any.1 h2
      simp only [free, e1, e2]
      rfl

/-- a search upward with a test that may call -/
theorem search_call {ρ : Type} {N n : Nat} {a : Int} (hN : n < N) (hn : n < 9223372036854775807) (ha : a = n) {t : Int → Option Bool} {p : Int → Bool} (hp : ∀ k : Nat, k < n → t k = some (p k)) (found : Int → Option ρ) (rest : Option ρ) {F : (Int → Option ρ) → Int → Option ρ}
    (hF : F = fun again i => br (decide (i < a)) (bindS (t i) fun y => br y (found i) (again (IntKind.i64.wrap (i + 1)))) rest) :
    fixN N F 0 = match find1 (fun k => p k) n 0 with
      | some k => found k
      | none => rest := by
  subst hF ha
  have := fixN_ind (F := fun again (i : Int) => br (decide (i < (n : Int))) (bindS (t i) fun y => br y (found i) (again (IntKind.i64.wrap (i + 1)))) rest)
    (fun m s => m ≤ n ∧ s = ((n - m : Nat) : Int)) (fun s o => o = match find1 (fun k => p k) (n - s.toNat) s.toNat with | some k => found k | none => rest) ?_ N n (0 : Int) hN ⟨by omega, by omega⟩
  · simpa using this
  · rintro m s again ⟨hm, rfl⟩ ih
    rcases Nat.eq_zero_or_pos m with h0 | h0
    · subst h0
      simp [find1]
    · have e1 : decide (((n - m : Nat) : Int) < (n : Int)) = true := decide_eq_true (by omega)
      have e3 : n - (n - m) = (m - 1) + 1 := by omega
      have := ih (m - 1) (((n - m : Nat) : Int) + 1) (by omega) ⟨by omega, by omega⟩
      rw [br_true e1, hp _ (by omega), bindS_some, wrap64 (by omega) (by omega), Int.toNat_natCast, e3, find1]
      cases hp : p ((n - m : Nat) : Int) with
      | true => simp
      | false =>
        simp only [br_f, Bool.false_eq_true, if_false]
        rw [this]
        have e4 : (((n - m : Nat) : Int) + 1).toNat = n - m + 1 := by omega
        rw [e4, show n - (n - m + 1) = m - 1 by omega]

/-! ### a claim -/
def firstFree (S : List Int) (L : List (Int × Int)) : Option Nat := find1 (fun k => free S L k) 44 0

theorem F18_out {N : Nat} {r : Int} {C : List (Int × Bool)} {S : List Int} {L : List (Int × Int)} (h : r < 1 ∨ 32 ≤ r) : F18 N r C S L = some (0, false, C, S, L) := by
  unfold F18
  simp only [jp_eq, br_ite]
  by_cases h1 : r < 1
  · simp [h1]
  · have h2 : 32 ≤ r := by omega
    simp [h1, h2]

theorem fix_pair {ρ : Type} {a : Int} {F : (Int × Int → Option ρ) → Int × Int → Option ρ} {G : (Int → Option ρ) → Int → Option ρ} (h : ∀ again i, F again (a, i) = G (fun j => again (a, j)) i) : ∀ N i, fixN N F (a, i) = fixN N G i
  | 0, i => rfl
  | N + 1, i => by
    show F (fixN N F) (a, i) = G (fixN N G) i
    rw [h]
    congr 1
    funext j
    exact fix_pair h N j

theorem F18_in {N : Nat} {r : Int} {C : List (Int × Bool)} {S : List Int} {L : List (Int × Int)} (h1 : 1 ≤ r) (h2 : r < 32) (hS : S.length = 32) (hC : C.length = 44) (hL : L.length ≤ 60) (hN : 64 ≤ N) :
    F18 N r C S L = match firstFree S L with
      | none => some (0, false, C, S, L)
      | some c => some ((c : Int), true, C.set c (0, false), S, L ++ [(r, (c : Int))]) := by
  unfold F18
  have e1 : decide (r < 1) = false := decide_eq_false (by omega)
  have e2 : decide (32 ≤ r) = false := decide_eq_false (by omega)
  simp only [jp_eq, e1, e2, br_f]
  rw [fix_pair (G := fun again i => br (decide (i < 44)) (bindS (F56 N i C S L) fun y => br y (br (decide (i < 0)) (some (0, false, C, S, L)) (chk (decide (0 ≤ i) && decide (i < (↑(44 : Nat) : Int))) (chk (decide ((L.length + [(r, i)].length) * 16 ≤ lim)) (some (i, true, setD (0, false) C i.toNat (0, false), S, L ++ [(r, i)]))))) (again (IntKind.i64.wrap (i + 1))))
    (br (decide ((-1 : Int) < 0)) (some (0, false, C, S, L)) (chk (decide ((0 : Int) ≤ -1) && decide ((-1 : Int) < (↑(44 : Nat) : Int))) (chk (decide ((L.length + [(r, (-1 : Int))].length) * 16 ≤ lim)) (some (-1, true, setD (0, false) C (-1 : Int).toNat (0, false), S, L ++ [(r, -1)])))))) (fun again i => rfl)]
  rw [search_call (n := 44) (a := 44) (by omega) (by omega) rfl (p := free S L) (fun k _ => F56_is hS hL hN) (fun i => br (decide (i < 0)) (some (0, false, C, S, L)) (chk (decide (0 ≤ i) && decide (i < (↑(44 : Nat) : Int))) (chk (decide ((L.length + [(r, i)].length) * 16 ≤ lim)) (some (i, true, setD (0, false) C i.toNat (0, false), S, L ++ [(r, i)]))))) _ rfl]
  unfold firstFree
  cases h : find1 (fun k => free S L k) 44 0 with
  | none => rfl
  | some c =>
    obtain ⟨h3, h4, h5, h6⟩ := find1_some h
    have e3 : decide ((c : Int) < 0) = false := decide_eq_false (by omega)
    have e4 : decide ((0 : Int) ≤ (c : Int)) = true := decide_eq_true (by omega)
    have e5 : decide ((c : Int) < (↑(44 : Nat) : Int)) = true := decide_eq_true (by omega)
    have e6 : decide ((L.length + [(r, (c : Int))].length) * 16 ≤ lim) = true := decide_eq_true (by simp only [List.length_singleton, lim]; omega)
    simp only [e3, e4, e5, e6, br_f, chk_t, Bool.and_self, Int.toNat_natCast]
    rw [setD_set (by omega)]

theorem F17_is (N : Nat) (C : List (Int × Bool)) (S : List Int) (L : List (Int × Int)) : F17 N C S L = some (L.length : Int) := rfl

theorem F21_is {N : Nat} {C : List (Int × Bool)} {S : List Int} {L : List (Int × Int)} (hL : L.length ≤ 60) : F21 N C S L = some (!L.isEmpty, C, S, L.dropLast) := by
  unfold F21
  rw [F17_is, bindS_some]
  cases hl : L with
  | nil => rfl
  | cons a l =>
    rw [hl] at hL
    simp only [List.length_cons] at hL ⊢
    have e1 : decide (((l.length + 1 : Nat) : Int) = 0) = false := decide_eq_false (by omega)
    have e2 : IntKind.i64.wrap (((l.length + 1 : Nat) : Int) - 1) = (l.length : Int) := by rw [wrap64 (by omega) (by omega)]; omega
    have e3 : decide ((0 : Int) ≤ (l.length : Int)) = true := decide_eq_true (by omega)
    have e4 : Nat.ble l.length (l.length + 1) = true := Nat.ble_eq_true_of_le (by omega)
    have e5 : Nat.ble l.length l.length = true := Nat.ble_eq_true_of_le (by omega)
    have e6 : Nat.ble 0 l.length = true := Nat.ble_eq_true_of_le (by omega)
    rw [br_false e1]
    simp only [e2, Int.toNat_natCast, e3, e4, e5, e6, Bool.and_true, chk_t, decide_true]
    rw [List.dropLast_eq_take]
    rfl

theorem F19_is {N : Nat} {c v : Int} {C : List (Int × Bool)} {S : List Int} {L : List (Int × Int)} (hC : C.length = 44) (hc : ∀ x ∈ L, 0 ≤ x.2 ∧ x.2 < 44) (hL : L.length ≤ 60) (hN : 64 ≤ N) :
    F19 N c v C S L = if (L.any fun x => decide (x.2 = c)) = true then some (true, C.set c.toNat (v, true), S, L) else some (false, C, S, L) := by
  unfold F19
  rw [search_list L (fun x => decide (x.2 = c)) (0, 0) (by omega) (by omega) rfl rfl (fun i => rfl)]
  cases h : L.findIdx? fun x => decide (x.2 = c) with
  | none => rw [if_neg (by rw [find_any.1 h]; simp)]
  | some k =>
    have e : (L.any fun x => decide (x.2 = c)) = true := by
      cases h' : L.any fun x => decide (x.2 = c) with
      | true => rfl
      | false => rw [← find_any] at h'; rw [h'] at h; simp at h
    rw [if_pos e]
    obtain ⟨x, hx, hxc⟩ := List.any_eq_true.1 e
    have h1 := hc x hx
    have h2 : x.2 = c := of_decide_eq_true hxc
    have e4 : decide ((0 : Int) ≤ c) = true := decide_eq_true (by omega)
    have e5 : decide (c < 44) = true := decide_eq_true (by omega)
    simp only [e4, e5, chk_t, Bool.and_self]
    rw [setD_set (by omega)]

theorem F20_nil (N : Nat) (C : List (Int × Bool)) (S : List Int) : F20 N C S [] = some (false, C, S, []) := rfl

theorem F20_cons {N : Nat} {C : List (Int × Bool)} {S : List Int} {r c : Int} {L : List (Int × Int)} (hS : S.length = 32) (hr : 0 ≤ r ∧ r < 32) (hc : 0 ≤ c ∧ c < 44) :
    F20 N C S ((r, c) :: L) = if (C.getD c.toNat (0, false)).2 = true then some (true, C, S.set r.toNat c, L) else some (false, C, S, (r, c) :: L) := by
  unfold F20
  have e1 : decide (((((r, c) :: L).length : Nat) : Int) = 0) = false := decide_eq_false (by simp only [List.length_cons]; omega)
  have e2 : decide ((0 : Int) < ((((r, c) :: L).length : Nat) : Int)) = true := decide_eq_true (by simp only [List.length_cons]; omega)
  have e3 : decide ((0 : Int) ≤ c) = true := decide_eq_true hc.1
  have e4 : decide (c < 44) = true := decide_eq_true hc.2
  have e5 : decide ((0 : Int) ≤ r) = true := decide_eq_true hr.1
  have e6 : decide (r < 32) = true := decide_eq_true hr.2
  have e7 : Nat.ble 1 ((r, c) :: L).length = true := Nat.ble_eq_true_of_le (by simp)
  have e8 : Nat.ble ((r, c) :: L).length ((r, c) :: L).length = true := Nat.ble_eq_true_of_le (Nat.le_refl _)
  have e9 : ((r, c) :: L).getD 0 (0, 0) = (r, c) := rfl
  simp only [jp_eq, F17_is, bindS_some, e1, e2, e3, e4, e5, e6, e7, e8, e9, br_f, chk_t, Bool.and_self]
  rw [setD_set (by omega)]
  cases h : (C.getD c.toNat (0, false)).2 with
  | true =>
    simp only [Bool.not_true, br_f, if_true, List.length_cons, Nat.add_sub_cancel, Nat.zero_add, List.drop_one, List.tail_cons, List.take_length]
  | false => rfl

theorem F22_out {N : Nat} {r : Int} {C : List (Int × Bool)} {S : List Int} {L : List (Int × Int)} (h : r < 0 ∨ 32 ≤ r) : F22 N r C S L = some 0 := by
  unfold F22
  simp only [jp_eq, br_ite]
  by_cases h1 : r < 0
  · simp [h1]
  · have h2 : 32 ≤ r := by omega
    simp [h1, h2]

theorem F22_in {N : Nat} {r : Int} {C : List (Int × Bool)} {S : List Int} {L : List (Int × Int)} (h1 : 0 ≤ r) (h2 : r < 32) (hL : L.length ≤ 60) (hN : 64 ≤ N) : F22 N r C S L = some (look S L r) := by
  unfold F22
  have e1 : decide (r < 0) = false := decide_eq_false (by omega)
  have e2 : decide (32 ≤ r) = false := decide_eq_false (by omega)
  have e3 : decide ((0 : Int) ≤ r) = true := decide_eq_true h1
  have e4 : decide (r < 32) = true := decide_eq_true h2
  simp only [jp_eq, e1, e2, br_f, e3, e4, chk_t, Bool.and_self]
  have := fixN_ind (F := fun again (y2 : Int) => br (decide (0 ≤ y2)) (chk (decide (0 ≤ y2) && decide (y2 < (↑L.length : Int))) (br (decide ((L.getD y2.toNat (0, 0)).1 = r))
    (chk (decide (0 ≤ y2) && decide (y2 < (↑L.length : Int))) (some ((L.getD y2.toNat (0, 0)).2)))
    (again (IntKind.i64.wrap (y2 - 1))))) (some (S.getD r.toNat 0))) (fun m s => m ≤ L.length ∧ s = (m : Int) - 1) (fun s o => o = some (look S (L.take (s + 1).toNat) r)) ?_ N L.length (IntKind.i64.wrap ((↑L.length : Int) - 1)) (by omega) ⟨Nat.le_refl _, wrap64 (by omega) (by omega)⟩
  · rw [wrap64 (by omega) (by omega)] at this ⊢
    rw [this, show ((L.length : Int) - 1 + 1).toNat = L.length by omega, List.take_length]
  · rintro m s again ⟨hm, rfl⟩ ih
    rcases Nat.eq_zero_or_pos m with h0 | h0
    · subst h0
      rfl
    · have e5 : decide ((0 : Int) ≤ (m : Int) - 1) = true := decide_eq_true (by omega)
      have e6 : decide ((m : Int) - 1 < (↑L.length : Int)) = true := decide_eq_true (by omega)
      have e7 : ((m : Int) - 1).toNat = m - 1 := by omega
      have e8 : ((m : Int) - 1 + 1).toNat = (m - 1) + 1 := by omega
      have hlt : m - 1 < L.length := by omega
      simp only [e5, e6, br_t, chk_t, Bool.and_self, e7, e8]
      rw [wrap64 (by omega) (by omega), ih (m - 1) _ (by omega) ⟨by omega, by omega⟩]
      rw [List.take_succ_eq_append_getElem hlt, show (((m : Int) - 1 - 1 + 1).toNat) = m - 1 by omega]
      have e9 : L.getD (m - 1) (0, 0) = L[m - 1] := by rw [List.getD_eq_getElem?_getD, List.getElem?_eq_getElem hlt, Option.getD_some]
      rw [e9, look_append, br_ite]
      by_cases e : L[m - 1].1 = r <;> simp [e]

end Go.Proofs.Ytipdancojcdioaa
