/- Plain laws of the names: what the document's functions do. No condition. -/
import Derived.Test.YtipdancojcdioaaNmD
namespace Go.Proofs.Ytipdancojcdioaa
open Go Go.Ev Go.Sh
set_option linter.unusedVariables false
set_option linter.unusedSimpArgs false
set_option maxRecDepth 100000

abbrev RC := Int × (Int × (Int × Bool))

theorem find_idx {α : Type} (q : α → Bool) (d : α) : ∀ l : List α, (l.findIdx? q = none ∧ l.find? q = none) ∨ ∃ k, l.findIdx? q = some k ∧ k < l.length ∧ l.find? q = some (l.getD k d) ∧ q (l.getD k d) = true
  | [] => .inl ⟨rfl, rfl⟩
  | x :: l => by
    cases h : q x with
    | true => exact .inr ⟨0, by rw [List.findIdx?_cons, h]; rfl, by simp, by rw [List.find?_cons, h]; rfl, h⟩
    | false =>
      rcases find_idx q d l with ⟨h1, h2⟩ | ⟨k, h1, h2, h3, h4⟩
      · exact .inl ⟨by rw [List.findIdx?_cons, h, h1]; rfl, by rw [List.find?_cons, h, h2]⟩
      · exact .inr ⟨k + 1, by rw [List.findIdx?_cons, h, h1]; rfl, by simp only [List.length_cons]; omega, by rw [List.find?_cons, h, h3]; rfl, h4⟩

def dRC : RC := (0, 0, 0, false)

theorem F60_is {N : Nat} (hN : 64 ≤ N) {c : Int} {Q M : List RC} (hQ : Q.length = 32) (hM : M.length ≤ 60) :
    F60 N c Q M = some (match (Q ++ M).find? fun x => decide (x.2.1 = c) with | some q => (q, true) | none => (dRC, false)) := by
  unfold F60
  rw [search_list Q (fun x => decide (x.2.1 = c)) (0, 0, 0, false) (by omega) (by omega) (by rw [hQ]; rfl) (by rw [hQ]; rfl) (fun i => rfl), List.find?_append]
  rcases find_idx (fun x : RC => decide (x.2.1 = c)) (0, 0, 0, false) Q with ⟨h1, h2⟩ | ⟨k, h1, h2, h3, h4⟩
  · rw [h1, h2]
    simp only [Option.none_or]
    rw [search_list M (fun x => decide (x.2.1 = c)) (0, 0, 0, false) (by omega) (by omega) rfl rfl (fun i => rfl)]
    rcases find_idx (fun x : RC => decide (x.2.1 = c)) (0, 0, 0, false) M with ⟨h1, h2⟩ | ⟨k, h1, h2, h3, h4⟩
    · rw [h1, h2]; rfl
    · rw [h1, h3]
      have e1 : decide ((0 : Int) ≤ (k : Int)) = true := decide_eq_true (by omega)
      have e2 : decide ((k : Int) < (M.length : Int)) = true := decide_eq_true (by omega)
      simp only [e1, e2, Bool.and_self, chk_t, Int.toNat_natCast]
  · rw [h1, h3]
    have e1 : decide ((0 : Int) ≤ (k : Int)) = true := decide_eq_true (by omega)
    have e2 : decide ((k : Int) < 32) = true := decide_eq_true (by omega)
    have e3 : decide ((k : Int) < (↑(32 : Nat) : Int)) = true := decide_eq_true (by omega)
    simp only [e1, e2, e3, Bool.and_self, chk_t, Int.toNat_natCast, Option.some_or]

def cl (M : List RC) : List (Int × Int) := M.map fun m => (m.1, m.2.1)
def st (Q : List RC) : List Int := Q.map fun q => q.2.1

theorem find_none {Q M : List RC} {c : Int} : ((Q ++ M).find? fun x => decide (x.2.1 = c)) = none ↔ free (st Q) (cl M) c = true := by
  rw [free_iff, List.find?_eq_none]
  simp only [decide_eq_true_eq, st, cl, List.mem_append, List.mem_map, List.map_map]
  constructor
  · intro h
    exact ⟨fun ⟨x, h1, h2⟩ => h x (.inl h1) h2, fun ⟨x, h1, h2⟩ => h x (.inr h1) h2⟩
  · rintro ⟨h1, h2⟩ x (h3 | h3) h4
    · exact h1 ⟨x, h3, h4⟩
    · exact h2 ⟨x, h3, h4⟩

theorem F29_out {N : Nat} {r : Int} {Q M : List RC} (h : r < 1 ∨ 32 ≤ r) : F29 N r Q M = some (0, false, Q, M) := by
  unfold F29
  simp only [jp_eq, br_ite]
  by_cases h1 : r < 1
  · simp [h1]
  · have h2 : 31 < r := by omega
    simp [h1, h2]

theorem F29_in {N : Nat} {r : Int} {Q M : List RC} (h1 : 1 ≤ r) (h2 : r < 32) (hQ : Q.length = 32) (hM : M.length ≤ 60) (hN : 64 ≤ N) :
    F29 N r Q M = match firstFree (st Q) (cl M) with
      | none => some (0, false, Q, M)
      | some c => some ((c : Int), true, Q, M ++ [(r, (c : Int), 0, false)]) := by
  unfold F29
  have e1 : decide (r < 1) = false := decide_eq_false (by omega)
  have e2 : decide (31 < r) = false := decide_eq_false (by omega)
  simp only [jp_eq, e1, e2, br_f]
  have ht : ∀ k : Nat, k < 44 → (bindS (F60 N k Q M) fun y3 => some (!y3.2)) = some (free (st Q) (cl M) k) := by
    intro k hk
    rw [F60_is hN hQ hM, bindS_some]
    cases h : (Q ++ M).find? fun x => decide (x.2.1 = (k : Int)) with
    | none => rw [find_none.1 h]; rfl
    | some q =>
      have : free (st Q) (cl M) k = false := by
        cases hf : free (st Q) (cl M) k with
        | false => rfl
        | true => rw [find_none.2 hf] at h; simp at h
      rw [this]; rfl
  have key := search_call (N := N) (n := 44) (a := 44) (by omega) (by omega) rfl (t := fun i => bindS (F60 N i Q M) fun y3 => some (!y3.2)) (p := free (st Q) (cl M)) ht
    (fun i => chk (decide ((M.length + [(r, i, 0, false)].length) * 32 ≤ lim)) (some (i, true, Q, M ++ [(r, i, 0, false)]))) (some (0, false, Q, M)) (F := fun again1 y2 => br (decide (y2 < 44)) (bindS (F60 N y2 Q M) fun y3 => br (!y3.2) (chk (decide ((M.length + [(r, y2, 0, false)].length) * 32 ≤ lim)) (some (y2, true, Q, M ++ [(r, y2, 0, false)]))) (again1 (IntKind.i64.wrap (y2 + 1)))) (some (0, false, Q, M)))
    (by
      funext again i
      congr 1
      cases F60 N i Q M with
      | none => rfl
      | some y => rfl)
  refine key.trans ?_
  unfold firstFree
  cases h : find1 (fun k => free (st Q) (cl M) k) 44 0 with
  | none => rfl
  | some c =>
    have e6 : decide ((M.length + [(r, (c : Int), (0 : Int), false)].length) * 32 ≤ lim) = true := decide_eq_true (by simp only [List.length_singleton, lim]; omega)
    exact chk_true e6

theorem F30_is {N : Nat} {c v : Int} {Q M : List RC} (hM : M.length ≤ 60) (hN : 64 ≤ N) :
    F30 N c v Q M = match M.findIdx? fun x => decide (x.2.1 = c) with
      | none => some (false, Q, M)
      | some k => some (true, Q, M.set k ((M.getD k dRC).1, (M.getD k dRC).2.1, v, true)) := by
  unfold F30
  rw [search_list M (fun x => decide (x.2.1 = c)) (0, 0, 0, false) (by omega) (by omega) rfl rfl (fun i => rfl)]
  rcases find_idx (fun x : RC => decide (x.2.1 = c)) (0, 0, 0, false) M with ⟨h1, h2⟩ | ⟨k, h1, h2, h3, h4⟩
  · rw [h1]
  · rw [h1]
    have e1 : decide ((0 : Int) ≤ (k : Int)) = true := decide_eq_true (by omega)
    have e2 : decide ((k : Int) < (M.length : Int)) = true := decide_eq_true (by omega)
    simp only [e1, e2, Bool.and_self, chk_t, Int.toNat_natCast, List.length_set, getD_set h2, if_true, List.set_set]
    rfl

theorem F31_nil (N : Nat) (Q : List RC) : F31 N Q [] = some (false, Q, []) := rfl

theorem F31_cons {N : Nat} {Q : List RC} {m : RC} {M : List RC} (hQ : Q.length = 32) (hr : 0 ≤ m.1 ∧ m.1 < 32) :
    F31 N Q (m :: M) = if m.2.2.2 = true then some (true, Q.set m.1.toNat m, M) else some (false, Q, m :: M) := by
  unfold F31
  have e1 : decide ((((m :: M).length : Nat) : Int) = 0) = false := decide_eq_false (by simp only [List.length_cons]; omega)
  have e2 : decide ((0 : Int) < (((m :: M).length : Nat) : Int)) = true := decide_eq_true (by simp only [List.length_cons]; omega)
  have e5 : decide ((0 : Int) ≤ m.1) = true := decide_eq_true hr.1
  have e6 : decide (m.1 < 32) = true := decide_eq_true hr.2
  have e7 : Nat.ble 1 (m :: M).length = true := Nat.ble_eq_true_of_le (by simp)
  have e8 : Nat.ble (m :: M).length (m :: M).length = true := Nat.ble_eq_true_of_le (Nat.le_refl _)
  have e9 : (m :: M).getD 0 (0, 0, 0, false) = m := rfl
  simp only [jp_eq, e1, e2, e5, e6, e7, e8, e9, br_f, chk_t, Bool.and_self]
  rw [setD_set (by omega)]
  cases h : m.2.2.2 with
  | true =>
    simp only [Bool.not_true, br_f, if_true, List.length_cons, Nat.add_sub_cancel, Nat.zero_add, List.drop_one, List.tail_cons, List.take_length]
  | false => rfl

theorem F32_is {N : Nat} {Q M : List RC} (hM : M.length ≤ 60) : F32 N Q M = some (!M.isEmpty, Q, M.dropLast) := by
  unfold F32
  cases hl : M with
  | nil => rfl
  | cons a l =>
    rw [hl] at hM
    simp only [List.length_cons] at hM ⊢
    have e1 : decide (((l.length + 1 : Nat) : Int) = 0) = false := decide_eq_false (by omega)
    have e2 : IntKind.i64.wrap (((l.length + 1 : Nat) : Int) - 1) = (l.length : Int) := by rw [wrap64 (by omega) (by omega)]; omega
    have e3 : decide ((0 : Int) ≤ (l.length : Int)) = true := decide_eq_true (by omega)
    have e4 : Nat.ble l.length (l.length + 1) = true := Nat.ble_eq_true_of_le (by omega)
    have e6 : Nat.ble 0 l.length = true := Nat.ble_eq_true_of_le (by omega)
    rw [br_false e1]
    simp only [e2, Int.toNat_natCast, e3, e4, e6, Bool.and_true, chk_t, decide_true]
    rw [List.dropLast_eq_take]
    rfl

theorem F33_out {N : Nat} {r : Int} {Q M : List RC} (h : r < 0 ∨ 32 ≤ r) : F33 N r Q M = some 0 := by
  unfold F33
  simp only [jp_eq, br_ite]
  by_cases h1 : r < 0
  · simp [h1]
  · have h2 : 31 < r := by omega
    simp [h1, h2]

theorem st_getD (Q : List RC) (j : Nat) (h : j < Q.length) : (st Q).getD j 0 = (Q.getD j dRC).2.1 := by
  unfold st
  rw [List.getD_eq_getElem?_getD, List.getD_eq_getElem?_getD, List.getElem?_map, List.getElem?_eq_getElem h]
  rfl

theorem F33_in {N : Nat} {r : Int} {Q M : List RC} (h1 : 0 ≤ r) (h2 : r < 32) (hQ : Q.length = 32) (hM : M.length ≤ 60) (hN : 64 ≤ N) : F33 N r Q M = some (look (st Q) (cl M) r) := by
  unfold F33
  have e1 : decide (r < 0) = false := decide_eq_false (by omega)
  have e2 : decide (31 < r) = false := decide_eq_false (by omega)
  have e3 : decide ((0 : Int) ≤ r) = true := decide_eq_true h1
  have e4 : decide (r < 32) = true := decide_eq_true h2
  simp only [jp_eq, e1, e2, br_f, e3, e4, chk_t, Bool.and_self]
  refine fixN_ind (fun m (y : Int × Int) => m ≤ M.length ∧ y.2 = ((M.length - m : Nat) : Int) ∧ y.1 = look (st Q) (cl (M.take (M.length - m))) r) (fun s o => o = some (look (st Q) (cl M) r)) ?_ N M.length _ (by omega) ⟨Nat.le_refl _, by show (0 : Int) = _; rw [Nat.sub_self]; rfl, ?_⟩
  · rintro m ⟨a, i⟩ again ⟨hm, h3, h4⟩ ih
    simp only at h3 h4
    subst h3 h4
    rcases Nat.eq_zero_or_pos m with h0 | h0
    · subst h0
      have d1 : decide (((M.length - 0 : Nat) : Int) < (M.length : Int)) = false := decide_eq_false (by omega)
      simp only [d1, br_f]
      rw [Nat.sub_zero, List.take_length]
    · have d1 : decide (((M.length - m : Nat) : Int) < (M.length : Int)) = true := decide_eq_true (by omega)
      have d2 : decide ((0 : Int) ≤ ((M.length - m : Nat) : Int)) = true := decide_eq_true (by omega)
      have hlt : M.length - m < M.length := by omega
      simp only [d1, d2, br_t, Bool.and_self, chk_t, Int.toNat_natCast]
      rw [wrap64 (by omega) (by omega)]
      have e9 : M.getD (M.length - m) (0, 0, 0, false) = M[M.length - m] := by rw [List.getD_eq_getElem?_getD, List.getElem?_eq_getElem hlt, Option.getD_some]
      have hs : M.length - (m - 1) = (M.length - m) + 1 := by omega
      have hc : cl (M.take (M.length - (m - 1))) = cl (M.take (M.length - m)) ++ [(M[M.length - m].1, M[M.length - m].2.1)] := by
        unfold cl
        rw [hs, List.take_succ_eq_append_getElem hlt, List.map_append]
        rfl
      have hl : look (st Q) (cl (M.take (M.length - (m - 1)))) r = if M[M.length - m].1 = r then M[M.length - m].2.1 else look (st Q) (cl (M.take (M.length - m))) r := by
        rw [hc, look_append]
      simp only [e9, br_ite, decide_eq_true_eq]
      by_cases e : M[M.length - m].1 = r
      · rw [if_pos e] at hl
        rw [if_pos e]
        exact ih (m - 1) _ (by omega) ⟨by omega, by show ((M.length - m : Nat) : Int) + 1 = _; omega, hl.symm⟩
      · rw [if_neg e] at hl
        rw [if_neg e]
        exact ih (m - 1) _ (by omega) ⟨by omega, by show ((M.length - m : Nat) : Int) + 1 = _; omega, hl.symm⟩
  · show (Q.getD r.toNat _).2.1 = _
    rw [Nat.sub_self]
    exact (st_getD Q r.toNat (by omega)).symm

theorem F34_is {N : Nat} (hN : 64 ≤ N) {Q M : List RC} (hQ : Q.length = 32) : ∃ V, F34 N Q M = some V ∧ V.length = 32 ∧ ∀ j, j < 32 → V.getD j 0 = (Q.getD j dRC).2.2.1 := by
  unfold F34
  refine fixN_ind (fun m (y : Int × List Int) => m ≤ 32 ∧ y.1 = ((32 - m : Nat) : Int) ∧ y.2.length = 32 ∧ (∀ j, j < 32 - m → y.2.getD j 0 = (Q.getD j dRC).2.2.1))
    (fun _ o => ∃ V : List Int, o = some V ∧ V.length = 32 ∧ ∀ j, j < 32 → V.getD j 0 = (Q.getD j dRC).2.2.1) ?_ N 32 _ (by omega) ⟨by omega, rfl, rfl, fun j hj => by omega⟩
  rintro m ⟨i, V⟩ again ⟨hm, h1, h2, h3⟩ ih
  simp only at h1 h2 h3
  subst h1
  rcases Nat.eq_zero_or_pos m with hz | hz
  · subst hz
    exact ⟨V, rfl, h2, h3⟩
  · have e1 : decide (((32 - m : Nat) : Int) < 32) = true := decide_eq_true (by omega)
    have e2 : decide ((0 : Int) ≤ ((32 - m : Nat) : Int)) = true := decide_eq_true (by omega)
    have e4 : decide (((32 - m : Nat) : Int) < (↑(32 : Nat) : Int)) = true := decide_eq_true (by omega)
    simp only [e1, e2, e4, Bool.and_self, br_t, chk_t, Int.toNat_natCast]
    rw [setD_set (by omega), wrap64 (by omega) (by omega)]
    refine ih (m - 1) _ (by omega) ⟨by omega, by show ((32 - m : Nat) : Int) + 1 = _; omega, by simp [h2], fun j hj => ?_⟩
    show (V.set (32 - m) _).getD j 0 = _
    rw [getD_set (by omega)]
    split
    · rename_i e; subst e; rfl
    · exact h3 j (by omega)

theorem F28_is {N : Nat} (hN : 64 ≤ N) {x1 : List Int} (h32 : x1.length = 32) : ∃ Q : List RC, F28 N x1 = some Q ∧ Q.length = 32 ∧ ∀ j, j < 32 → Q.getD j dRC = ((j : Int), (j : Int), (setD 0 x1 0 0).getD j 0, true) := by
  unfold F28
  refine fixN_ind (fun m (y : Int × List RC) => m ≤ 32 ∧ y.1 = ((32 - m : Nat) : Int) ∧ y.2.length = 32 ∧ (∀ j, j < 32 - m → y.2.getD j dRC = ((j : Int), (j : Int), x1.getD j 0, true)))
    (fun _ o => ∃ Q : List RC, o = some Q ∧ Q.length = 32 ∧ ∀ j, j < 32 → Q.getD j dRC = ((j : Int), (j : Int), (setD 0 x1 0 0).getD j 0, true)) ?_ N 32 _ (by omega) ⟨by omega, rfl, rfl, fun j hj => by omega⟩
  rintro m ⟨i, Q⟩ again ⟨hm, h1, h2, h3⟩ ih
  simp only at h1 h2 h3
  subst h1
  rcases Nat.eq_zero_or_pos m with hz | hz
  · subst hz
    have d1 : decide (((32 - 0 : Nat) : Int) < 32) = false := rfl
    simp only [d1, br_f]
    refine ⟨_, rfl, by rw [setD_len (by omega), h2], fun j hj => ?_⟩
    have e0 : Q.getD 0 (0, 0, 0, false) = (0, 0, x1.getD 0 0, true) := h3 0 (by omega)
    rw [setD_set (by omega), getD_set (by omega), setD_set (by omega), getD_set (by omega), e0]
    split
    · rename_i e; subst e; rfl
    · exact h3 j (by omega)
  · have e1 : decide (((32 - m : Nat) : Int) < 32) = true := decide_eq_true (by omega)
    have e2 : decide ((0 : Int) ≤ ((32 - m : Nat) : Int)) = true := decide_eq_true (by omega)
    have e4 : decide (((32 - m : Nat) : Int) < (↑(32 : Nat) : Int)) = true := decide_eq_true (by omega)
    simp only [e1, e2, e4, Bool.and_self, br_t, chk_t, Int.toNat_natCast]
    rw [setD_set (by omega), wrap64 (by omega) (by omega)]
    refine ih (m - 1) _ (by omega) ⟨by omega, by show ((32 - m : Nat) : Int) + 1 = _; omega, by simp [h2], fun j hj => ?_⟩
    show (Q.set (32 - m) _).getD j dRC = _
    rw [getD_set (by omega)]
    split
    · rename_i e; subst e; rfl
    · exact h3 j (by omega)

end Go.Proofs.Ytipdancojcdioaa
