/- Plain laws of the names: the invariant, and what keeps it. No condition. -/
import Derived.Test.YtipdancojcdioaaNmA
import Derived.KernelRfl
namespace Go.Proofs.Ytipdancojcdioaa
open Go Go.Ev Go.Sh
set_option linter.unusedVariables false
set_option linter.unusedSimpArgs false
set_option maxRecDepth 100000

theorem F15_is : F15 100 = some true := by kernel_rfl

theorem F16_is {N : Nat} (hN : 64 ≤ N) (x1 : List Int) : ∃ C S, F16 N x1 = some (C, S) ∧ C.length = 44 ∧ S.length = 32 ∧ (∀ j, j < 32 → S.getD j 0 = (j : Int)) ∧ ∀ j, j < 32 → C.getD j (0, false) = ((setD 0 x1 0 0).getD j 0, true) := by
  unfold F16
  refine fixN_ind (fun m (y : Int × List (Int × Bool) × List Int) => m ≤ 32 ∧ y.1 = ((32 - m : Nat) : Int) ∧ y.2.1.length = 44 ∧ y.2.2.length = 32 ∧ (∀ j, j < 32 - m → y.2.2.getD j 0 = (j : Int)) ∧ ∀ j, j < 32 - m → y.2.1.getD j (0, false) = ((setD 0 x1 0 0).getD j 0, true))
    (fun _ o => ∃ (C : List (Int × Bool)) (S : List Int), o = some (C, S) ∧ C.length = 44 ∧ S.length = 32 ∧ (∀ j, j < 32 → S.getD j 0 = (j : Int)) ∧ ∀ j, j < 32 → C.getD j (0, false) = ((setD 0 x1 0 0).getD j 0, true)) ?_ N 32 _ (by omega) ⟨by omega, rfl, rfl, rfl, fun j hj => by omega, fun j hj => by omega⟩
  rintro m ⟨i, C, S⟩ again ⟨hm, h1, h2, h3, h4, h5⟩ ih
  simp only at h1 h2 h3 h4 h5
  subst h1
  rcases Nat.eq_zero_or_pos m with h0 | h0
  · subst h0
    exact ⟨C, S, rfl, h2, h3, h4, h5⟩
  · have e1 : decide (((32 - m : Nat) : Int) < 32) = true := decide_eq_true (by omega)
    have e2 : decide ((0 : Int) ≤ ((32 - m : Nat) : Int)) = true := decide_eq_true (by omega)
    have e3 : decide (((32 - m : Nat) : Int) < 44) = true := decide_eq_true (by omega)
    have e4 : decide (((32 - m : Nat) : Int) < (↑(32 : Nat) : Int)) = true := decide_eq_true (by omega)
    have e5 : decide (((32 - m : Nat) : Int) < (↑(44 : Nat) : Int)) = true := decide_eq_true (by omega)
    simp only [e1, e2, e3, e4, e5, Bool.and_self, br_t, chk_t, Int.toNat_natCast]
    rw [setD_set (xs := C) (by omega), setD_set (xs := S) (by omega), wrap64 (by omega) (by omega)]
    refine ih (m - 1) _ (by omega) ⟨by omega, by show ((32 - m : Nat) : Int) + 1 = _; omega, by simp [h2], by simp [h3], fun j hj => ?_, fun j hj => ?_⟩
    · show (S.set (32 - m) _).getD j 0 = _
      rw [getD_set (by omega)]
      split
      · rename_i e; subst e; rfl
      · exact h4 j (by omega)
    · show (C.set (32 - m) _).getD j _ = _
      rw [getD_set (by omega)]
      split
      · rename_i e; subst e; rfl
      · exact h5 j (by omega)

theorem F23_is {N : Nat} (hN : 64 ≤ N) {C : List (Int × Bool)} {S : List Int} {L : List (Int × Int)} (hS : S.length = 32) (h0 : ∀ s ∈ S, 0 ≤ s ∧ s < 44) :
    ∃ V, F23 N C S L = some V ∧ V.length = 32 ∧ ∀ j, j < 32 → V.getD j 0 = (C.getD (S.getD j 0).toNat (0, false)).1 := by
  unfold F23
  refine fixN_ind (fun m (y : Int × List Int) => m ≤ 32 ∧ y.1 = ((32 - m : Nat) : Int) ∧ y.2.length = 32 ∧ (∀ j, j < 32 - m → y.2.getD j 0 = (C.getD (S.getD j 0).toNat (0, false)).1))
    (fun _ o => ∃ V : List Int, o = some V ∧ V.length = 32 ∧ ∀ j, j < 32 → V.getD j 0 = (C.getD (S.getD j 0).toNat (0, false)).1) ?_ N 32 _ (by omega) ⟨by omega, rfl, rfl, fun j hj => by omega⟩
  rintro m ⟨i, V⟩ again ⟨hm, h1, h2, h3⟩ ih
  simp only at h1 h2 h3
  subst h1
  rcases Nat.eq_zero_or_pos m with hz | hz
  · subst hz
    exact ⟨V, rfl, h2, h3⟩
  · have hs := h0 _ (getD_mem (d := 0) (xs := S) (i := 32 - m) (by omega))
    have e1 : decide (((32 - m : Nat) : Int) < 32) = true := decide_eq_true (by omega)
    have e2 : decide ((0 : Int) ≤ ((32 - m : Nat) : Int)) = true := decide_eq_true (by omega)
    have e4 : decide (((32 - m : Nat) : Int) < (↑(32 : Nat) : Int)) = true := decide_eq_true (by omega)
    have e5 : decide (S.getD (32 - m) 0 < 44) = true := decide_eq_true hs.2
    have e6 : decide (0 ≤ S.getD (32 - m) 0) = true := decide_eq_true hs.1
    simp only [e1, e2, e4, e5, e6, Bool.and_self, br_t, chk_t, Int.toNat_natCast]
    rw [setD_set (by omega), wrap64 (by omega) (by omega)]
    refine ih (m - 1) _ (by omega) ⟨by omega, by show ((32 - m : Nat) : Int) + 1 = _; omega, by simp [h2], fun j hj => ?_⟩
    show (V.set (32 - m) _).getD j 0 = _
    rw [getD_set (by omega)]
    split
    · rename_i e; subst e; rfl
    · exact h3 j (by omega)

theorem pigeon : ∀ (n : Nat) (M : List Int), (∀ k : Nat, k < n → (k : Int) ∈ M) → n ≤ M.length
  | 0, M, h => Nat.zero_le _
  | n + 1, M, h => by
    have hm := h n (by omega)
    have := pigeon n (M.erase (n : Int)) fun k hk => (List.mem_erase_of_ne (by omega)).2 (h k (by omega))
    rw [List.length_erase_of_mem hm] at this
    have : 0 < M.length := List.length_pos_of_mem hm
    omega

theorem free_iff {S : List Int} {L : List (Int × Int)} {c : Int} : free S L c = true ↔ c ∉ S ∧ c ∉ L.map (·.2) := by
  unfold free
  simp only [Bool.and_eq_true, Bool.not_eq_true', ← Bool.not_eq_true, List.any_eq_true, decide_eq_true_eq, List.mem_map]
  constructor
  · rintro ⟨h1, h2⟩
    exact ⟨fun h => h1 ⟨c, h, rfl⟩, fun ⟨x, h, e⟩ => h2 ⟨x, h, e⟩⟩
  · rintro ⟨h1, h2⟩
    exact ⟨fun ⟨x, h, e⟩ => h1 (e ▸ h), fun ⟨x, h, e⟩ => h2 ⟨x, h, e⟩⟩

theorem firstFree_some {S : List Int} {L : List (Int × Int)} (h : S.length + L.length < 44) : ∃ c, firstFree S L = some c := by
  unfold firstFree
  cases hf : find1 (fun k => free S L k) 44 0 with
  | some c => exact ⟨c, rfl⟩
  | none =>
    have := pigeon 44 (S ++ L.map (·.2)) fun k hk => by
      have h1 := find1_none hf k (by omega) (by omega)
      rw [List.mem_append]
      rcases Classical.em ((k : Int) ∈ S) with h2 | h2
      · exact .inl h2
      · rcases Classical.em ((k : Int) ∈ L.map (·.2)) with h3 | h3
        · exact .inr h3
        · have := free_iff.2 ⟨h2, h3⟩
          rw [h1] at this
          simp at this
    simp only [List.length_append, List.length_map] at this
    omega

structure NI (C : List (Int × Bool)) (S : List Int) (L : List (Int × Int)) : Prop where
  cl : C.length = 44
  sl : S.length = 32
  s0 : ∀ s ∈ S, 0 ≤ s ∧ s < 44
  l0 : ∀ x ∈ L, 1 ≤ x.1 ∧ x.1 < 32 ∧ 0 ≤ x.2 ∧ x.2 < 44

def Rdy (C : List (Int × Bool)) (L : List (Int × Int)) : Prop := ∀ x ∈ L, (C.getD x.2.toNat (0, false)).2 = true

theorem look_range {C : List (Int × Bool)} {S : List Int} {L : List (Int × Int)} (h : NI C S L) {x : Int} (h1 : 0 ≤ x) (h2 : x < 32) : 0 ≤ look S L x ∧ look S L x < 44 ∧ (look S L x ∈ S ∨ look S L x ∈ L.map (·.2)) := by
  rcases lastC_mem (L := L) (x := x) (d := S.getD x.toNat 0) with e | e
  · have hm : S.getD x.toNat 0 ∈ S := getD_mem (by rw [h.sl]; omega)
    have := h.s0 _ hm
    unfold look
    rw [e]
    exact ⟨this.1, this.2, .inl hm⟩
  · have := h.l0 _ e
    exact ⟨this.2.2.1, this.2.2.2, .inr (List.mem_map.2 ⟨_, e, rfl⟩)⟩

theorem claim_set {N : Nat} (hN : 64 ≤ N) {C : List (Int × Bool)} {S : List Int} {L : List (Int × Int)} (h : NI C S L) (hr : Rdy C L) (hl : L.length ≤ 11) {r v : Int} (h1 : 1 ≤ r) (h2 : r < 32) :
    ∃ c C1 C2, F18 N r C S L = some (c, true, C1, S, L ++ [(r, c)]) ∧ F19 N c v C1 S (L ++ [(r, c)]) = some (true, C2, S, L ++ [(r, c)]) ∧ NI C2 S (L ++ [(r, c)]) ∧ Rdy C2 (L ++ [(r, c)]) ∧
      ∀ x, 0 ≤ x → x < 32 → (C2.getD (look S (L ++ [(r, c)]) x).toNat (0, false)).1 = if r = x then v else (C.getD (look S L x).toNat (0, false)).1 := by
  obtain ⟨c, hc⟩ := firstFree_some (S := S) (L := L) (by rw [h.sl]; omega)
  obtain ⟨_, hc1, hc2, _⟩ := find1_some hc
  obtain ⟨hf1, hf2⟩ := free_iff.1 hc2
  have hlen : (C.set c (0, false)).length = 44 := by rw [List.length_set]; exact h.cl
  have hl0 : ∀ x ∈ L ++ [(r, (c : Int))], 1 ≤ x.1 ∧ x.1 < 32 ∧ 0 ≤ x.2 ∧ x.2 < 44 := by
    intro x hx
    rcases List.mem_append.1 hx with hx | hx
    · exact h.l0 x hx
    · obtain rfl := List.mem_singleton.1 hx
      exact ⟨h1, h2, by show (0 : Int) ≤ c; omega, by show (c : Int) < 44; omega⟩
  refine ⟨c, C.set c (0, false), (C.set c (0, false)).set c (v, true), ?_, ?_, ⟨by rw [List.length_set]; exact hlen, h.sl, h.s0, hl0⟩, ?_, ?_⟩
  · rw [F18_in h1 h2 h.sl h.cl (by omega) hN, hc]
  · rw [F19_is hlen (fun x hx => (hl0 x hx).2.2) (by simp; omega) hN, if_pos (by simp)]
    simp
  · intro x hx
    rw [getD_set (by omega)]
    split
    · rfl
    · rename_i hne
      rw [getD_set (by rw [h.cl]; omega), if_neg hne]
      rcases List.mem_append.1 hx with hx | hx
      · exact hr x hx
      · obtain rfl := List.mem_singleton.1 hx
        exact absurd (Int.toNat_natCast c).symm hne
  · intro x hx1 hx2
    rw [look_append]
    by_cases e : r = x
    · rw [if_pos e, if_pos e, Int.toNat_natCast, getD_set (by omega), if_pos rfl]
    · rw [if_neg e, if_neg e]
      obtain ⟨g1, g2, g3⟩ := look_range h hx1 hx2
      have hne : ¬ c = (look S L x).toNat := by
        intro e2
        have : look S L x = (c : Int) := by omega
        rcases g3 with g3 | g3
        · exact hf1 (this ▸ g3)
        · exact hf2 (this ▸ g3)
      rw [getD_set (by omega), if_neg hne, getD_set (by rw [h.cl]; omega), if_neg hne]

theorem retire_one {N : Nat} {C : List (Int × Bool)} {S : List Int} {r c : Int} {L : List (Int × Int)} (h : NI C S ((r, c) :: L)) (hr : Rdy C ((r, c) :: L)) :
    F20 N C S ((r, c) :: L) = some (true, C, S.set r.toNat c, L) ∧ NI C (S.set r.toNat c) L ∧ Rdy C L ∧ ∀ x, 0 ≤ x → x < 32 → look (S.set r.toNat c) L x = look S ((r, c) :: L) x := by
  have hl := h.l0 _ (List.mem_cons_self)
  simp only at hl
  refine ⟨?_, ⟨h.cl, by rw [List.length_set]; exact h.sl, fun s hs => ?_, fun x hx => h.l0 x (List.mem_cons_of_mem _ hx)⟩, fun x hx => hr x (List.mem_cons_of_mem _ hx), fun x h1 h2 => ?_⟩
  · rw [F20_cons h.sl ⟨by omega, by omega⟩ ⟨by omega, by omega⟩, if_pos (hr _ List.mem_cons_self)]
  · rcases List.mem_or_eq_of_mem_set hs with h1 | h1
    · exact h.s0 s h1
    · subst h1; exact ⟨by omega, by omega⟩
  · exact look_retire (by omega) h1 (by rw [h.sl]; omega)

theorem retire_all {ρ : Type} {M : Nat} {rest : Int × List (Int × Bool) × List Int × List (Int × Int) → Option ρ} {stop : Option ρ} {F : (Int × List (Int × Bool) × List Int × List (Int × Int) → Option ρ) → Int × List (Int × Bool) × List Int × List (Int × Int) → Option ρ}
    (hF : F = fun again y => br (decide (0 < y.1)) (bindS (F20 M y.2.1 y.2.2.1 y.2.2.2) fun z => br (!z.1) stop (again (IntKind.i64.wrap (y.1 - 1), z.2.1, z.2.2.1, z.2.2.2))) (rest y)) {C : List (Int × Bool)} :
    ∀ {N : Nat} {S : List Int} {L : List (Int × Int)} {m : Int}, NI C S L → Rdy C L → L.length < N → L.length ≤ 60 → m = L.length →
      ∃ S', NI C S' [] ∧ (∀ x, 0 ≤ x → x < 32 → look S' [] x = look S L x) ∧ fixN N F (m, C, S, L) = rest (0, C, S', []) := by
  intro N
  induction N with
  | zero => intro S L m _ _ h; omega
  | succ N ih =>
    intro S L m h hr hl h60 hm
    show ∃ S', _ ∧ _ ∧ F (fixN N F) (m, C, S, L) = _
    cases L with
    | nil =>
      refine ⟨S, h, fun x _ _ => rfl, ?_⟩
      rw [hm, hF]
      rfl
    | cons x L =>
      obtain ⟨r, c⟩ := x
      obtain ⟨h1, h2, h3, h4⟩ := retire_one (N := M) h hr
      simp only [List.length_cons] at hl h60 hm
      obtain ⟨S', h5, h6, h7⟩ := ih (m := (L.length : Int)) h2 h3 (by omega) (by omega) rfl
      refine ⟨S', h5, fun x hx1 hx2 => (h6 x hx1 hx2).trans (h4 x hx1 hx2), ?_⟩
      rw [← h7]
      have e1 : decide (0 < m) = true := decide_eq_true (by omega)
      have e2 : IntKind.i64.wrap (m - 1) = (L.length : Int) := by rw [wrap64 (by omega) (by omega)]; omega
      subst hF
      simp only [e1, br_t, h1, bindS_some, Bool.not_true, br_f, e2]

end Go.Proofs.Ytipdancojcdioaa
