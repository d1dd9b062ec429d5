/- Plain law of the names: the program and the document go together. No condition. -/
import Derived.Test.YtipdancojcdioaaNmE
namespace Go.Proofs.Ytipdancojcdioaa
open Go Go.Ev Go.Sh
set_option linter.unusedVariables false
set_option linter.unusedSimpArgs false
set_option maxRecDepth 100000

structure Rl (C : List (Int × Bool)) (Q M : List RC) : Prop where
  ni : NI C (st Q) (cl M)
  ql : Q.length = 32
  nd : (st Q ++ (cl M).map (·.2)).Nodup
  qv : ∀ q ∈ Q, C.getD q.2.1.toNat (0, false) = (q.2.2.1, true) ∧ q.2.2.2 = true
  mv : ∀ m ∈ M, C.getD m.2.1.toNat (0, false) = m.2.2

theorem mem_st {Q : List RC} {q : RC} (h : q ∈ Q) : q.2.1 ∈ st Q := List.mem_map.2 ⟨q, h, rfl⟩
theorem mem_cl {M : List RC} {m : RC} (h : m ∈ M) : (m.1, m.2.1) ∈ cl M := List.mem_map.2 ⟨m, h, rfl⟩
theorem mem_cl2 {M : List RC} {m : RC} (h : m ∈ M) : m.2.1 ∈ (cl M).map (·.2) := List.mem_map.2 ⟨_, mem_cl h, rfl⟩
theorem cl_len (M : List RC) : (cl M).length = M.length := List.length_map _
theorem cl2 (M : List RC) : (cl M).map (·.2) = M.map (·.2.1) := by unfold cl; rw [List.map_map]; rfl

theorem getD_set_ne {α : Type} {d : α} {xs : List α} {i j : Nat} {y : α} (h : ¬ i = j) : (xs.set i y).getD j d = xs.getD j d := by
  simp only [List.getD_eq_getElem?_getD, List.getElem?_set, if_neg h]

variable {N : Nat} {C : List (Int × Bool)} {Q M : List RC}

theorem Rl.qr (h : Rl C Q M) {q : RC} (hq : q ∈ Q) : 0 ≤ q.2.1 ∧ q.2.1 < 44 := h.ni.s0 _ (mem_st hq)
theorem Rl.mr (h : Rl C Q M) {m : RC} (hm : m ∈ M) : 1 ≤ m.1 ∧ m.1 < 32 ∧ 0 ≤ m.2.1 ∧ m.2.1 < 44 := h.ni.l0 _ (mem_cl hm)

theorem claimR (hN : 64 ≤ N) (h : Rl C Q M) (hl : M.length ≤ 59) (r : Int) : ∃ c ok C' M', F18 N r C (st Q) (cl M) = some (c, ok, C', st Q, cl M') ∧ F29 N r Q M = some (c, ok, Q, M') ∧ Rl C' Q M' ∧ M'.length ≤ M.length + 1 := by
  have hcl := cl_len M
  by_cases hr : 1 ≤ r ∧ r < 32
  · have e1 := F18_in (N := N) (r := r) hr.1 hr.2 h.ni.sl h.ni.cl (by omega : (cl M).length ≤ 60) hN
    have e2 := F29_in (N := N) (r := r) hr.1 hr.2 h.ql (by omega : M.length ≤ 60) hN
    cases hf : firstFree (st Q) (cl M) with
    | none =>
      rw [hf] at e1 e2
      exact ⟨_, _, _, _, e1, e2, h, by omega⟩
    | some c =>
      rw [hf] at e1 e2
      obtain ⟨_, hc1, hc2, _⟩ := find1_some hf
      obtain ⟨hf1, hf2⟩ := free_iff.1 hc2
      have hcm : cl (M ++ [(r, (c : Int), 0, false)]) = cl M ++ [(r, (c : Int))] := by unfold cl; rw [List.map_append]; rfl
      refine ⟨_, _, _, M ++ [(r, (c : Int), 0, false)], by rw [hcm]; exact e1, e2, ⟨⟨by rw [List.length_set]; exact h.ni.cl, h.ni.sl, h.ni.s0, fun x hx => ?_⟩, h.ql, ?_, fun q hq => ?_, fun m hm => ?_⟩, by simp⟩
      · rw [hcm] at hx
        rcases List.mem_append.1 hx with hx | hx
        · exact h.ni.l0 x hx
        · obtain rfl := List.mem_singleton.1 hx
          exact ⟨hr.1, hr.2, by show (0 : Int) ≤ c; omega, by show (c : Int) < 44; omega⟩
      · rw [hcm, List.map_append, ← List.append_assoc]
        refine List.nodup_append.2 ⟨h.nd, by simp, fun a ha b hb => ?_⟩
        obtain rfl : b = (c : Int) := by simpa using hb
        intro e
        subst e
        rcases List.mem_append.1 ha with ha | ha
        · exact hf1 ha
        · exact hf2 ha
      · have h1 := h.qr hq
        have hne : ¬ c = q.2.1.toNat := by
          intro e
          have : q.2.1 = (c : Int) := by omega
          exact hf1 (this ▸ mem_st hq)
        rw [getD_set_ne hne]
        exact h.qv q hq
      · rcases List.mem_append.1 hm with hm | hm
        · have h1 := h.mr hm
          have hne : ¬ c = m.2.1.toNat := by
            intro e
            have : m.2.1 = (c : Int) := by omega
            exact hf2 (this ▸ mem_cl2 hm)
          rw [getD_set_ne hne]
          exact h.mv m hm
        · obtain rfl := List.mem_singleton.1 hm
          show (C.set c (0, false)).getD (c : Int).toNat _ = _
          rw [Int.toNat_natCast, getD_set (by rw [h.ni.cl]; omega), if_pos rfl]
  · exact ⟨_, _, _, _, F18_out (by omega), F29_out (by omega), h, by omega⟩

theorem setR (hN : 64 ≤ N) (h : Rl C Q M) (hl : M.length ≤ 60) (c v : Int) : ∃ ok C' M', F19 N c v C (st Q) (cl M) = some (ok, C', st Q, cl M') ∧ F30 N c v Q M = some (ok, Q, M') ∧ Rl C' Q M' ∧ M'.length = M.length := by
  have e1 := F19_is (N := N) (c := c) (v := v) (S := st Q) h.ni.cl (fun x hx => (h.ni.l0 x hx).2.2) (by rw [cl_len]; exact hl) hN
  have e2 := F30_is (N := N) (c := c) (v := v) (Q := Q) hl hN
  have ha : ((cl M).any fun x => decide (x.2 = c)) = M.any fun x => decide (x.2.1 = c) := by unfold cl; rw [List.any_map]; rfl
  rw [ha] at e1
  rcases find_idx (fun x : RC => decide (x.2.1 = c)) dRC M with ⟨h1, h2⟩ | ⟨k, h1, h2, h3, h4⟩
  · rw [h1] at e2
    rw [find_any.1 h1, if_neg (by simp)] at e1
    exact ⟨_, _, _, e1, e2, h, rfl⟩
  · rw [h1] at e2
    have ht : (M.any fun x => decide (x.2.1 = c)) = true := List.any_eq_true.2 ⟨_, getD_mem h2, h4⟩
    rw [ht, if_pos rfl] at e1
    have hk : M.getD k dRC = M[k] := by rw [List.getD_eq_getElem?_getD, List.getElem?_eq_getElem h2, Option.getD_some]
    simp only [hk] at e2 h4
    have hc : M[k].2.1 = c := of_decide_eq_true h4
    have hmk : M[k] ∈ M := List.getElem_mem h2
    have hcr := h.mr hmk
    have hcm : cl (M.set k (M[k].1, M[k].2.1, v, true)) = cl M := by
      unfold cl
      rw [List.map_set]
      have : (M[k].1, M[k].2.1) = (M.map fun m => (m.1, m.2.1))[k]'(by rw [List.length_map]; exact h2) := by rw [List.getElem_map]
      show (M.map fun m => (m.1, m.2.1)).set k (M[k].1, M[k].2.1) = _
      rw [this, List.set_getElem_self]
    refine ⟨_, _, _, by rw [hcm]; exact e1, e2, ⟨⟨by rw [List.length_set]; exact h.ni.cl, h.ni.sl, h.ni.s0, by rw [hcm]; exact h.ni.l0⟩, h.ql, by rw [hcm]; exact h.nd, fun q hq => ?_, fun m hm => ?_⟩, by rw [List.length_set]⟩
    · have h5 := h.qr hq
      have hne : ¬ c.toNat = q.2.1.toNat := by
        intro e
        exact (List.nodup_append.1 h.nd).2.2 _ (mem_st hq) _ (mem_cl2 hmk) (by omega)
      rw [getD_set_ne hne]
      exact h.qv q hq
    · obtain ⟨j, hj, rfl⟩ := List.getElem_of_mem hm
      rw [List.length_set] at hj
      rw [List.getElem_set]
      split
      · show (C.set c.toNat (v, true)).getD M[k].2.1.toNat _ = _
        rw [hc, getD_set (by rw [h.ni.cl]; omega), if_pos rfl]
      · rename_i hne
        have hmj : M[j] ∈ M := List.getElem_mem hj
        have hjr := h.mr hmj
        have hd : ¬ c.toNat = M[j].2.1.toNat := by
          intro e
          have hp := (List.nodup_append.1 h.nd).2.1
          rw [cl2] at hp
          have hp2 := List.pairwise_iff_getElem.1 hp
          rcases Nat.lt_or_ge k j with hlt | hge
          · exact hp2 k j (by rw [List.length_map]; exact h2) (by rw [List.length_map]; exact hj) hlt (by rw [List.getElem_map, List.getElem_map]; omega)
          · exact hp2 j k (by rw [List.length_map]; exact hj) (by rw [List.length_map]; exact h2) (by omega) (by rw [List.getElem_map, List.getElem_map]; omega)
        rw [getD_set_ne hd]
        exact h.mv _ hmj

theorem nodup_set {c : Int} : ∀ {S : List Int} {i : Nat}, S.Nodup → c ∉ S → (S.set i c).Nodup
  | [], i, h, _ => h
  | x :: S, 0, h, hc => by
    have h' := List.nodup_cons.1 h
    exact List.nodup_cons.2 ⟨fun hm => hc (List.mem_cons_of_mem _ hm), h'.2⟩
  | x :: S, i + 1, h, hc => by
    have h' := List.nodup_cons.1 h
    refine List.nodup_cons.2 ⟨fun hm => ?_, nodup_set h'.2 fun hm => hc (List.mem_cons_of_mem _ hm)⟩
    rcases List.mem_or_eq_of_mem_set hm with h1 | h1
    · exact h'.1 h1
    · exact hc (h1 ▸ List.mem_cons_self)

theorem retireR (hN : 64 ≤ N) (h : Rl C Q M) (hl : M.length ≤ 60) : ∃ ok Q' M', F20 N C (st Q) (cl M) = some (ok, C, st Q', cl M') ∧ F31 N Q M = some (ok, Q', M') ∧ Rl C Q' M' ∧ M'.length ≤ M.length := by
  cases M with
  | nil => exact ⟨false, Q, [], rfl, rfl, h, by simp⟩
  | cons m M =>
    have hm := h.mr (List.mem_cons_self (a := m) (l := M))
    have hv := h.mv m List.mem_cons_self
    have e1 := F20_cons (N := N) (C := C) (S := st Q) (r := m.1) (c := m.2.1) (L := cl M) h.ni.sl ⟨by omega, by omega⟩ ⟨by omega, by omega⟩
    have e2 := F31_cons (N := N) (Q := Q) (m := m) (M := M) h.ql ⟨by omega, by omega⟩
    rw [hv] at e1
    by_cases hr : m.2.2.2 = true
    · rw [if_pos hr] at e1 e2
      have hst : st (Q.set m.1.toNat m) = (st Q).set m.1.toNat m.2.1 := by unfold st; rw [List.map_set]
      refine ⟨_, _, _, by rw [hst]; exact e1, e2, ⟨⟨h.ni.cl, by rw [hst, List.length_set]; exact h.ni.sl, fun s hs => ?_, fun x hx => h.ni.l0 x (List.mem_cons_of_mem _ hx)⟩, by rw [List.length_set]; exact h.ql, ?_, fun q hq => ?_, fun x hx => h.mv x (List.mem_cons_of_mem _ hx)⟩, by simp⟩
      · rw [hst] at hs
        rcases List.mem_or_eq_of_mem_set hs with h1 | h1
        · exact h.ni.s0 s h1
        · subst h1; exact ⟨by omega, by omega⟩
      · have hnd := List.nodup_append.1 h.nd
        have hc2 := List.nodup_cons.1 hnd.2.1
        rw [hst]
        refine List.nodup_append.2 ⟨nodup_set hnd.1 fun hm2 => hnd.2.2 _ hm2 _ List.mem_cons_self rfl, hc2.2, fun a ha b hb => ?_⟩
        rcases List.mem_or_eq_of_mem_set ha with h1 | h1
        · exact hnd.2.2 a h1 b (List.mem_cons_of_mem _ hb)
        · intro e
          subst h1
          exact hc2.1 (show m.2.1 ∈ (cl M).map (·.2) by rw [e]; exact hb)
      · rcases List.mem_or_eq_of_mem_set hq with h1 | h1
        · exact h.qv q h1
        · subst h1
          exact ⟨by rw [hv, ← hr], hr⟩
    · rw [if_neg hr] at e1 e2
      exact ⟨_, _, m :: M, e1, e2, h, Nat.le_refl _⟩

theorem undoR (h : Rl C Q M) (hl : M.length ≤ 60) : F21 N C (st Q) (cl M) = some (!M.isEmpty, C, st Q, cl M.dropLast) ∧ F32 N Q M = some (!M.isEmpty, Q, M.dropLast) ∧ Rl C Q M.dropLast := by
  have hcd : cl M.dropLast = (cl M).dropLast := by unfold cl; rw [List.map_dropLast]
  refine ⟨?_, F32_is hl, ⟨by rw [hcd]; exact h.ni.drop, h.ql, ?_, h.qv, fun m hm => h.mv m ((List.dropLast_sublist M).subset hm)⟩⟩
  · rw [F21_is (by rw [cl_len]; exact hl), hcd]
    have : (cl M).isEmpty = M.isEmpty := by cases M <;> rfl
    rw [this]
  · rw [hcd]
    exact h.nd.sublist (List.Sublist.append_left ((List.dropLast_sublist (cl M)).map _) _)

theorem lookR (hN : 64 ≤ N) (h : Rl C Q M) (hl : M.length ≤ 60) (r : Int) : ∃ a, F22 N r C (st Q) (cl M) = some a ∧ F33 N r Q M = some a := by
  by_cases hr : 0 ≤ r ∧ r < 32
  · exact ⟨_, F22_in hr.1 hr.2 (by rw [cl_len]; exact hl) hN, F33_in hr.1 hr.2 h.ql hl hN⟩
  · exact ⟨0, F22_out (by omega), F33_out (by omega)⟩

theorem valuesR (hN : 64 ≤ N) (h : Rl C Q M) : ∃ V, F23 N C (st Q) (cl M) = some V ∧ F34 N Q M = some V := by
  obtain ⟨V, k1, k2, k3⟩ := F23_is hN (C := C) (L := cl M) h.ni.sl h.ni.s0
  obtain ⟨W, l1, l2, l3⟩ := F34_is hN (Q := Q) (M := M) h.ql
  have : V = W := list_ext k2 l2 fun j hj => by
    rw [k3 j hj, l3 j hj, st_getD Q j (by rw [h.ql]; exact hj), (h.qv _ (getD_mem (by rw [h.ql]; exact hj))).1]
  subst this
  exact ⟨V, k1, l1⟩

theorem valueR (hN : 64 ≤ N) (h : Rl C Q M) (hl : M.length ≤ 60) (c : Int) : ∃ a, F35 N c C (st Q) (cl M) = some a ∧ F36 N c Q M = some a := by
  unfold F35 F36
  rw [F60_is hN h.ql hl, bindS_some]
  cases hf : (Q ++ M).find? fun x => decide (x.2.1 = c) with
  | none =>
    have h1 := find_none.1 hf
    refine ⟨(0, false), ?_, rfl⟩
    simp only [jp_eq, br_ite, F56_is h.ni.sl (by rw [cl_len]; exact hl) hN, bindS_some, h1, if_true]
    by_cases g1 : c < 0
    · simp [g1]
    · by_cases g2 : 44 ≤ c
      · simp [g1, g2]
      · simp [g1, g2]
  | some q =>
    have hq := List.mem_of_find?_eq_some hf
    have hc : q.2.1 = c := by have h0 := List.find?_some hf; exact of_decide_eq_true h0
    have h1 : free (st Q) (cl M) c = false := by
      cases hfr : free (st Q) (cl M) c with
      | false => rfl
      | true => rw [find_none.2 hfr] at hf; simp at hf
    have h2 : 0 ≤ c ∧ c < 44 ∧ C.getD c.toNat (0, false) = q.2.2 := by
      rcases List.mem_append.1 hq with hq | hq
      · have a := h.qr hq
        have b := h.qv q hq
        rw [hc] at a b
        exact ⟨a.1, a.2, by rw [b.1, ← b.2]⟩
      · have a := h.mr hq
        have b := h.mv q hq
        rw [hc] at a b
        exact ⟨a.2.2.1, a.2.2.2, b⟩
    have e1 : decide (c < 0) = false := decide_eq_false (by omega)
    have e2 : decide (44 ≤ c) = false := decide_eq_false (by omega)
    have e3 : decide (0 ≤ c) = true := decide_eq_true h2.1
    have e4 : decide (c < 44) = true := decide_eq_true h2.2.1
    simp only [jp_eq, F56_is h.ni.sl (by rw [cl_len]; exact hl) hN, bindS_some, h1, e1, e2, e3, e4, br_f, Bool.and_self, chk_t, h2.2.2, Bool.not_true]
    cases q.2.2.2 with
    | true => exact ⟨_, rfl, rfl⟩
    | false => exact ⟨_, rfl, rfl⟩

end Go.Proofs.Ytipdancojcdioaa
