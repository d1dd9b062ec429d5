/- One operation of the shallow reading is the evaluator's: calls by what is said of them. No condition. -/
import Derived.Test.YtipdancojcdioaaShJ
namespace Go.Sh
set_option linter.unusedVariables false
set_option linter.unusedSimpArgs false
open Go Go.Ev

section
variable {ρ : Type} {P : Fr} {r : RM} {s : St} {e : Env} {H : Heap}

/-- an operation, if the evaluator has fuel enough -/
def OpEv (cf : Nat → CallF) (P : Fr) (r : RM) (s : St) (e : Env) (H : Heap) (op : AOp) (κ : SV → St → Option ρ) (y : ρ) : Prop :=
  ∃ n0 u H' v s' r', (∀ n, n0 ≤ n → op.run (cf n) e H = some (u, H')) ∧ Rel P r' s' e H' ∧ VR r' v u ∧ Ext r r' ∧ Kp s s' ∧ s'.env = s.env ∧ κ v s' = some y

theorem OpOk.ev {cf : Nat → CallF} {op : AOp} {κ : SV → St → Option ρ} {y : ρ} (h : OpOk P r s e H op κ y) : OpEv cf P r s e H op κ y := by
  obtain ⟨u, H', v, s', r', h1, h2⟩ := h
  exact ⟨0, u, H', v, s', r', fun n _ => h1 (cf n), h2⟩

/-- what is said of calls -/
def CallSnd (cf : Nat → CallF) (callS : CallS ρ) : Prop := ∀ (P : Fr) (r : RM) (s : St) (e : Env) (H : Heap) (f : Nat) (svs : List SV) (us : List AV) (κ : SV → St → Option ρ) (y : ρ),
  Rel P r s e H → VRs r svs us → callS f svs s κ = some y →
  ∃ n0 u H' v s' r', (∀ n, n0 ≤ n → cf n f us H = some (u, H')) ∧ Rel P r' s' e H' ∧ VR r' v u ∧ Ext r r' ∧ Kp s s' ∧ s'.env = s.env ∧ κ v s' = some y

theorem toNat_lt {n : Int} {m : Nat} (h : (decide (0 ≤ n) && decide (n < (m : Int))) = true) : 0 ≤ n ∧ n.toNat < m := by
  simp only [Bool.and_eq_true, decide_eq_true_eq] at h
  omega

theorem offP_append (p : List Ix) (ix : Ix) : offP (p ++ [ix]) = offP p + (ix.i * ix.s + ix.off) := by
  induction p with
  | nil => simp [offP]
  | cons x p ih => simp only [List.cons_append, offP, ih]; omega

theorem offP_addOff : ∀ (p : List Ix) (n : Nat), p ≠ [] → offP (addOff p n) = offP p + n
  | [], n, h => absurd rfl h
  | [ix], n, _ => by simp only [addOff, offP]; omega
  | ix :: iy :: p, n, _ => by
    have := offP_addOff (iy :: p) n (by simp)
    simp only [addOff, offP] at this ⊢
    omega

theorem okIx_addOff {w : W} : ∀ {p : List Ix} {n : Nat}, okIx w p → okIx w (addOff p n)
  | [], n, h => h
  | [ix], n, h => ⟨fun x hx => by
      simp only [addOff, List.mem_singleton] at hx
      subst hx
      exact h.1 ix (by simp), fun x hx => by
      simp only [addOff, List.mem_singleton] at hx
      subst hx
      exact h.2 ix (by simp)⟩
  | ix :: iy :: p, n, h => by
    have h2 : okIx w (iy :: p) := ⟨fun x hx => h.1 x (List.mem_cons_of_mem _ hx), fun x hx => h.2 x (List.mem_cons_of_mem _ hx)⟩
    have h3 := okIx_addOff (n := n) h2
    refine ⟨fun x hx => ?_, fun x hx => ?_⟩
    · simp only [addOff, List.mem_cons] at hx
      rcases hx with rfl | hx
      · exact h.1 _ (by simp)
      · exact h3.1 x (by simpa [addOff] using hx)
    · simp only [addOff, List.mem_cons] at hx
      rcases hx with rfl | hx
      · exact h.2 _ (by simp)
      · exact h3.2 x (by simpa [addOff] using hx)

theorem faddr_sound {off : Nat} {x v : SV} {a : AV} (h : faddrS off x = some v) (ha : VR r x a) : ∃ b o, a = .ptr b o ∧ VR r v (.ptr b (o + off)) := by
  unfold faddrS at h
  split at h
  · obtain rfl := Option.some.inj h
    obtain ⟨w, h1, h2, rfl, h3⟩ := ha
    exact ⟨_, _, rfl, w, h1, h2, by simp only [offP]; congr 1; omega, h3⟩
  · rename_i b o p hp
    obtain rfl := Option.some.inj h
    obtain ⟨w, h1, h2, rfl, h3⟩ := ha
    have hne : p ≠ [] := by
      rintro rfl
      exact hp rfl
    exact ⟨_, _, rfl, w, h1, h2, by rw [offP_addOff _ _ hne]; congr 1; omega, okIx_addOff h3⟩
  · simp at h

theorem pickS_some {f : Nat → Option SV} {n : Nat} {κ : SV → Option ρ} {y : ρ} : ∀ {m j : Nat}, pickS f n κ m j = some y → j ≤ n → n < j + m → ∃ v, f n = some v ∧ κ v = some y
  | 0, j, h, h1, h2 => by omega
  | m + 1, j, h, h1, h2 => by
    simp only [pickS] at h
    cases hm : m.beq 0 with
    | true =>
      rw [hm, cond_true] at h
      have := Nat.eq_of_beq_eq_true hm
      obtain rfl : n = j := by omega
      exact orNone_some h
    | false =>
      rw [hm, cond_false] at h
      cases hj : n.beq j with
      | true =>
        obtain rfl := Nat.eq_of_beq_eq_true hj
        rw [hj] at h
        exact orNone_some h
      | false =>
        rw [hj] at h
        have hne : n ≠ j := fun he => by subst he; rw [Nat.beq_refl] at hj; simp at hj
        exact pickS_some (m := m) (j := j + 1) h (by omega) (by omega)

theorem op_sound {cf : Nat → CallF} {callS : CallS ρ} (hcs : CallSnd cf callS) (h : Rel P r s e H) {hint : Option Hn} {op : AOp} {κ : SV → St → Option ρ} {y : ρ} (hk : opS callS hint s op κ = some y) : OpEv cf P r s e H op κ y := by
  unfold opS at hk
  split at hk
  -- mv
  · obtain ⟨v, hv, hk1⟩ := orNone_some hk
    obtain ⟨u, h1, h2⟩ := opd_sound h hv
    exact (OpOk.pure h (fun _ => by simp only [AOp.run, h1, pureR]) h2 hk1).ev
  -- same
  · obtain ⟨v, hv, hk1⟩ := orNone_some hk
    obtain ⟨u, h1, h2⟩ := opd_sound h hv
    split at hk1
    · have h3 := h2
      simp only [VR, tyAV] at h2
      subst h2
      exact (OpOk.pure h (fun _ => by simp only [AOp.run, h1, on1]) h3 hk1).ev
    · simp at hk1
  -- pick
  · obtain ⟨c, hc, hk1⟩ := orNone_some hk
    obtain ⟨uc, h1, h2⟩ := opd_sound h hc
    split at hk1
    · rename_i t
      simp only [VR, tyAV] at h2
      subst h2
      obtain ⟨xa, hxa, hk2⟩ := orNone_some hk1
      obtain ⟨xb, hxb, hk3⟩ := orNone_some hk2
      obtain ⟨ua, h3, h4⟩ := opd_sound h hxa
      obtain ⟨ub, h5, h6⟩ := opd_sound h hxb
      split at hk3
      · obtain ⟨z, hz, hk4⟩ := orNone_some hk3
        obtain ⟨rfl, rfl⟩ := castT_sound hz
        refine (OpOk.pure h (u := bif t then ua else ub) (fun _ => ?_) ?_ hk4).ev
        · simp only [AOp.run, h1, on1, h3, h5]
          cases t <;> rfl
        · cases t
          · exact h6
          · exact h4
      · unfold br at hk3
        cases t with
        | true => exact (OpOk.pure h (fun _ => by simp only [AOp.run, h1, on1, h3, h5, cond_true, pureR]) h4 hk3).ev
        | false => exact (OpOk.pure h (fun _ => by simp only [AOp.run, h1, on1, h3, h5, cond_false, pureR]) h6 hk3).ev
    · simp at hk1
  -- un
  · obtain ⟨v, hv, hk1⟩ := orNone_some hk
    obtain ⟨w, hw, hk2⟩ := orNone_some hk1
    obtain ⟨u, h1, h2⟩ := opd_sound h hv
    obtain ⟨u2, h3, h4⟩ := unS_sound hw h2
    exact (OpOk.pure h (fun _ => by simp only [AOp.run, h1, on1, h3, pureR]) h4 hk2).ev
  -- bin
  · obtain ⟨va, hva, hk1⟩ := orNone_some hk
    obtain ⟨vb, hvb, hk2⟩ := orNone_some hk1
    obtain ⟨c, hc, hk3⟩ := orNone_some hk2
    obtain ⟨hg, hk4⟩ := chk_some hk3
    obtain ⟨ua, h1, h2⟩ := opd_sound h hva
    obtain ⟨ub, h3, h4⟩ := opd_sound h hvb
    obtain ⟨u, h5, h6⟩ := binS_sound hc hg h2 h4
    exact (OpOk.pure h (fun _ => by simp only [AOp.run, opt2, h1, h3, h5, pureR]) h6 hk4).ev
  -- eqB
  · rename_i neg _ _
    obtain ⟨va, hva, hk1⟩ := orNone_some hk
    obtain ⟨vb, hvb, hk2⟩ := orNone_some hk1
    obtain ⟨ua, h1, h2⟩ := opd_sound h hva
    obtain ⟨ub, h3, h4⟩ := opd_sound h hvb
    split at hk2
    · rename_i p q
      simp only [VR, tyAV] at h2 h4
      subst h2 h4
      refine (OpOk.pure h (u := .bool (((p : Bool) == q) != neg)) (fun _ => ?_) ?_ hk2).ev
      · simp only [AOp.run, opt2, h1, h3, eqBM, AV.plain, AV.marked, Bool.or_self, AV.mark, cond_false, pureR]
      · simp only [VR, tyAV]; rw [neg_eq]
    · simp at hk2
  -- eqN
  · obtain ⟨va, hva, hk1⟩ := orNone_some hk
    obtain ⟨vb, hvb, hk2⟩ := orNone_some hk1
    obtain ⟨w, hw, hk3⟩ := orNone_some hk2
    obtain ⟨ua, h1, h2⟩ := opd_sound h hva
    obtain ⟨ub, h3, h4⟩ := opd_sound h hvb
    obtain ⟨u, h5, h6⟩ := eqNilS_sound (H := H) hw h2 h4
    exact (OpOk.pure h (fun _ => by simp only [AOp.run, opt2, h1, h3, h5]) h6 hk3).ev
  -- eqA
  · obtain ⟨va, hva, hk1⟩ := orNone_some hk
    obtain ⟨vb, hvb, hk2⟩ := orNone_some hk1
    obtain ⟨w, hw, hk3⟩ := orNone_some hk2
    obtain ⟨ua, h1, h2⟩ := opd_sound h hva
    obtain ⟨ub, h3, h4⟩ := opd_sound h hvb
    obtain ⟨u, h5, h6⟩ := eqAS_sound hw h2 h4
    exact (OpOk.pure h (fun _ => by simp only [AOp.run, opt2, h1, h3, h5, pureR]) h6 hk3).ev
  -- convI
  · obtain ⟨v, hv, hk1⟩ := orNone_some hk
    obtain ⟨u, h1, h2⟩ := opd_sound h hv
    split at hk1
    · rename_i k0 n
      simp only [VR, tyAV] at h2
      subst h2
      exact (OpOk.pure h (fun _ => by simp only [AOp.run, h1, on1, convM, AV.plain, AV.marked, cond_false, pureR]; rfl) (by simp only [VR, tyAV]) hk1).ev
    · simp at hk1
  -- nilck
  · obtain ⟨v, hv, hk1⟩ := orNone_some hk
    obtain ⟨u, h1, h2⟩ := opd_sound h hv
    split at hk1
    · have h3 := h2
      obtain ⟨w, _, _, rfl, _⟩ := h2
      exact (OpOk.pure h (fun _ => by simp only [AOp.run, h1, on1]) h3 hk1).ev
    · have h3 := h2
      obtain ⟨_, _, rfl, _⟩ := h2
      exact (OpOk.pure h (fun _ => by simp only [AOp.run, h1, on1]) h3 hk1).ev
    · simp at hk1
  -- faddr
  · obtain ⟨v, hv, hk1⟩ := orNone_some hk
    obtain ⟨w, hw, hk2⟩ := orNone_some hk1
    obtain ⟨u, h1, h2⟩ := opd_sound h hv
    obtain ⟨b, o, rfl, h4⟩ := faddr_sound hw h2
    exact (OpOk.pure h (fun _ => by simp only [AOp.run, h1, on1]) h4 hk2).ev
  -- iaddrA
  · obtain ⟨v, hv, hk1⟩ := orNone_some hk
    obtain ⟨i, hi, hk2⟩ := orNone_some hk1
    obtain ⟨u, h1, h2⟩ := opd_sound h hv
    obtain ⟨ui, h3, h4⟩ := opd_sound h hi
    split at hk2
    · rename_i b o p k n
      obtain ⟨hg, hk3⟩ := chk_some hk2
      simp only [VR, tyAV] at h4
      subst h4
      obtain ⟨w, g1, g2, rfl, g3⟩ := h2
      have hlt := toNat_lt hg
      cases hf : (flatH hint && p.isEmpty) with
      | true =>
        rw [hf, cond_true] at hk3
        refine (OpOk.pure h (fun _ => by simp only [AOp.run, opt2, h1, h3, hg, cond_true]; rfl) ?_ hk3).ev
        simp only [Bool.and_eq_true, List.isEmpty_iff] at hf
        obtain ⟨_, rfl⟩ := hf
        refine ⟨w, g1, g2, ?_, fun x hx => by simp at hx, fun x hx => by simp at hx⟩
        simp only [offP]; congr 1; omega
      | false =>
      rw [hf, cond_false] at hk3
      refine (OpOk.pure h (fun _ => by simp only [AOp.run, opt2, h1, h3, hg, cond_true]; rfl) ?_ hk3).ev
      refine ⟨w, g1, g2, ?_, fun x hx => ?_, fun x hx => ?_⟩
      · rw [offP_append]; congr 1; simp only; omega
      · rcases List.mem_append.1 hx with hx | hx
        · exact g3.1 x hx
        · simp only [List.mem_singleton] at hx; subst hx; exact fun _ => hlt.2
      · rcases List.mem_append.1 hx with hx | hx
        · exact g3.2 x hx
        · simp only [List.mem_singleton] at hx; subst hx; intro h; simp at h
    · simp at hk2
  -- iaddrS
  · obtain ⟨v, hv, hk1⟩ := orNone_some hk
    obtain ⟨i, hi, hk2⟩ := orNone_some hk1
    obtain ⟨u, h1, h2⟩ := opd_sound h hv
    obtain ⟨ui, h3, h4⟩ := opd_sound h hi
    split at hk2
    · rename_i b ex k n
      obtain ⟨l, hl, hk3⟩ := orNone_some hk2
      obtain ⟨hg, hk4⟩ := chk_some hk3
      simp only [VR, tyAV] at h4
      subst h4
      have hlt := toNat_lt hg
      obtain ⟨_, hlen⟩ := lenS_sound h h2 hl
      obtain ⟨w, g1, ⟨g2, rfl, g3⟩ | ⟨g2, c, g3, rfl⟩⟩ := h2
      · rcases hlen with ⟨_, rfl⟩ | ⟨_, _, _, _, he⟩
        · omega
        · simp at he
      · rcases hlen with ⟨he, _⟩ | ⟨_, _, _, _, he⟩
        · simp at he
        · simp only [AV.sl.injEq] at he
          obtain ⟨_, _, he, _⟩ := he
          rw [← he] at hg hlt
          refine (OpOk.pure h (fun _ => by simp only [AOp.run, opt2, h1, h3, hg, cond_true]; rfl) ?_ hk4).ev
          refine ⟨w, g1, g2, by simp only [offP]; congr 1; omega, fun x hx hel => ?_, fun x hx _ => ?_⟩
          · simp only [List.mem_singleton] at hx; subst hx; simp at hel
          · simp only [List.mem_singleton] at hx; subst hx; exact hlt.2
    · rename_i b o l c k n
      split at hk2
      · rename_i own t xs hblk
        obtain ⟨hsz, hk3⟩ := bif_some' hk2
        obtain ⟨hg, hk4⟩ := chk_some hk3
        simp only [VR, tyAV] at h4
        subst h4
        have hlt := toNat_lt hg
        obtain ⟨w, g1, hle, hcase⟩ := h2
        obtain ⟨q1, q2, q3, q4⟩ := many_block h hblk g1
        have hsz := Nat.eq_of_beq_eq_true hsz
        rcases hcase with ⟨g2, rfl⟩ | ⟨g2, c', g3, rfl⟩
        · exfalso
          rcases q4 with ⟨_, rfl⟩ | ⟨hf, _⟩
          · simp at q1; omega
          · rw [g2] at hf; simp at hf
        · refine (OpOk.pure h (fun _ => by simp only [AOp.run, opt2, h1, h3, hg, cond_true]; rfl) ?_ hk4).ev
          refine ⟨w, g1, g2, ?_, fun x hx hel => ?_, fun x hx _ => ?_⟩
          · simp only [offP]
            congr 1
            rw [q2, hsz, Nat.add_mul]
            omega
          · simp only [List.mem_singleton] at hx; subst hx; simp at hel
          · simp only [List.mem_singleton] at hx; subst hx; simp only; omega
      · simp at hk2
    · simp at hk2
  -- field
  · obtain ⟨v, hv, hk1⟩ := orNone_some hk
    obtain ⟨u, h1, h2⟩ := opd_sound h hv
    split at hk1
    · obtain ⟨hg, hk2⟩ := bif_some' hk1
      obtain ⟨w, hw, hk3⟩ := orNone_some hk2
      simp only [VR] at h2
      subst h2
      rw [tyAV_agg _ _ hg] at h1
      obtain ⟨v2, h3, h4⟩ := part_of (Got.ofPart (r := r) (getT_sound _ _ _ _ _ _ _ (fun _ h => by simp at h) hw))
      simp only [offP, Nat.add_zero] at h3
      exact (OpOk.pure h (fun _ => by simp only [AOp.run, h1, on1, h3, pureR]) h4 hk3).ev
    · obtain ⟨w, hw, hk3⟩ := orNone_some hk1
      have h5 := h2
      obtain ⟨cs, rfl, _⟩ := h2
      obtain ⟨v2, h3, h4⟩ := part_of (getV_sound (fun _ h => by simp at h) hw h5)
      simp only [offP, Nat.add_zero, AV.cells] at h3
      exact (OpOk.pure h (fun _ => by simp only [AOp.run, h1, on1, h3, pureR]) h4 hk3).ev
    · simp at hk1
  -- index
  · obtain ⟨v, hv, hk1⟩ := orNone_some hk
    obtain ⟨i, hi, hk2⟩ := orNone_some hk1
    obtain ⟨u, h1, h2⟩ := opd_sound h hv
    obtain ⟨ui, h3, h4⟩ := opd_sound h hi
    split at hk2
    · obtain ⟨hg, hk3⟩ := bif_some' hk2
      obtain ⟨hc, hk4⟩ := chk_some hk3
      obtain ⟨w, hw, hk5⟩ := orNone_some hk4
      simp only [VR, tyAV] at h4
      subst h4
      simp only [VR] at h2
      subst h2
      rw [tyAV_agg _ _ hg] at h1
      have hlt := toNat_lt hc
      obtain ⟨v2, h5, h6⟩ := part_of (Got.ofPart (r := r) (getT_sound _ _ _ _ _ _ _ (fun x hx _ => by simp only [List.mem_singleton] at hx; subst hx; exact hlt.2) hw))
      simp only [offP, Nat.zero_add, Nat.add_zero] at h5
      exact (OpOk.pure h (fun _ => by simp only [AOp.run, opt2, h1, h3, hc, cond_true, h5, pureR]) h6 hk5).ev
    · obtain ⟨hc, hk3⟩ := chk_some hk2
      simp only [VR, tyAV] at h4
      subst h4
      have hlt := toNat_lt hc
      obtain ⟨w, hw, hk4⟩ := pickS_some hk3 (Nat.zero_le _) (by omega)
      have h5 := h2
      obtain ⟨cs, rfl, _⟩ := h2
      obtain ⟨v2, h6, h7⟩ := part_of (getV_sound (fun _ h => by simp at h) hw h5)
      simp only [offP, Nat.add_zero, AV.cells] at h6
      exact (OpOk.pure h (fun _ => by simp only [AOp.run, opt2, h1, h3, hc, cond_true, h6, pureR]) h7 hk4).ev
    · simp at hk2
  -- indexStr
  · obtain ⟨v, hv, hk1⟩ := orNone_some hk
    obtain ⟨i, hi, hk2⟩ := orNone_some hk1
    obtain ⟨u, h1, h2⟩ := opd_sound h hv
    obtain ⟨ui, h3, h4⟩ := opd_sound h hi
    split at hk2
    · rename_i t k n
      obtain ⟨hc, hk3⟩ := chk_some hk2
      simp only [VR, tyAV] at h2 h4
      subst h2 h4
      have hlt := toNat_lt hc
      refine (OpOk.pure h (u := .int .u8 (((t : List UInt8).getD (n : Int).toNat 0).toNat : Int)) (fun _ => ?_) (by simp only [VR, tyAV]) hk3).ev
      simp only [AOp.run, opt2, h1, h3]
      rw [decide_eq_true hlt.1, cond_true, List.getElem?_eq_getElem hlt.2, List.getD_eq_getElem?_getD, List.getElem?_eq_getElem hlt.2, Option.getD_some]
    · simp at hk2
  -- load
  · obtain ⟨v, hv, hk1⟩ := orNone_some hk
    obtain ⟨u, h1, h2⟩ := opd_sound h hv
    rename_i n agg x
    obtain ⟨hb, off, rfl, cs, h3, u2, x2, h4, h5, h6⟩ := loadS_sound h h2 hk1
    refine (OpOk.pure h (u := u2) (fun _ => ?_) h4 h5).ev
    simp only [AOp.run, h1, on1, h3]
    cases agg with
    | true => simp only [cond_true] at h6 ⊢; rw [h6]
    | false => simp only [cond_false] at h6 ⊢; rw [h6]
  -- store
  · rename_i n x v
    obtain ⟨va, hva, hk1⟩ := orNone_some hk
    obtain ⟨vb, hvb, hk2⟩ := orNone_some hk1
    obtain ⟨ua, h1, h2⟩ := opd_sound h hva
    obtain ⟨ub, h3, h4⟩ := opd_sound h hvb
    obtain ⟨hb, off, rfl, h5, H', h6, s', h7, h8, h9, h10⟩ := storeS_sound h h2 h4 hk2
    refine ⟨0, .tup [], H', .tup [], s', r, fun n _ => ?_, h7, ⟨[], rfl, rfl⟩, Ext.refl r, h8, h9, h10⟩
    simp only [AOp.run, opt2, h1, h3, decide_eq_true h5, cond_true, h6]
  -- alloc
  · rename_i zero
    obtain ⟨zs, hzs, hk1⟩ := orNone_some hk
    obtain ⟨v, hv, hk2⟩ := orNone_some hk1
    obtain ⟨h1, h2⟩ := push_one h (typed_sound hv (consts_sound r hzs))
    exact ⟨0, _, _, _, _, _, fun n _ => rfl, h1, h2, h.upd_ext _, Kp.push s _, rfl, hk2⟩
  -- box
  · obtain ⟨v, hv, hk1⟩ := orNone_some hk
    obtain ⟨u, h1, h2⟩ := opd_sound h hv
    obtain ⟨ho, hk2⟩ := bif_some' hk1
    obtain ⟨h3, h4⟩ := push_one h (v := .segs v.flat) (cs := u.cells) ⟨_, rfl, h2.flat⟩
    refine ⟨0, _, _, _, _, _, fun n _ => ?_, h3, h4, h.upd_ext _, Kp.push s _, rfl, hk2⟩
    simp only [AOp.run, h1, on1, oneS_sound h2 ho, cond_true]
  -- build
  · rename_i zero parts
    obtain ⟨ps, hps, hk1⟩ := orNone_some hk
    obtain ⟨hf, hk2⟩ := bif_some' hk1
    obtain ⟨zs, hzs, hk3⟩ := orNone_some hk2
    obtain ⟨l, hl, hk4⟩ := orNone_some hk3
    obtain ⟨v, hv, hk5⟩ := orNone_some hk4
    obtain ⟨qs, h1, h2⟩ := parts_sound h hps
    obtain ⟨cs, h3, h4, _⟩ := fill_sound h2 hf hl (consts_sound r hzs)
    have h5 := typed_sound hv h4
    have hrun : ∀ callF, AOp.run callF e H (.build zero parts) = some (.agg cs, H) := fun _ => by simp only [AOp.run, h1, h3]
    split at hk5
    · obtain ⟨_, hk6⟩ := bif_some' hk5
      exact (OpOk.pure h hrun h5 hk6).ev
    · exact (OpOk.pure h hrun h5 hk5).ev
  -- buildSl
  · obtain ⟨t, ht, hk0⟩ := orNone_some hk
    obtain ⟨ps, hps, hk1⟩ := orNone_some hk0
    obtain ⟨hf, hk2⟩ := bif_some' hk1
    obtain ⟨zs, hzs, hk3⟩ := orNone_some hk2
    obtain ⟨l, hl, hk4⟩ := orNone_some hk3
    simp only [Bool.and_eq_true, Nat.beq_eq, blt_iff] at hf
    obtain ⟨⟨hfit, hsz⟩, hpos⟩ := hf
    obtain ⟨qs, h1, h2⟩ := parts_sound h hps
    obtain ⟨cs, h3, h4, _⟩ := fill_sound h2 hfit hl (consts_sound r hzs)
    split at hk4
    · rename_i xs hxs
      obtain ⟨cs', q1, q2, q3⟩ := takeN_sound (takeT_sound t) _ _ _ _ _ hxs h4
      simp only [CRs] at q2
      subst q2
      rw [List.append_nil] at q1
      subst q1
      obtain ⟨h5, h6⟩ := push_many h (xs := xs) (by omega)
      refine ⟨0, _, _, _, _, _, fun n _ => ?_, h5, h6 .yes, h.upd_ext _, Kp.push s _, rfl, hk4⟩
      simp only [AOp.run, h1, h3, flatMap_one, cond_true, q3, hsz]
    · simp at hk4
  -- mkSl
  · obtain ⟨t, ht, hk0⟩ := orNone_some hk
    obtain ⟨va, hva, hk1⟩ := orNone_some hk0
    obtain ⟨vb, hvb, hk2⟩ := orNone_some hk1
    obtain ⟨ua, h1, h2⟩ := opd_sound h hva
    obtain ⟨ub, h3, h4⟩ := opd_sound h hvb
    split at hk2
    · rename_i k1 l k2 c
      obtain ⟨hf, hk3⟩ := bif_some' hk2
      obtain ⟨zs, hzs, hk4⟩ := orNone_some hk3
      obtain ⟨z, hz, hk5⟩ := orNone_some hk4
      obtain ⟨hc, hk6⟩ := chk_some hk5
      simp only [Bool.and_eq_true, Nat.beq_eq, blt_iff] at hf
      obtain ⟨hsz, hpos⟩ := hf
      simp only [VR, tyAV] at h2 h4
      subst h2 h4
      simp only [Bool.and_eq_true, decide_eq_true_eq] at hc
      obtain ⟨⟨⟨⟨c1, c2⟩, c3⟩, c4⟩, c5⟩ := hc
      unfold lim at c3 c4
      have hzz := asT_segs hz (consts_sound r hzs)
      obtain ⟨h5, h6⟩ := push_many h (xs := List.replicate (l : Int).toNat z) (by omega)
      refine ⟨0, _, _, _, _, _, fun n _ => ?_, h5, h6 .yes, h.upd_ext _, Kp.push s _, rfl, hk6⟩
      simp only [AOp.run, opt2, h1, h3, natOf, decide_eq_true c1, decide_eq_true c2, cond_true, decide_eq_true c3, decide_eq_true c4, c5, Nat.beq_refl, Bool.and_self, Nat.le_refl, decide_true, hzz, rep_replicate, hsz, List.length_replicate]
    · simp at hk2
  -- sliceS
  · obtain ⟨v, hv, hk1⟩ := orNone_some hk
    obtain ⟨u, h1, h2⟩ := opd_sound h hv
    obtain ⟨u2, v2, h3, h4, h5⟩ := sliceS_sound h h1 h2 hk1
    exact (OpOk.pure h h3 h4 h5).ev
  -- sliceStr
  · obtain ⟨v, hv, hk1⟩ := orNone_some hk
    obtain ⟨u, h1, h2⟩ := opd_sound h hv
    obtain ⟨u2, v2, h3, h4, h5⟩ := sliceStrS_sound h h1 h2 hk1
    exact (OpOk.pure h h3 h4 h5).ev
  · simp at hk
  -- extract
  · obtain ⟨v, hv, hk1⟩ := orNone_some hk
    obtain ⟨u, h1, h2⟩ := opd_sound h hv
    split at hk1
    · obtain ⟨w, hw, hk2⟩ := orNone_some hk1
      obtain ⟨vs, rfl, h3⟩ := h2
      obtain ⟨u2, h4, h5⟩ := VRs.get h3 _ _ hw
      exact (OpOk.pure h (fun _ => by simp only [AOp.run, h1, on1, h4, pureR]) h5 hk2).ev
    · simp at hk1
  -- call
  · obtain ⟨vs, hvs, hk1⟩ := orNone_some hk
    obtain ⟨us, h1, h2⟩ := args_sound h hvs
    obtain ⟨n0, u, H', v, s', r', h3, h4⟩ := hcs P r s e H _ vs us κ y h h2 hk1
    exact ⟨n0, u, H', v, s', r', fun n hn => by simp only [AOp.run, h1]; exact h3 n hn, h4⟩
  -- callv
  · obtain ⟨v, hv, hk1⟩ := orNone_some hk
    obtain ⟨u, h1, h2⟩ := opd_sound h hv
    split at hk1
    · obtain ⟨vs, hvs, hk2⟩ := orNone_some hk1
      obtain ⟨us, h3, h4⟩ := args_sound h hvs
      obtain ⟨as, cs, rfl, h5, h6⟩ := h2
      obtain ⟨n0, u, H', v, s', r', h7, h8⟩ := hcs P r s e H _ _ _ κ y h (VRs.append (VRs.append h5 h4) h6) hk2
      exact ⟨n0, u, H', v, s', r', fun n hn => by simp only [AOp.run, h1, on1, h3]; exact h7 n hn, h8⟩
    · simp at hk1
  -- len of a text
  · obtain ⟨v, hv, hk1⟩ := orNone_some hk
    obtain ⟨u, h1, h2⟩ := opd_sound h hv
    split at hk1
    · rename_i t
      simp only [VR, tyAV] at h2
      subst h2
      exact (OpOk.pure h (u := .int .i64 ((t : List UInt8).length : Int)) (fun _ => by simp only [AOp.run, h1, on1]) (by simp only [VR, tyAV]) hk1).ev
    · simp at hk1
  -- len of a slice
  · obtain ⟨v, hv, hk1⟩ := orNone_some hk
    obtain ⟨n, hn, hk2⟩ := orNone_some hk1
    obtain ⟨u, h1, h2⟩ := opd_sound h hv
    obtain ⟨_, ⟨rfl, rfl⟩ | ⟨b, o, c, z, rfl⟩⟩ := lenS_sound h h2 hn
    · exact (OpOk.pure h (u := .int .i64 0) (fun _ => by simp only [AOp.run, h1, on1]) (by simp only [VR, tyAV]; rfl) hk2).ev
    · exact (OpOk.pure h (u := .int .i64 (n : Int)) (fun _ => by simp only [AOp.run, h1, on1]) (by simp only [VR, tyAV]) hk2).ev
  -- lenC
  · exact (OpOk.pure h (fun _ => rfl) (by simp only [VR, tyAV]) hk).ev
  -- append
  · obtain ⟨va, hva, hk1⟩ := orNone_some hk
    obtain ⟨vb, hvb, hk2⟩ := orNone_some hk1
    obtain ⟨ua, h1, h2⟩ := opd_sound h hva
    obtain ⟨ub, h3, h4⟩ := opd_sound h hvb
    obtain ⟨new, n, h5, h6, h7, u, H', v, s', r', h8, h9⟩ := append_sound h h2 h4 hk2
    exact ⟨0, u, H', v, s', r', fun m _ => by simp only [AOp.run, opt2, h1, h3, h5, h6, h7, cond_true, h8], h9⟩
  -- copy
  · obtain ⟨va, hva, hk1⟩ := orNone_some hk
    obtain ⟨vb, hvb, hk2⟩ := orNone_some hk1
    obtain ⟨ua, h1, h2⟩ := opd_sound h hva
    obtain ⟨ub, h3, h4⟩ := opd_sound h hvb
    exact (copyS_sound h h1 h3 h2 h4 hk2).ev
  -- minmax
  · obtain ⟨vs, hvs, hk1⟩ := orNone_some hk
    obtain ⟨us, h1, h2⟩ := args_sound h hvs
    split at hk1
    · obtain ⟨w, hw, hk2⟩ := orNone_some hk1
      obtain ⟨u, us', rfl, h3, h4⟩ := h2
      obtain ⟨u2, h5, h6⟩ := minmax_sound hw h3 h4
      exact (OpOk.pure h (fun _ => by simp only [AOp.run, h1, h5, pureR]) h6 hk2).ev
    · simp at hk1
  -- mkfn
  · obtain ⟨va, hva, hk1⟩ := orNone_some hk
    obtain ⟨vb, hvb, hk2⟩ := orNone_some hk1
    obtain ⟨ua, h1, h2⟩ := args_sound h hva
    obtain ⟨ub, h3, h4⟩ := args_sound h hvb
    rename_i f first captured
    have g : VR r (.fn f va vb) (.fn f ua ub) := ⟨_, _, rfl, h2, h4⟩
    exact (OpOk.pure h (fun _ => by simp only [AOp.run, h1, h3]) g hk2).ev
  -- toStr
  · obtain ⟨v, hv, hk1⟩ := orNone_some hk
    obtain ⟨u, h1, h2⟩ := opd_sound h hv
    split at hk1
    · simp at hk1
    · rename_i hns
      obtain ⟨c, hc, hk2⟩ := orNone_some hk1
      obtain ⟨l, hl, hk3⟩ := orNone_some hk2
      obtain ⟨h3, h4⟩ := sliceC_sound h h2 hc
      obtain ⟨ht, hflat, hlen⟩ := castL_eq hl
      rw [← hflat, ht] at h3
      refine (OpOk.pure h (u := .str (l.map fun n => UInt8.ofNat (n : Int).toNat)) (fun _ => ?_) (by simp only [VR, tyAV]) hk3).ev
      have hb : strOfBytes (l.flatMap (Ty.int .u8).cells) = some (l.map fun n => UInt8.ofNat (n : Int).toNat) := by
        clear hl hk3 hflat hlen h3
        induction l with
        | nil => rfl
        | cons n l ih =>
          rw [List.flatMap_cons]
          show strOfBytes (.int .u8 n :: l.flatMap (Ty.int .u8).cells) = _
          simp only [strOfBytes]
          rw [ih]
          rfl
      have hne : ∀ q, u ≠ .str q := by
        rintro q rfl
        cases v with
        | ty t x =>
          cases t <;> simp only [VR, tyAV] at h2 <;> first | (simp at h2; done) | skip
          exact hns _ rfl
        | sla b ex => obtain ⟨w, _, ⟨_, h, _⟩ | ⟨_, _, _, h⟩⟩ := h2 <;> simp at h
        | slw b o l c => obtain ⟨w, _, _, ⟨_, h⟩ | ⟨_, _, _, h⟩⟩ := h2 <;> simp at h
        | _ => simp [sliceC] at hc
      simp only [AOp.run, h1, on1]
      cases u <;> first | exact absurd rfl (hne _) | (simp only [show (1 : Nat) = (Ty.int .u8).size from rfl]; rw [h3]; simp only [hb])
  -- toBytes
  · obtain ⟨v, hv, hk1⟩ := orNone_some hk
    obtain ⟨u, h1, h2⟩ := opd_sound h hv
    split at hk1
    · rename_i t
      obtain ⟨hc, hk2⟩ := chk_some hk1
      simp only [VR, tyAV] at h2
      subst h2
      obtain ⟨h5, h6⟩ := push_many h (t := .int .u8) (xs := (t : List UInt8).map fun c => (c.toNat : Int)) (by simp [Ty.size])
      refine ⟨0, _, _, _, _, _, fun n _ => ?_, h5, h6 .yes, h.upd_ext _, Kp.push s _, rfl, hk2⟩
      have hb : bytesOfStr t = ((t : List UInt8).map fun c => (c.toNat : Int)).flatMap (Ty.int .u8).cells := by
        clear hk1 hk2 hc h1 h5 h6 hv
        simp only [bytesOfStr, List.flatMap_map]
        induction (t : List UInt8) with
        | nil => rfl
        | cons a x ih => rw [List.flatMap_cons, ← ih]; rfl
      simp only [AOp.run, h1, on1, bytes_le hc, cond_true, hb, List.length_map]
      rfl
    · simp at hk1
end
end Go.Sh
