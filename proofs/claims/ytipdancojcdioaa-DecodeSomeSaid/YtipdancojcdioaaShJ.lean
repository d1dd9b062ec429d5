/- Operations of the shallow reading are the evaluator's: all but calls. No condition. -/
import Derived.Test.YtipdancojcdioaaShI
namespace Go.Sh
set_option linter.unusedVariables false
set_option linter.unusedSimpArgs false
open Go Go.Ev

section
variable {ρ : Type} {P : Fr} {r : RM} {s : St} {e : Env} {H : Heap}

theorem binI_sound {op : BinOp} {k k' : IntKind} {a b : Int} {c : Bool × SV} (h : binI op k a k' b = some c) (hc : c.1 = true) (r : RM) : ∃ u, binopM op (.int k a) (.int k' b) = some u ∧ VR r c.2 u := by
  have key : ∀ u, binop op (.int k a) (.int k' b) = some u → VR r c.2 u → ∃ u, binopM op (.int k a) (.int k' b) = some u ∧ VR r c.2 u := fun u h1 h2 =>
    ⟨u, by simp only [binopM, AV.plain, h1, AV.marked, Bool.or_self, cond_false], h2⟩
  have hk : ∀ {x : Option (Bool × SV)}, (bif decide (k = k') then x else none) = some c → k = k' ∧ x = some c := fun hx => by
    obtain ⟨h1, h2⟩ := bif_some' hx
    exact ⟨of_decide_eq_true h1, h2⟩
  cases op <;> simp only [binI] at h
  case shl =>
    obtain rfl := Option.some.inj h
    have hb := of_decide_eq_true hc
    exact key _ (by simp only [binop]; rw [decide_eq_false (by omega)]; rfl) rfl
  case shr =>
    obtain rfl := Option.some.inj h
    have hb := of_decide_eq_true hc
    exact key _ (by simp only [binop]; rw [decide_eq_false (by omega)]; rfl) rfl
  all_goals obtain ⟨rfl, h2⟩ := hk h
  all_goals first
    | (exfalso; simp at h2; done)
    | (obtain rfl := Option.some.inj h2
       refine key (tyAV _ _) ?_ rfl
       simp only [Bool.not_eq_true', decide_eq_false_iff_not] at hc
       simp [binop, tyAV, hc]
       done)
    | (obtain rfl := Option.some.inj h2
       refine key (tyAV _ _) ?_ rfl
       simp [binop, tyAV]
       try (first | rfl | (simp [bne]; done) | (rw [Bool.eq_iff_iff]; simp; done)))

theorem binStr_sound {op : BinOp} {a b : List UInt8} {c : Bool × SV} (h : binStr op a b = some c) (hc : c.1 = true) (r : RM) : ∃ u, binopM op (.str a) (.str b) = some u ∧ VR r c.2 u := by
  have key : ∀ u, binop op (.str a) (.str b) = some u → VR r c.2 u → ∃ u, binopM op (.str a) (.str b) = some u ∧ VR r c.2 u := fun u h1 h2 =>
    ⟨u, by simp only [binopM, AV.plain, h1, AV.marked, Bool.or_self, cond_false], h2⟩
  cases op <;> simp only [binStr] at h
  all_goals first
    | (exfalso; simp at h; done)
    | (obtain rfl := Option.some.inj h
       exact key _ rfl rfl)
    | (obtain rfl := Option.some.inj h
       simp only at hc
       refine key (tyAV _ _) (by simp only [binop]; rw [hc, cond_true]; rfl) rfl)

theorem binS_sound {op : BinOp} {x y : SV} {a b : AV} {c : Bool × SV} (h : binS op x y = some c) (hc : c.1 = true) (ha : VR r x a) (hb : VR r y b) : ∃ u, binopM op a b = some u ∧ VR r c.2 u := by
  unfold binS at h
  split at h
  · simp only [VR, tyAV] at ha hb
    subst ha hb
    exact binI_sound h hc r
  · simp only [VR, tyAV] at ha hb
    subst ha hb
    exact binStr_sound h hc r
  · simp at h

theorem unS_sound {op : UnOp} {x v : SV} {a : AV} (h : unS op x = some v) (ha : VR r x a) : ∃ u, unopM op a = some u ∧ VR r v u := by
  unfold unS at h
  split at h
  · simp only [VR, tyAV] at ha
    subst ha
    split at h
    · obtain rfl := Option.some.inj h; exact ⟨_, rfl, rfl⟩
    · obtain rfl := Option.some.inj h; exact ⟨_, rfl, rfl⟩
    · simp at h
  · simp only [VR, tyAV] at ha
    subst ha
    split at h
    · obtain rfl := Option.some.inj h; exact ⟨_, rfl, rfl⟩
    · simp at h
  · simp at h

/-! ### equality -/
theorem eqCellsS_app : ∀ (k1 : List Nat) (c1 d1 : List AV) (k2 : List Nat) (c2 d2 : List AV) (a b : Bool), eqCellsS k1 c1 d1 = some a → eqCellsS k2 c2 d2 = some b → eqCellsS (k1 ++ k2) (c1 ++ c2) (d1 ++ d2) = some (a && b)
  | [], [], [], k2, c2, d2, a, b, h1, h2 => by
    simp only [eqCellsS, Option.some.injEq] at h1
    subst h1
    simpa using h2
  | k :: k1, x :: c1, y :: d1, k2, c2, d2, a, b, h1, h2 => by
    simp only [eqCellsS] at h1
    split at h1
    · rename_i p hp
      split at h1
      · rename_i q hq
        obtain rfl := Option.some.inj h1
        have := eqCellsS_app k1 c1 d1 k2 c2 d2 q b hq h2
        simp only [List.cons_append, eqCellsS, hp, this, Bool.and_assoc]
      · simp at h1
    · simp at h1
  | [], _ :: _, _, _, _, _, _, _, h1, _ => by simp [eqCellsS] at h1
  | [], [], _ :: _, _, _, _, _, _, h1, _ => by simp [eqCellsS] at h1
  | _ :: _, [], _, _, _, _, _, _, h1, _ => by simp [eqCellsS] at h1
  | _ :: _, _ :: _, [], _, _, _, _, _, h1, _ => by simp [eqCellsS] at h1

theorem eqN_sound {t : Ty} {ks : List Nat} (hf : ∀ x y, eqCellsS ks (t.cells x) (t.cells y) = some (t.eq x y)) : ∀ (n : Nat) (xs ys : List t.den), eqCellsS (repK n ks) (cellsN t.cells t.dflt n xs) (cellsN t.cells t.dflt n ys) = some (eqN t.eq t.dflt n xs ys)
  | 0, _, _ => rfl
  | n + 1, xs, ys => by
    have h1 : ∀ zs : List t.den, cellsN t.cells t.dflt (n + 1) zs = t.cells (zs.headD t.dflt) ++ cellsN t.cells t.dflt n zs.tail := fun zs => by cases zs <;> rfl
    rw [h1, h1, repK, eqN]
    exact eqCellsS_app _ _ _ _ _ _ _ _ (hf _ _) (eqN_sound hf n _ _)

theorem eq_sound : ∀ (t : Ty) (ks : List Nat) (x y : t.den), t.kinds = some ks → eqCellsS ks (t.cells x) (t.cells y) = some (t.eq x y)
  | .int k, ks, x, y, h => by
    simp only [Ty.kinds, Option.some.injEq] at h
    subst h
    simp only [Ty.cells, eqCellsS, eqCell, AV.plain, decide_true, cond_true, Ty.eq, Bool.and_true]
    congr 1
  | .flt k, ks, x, y, h => by simp [Ty.kinds] at h
  | .bool, ks, x, y, h => by
    simp only [Ty.kinds, Option.some.injEq] at h
    subst h
    simp only [Ty.cells, eqCellsS, eqCell, AV.plain, Ty.eq, Bool.and_true]
  | .str, ks, x, y, h => by
    simp only [Ty.kinds, Option.some.injEq] at h
    subst h
    simp only [Ty.cells, eqCellsS, eqCell, AV.plain, Ty.eq, Bool.and_true]
  | .unit, ks, x, y, h => by
    simp only [Ty.kinds, Option.some.injEq] at h
    subst h
    rfl
  | .one a, ks, x, y, h => eq_sound a ks x y h
  | .pair a b, ks, x, y, h => by
    simp only [Ty.kinds] at h
    split at h
    · rename_i k1 k2 h1 h2
      obtain rfl := Option.some.inj h
      exact eqCellsS_app _ _ _ _ _ _ _ _ (eq_sound a k1 _ _ h1) (eq_sound b k2 _ _ h2)
    · simp at h
  | .arr n t, ks, x, y, h => by
    simp only [Ty.kinds] at h
    split at h
    · rename_i k1 h1
      obtain rfl := Option.some.inj h
      exact eqN_sound (fun p q => eq_sound t k1 p q h1) n x y
    · simp at h

theorem eqCellsS_length : ∀ (ks : List Nat) (c d : List AV) (b : Bool), eqCellsS ks c d = some b → c.length = ks.length ∧ d.length = ks.length
  | [], [], [], _, _ => ⟨rfl, rfl⟩
  | k :: ks, x :: c, y :: d, b, h => by
    simp only [eqCellsS] at h
    split at h
    · split at h
      · rename_i q hq
        have := eqCellsS_length ks c d q hq
        simp [this.1, this.2]
      · simp at h
    · simp at h
  | [], _ :: _, _, _, h => by simp [eqCellsS] at h
  | [], [], _ :: _, _, h => by simp [eqCellsS] at h
  | _ :: _, [], _, _, h => by simp [eqCellsS] at h
  | _ :: _, _ :: _, [], _, h => by simp [eqCellsS] at h

theorem unmarked {l : List AV} (h : l.all AV.scalar = true) (hm : ∀ v ∈ l, v.marked = false) : l.any AV.marked = false := by
  rw [List.any_eq_false]
  intro v hv
  simp [hm v hv]

theorem cellsN_mem {α : Type} {f : α → List AV} {d : α} {q : AV → Prop} (hf : ∀ x, ∀ v ∈ f x, q v) : ∀ (n : Nat) (xs : List α), ∀ v ∈ cellsN f d n xs, q v
  | 0, _, v, hv => by simp [cellsN] at hv
  | n + 1, [], v, hv => by
    simp only [cellsN, List.mem_append] at hv
    rcases hv with hv | hv
    · exact hf _ v hv
    · exact cellsN_mem hf n [] v hv
  | n + 1, x :: r, v, hv => by
    simp only [cellsN, List.mem_append] at hv
    rcases hv with hv | hv
    · exact hf _ v hv
    · exact cellsN_mem hf n r v hv

theorem cells_unmarked : ∀ (t : Ty) (x : t.den), ∀ v ∈ t.cells x, v.marked = false
  | .int _, _, v, h => by simp only [Ty.cells, List.mem_singleton] at h; subst h; rfl
  | .flt _, _, v, h => by simp only [Ty.cells, List.mem_singleton] at h; subst h; rfl
  | .bool, _, v, h => by simp only [Ty.cells, List.mem_singleton] at h; subst h; rfl
  | .str, _, v, h => by simp only [Ty.cells, List.mem_singleton] at h; subst h; rfl
  | .unit, _, v, h => by simp [Ty.cells] at h
  | .one a, x, v, h => cells_unmarked a x v h
  | .pair a b, x, v, h => by
    simp only [Ty.cells, List.mem_append] at h
    rcases h with h | h
    · exact cells_unmarked a _ v h
    · exact cells_unmarked b _ v h
  | .arr n t, xs, v, h => cellsN_mem (cells_unmarked t) n xs v h

theorem cells_unmarked' (t : Ty) (x : t.den) : (t.cells x).any AV.marked = false := by
  rw [List.any_eq_false]
  intro v hv
  simp [cells_unmarked t x v hv]

theorem neg_eq (neg t : Bool) : (bif neg then !t else t) = (t != neg) := by cases neg <;> cases t <;> rfl

theorem eqTy_sound {ks : List Nat} {neg : Bool} {t : Ty} {x y : t.den} {v : SV} (h : eqTy ks neg t x y = some v) (r : RM) : ∃ u, eqAM ks neg (.agg (t.cells x)) (.agg (t.cells y)) = some u ∧ VR r v u := by
  unfold eqTy at h
  split at h
  · rename_i l hl
    obtain ⟨hb, h⟩ := bif_some' h
    obtain rfl := Option.some.inj h
    have hb : l = ks := by simpa using hb
    subst hb
    have h1 := eq_sound t l x y hl
    have h2 := eqCellsS_length _ _ _ _ h1
    refine ⟨.bool (t.eq x y != neg), ?_, by simp only [VR, tyAV]; rw [neg_eq]⟩
    unfold eqAM
    simp only
    rw [h2.1, h2.2, Nat.beq_refl, Bool.and_self, cond_true, h1]
    simp only [cells_unmarked', Bool.or_self, AV.mark, cond_false]
  · simp at h

theorem eqAS_sound {ks : List Nat} {neg : Bool} {x y v : SV} {a b : AV} (h : eqAS ks neg x y = some v) (ha : VR r x a) (hb : VR r y b) : ∃ u, eqAM ks neg a b = some u ∧ VR r v u := by
  unfold eqAS at h
  split at h
  · obtain ⟨hg, h⟩ := bif_some' h
    split at h
    · rename_i z hz
      simp only [VR] at ha hb
      subst ha hb
      obtain ⟨rfl, rfl⟩ := castT_sound hz
      rw [tyAV_agg _ _ hg, tyAV_agg _ _ hg]
      exact eqTy_sound h r
    · simp at h
  · obtain ⟨hg, h⟩ := bif_some' h
    split at h
    · rename_i z hz
      simp only [VR] at ha
      subst ha
      obtain ⟨cs, rfl, k⟩ := hb
      rw [tyAV_agg _ _ hg, asT_segs hz k]
      exact eqTy_sound h r
    · simp at h
  · obtain ⟨hg, h⟩ := bif_some' h
    split at h
    · rename_i z hz
      simp only [VR] at hb
      subst hb
      obtain ⟨cs, rfl, k⟩ := ha
      rw [tyAV_agg _ _ hg, asT_segs hz k]
      exact eqTy_sound h r
    · simp at h
  · simp at h

theorem nilS_sound {k : Nat} {x : SV} {a : AV} {b : Bool} (h : nilS k x = some b) (ha : VR r x a) : nilOf k a = some b := by
  unfold nilS at h
  split at h
  · obtain rfl := Option.some.inj h; simp only [VR] at ha; subst ha; rfl
  · obtain rfl := Option.some.inj h; obtain ⟨w, _, _, rfl, _⟩ := ha; rfl
  · obtain rfl := Option.some.inj h; simp only [VR] at ha; subst ha; rfl
  · obtain rfl := Option.some.inj h; simp only [VR] at ha; subst ha; rfl
  · obtain rfl := Option.some.inj h; obtain ⟨_, _, rfl, _⟩ := ha; rfl
  · simp at h

theorem eqNilS_sound {k : Nat} {neg : Bool} {x y v : SV} {a b : AV} (h : eqNilS k neg x y = some v) (ha : VR r x a) (hb : VR r y b) : ∃ u, pureB H neg (eqNil k a b) = some (u, H) ∧ VR r v u := by
  unfold eqNilS at h
  split at h
  · rename_i c h1 h2
    obtain rfl := Option.some.inj h
    exact ⟨.bool (c != neg), by simp only [eqNil, nilS_sound h1 ha, nilS_sound h2 hb, pureB], by simp only [VR, tyAV]; rw [neg_eq]⟩
  · rename_i h1 h2
    obtain rfl := Option.some.inj h
    exact ⟨.bool (false != neg), by simp only [eqNil, nilS_sound h1 ha, nilS_sound h2 hb, pureB], by simp only [VR, tyAV]; cases neg <;> rfl⟩
  · simp at h

/-! ### what is built -/
theorem takeParts_sound : ∀ {ps : List (Option Ty)} {l m : List SV} {cs : List AV}, takeParts ps l = some m → CRs r l cs → CRs r m cs
  | [], [], m, cs, h, k => by
    simp only [takeParts, Option.some.injEq] at h
    subst h
    exact k
  | [], _ :: _, m, cs, h, k => by simp [takeParts] at h
  | none :: ps, [], m, cs, h, k => by simp [takeParts] at h
  | none :: ps, v :: l, m, cs, h, k => by
    simp only [takeParts] at h
    split at h
    · rename_i m' hm
      obtain rfl := Option.some.inj h
      obtain ⟨u, r', rfl, a, b⟩ := k
      exact ⟨u, r', rfl, a, takeParts_sound hm b⟩
    · simp at h
  | some t :: ps, l, m, cs, h, k => by
    simp only [takeParts] at h
    split at h
    · rename_i x l' hx
      split at h
      · rename_i m' hm
        obtain rfl := Option.some.inj h
        obtain ⟨c1, rfl, k1⟩ := takeT_sound t _ _ _ _ hx k
        exact ⟨tyAV t x, c1, by rw [tyAV_cells], rfl, takeParts_sound hm k1⟩
      · simp at h
    · simp at h

theorem typed_sound {hint : Option Hn} {l : List SV} {v : SV} {cs : List AV} (h : typed hint l = some v) (k : CRs r l cs) : VR r v (.agg cs) := by
  unfold typed at h
  split at h
  · obtain rfl := Option.some.inj h
    exact ⟨cs, rfl, k⟩
  · split at h
    · rename_i m hm
      obtain rfl := Option.some.inj h
      exact ⟨cs, rfl, takeParts_sound hm k⟩
    · simp at h
  · rename_i t
    split at h
    · rename_i x hx
      have e := asT_segs hx k
      rcases bif_or h with ⟨hg, h1⟩ | ⟨hg, h1⟩
      · obtain rfl := Option.some.inj h1
        simp only [VR]
        rw [tyAV_agg _ _ hg, e]
      · obtain rfl := Option.some.inj h1
        exact ⟨cs, rfl, tyAV t x, [], by rw [tyAV_cells, e, List.append_nil], rfl, rfl⟩
    · simp at h

inductive PartsR (r : RM) : List (Nat × Nat × SV) → List (Nat × Nat × AV) → Prop
  | nil : PartsR r [] []
  | cons {a b : Nat} {v : SV} {u : AV} {ps : List (Nat × Nat × SV)} {qs : List (Nat × Nat × AV)} : VR r v u → PartsR r ps qs → PartsR r ((a, b, v) :: ps) ((a, b, u) :: qs)

theorem parts_sound (h : Rel P r s e H) : ∀ {l : List (Nat × Nat × Opd)} {ps : List (Nat × Nat × SV)}, partsS s l = some ps → ∃ qs, getParts e l = some qs ∧ PartsR r ps qs
  | [], ps, hx => by
    simp only [partsS, Option.some.injEq] at hx
    subst hx
    exact ⟨[], rfl, .nil⟩
  | (a, b, x) :: l, ps, hx => by
    simp only [partsS] at hx
    split at hx
    · rename_i v hv
      split at hx
      · rename_i ws hws
        obtain rfl := Option.some.inj hx
        obtain ⟨u, h1, h2⟩ := opd_sound h hv
        obtain ⟨us, h3, h4⟩ := parts_sound h hws
        exact ⟨(a, b, u) :: us, by simp only [getParts, h1, h3], .cons h2 h4⟩
      · simp at hx
    · simp at hx

theorem fill_sound : ∀ {ps : List (Nat × Nat × SV)} {qs : List (Nat × Nat × AV)} {l l' : List SV} {cs : List AV}, PartsR r ps qs → partsFit ps = true →
    fillS l ps = some l' → CRs r l cs → ∃ cs', fillIn cs qs = some cs' ∧ CRs r l' cs' ∧ cs'.length = cs.length
  | _, _, l, l', cs, .nil, _, h, k => by
    simp only [fillS, Option.some.injEq] at h
    subst h
    exact ⟨cs, rfl, k, rfl⟩
  | _, _, l, l', cs, .cons (a := a) (b := b) (v := v) (u := u) (ps := ps) (qs := qs) h3 hr, hf, h, k => by
    simp only [partsFit, Bool.and_eq_true] at hf
    simp only [fillS] at h
    split at h
    · rename_i x y hx hy
      obtain ⟨g1, g2⟩ := takeS_sound _ _ _ _ hx k
      obtain ⟨g3, g4⟩ := dropS_sound _ _ _ _ hy k
      have hl := sizeIs_sound hf.1 h3.flat
      have hk := g2.append (h3.flat.append g4)
      obtain ⟨cs', q1, q2, q3⟩ := fill_sound hr hf.2 h hk
      refine ⟨cs', ?_, q2, ?_⟩
      · simp only [fillIn]
        rw [decide_eq_true hl, decide_eq_true g3, Bool.and_self, cond_true, ← hl]
        rw [← hl] at q1
        exact q1
      · rw [q3]
        simp only [List.length_append, List.length_take, List.length_drop, hl]
        omega
    · simp at h

theorem rep_replicate {t : Ty} (z : t.den) : ∀ n, rep n (t.cells z) = (List.replicate n z).flatMap t.cells
  | 0 => rfl
  | n + 1 => by rw [rep, rep_replicate z n, List.replicate_succ, List.flatMap_cons]

theorem push_one (h : Rel P r s e H) {v : SV} {cs : List AV} (hv : VR r v (.agg cs)) :
    Rel P (upd r s.next ⟨false, H.next, 0, 0, 0⟩) (s.push ⟨true, .one v⟩) e (H.push cs) ∧ VR (upd r s.next ⟨false, H.next, 0, 0, 0⟩) (.ptr s.next 0 []) (.ptr H.next 0) := by
  refine ⟨h.push ⟨rfl, .agg cs, [], [], hv.mono (h.upd_ext _), by simp [AV.cells], rfl⟩, ⟨⟨false, H.next, 0, 0, 0⟩, by simp [upd], rfl, rfl, fun _ h => by simp at h, fun _ h => by simp at h⟩⟩

theorem minmax_sound {mx : Bool} : ∀ {l : List SV} {x v : SV} {a : AV} {us : List AV}, minmaxS mx x l = some v → VR r x a → VRs r l us → ∃ u, minmaxL mx a us = some u ∧ VR r v u
  | [], x, v, a, us, h, ha, hus => by
    simp only [minmaxS, Option.some.injEq] at h
    simp only [VRs] at hus
    subst h hus
    exact ⟨a, rfl, ha⟩
  | y :: l, x, v, a, us, h, ha, hus => by
    obtain ⟨b, us', rfl, hb, hus⟩ := hus
    unfold minmaxS at h
    split at h
    · simp at *
    · rename_i he
      simp only [List.cons.injEq] at he
      obtain ⟨rfl, rfl⟩ := he
      simp only [VR, tyAV] at ha hb
      subst ha hb
      obtain ⟨u, h1, h2⟩ := minmax_sound h rfl hus
      exact ⟨u, by simp only [minmaxL, AV.plain, minmax2, AV.marked, Bool.or_self, AV.mark, cond_false]; exact h1, h2⟩
    · simp at h

theorem part_of {cs : List AV} {a n : Nat} {g : Bool} {x : SV} (h : Got r cs a n g x) : ∃ v, partOf cs a n g = some v ∧ VR r x v := by
  obtain ⟨h1, v, h2, h3⟩ := h
  refine ⟨v, ?_, h2⟩
  unfold partOf
  cases g with
  | true =>
    simp only [cond_true] at h3 ⊢
    rw [decide_eq_true h1, cond_true, h3]
  | false =>
    simp only [cond_false] at h3 ⊢
    obtain ⟨rfl, _, h5⟩ := h3
    have := congrArg (fun l : List AV => l[0]?) h5
    simpa [List.getElem?_take, List.getElem?_drop] using this

end
end Go.Sh
