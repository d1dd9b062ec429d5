/- Values brought to types; parts of values read and written; equality. No condition. -/
import Derived.Test.YtipdancojcdioaaShD
namespace Go.Sh
set_option linter.unusedVariables false
set_option linter.unusedSimpArgs false
open Go Go.Ev

theorem castT_sound {t t' : Ty} {x : t.den} {y : t'.den} (h : castT t t' x = some y) : ∃ e : t = t', e ▸ x = y := by
  unfold castT at h
  split at h
  · rename_i e _
    exact ⟨e, by simpa using h⟩
  · simp at h

theorem castT_cells {t t' : Ty} {x : t.den} {y : t'.den} (h : castT t t' x = some y) : t'.cells y = t.cells x := by
  obtain ⟨rfl, rfl⟩ := castT_sound h
  rfl

theorem castL_sound {t t' : Ty} {x : List t.den} {y : List t'.den} (h : castL t t' x = some y) : ∃ e : t = t', e ▸ x = y := by
  unfold castL at h
  split at h
  · rename_i e _
    exact ⟨e, by simpa using h⟩
  · simp at h

section
variable {r : RM}

theorem headT_sound {t : Ty} {l l' : List SV} {x : t.den} {cs : List AV} (h : headT t l = some (x, l')) (k : CRs r l cs) : ∃ cs', cs = t.cells x ++ cs' ∧ CRs r l' cs' := by
  unfold headT at h
  split at h
  · rename_i t' y m
    split at h
    · rename_i z hz
      simp only [Option.some.injEq, Prod.mk.injEq] at h
      obtain ⟨rfl, rfl⟩ := h
      obtain ⟨v, r', rfl, a, b⟩ := k
      simp only [VR] at a
      subst a
      exact ⟨r', by rw [tyAV_cells, castT_cells hz], b⟩
    · simp at h
  · simp at h

theorem takeN_sound {t : Ty} {f : List SV → Option (t.den × List SV)} (hf : ∀ l l' x cs, f l = some (x, l') → CRs r l cs → ∃ cs', cs = t.cells x ++ cs' ∧ CRs r l' cs') :
    ∀ (n : Nat) (l l' : List SV) (xs : List t.den) (cs : List AV), takeN f n l = some (xs, l') → CRs r l cs → ∃ cs', cs = xs.flatMap t.cells ++ cs' ∧ CRs r l' cs' ∧ xs.length = n
  | 0, l, l', xs, cs, h, k => by
    simp only [takeN, Option.some.injEq, Prod.mk.injEq] at h
    obtain ⟨rfl, rfl⟩ := h
    exact ⟨cs, by simp, k, rfl⟩
  | n + 1, l, l', xs, cs, h, k => by
    simp only [takeN] at h
    split at h
    · rename_i x m hx
      split at h
      · rename_i ys m' hys
        simp only [Option.some.injEq, Prod.mk.injEq] at h
        obtain ⟨rfl, rfl⟩ := h
        obtain ⟨c1, rfl, k1⟩ := hf _ _ _ _ hx k
        obtain ⟨c2, rfl, k2, hl⟩ := takeN_sound hf n _ _ _ _ hys k1
        exact ⟨c2, by simp, k2, by simp [hl]⟩
      · simp at h
    · simp at h

theorem cellsN_full {α : Type} {f : α → List AV} {d : α} : ∀ (xs : List α), cellsN f d xs.length xs = xs.flatMap f
  | [] => rfl
  | x :: xs => by simp [cellsN, cellsN_full xs]

theorem takeT_sound : ∀ (t : Ty) (l l' : List SV) (x : t.den) (cs : List AV), takeT t l = some (x, l') → CRs r l cs → ∃ cs', cs = t.cells x ++ cs' ∧ CRs r l' cs'
  | .one a, l, l', x, cs, h, k => by
    simp only [takeT] at h
    split at h
    · rename_i q hq
      obtain rfl := Option.some.inj h
      exact headT_sound hq k
    · exact takeT_sound a l l' x cs h k
  | .pair a b, l, l', x, cs, h, k => by
    simp only [takeT] at h
    split at h
    · rename_i q hq
      obtain rfl := Option.some.inj h
      exact headT_sound hq k
    · split at h
      · rename_i y m hy
        split at h
        · rename_i z m' hz
          simp only [Option.some.injEq, Prod.mk.injEq] at h
          obtain ⟨rfl, rfl⟩ := h
          obtain ⟨c1, rfl, k1⟩ := takeT_sound a _ _ _ _ hy k
          obtain ⟨c2, rfl, k2⟩ := takeT_sound b _ _ _ _ hz k1
          exact ⟨c2, by simp [Ty.cells], k2⟩
        · simp at h
      · simp at h
  | .arr n t, l, l', x, cs, h, k => by
    simp only [takeT] at h
    split at h
    · rename_i q hq
      obtain rfl := Option.some.inj h
      exact headT_sound hq k
    · obtain ⟨c1, rfl, k1, hl⟩ := takeN_sound (takeT_sound t) n _ _ _ _ h k
      refine ⟨c1, ?_, k1⟩
      have e := cellsN_full (f := t.cells) (d := t.dflt) (x : List t.den)
      rw [hl] at e
      rw [Ty.cells]
      exact congrArg (· ++ c1) e.symm
  | .unit, l, l', x, cs, h, k => by
    simp only [takeT, Option.some.injEq, Prod.mk.injEq] at h
    obtain ⟨_, rfl⟩ := h
    exact ⟨cs, rfl, k⟩
  | .int _, l, l', x, cs, h, k => headT_sound h k
  | .flt _, l, l', x, cs, h, k => headT_sound h k
  | .bool, l, l', x, cs, h, k => headT_sound h k
  | .str, l, l', x, cs, h, k => headT_sound h k

theorem asT_sound {t : Ty} {x : SV} {y : t.den} {v : AV} (h : asT t x = some y) (k : VR r x v) : v.cells = t.cells y := by
  unfold asT at h
  split at h
  · rename_i z hz
    obtain rfl := Option.some.inj h
    obtain ⟨c, h1, h2⟩ := takeT_sound t _ _ _ _ hz k.flat
    simp only [CRs] at h2
    subst h2
    simpa using h1
  · simp at h

theorem asT_segs {t : Ty} {l : List SV} {y : t.den} {cs : List AV} (h : asT t (.segs l) = some y) (k : CRs r l cs) : cs = t.cells y :=
  asT_sound (r := r) (v := .agg cs) h ⟨cs, rfl, k⟩

/-! ### writing -/
def Wrote (t : Ty) (x : t.den) (a n : Nat) (cs : List AV) (y : t.den) : Prop :=
  cs.length = n ∧ a + n ≤ t.size ∧ t.cells y = (t.cells x).take a ++ (cs ++ (t.cells x).drop (a + n))

theorem Wrote.whole {t : Ty} {x y : t.den} {w : SV} {v : AV} (h : asT t w = some y) (k : VR r w v) : Wrote t x 0 t.size v.cells y := by
  have := asT_sound h k
  refine ⟨by rw [this, cells_length], by omega, ?_⟩
  rw [this, List.take_zero, List.nil_append, Nat.zero_add, List.drop_eq_nil_of_le (by rw [cells_length]; omega), List.append_nil]

theorem arr_wrote {m : Nat} {t : Ty} {xs : List t.den} {i a n : Nat} {cs : List AV} {y : t.den} (hi : i < m) (h : Wrote t (xs.getD i t.dflt) a n cs y) : Wrote (.arr m t) xs (i * t.size + a) n cs (setD t.dflt xs i y) := by
  obtain ⟨h1, h2, h3⟩ := h
  have hm : (i + 1) * t.size ≤ m * t.size := Nat.mul_le_mul_right _ hi
  rw [Nat.succ_mul] at hm
  refine ⟨h1, by simp only [Ty.size]; omega, ?_⟩
  simp only [Ty.cells]
  rw [cellsN_set (cells_length t) m xs i y hi, h3]
  have hlen := cellsN_length (f := t.cells) (d := t.dflt) (cells_length t) m xs
  have hpart := cellsN_part (d := t.dflt) (cells_length t) m xs i 0 t.size hi (by omega)
  rw [Nat.add_zero, List.drop_zero, ← cells_length t (xs.getD i t.dflt), List.take_length] at hpart
  rw [← hpart]
  generalize cellsN t.cells t.dflt m xs = L at hlen ⊢
  rw [cells_length] 
  simp only [List.append_assoc]
  have e1 : List.take (i * t.size) L ++ List.take a (List.take t.size (List.drop (i * t.size) L)) = List.take (i * t.size + a) L := by
    rw [List.take_take, Nat.min_eq_left (by omega), List.take_add]
  have e2 : List.drop (a + n) (List.take t.size (List.drop (i * t.size) L)) ++ List.drop (i * t.size + t.size) L = List.drop (i * t.size + a + n) L := by
    rw [List.drop_take, List.drop_drop, ← List.take_append_drop (t.size - (a + n)) (List.drop (i * t.size + a + n) L), List.drop_drop]
    congr 2
    · congr 1; omega
    · omega
  rw [← e1, ← e2]
  simp only [List.append_assoc]

theorem setT_sound : ∀ (t : Ty) (x : t.den) (o : Nat) (p : List Ix) (n : Nat) (w : SV) (y : t.den) (v : AV), okP p → setT t x o p n w = some y → VR r w v → Wrote t x (o + offP p) n v.cells y
  | .one a, x, o, p, n, w, y, v, hp, h, k => setT_sound a x o p n w y v hp h k
  | .pair a b, x, o, p, n, w, y, v, hp, h, k => by
    simp only [setT] at h
    rcases bif_or h with ⟨hb, h1⟩ | ⟨_, h1⟩
    · simp only [Bool.and_eq_true, Nat.beq_eq, List.isEmpty_iff] at hb
      obtain ⟨⟨rfl, rfl⟩, rfl⟩ := hb
      exact Wrote.whole (t := .pair a b) h1 k
    · rcases bif_or h1 with ⟨hb, h2⟩ | ⟨hb, h2⟩
      · split at h2
        · rename_i z hz
          obtain rfl := Option.some.inj h2
          obtain ⟨h3, h4, h5⟩ := setT_sound a x.1 o p n w z v hp hz k
          refine ⟨h3, by simp only [Ty.size]; omega, ?_⟩
          simp only [Ty.cells]
          rw [h5, List.take_append_of_le_length (by rw [cells_length]; omega), List.drop_append_of_le_length (by rw [cells_length]; omega)]
          simp only [List.append_assoc]
        · simp at h2
      · have hb : a.size ≤ o := by
          rcases Nat.lt_or_ge o a.size with hlt | hge
          · rw [blt_iff.2 hlt] at hb; simp at hb
          · exact hge
        split at h2
        · rename_i z hz
          obtain rfl := Option.some.inj h2
          obtain ⟨h3, h4, h5⟩ := setT_sound b x.2 (o - a.size) p n w z v hp hz k
          refine ⟨h3, by simp only [Ty.size]; omega, ?_⟩
          simp only [Ty.cells]
          rw [h5, show o + offP p + n = (a.cells x.1).length + (o - a.size + offP p + n) by rw [cells_length]; omega, List.drop_length_add_append,
            show o + offP p = (a.cells x.1).length + (o - a.size + offP p) by rw [cells_length]; omega, List.take_length_add_append]
          simp only [List.append_assoc]
        · simp at h2
  | .arr m t, xs, o, p, n, w, y, v, hp, h, k => by
    simp only [setT] at h
    rcases bif_or h with ⟨hb, h1⟩ | ⟨_, h1⟩
    · simp only [Bool.and_eq_true, Nat.beq_eq, List.isEmpty_iff] at hb
      obtain ⟨⟨rfl, rfl⟩, rfl⟩ := hb
      exact Wrote.whole (t := .arr m t) h1 k
    · have hdm : ∀ q, o / t.size * t.size + (o % t.size + q) = o + q := fun q => by
        rw [Nat.mul_comm]; have := Nat.div_add_mod o t.size; omega
      cases p with
      | nil =>
        obtain ⟨hb, h2⟩ := bif_some' h1
        split at h2
        · rename_i z hz
          obtain rfl := Option.some.inj h2
          have := arr_wrote (blt_iff.1 hb) (setT_sound t _ _ _ _ _ _ _ hp hz k)
          rwa [hdm] at this
        · simp at h2
      | cons ix q =>
        rcases bif_or h1 with ⟨hb, h2⟩ | ⟨_, h2⟩
        · simp only [Bool.and_eq_true, Nat.beq_eq, Bool.not_eq_true'] at hb
          obtain ⟨⟨⟨rfl, hel⟩, hm⟩, hs⟩ := hb
          subst hm
          split at h2
          · rename_i z hz
            obtain rfl := Option.some.inj h2
            have := arr_wrote (hp _ (List.mem_cons_self ..) hel) (setT_sound t _ _ _ _ _ _ _ hp.tail hz k)
            simp only [offP, Nat.zero_add]
            rwa [← hs, ← Nat.add_assoc] at this
          · simp at h2
        · obtain ⟨hb, h3⟩ := bif_some' h2
          split at h3
          · rename_i z hz
            obtain rfl := Option.some.inj h3
            have := arr_wrote (blt_iff.1 hb) (setT_sound t _ _ _ _ _ _ _ hp hz k)
            rwa [hdm] at this
          · simp at h3
  | .int _, x, o, p, n, w, y, v, hp, h, k => by
    simp only [setT] at h
    obtain ⟨hb, h⟩ := bif_some' h
    simp only [Bool.and_eq_true, Nat.beq_eq, List.isEmpty_iff] at hb
    obtain ⟨⟨rfl, rfl⟩, rfl⟩ := hb
    exact Wrote.whole (t := .int _) h k
  | .flt _, x, o, p, n, w, y, v, hp, h, k => by
    simp only [setT] at h
    obtain ⟨hb, h⟩ := bif_some' h
    simp only [Bool.and_eq_true, Nat.beq_eq, List.isEmpty_iff] at hb
    obtain ⟨⟨rfl, rfl⟩, rfl⟩ := hb
    exact Wrote.whole (t := .flt _) h k
  | .bool, x, o, p, n, w, y, v, hp, h, k => by
    simp only [setT] at h
    obtain ⟨hb, h⟩ := bif_some' h
    simp only [Bool.and_eq_true, Nat.beq_eq, List.isEmpty_iff] at hb
    obtain ⟨⟨rfl, rfl⟩, rfl⟩ := hb
    exact Wrote.whole (t := .bool) h k
  | .str, x, o, p, n, w, y, v, hp, h, k => by
    simp only [setT] at h
    obtain ⟨hb, h⟩ := bif_some' h
    simp only [Bool.and_eq_true, Nat.beq_eq, List.isEmpty_iff] at hb
    obtain ⟨⟨rfl, rfl⟩, rfl⟩ := hb
    exact Wrote.whole (t := .str) h k
  | .unit, x, o, p, n, w, y, v, hp, h, k => by simp [setT] at h

/-! ### parts of several pieces -/
theorem dropS_sound : ∀ (l l' : List SV) (n : Nat) (cs : List AV), dropS l n = some l' → CRs r l cs → n ≤ cs.length ∧ CRs r l' (cs.drop n)
  | l, l', 0, cs, h, k => by
    unfold dropS at h
    obtain rfl := Option.some.inj h
    exact ⟨by omega, by simpa using k⟩
  | [], l', n + 1, cs, h, k => by simp [dropS] at h
  | x :: l, l', n + 1, cs, h, k => by
    simp only [dropS] at h
    obtain ⟨hb, h⟩ := bif_some' h
    simp only [Bool.and_eq_true, blt_iff, Nat.ble_eq] at hb
    obtain ⟨v, r', rfl, a, b⟩ := k
    have hz := size_le a (by omega)
    obtain ⟨h1, h2⟩ := dropS_sound l l' _ _ h b
    refine ⟨by simp; omega, ?_⟩
    have e1 : n + 1 = v.cells.length + (n + 1 - x.size) := by omega
    have e2 := List.drop_length_add_append (l₁ := v.cells) (l₂ := r') (i := n + 1 - x.size)
    rw [← e1] at e2
    rw [e2]
    exact h2

theorem takeS_sound : ∀ (l l' : List SV) (n : Nat) (cs : List AV), takeS l n = some l' → CRs r l cs → n ≤ cs.length ∧ CRs r l' (cs.take n)
  | l, l', 0, cs, h, k => by
    unfold takeS at h
    obtain rfl := Option.some.inj h
    exact ⟨by omega, by simp [CRs]⟩
  | [], l', n + 1, cs, h, k => by simp [takeS] at h
  | x :: l, l', n + 1, cs, h, k => by
    simp only [takeS] at h
    obtain ⟨hb, h⟩ := bif_some' h
    split at h
    · rename_i m hm
      obtain rfl := Option.some.inj h
      simp only [Bool.and_eq_true, blt_iff, Nat.ble_eq] at hb
      obtain ⟨v, r', rfl, a, b⟩ := k
      have hz := size_le a (by omega)
      obtain ⟨h1, h2⟩ := takeS_sound l _ _ _ hm b
      refine ⟨by simp; omega, ?_⟩
      refine ⟨v, _, ?_, a, h2⟩
      have e1 : n + 1 = v.cells.length + (n + 1 - x.size) := by omega
      rw [e1, List.take_length_add_append, ← e1]
    · simp at h

/-- a value read: an aggregate of the cells, or the one cell -/
def Got (r : RM) (cs : List AV) (a n : Nat) (g : Bool) (x : SV) : Prop :=
  a + n ≤ cs.length ∧ ∃ v, VR r x v ∧ (bif g then v = .agg ((cs.drop a).take n) else (n = 1 ∧ v.one = true ∧ (cs.drop a).take n = [v]))

theorem Got.ofPart {t : Ty} {x : t.den} {a n : Nat} {g : Bool} {v : SV} (h : Part t x a n g v) : Got r (t.cells x) a n g v := by
  obtain ⟨t', x', rfl, h1, h2, h3, h4⟩ := h
  refine ⟨by rw [cells_length]; exact h3, tyAV t' x', rfl, ?_⟩
  cases g with
  | true => simp only [cond_true]; rw [h4]; exact tyAV_agg t' x' h2
  | false =>
    obtain ⟨h5, h6⟩ := tyAV_one t' x' h2
    refine ⟨?_, h6, by rw [h4, h5]⟩
    rw [← h1, ← cells_length t' x', h5]; rfl

theorem Got.append {cs ds : List AV} {a n : Nat} {g : Bool} {x : SV} (h : Got r cs a n g x) : Got r (cs ++ ds) a n g x := by
  obtain ⟨h1, v, h2, h3⟩ := h
  refine ⟨by simp; omega, v, h2, ?_⟩
  rw [List.drop_append_of_le_length (by omega), List.take_append_of_le_length (by simp; omega)]
  exact h3

theorem Got.behind {cs ds : List AV} {a n : Nat} {g : Bool} {x : SV} (h : Got r ds a n g x) : Got r (cs ++ ds) (cs.length + a) n g x := by
  obtain ⟨h1, v, h2, h3⟩ := h
  refine ⟨by simp; omega, v, h2, ?_⟩
  rw [List.drop_length_add_append]
  exact h3

theorem getL_sound : ∀ (l : List SV) (o : Nat) (p : List Ix) (n : Nat) (g : Bool) (x : SV) (cs : List AV), okP p → getL l o p n g = some x → CRs r l cs → Got r cs (o + offP p) n g x
  | [], _, _, _, _, _, _, _, h, _ => by simp [getL] at h
  | w :: l, o, p, n, g, x, cs, hp, h, k => by
    simp only [getL] at h
    obtain ⟨v, r', rfl, a, b⟩ := k
    rcases bif_or h with ⟨hb, h1⟩ | ⟨hb, h1⟩
    · have hb := blt_iff.1 hb
      split at h1
      · simp only [VR] at a
        subst a
        rw [tyAV_cells]
        exact (Got.ofPart (getT_sound _ _ o p n g x hp h1)).append
      · obtain ⟨hc, h2⟩ := bif_some' h1
        simp only [Bool.and_eq_true, Nat.beq_eq, List.isEmpty_iff, Bool.not_eq_true'] at hc
        obtain ⟨⟨⟨⟨hr, rfl⟩, rfl⟩, rfl⟩, rfl⟩ := hc
        obtain rfl := Option.some.inj h2
        obtain ⟨h3, h4, h5⟩ := size_cells a hr
        refine Got.append ⟨?_, v, a, ?_⟩
        · rw [h3]; simp [offP]
        · rw [h3]
          exact ⟨rfl, h4, rfl⟩
    · have hb : w.size ≤ o := by
        rcases Nat.lt_or_ge o w.size with hlt | hge
        · rw [blt_iff.2 hlt] at hb; simp at hb
        · exact hge
      obtain ⟨hz, h2⟩ := bif_some' h1
      have hz := blt_iff.1 hz
      have := getL_sound l (o - w.size) p n g x r' hp h2 b
      have hl := size_le a (by omega)
      have h3 := this.behind (cs := v.cells)
      rwa [show v.cells.length + (o - w.size + offP p) = o + offP p by omega] at h3

theorem getV_sound {w : SV} {o : Nat} {p : List Ix} {n : Nat} {g : Bool} {x : SV} {u : AV} (hp : okP p) (h : getV w o p n g = some x) (k : VR r w u) : Got r u.cells (o + offP p) n g x := by
  unfold getV at h
  split at h
  · simp only [VR] at k
    subst k
    rw [tyAV_cells]
    exact Got.ofPart (getT_sound _ _ o p n g x hp h)
  · obtain ⟨cs, rfl, k⟩ := k
    split at h
    · rename_i y hy
      obtain rfl := Option.some.inj h
      exact getL_sound _ _ _ _ _ _ _ hp hy k
    · obtain ⟨hb, h⟩ := bif_some' h
      simp only [Bool.and_eq_true, List.isEmpty_iff] at hb
      obtain ⟨rfl, rfl⟩ := hb
      split at h
      · rename_i m hm
        split at h
        · rename_i q hq
          obtain rfl := Option.some.inj h
          obtain ⟨h1, h2⟩ := dropS_sound _ _ _ _ hm k
          obtain ⟨h3, h4⟩ := takeS_sound _ _ _ _ hq h2
          simp only [List.length_drop] at h3
          exact ⟨by simp only [AV.cells, offP]; omega, _, ⟨_, rfl, h4⟩, rfl⟩
        · simp at h
      · simp at h
  · obtain ⟨hc, h2⟩ := bif_some' h
    simp only [Bool.and_eq_true, Nat.beq_eq, List.isEmpty_iff, Bool.not_eq_true'] at hc
    obtain ⟨⟨⟨⟨hr, rfl⟩, rfl⟩, rfl⟩, rfl⟩ := hc
    obtain rfl := Option.some.inj h2
    obtain ⟨h3, h4, h5⟩ := size_cells k hr
    refine ⟨by rw [h3]; simp [offP], u, k, ?_⟩
    rw [h3]
    exact ⟨rfl, h4, rfl⟩

theorem sizeL_sound : ∀ {l : List SV} {n : Nat} {cs : List AV}, sizeL l = some n → CRs r l cs → cs.length = n
  | [], n, cs, h, k => by
    simp only [sizeL, Option.some.injEq] at h
    simp only [CRs] at k
    subst h k
    rfl
  | x :: l, n, cs, h, k => by
    simp only [sizeL] at h
    obtain ⟨hz, h⟩ := bif_some' h
    have hz := blt_iff.1 hz
    split at h
    · rename_i m hm
      obtain rfl := Option.some.inj h
      obtain ⟨v, r', rfl, a, b⟩ := k
      rw [List.length_append, size_le a (by omega), sizeL_sound hm b]
    · simp at h

theorem sizeIs_sound {l : List SV} {n : Nat} {cs : List AV} (h : sizeIs l n = true) (k : CRs r l cs) : cs.length = n := by
  unfold sizeIs at h
  split at h
  · rename_i m hm
    obtain rfl := Nat.eq_of_beq_eq_true h
    exact sizeL_sound hm k
  · simp at h

/-- cells with others in their place -/
def Put (r : RM) (cs : List AV) (a n : Nat) (ds : List AV) (l : List SV) : Prop :=
  ds.length = n ∧ a + n ≤ cs.length ∧ CRs r l (cs.take a ++ (ds ++ cs.drop (a + n)))

theorem setL_sound : ∀ (l : List SV) (o : Nat) (p : List Ix) (n : Nat) (w : SV) (l' : List SV) (cs : List AV) (v : AV), okP p → setL l o p n w = some l' → CRs r l cs → VR r w v → Put r cs (o + offP p) n v.cells l'
  | [], _, _, _, _, _, _, _, _, h, _, _ => by simp [setL] at h
  | z :: l, o, p, n, w, l', cs, v, hp, h, k, kw => by
    simp only [setL] at h
    obtain ⟨u, r', rfl, a, b⟩ := k
    rcases bif_or h with ⟨hb, h1⟩ | ⟨hb, h1⟩
    · have hb := blt_iff.1 hb
      split at h1
      · split at h1
        · rename_i y hy
          obtain rfl := Option.some.inj h1
          simp only [VR] at a
          subst a
          obtain ⟨h2, h3, h4⟩ := setT_sound _ _ _ _ _ _ _ _ hp hy kw
          rw [tyAV_cells]
          refine ⟨h2, by rw [List.length_append, cells_length]; omega, ?_⟩
          refine ⟨tyAV _ y, r', ?_, rfl, b⟩
          rw [tyAV_cells, h4, List.take_append_of_le_length (by rw [cells_length]; omega), List.drop_append_of_le_length (by rw [cells_length]; omega)]
          simp only [List.append_assoc]
        · simp at h1
      · simp at h1
    · have hb : z.size ≤ o := by
        rcases Nat.lt_or_ge o z.size with hlt | hge
        · rw [blt_iff.2 hlt] at hb; simp at hb
        · exact hge
      obtain ⟨hz, h2⟩ := bif_some' h1
      have hz := blt_iff.1 hz
      split at h2
      · rename_i m hm
        obtain rfl := Option.some.inj h2
        obtain ⟨h3, h4, h5⟩ := setL_sound l (o - z.size) p n w m r' v hp hm b kw
        have hl := size_le a (by omega)
        refine ⟨h3, by rw [List.length_append]; omega, ?_⟩
        refine ⟨u, _, ?_, a, h5⟩
        rw [show o + offP p + n = u.cells.length + (o - z.size + offP p + n) by omega, List.drop_length_add_append,
          show o + offP p = u.cells.length + (o - z.size + offP p) by omega, List.take_length_add_append]
        simp only [List.append_assoc]
      · simp at h2

theorem setV_sound {x w y : SV} {o : Nat} {p : List Ix} {n : Nat} {u v : AV} (hp : okP p) (h : setV x o p n w = some y) (k : VR r x u) (kw : VR r w v) :
    v.cells.length = n ∧ o + offP p + n ≤ u.cells.length ∧ ∃ u', VR r y u' ∧ u'.cells = u.cells.take (o + offP p) ++ (v.cells ++ u.cells.drop (o + offP p + n)) := by
  unfold setV at h
  split at h
  · split at h
    · rename_i z hz
      obtain rfl := Option.some.inj h
      simp only [VR] at k
      subst k
      obtain ⟨h2, h3, h4⟩ := setT_sound _ _ _ _ _ _ _ _ hp hz kw
      exact ⟨h2, by rw [tyAV_cells, cells_length]; exact h3, _, rfl, by rw [tyAV_cells, tyAV_cells, h4]⟩
    · simp at h
  · obtain ⟨cs, rfl, k⟩ := k
    split at h
    · rename_i m hm
      obtain rfl := Option.some.inj h
      obtain ⟨h2, h3, h4⟩ := setL_sound _ _ _ _ _ _ _ _ hp hm k kw
      exact ⟨h2, h3, _, ⟨_, rfl, h4⟩, rfl⟩
    · obtain ⟨hb, hh⟩ := bif_some' h
      simp only [Bool.and_eq_true, List.isEmpty_iff] at hb
      obtain ⟨rfl, hsz⟩ := hb
      split at hh
      · rename_i a b ha hb2
        obtain rfl := Option.some.inj hh
        obtain ⟨h1, h2⟩ := takeS_sound _ _ _ _ ha k
        obtain ⟨h3, h4⟩ := dropS_sound _ _ _ _ hb2 k
        exact ⟨sizeIs_sound hsz kw.flat, h3, _, ⟨_, rfl, h2.append (kw.flat.append h4)⟩, rfl⟩
      · simp at hh
  · obtain ⟨hc, h2⟩ := bif_some' h
    simp only [Bool.and_eq_true, Nat.beq_eq, List.isEmpty_iff] at hc
    obtain ⟨⟨⟨⟨hr, hw⟩, rfl⟩, rfl⟩, rfl⟩ := hc
    obtain rfl := Option.some.inj h2
    obtain ⟨h3, h4, h5⟩ := size_cells k hr
    obtain ⟨h6, h7, h8⟩ := size_cells kw hw
    exact ⟨by rw [h6]; rfl, by rw [h3]; simp [offP], v, kw, by rw [h3, h6]; rfl⟩
end
end Go.Sh
