/- Operations of the shallow reading are the evaluator's: slices. No condition. -/
import Derived.Test.YtipdancojcdioaaShG
namespace Go.Sh
set_option linter.unusedVariables false
set_option linter.unusedSimpArgs false
open Go Go.Ev

section
variable {ρ : Type} {P : Fr} {r : RM} {s : St} {e : Env} {H : Heap}

theorem flatMap_window {t : Ty} : ∀ (xs : List t.den) (o l : Nat), o + l ≤ xs.length → ((xs.flatMap t.cells).drop (o * t.size)).take (l * t.size) = ((xs.drop o).take l).flatMap t.cells := by
  intro xs o l h
  have e1 : xs = xs.take o ++ ((xs.drop o).take l ++ xs.drop (o + l)) := by
    rw [← List.drop_drop, List.take_append_drop, List.take_append_drop]
  have h1 : ((xs.take o).flatMap t.cells).length = o * t.size := by rw [flatMap_length, List.length_take, Nat.min_eq_left (by omega)]
  have h2 : (((xs.drop o).take l).flatMap t.cells).length = l * t.size := by rw [flatMap_length, List.length_take, List.length_drop, Nat.min_eq_left (by omega)]
  conv => lhs; rw [e1]
  rw [List.flatMap_append, List.flatMap_append, ← h1, List.drop_left, ← h2, List.take_left]

theorem window_le {t : Ty} {xs : List t.den} {o l : Nat} (h : o + l ≤ xs.length) : o * t.size + l * t.size ≤ (xs.flatMap t.cells).length := by
  rw [flatMap_length, ← Nat.add_mul]
  exact Nat.mul_le_mul_right _ h

/-- what a block of elements is -/
theorem many_block (h : Rel P r s e H) {b : Nat} {own : Bool} {t : Ty} {xs : List t.den} {w : W} (hk : s.heap.get b = some ⟨own, .many t xs⟩) (hw : r b = some w) :
    w.len = xs.length ∧ w.size = t.size ∧ 0 < t.size ∧ ((w.virt = true ∧ xs = []) ∨ (w.virt = false ∧ (∃ pre post, H.get w.hb = some (pre ++ (xs.flatMap t.cells ++ post)) ∧ pre.length = w.base) ∧ w.hb < H.next ∧ (own = true → H.ro ≤ w.hb))) := by
  obtain ⟨w0, g1, g2, g3, g4⟩ := h.br b _ hk
  rw [hw] at g1
  obtain rfl := Option.some.inj g1
  obtain ⟨h1, h2, h3, h4⟩ := g2
  refine ⟨h1, h2, h3, ?_⟩
  rcases h4 with h4 | ⟨h4, h5⟩
  · exact .inl h4
  · exact .inr ⟨h4, h5, (g4 h4).1, fun ho => ((g4 h4).2 ho).1⟩

theorem sliceC_sound (h : Rel P r s e H) {v : SV} {u : AV} {c : SC} (hv : VR r v u) (hc : sliceC s v = some c) :
    cellsOf H c.t.size u = some (c.xs.flatMap c.t.cells) ∧ lenOf u = some c.xs.length := by
  unfold sliceC at hc
  split at hc
  · split at hc
    · rename_i hk
      obtain rfl := Option.some.inj hc
      obtain ⟨w, hw, hcase⟩ := hv
      obtain ⟨h1, h2, h3, h4⟩ := many_block h hk hw
      rcases h4 with ⟨h4, rfl⟩ | ⟨h4, ⟨pre, post, h5, h6⟩, _, _⟩
      · rcases hcase with ⟨_, rfl, _⟩ | ⟨hf, _⟩
        · exact ⟨rfl, rfl⟩
        · rw [h4] at hf; simp at hf
      · rcases hcase with ⟨hf, _⟩ | ⟨_, cp, _, rfl⟩
        · rw [h4] at hf; simp at hf
        · refine ⟨?_, by simp only [lenOf, h1]⟩
          simp only [cellsOf]
          rw [← h6, h1, show pre.length = pre.length + 0 from rfl, loadAt_win h5 (by rw [flatMap_length]; omega), List.drop_zero, ← flatMap_length, List.take_length]
    · simp at hc
  · split at hc
    · rename_i hk
      obtain rfl := Option.some.inj hc
      obtain ⟨w, hw, hle, hcase⟩ := hv
      obtain ⟨h1, h2, h3, h4⟩ := many_block h hk hw
      rw [h1] at hle
      rcases h4 with ⟨h4, rfl⟩ | ⟨h4, ⟨pre, post, h5, h6⟩, _, _⟩
      · rcases hcase with ⟨_, rfl⟩ | ⟨hf, _⟩
        · refine ⟨by simp [cellsOf], by simp [lenOf]⟩
        · rw [h4] at hf; simp at hf
      · rcases hcase with ⟨hf, _⟩ | ⟨_, cp, _, rfl⟩
        · rw [h4] at hf; simp at hf
        · refine ⟨?_, by simp only [lenOf, List.length_take, List.length_drop]; congr 1; omega⟩
          simp only [cellsOf]
          rw [← h6, h2, loadAt_win h5 (window_le hle), flatMap_window _ _ _ hle]
    · simp at hc
  · rename_i x
    obtain rfl := Option.some.inj hc
    simp only [VR, tyAV] at hv
    subst hv
    refine ⟨?_, by simp [lenOf]⟩
    simp only [cellsOf, Ty.size, show Nat.beq 1 1 = true from rfl, cond_true, bytesOfStr, List.flatMap_map]
    congr 1
    simp only [Ty.cells]
    induction x with
    | nil => rfl
    | cons a x ih => simp [ih]
  · simp at hc

theorem lenS_sound (h : Rel P r s e H) {v : SV} {u : AV} {n : Nat} (hv : VR r v u) (hc : lenS s v = some n) : lenOf u = some n ∧ ((u = .nilsl ∧ n = 0) ∨ ∃ b o c z, u = .sl b o n c z) := by
  unfold lenS at hc
  split at hc
  · obtain rfl := Option.some.inj hc
    simp only [VR] at hv
    subst hv
    exact ⟨rfl, .inl ⟨rfl, rfl⟩⟩
  · split at hc
    · rename_i hk
      obtain rfl := Option.some.inj hc
      obtain ⟨w, hw, hcase⟩ := hv
      obtain ⟨h1, h2, h3, h4⟩ := many_block h hk hw
      rcases hcase with ⟨_, rfl, h0⟩ | ⟨_, c, _, rfl⟩
      · rw [h1] at h0
        exact ⟨by simp only [lenOf, h0], .inl ⟨rfl, h0⟩⟩
      · exact ⟨by simp only [lenOf, h1], .inr ⟨w.hb, w.base, c, w.size, by rw [h1]⟩⟩
    · simp at hc
  · split at hc
    · rename_i hk
      obtain rfl := Option.some.inj hc
      obtain ⟨w, hw, hle, hcase⟩ := hv
      obtain ⟨h1, h2, h3, h4⟩ := many_block h hk hw
      rcases hcase with ⟨hvt, rfl⟩ | ⟨_, c, _, rfl⟩
      · rcases h4 with ⟨_, rfl⟩ | ⟨hf, _⟩
        · simp at h1
          have h0 : ∀ m : Nat, m ≤ w.len → m = 0 := fun m hm => by omega
          obtain rfl := h0 _ (Nat.le_trans (Nat.le_add_left ..) hle)
          exact ⟨rfl, .inl ⟨rfl, rfl⟩⟩
        · rw [hvt] at hf; simp at hf
      · exact ⟨rfl, .inr ⟨_, _, _, _, rfl⟩⟩
    · simp at hc
  · simp at hc

theorem flatMap_one (t : Ty) (xs : List t.den) : (xs.flatMap t.cells).all AV.one = true := by
  induction xs with
  | nil => rfl
  | cons x xs ih => rw [List.flatMap_cons, List.all_append, cells_one, ih]; rfl

theorem castL_eq {t t' : Ty} {x : List t.den} {y : List t'.den} (h : castL t t' x = some y) : t = t' ∧ y.flatMap t'.cells = x.flatMap t.cells ∧ y.length = x.length := by
  obtain ⟨rfl, rfl⟩ := castL_sound h
  exact ⟨rfl, rfl, rfl⟩

/-- the state with a slice of new elements -/
theorem push_many (h : Rel P r s e H) {t : Ty} {xs : List t.den} (ht : 0 < t.size) :
    Rel P (upd r s.next ⟨false, H.next, 0, xs.length, t.size⟩) (s.push ⟨true, .many t xs⟩) e (H.push (xs.flatMap t.cells)) ∧
      ∀ ex, VR (upd r s.next ⟨false, H.next, 0, xs.length, t.size⟩) (.sla s.next ex) (.sl H.next 0 xs.length none t.size) := by
  refine ⟨h.push ⟨rfl, rfl, ht, .inr ⟨rfl, [], [], by simp, rfl⟩⟩, fun ex => ⟨⟨false, H.next, 0, xs.length, t.size⟩, by simp [upd], .inr ⟨rfl, none, ?_, rfl⟩⟩⟩
  cases ex
  · rfl
  · exact .inl rfl
  · trivial

theorem del_next (h : Rel P r s e H) (b : Nat) : (s.setB b none).next = s.next := rfl

theorem bytes_le {a : Nat} (h : decide (a ≤ lim) = true) : decide (a ≤ 140737488355328) = true := h

theorem isNil_of_len {α : Type} {xs : List α} (h : xs.length = 0) : xs = [] := List.eq_nil_of_length_eq_zero h

def AppOk (P : Fr) (r : RM) (s : St) (e : Env) (H : Heap) (a : AV) (size bytes : Nat) (new : List AV) (n : Nat) (κ : SV → St → Option ρ) (z : ρ) : Prop :=
  ∃ u H' v s' r', appendTo H size bytes a new n = some (u, H') ∧ Rel P r' s' e H' ∧ VR r' v u ∧ Ext r r' ∧ Kp s s' ∧ s'.env = s.env ∧ κ v s' = some z

theorem append0_sound (h : Rel P r s e H) {x : SV} {a : AV} {size bytes : Nat} {κ : SV → St → Option ρ} {z : ρ} (ha : VR r x a) (hk : append0 s x κ = some z) : AppOk P r s e H a size bytes [] 0 κ z := by
  unfold append0 at hk
  split at hk
  · simp only [VR] at ha
    subst ha
    exact ⟨_, H, .nils, s, r, rfl, h, rfl, Ext.refl r, Kp.refl s, rfl, hk⟩
  · refine ⟨a, H, _, s, r, ?_, h, ha, Ext.refl r, Kp.refl s, rfl, hk⟩
    obtain ⟨w, _, ⟨_, rfl, _⟩ | ⟨_, c, _, rfl⟩⟩ := ha <;> rfl
  · refine ⟨a, H, _, s, r, ?_, h, ha, Ext.refl r, Kp.refl s, rfl, hk⟩
    obtain ⟨w, _, _, ⟨_, rfl⟩ | ⟨_, c, _, rfl⟩⟩ := ha <;> rfl
  · simp at hk

theorem beq0_false {n : Nat} (h : n ≠ 0) : n.beq 0 = false := by
  cases n
  · exact absurd rfl h
  · rfl

theorem appendNil_sound (h : Rel P r s e H) {t : Ty} {zs : List t.den} {bytes : Nat} (hpos : 0 < t.size) (hc : decide (zs.length * bytes ≤ lim) = true) {κ : SV → St → Option ρ} {z : ρ} {ex : Ex}
    (hk : κ (.sla s.next ex) (s.push ⟨true, .many t zs⟩) = some z) : AppOk P r s e H .nilsl t.size bytes (zs.flatMap t.cells) zs.length κ z := by
  by_cases h0 : zs.length = 0
  · have hnil := isNil_of_len h0
    refine ⟨.nilsl, H, .sla s.next ex, _, _, ?_, ?_, ?_, h.upd_ext ⟨true, 0, 0, 0, t.size⟩, Kp.push s _, rfl, hk⟩
    · simp only [appendTo, h0]; rfl
    · rw [hnil]
      exact h.pushNil hpos true
    · exact ⟨⟨true, 0, 0, 0, t.size⟩, by simp [upd], .inl ⟨rfl, rfl, rfl⟩⟩
  · obtain ⟨h1, h2⟩ := push_many h (xs := zs) hpos
    refine ⟨_, _, .sla s.next ex, _, _, ?_, h1, h2 ex, h.upd_ext _, Kp.push s _, rfl, hk⟩
    simp only [appendTo]
    rw [beq0_false h0, cond_false, bytes_le hc, cond_true]

theorem AppOk.del {b : Nat} {a : AV} {size bytes n : Nat} {new : List AV} {κ : SV → St → Option ρ} {z : ρ} (h : AppOk P r (s.setB b none) e H a size bytes new n κ z) : AppOk P r s e H a size bytes new n κ z := by
  obtain ⟨u, H', v, s', r', h1, h2, h3, h4, h5, h6, h7⟩ := h
  exact ⟨u, H', v, s', r', h1, h2, h3, h4, (Kp.setB s b none).trans h5, h6, h7⟩

/-- the whole block of a slice read -/
theorem load_all {t : Ty} {xs : List t.den} {hb : Nat} {pre post : List AV} (h5 : H.get hb = some (pre ++ (xs.flatMap t.cells ++ post))) : loadAt H hb pre.length (xs.length * t.size) = some (xs.flatMap t.cells) := by
  have := loadAt_win (a := 0) (n := xs.length * t.size) h5 (by rw [flatMap_length]; omega)
  rw [Nat.add_zero, List.drop_zero] at this
  rwa [← flatMap_length, List.take_length, flatMap_length] at this

theorem flatMap_app {t : Ty} (xs zs : List t.den) : (xs ++ zs).flatMap t.cells = xs.flatMap t.cells ++ zs.flatMap t.cells := List.flatMap_append ..

/-- elements put behind a window's, the block given up -/
theorem appendOld_sound (h : Rel P r s e H) {b : Nat} {t : Ty} {xs zs : List t.den} {w : W} (hblk : s.heap.get b = some ⟨true, .many t xs⟩) (hw : r b = some w) (hv : w.virt = false) {o l : Nat} (hol : o + l ≤ xs.length) {c : Option Nat}
    (hcp : c = none ∨ c = some l) {bytes : Nat} (hn : zs.length ≠ 0) (hc : decide ((l + zs.length) * bytes ≤ lim) = true) {κ : SV → St → Option ρ} {z : ρ} {ex : Ex}
    (hk : κ (.sla s.next ex) ((s.setB b none).push ⟨true, .many t ((xs.drop o).take l ++ zs)⟩) = some z) :
    AppOk P r s e H (.sl w.hb (w.base + o * w.size) l c w.size) t.size bytes (zs.flatMap t.cells) zs.length κ z := by
  obtain ⟨g1, g2, g3, g4⟩ := many_block h hblk hw
  rcases g4 with ⟨g4, _⟩ | ⟨g4, ⟨pre, post, g5, g6⟩, g7, g8⟩
  · rw [hv] at g4; simp at g4
  have hload := loadAt_win g5 (window_le hol)
  rw [flatMap_window _ _ _ hol, g6] at hload
  have hlen : ((xs.drop o).take l).length = l := by rw [List.length_take, List.length_drop]; omega
  have hb : ∀ c', appendTo H t.size bytes (.sl w.hb (w.base + o * w.size) l c' w.size) (zs.flatMap t.cells) zs.length =
      (match c' with
      | some m => bif decide (m ≤ l) && decide (m * bytes ≤ 140737488355328) then some (.sl H.next 0 (l + zs.length) none t.size, H.push (((xs.drop o).take l).flatMap t.cells ++ zs.flatMap t.cells)) else none
      | none => bif decide (H.ro ≤ w.hb) then some (.sl H.next 0 (l + zs.length) none t.size, (H.setTo w.hb none).push (((xs.drop o).take l).flatMap t.cells ++ zs.flatMap t.cells)) else none) := by
    intro c'
    simp only [appendTo]
    rw [beq0_false hn, cond_false, bytes_le hc, g2, hload]
    simp only [show Nat.beq t.size t.size = true from Nat.beq_refl _, Bool.and_self, cond_true]
    cases c' <;> rfl
  have hle : (((xs.drop o).take l) ++ zs).length = l + zs.length := by rw [List.length_append, hlen]
  rcases hcp with rfl | rfl
  · have h1 := h.write hblk rfl hw hv (x := none) (y := none) (fun k hk => by simp at hk)
    obtain ⟨h2, h3⟩ := push_many h1 (xs := (xs.drop o).take l ++ zs) g3
    refine ⟨_, _, _, _, _, ?_, h2, h3 ex, h1.upd_ext _, (Kp.setB s b none).trans (Kp.push ..), rfl, hk⟩
    rw [hb]
    simp only
    rw [decide_eq_true (g8 rfl), cond_true, hle, flatMap_app]
    rfl
  · have h1 := h.del b
    obtain ⟨h2, h3⟩ := push_many h1 (xs := (xs.drop o).take l ++ zs) g3
    refine ⟨_, _, _, _, _, ?_, h2, h3 ex, h1.upd_ext _, (Kp.setB s b none).trans (Kp.push ..), rfl, hk⟩
    rw [hb]
    simp only
    have hm : l * bytes ≤ 140737488355328 := by
      have := of_decide_eq_true hc
      unfold lim at this
      have h0 : l * bytes ≤ (l + zs.length) * bytes := Nat.mul_le_mul_right _ (by omega)
      omega
    rw [decide_eq_true (Nat.le_refl l), decide_eq_true hm, Bool.and_self, cond_true, hle, flatMap_app]

/-- nothing put behind: the slice as it was, under a new number -/
theorem appendSame_sound (h : Rel P r s e H) {b : Nat} {t : Ty} {xs : List t.den} {w : W} (hblk : s.heap.get b = some ⟨true, .many t xs⟩) (hw : r b = some w) (hv : w.virt = false) {ex : Ex} {c : Option Nat}
    (hcp : CpR w.len ex.cp c) {bytes : Nat} {κ : SV → St → Option ρ} {z : ρ}
    (hk : κ (.sla s.next ex) ((s.setB b none).push ⟨true, .many t xs⟩) = some z) :
    AppOk P r s e H (.sl w.hb w.base w.len c w.size) t.size bytes [] 0 κ z := by
  have h1 := h.del b
  have hext := h1.upd_ext w
  obtain ⟨w0, g1, g2, g3, g4⟩ := h.br b _ hblk
  rw [hw] at g1
  obtain rfl := Option.some.inj g1
  have hne : b ≠ s.next := by omega
  have hold : ∀ m k, m ≠ s.next → ((s.setB b none).push ⟨true, .many t xs⟩).heap.get m = some k → m ≠ b ∧ s.heap.get m = some k := fun m k hm hk => by
    simp only [heap_push, next_setB, if_neg hm, heap_setB] at hk
    split at hk
    · simp at hk
    · exact ⟨by assumption, hk⟩
  have hupd : ∀ m, m ≠ s.next → upd r s.next w m = r m := fun m hm => by simp [upd, hm]
  refine ⟨_, H, .sla s.next ex, _, upd r s.next w, rfl, ⟨fun q x hx => ?_, fun m k hk => ?_, fun m w' hm => ?_, fun m m' k k' w1 w2 hn h1 h2 hown hw1 hw2 hv1 hv2 => ?_, h.nx, h.ro, h.fr, by simp; exact Nat.le_succ_of_le h.st, h.rn, ?_⟩,
    ⟨w, by simp [upd], .inr ⟨hv, c, hcp, rfl⟩⟩, hext, (Kp.setB s b none).trans (Kp.push ..), rfl, hk⟩
  · obtain ⟨u, a1, a2⟩ := h.er q x hx
    exact ⟨u, a1, a2.mono hext⟩
  · by_cases hm : m = s.next
    · subst hm
      simp only [heap_push, next_setB, if_true, Option.some.injEq] at hk
      subst hk
      exact ⟨w, by simp [upd], BR.mono hext (fun _ => rfl) g2, by simp, g4⟩
    · obtain ⟨a0, a1⟩ := hold m k hm hk
      obtain ⟨w', b1, b2, b3, b4⟩ := h.br m k a1
      exact ⟨w', by rw [hupd m hm]; exact b1, BR.mono hext (fun _ => rfl) b2, by simp; omega, b4⟩
  · by_cases hm' : m = s.next
    · simp; omega
    · rw [hupd m hm'] at hm
      have := h.dm m w' hm
      simp; omega
  · by_cases hm : m = s.next
    · have hm' : m' ≠ s.next := fun h => hn (hm.trans h.symm)
      subst hm
      simp only [upd, if_true, Option.some.injEq] at hw1
      subst hw1
      rw [hupd m' hm'] at hw2
      obtain ⟨a0, a1⟩ := hold m' k' hm' h2
      exact h.ap b m' _ k' w w2 (Ne.symm a0) hblk a1 (.inl rfl) hw hw2 hv1 hv2
    · by_cases hm' : m' = s.next
      · subst hm'
        simp only [upd, if_true, Option.some.injEq] at hw2
        subst hw2
        rw [hupd m hm] at hw1
        obtain ⟨a0, a1⟩ := hold m k hm h1
        exact h.ap m b k _ w1 w a0 a1 hblk (.inr rfl) hw1 hw hv1 hv2
      · rw [hupd m hm] at hw1
        rw [hupd m' hm'] at hw2
        exact h.ap m m' k k' w1 w2 hn (hold m k hm h1).2 (hold m' k' hm' h2).2 hown hw1 hw2 hv1 hv2
  · obtain ⟨l, a1, a2, a3⟩ := h.lg
    refine ⟨l, a1, a2, fun m k w' hk hw' hv' hlt hnl => ?_⟩
    simp only [start_push, start_setB, log_push, log_setB, List.mem_cons, not_or] at hlt hnl
    have hm : m ≠ s.next := by have := h.st; omega
    rw [hupd m hm] at hw'
    exact a3 m k w' (hold m k hm hk).2 hw' hv' hlt hnl.2

theorem appendSla_sound (h : Rel P r s e H) {b : Nat} {ex : Ex} {a : AV} {bytes : Nat} {ys : SC} {κ : SV → St → Option ρ} {z : ρ} (ha : VR r (.sla b ex) a) (hk : appendSla s bytes b ex ys κ = some z) :
    AppOk P r s e H a ys.t.size bytes (ys.xs.flatMap ys.t.cells) ys.xs.length κ z := by
  unfold appendSla at hk
  split at hk
  · rename_i t xs hblk
    obtain ⟨hex, hk0⟩ := bif_some' hk
    obtain ⟨zs, hzs, hk1⟩ := orNone_some hk0
    obtain ⟨hc, hk2⟩ := chk_some hk1
    clear hk hk1 hk0
    obtain ⟨ht, hflat, hzl⟩ := castL_eq hzs
    rw [← hflat, ← hzl, ht]
    obtain ⟨w, hw, hcase⟩ := ha
    obtain ⟨g1, g2, g3, g4⟩ := many_block h hblk hw
    rcases g4 with ⟨g4, rfl⟩ | ⟨g4, _, g7, g8⟩
    · rcases hcase with ⟨_, rfl, _⟩ | ⟨hf, _⟩
      · rw [List.nil_append] at hk2
        simp only [List.length_nil, Nat.zero_add] at hc
        exact (appendNil_sound (h.del b) g3 hc hk2).del
      · rw [g4] at hf; simp at hf
    · rcases hcase with ⟨hf, _⟩ | ⟨_, c, hcp, rfl⟩
      · rw [g4] at hf; simp at hf
      · by_cases h0 : zs.length = 0
        · have hnil := isNil_of_len h0
          rw [hnil] at hk2 ⊢
          rw [List.append_nil] at hk2
          exact appendSame_sound h hblk hw g4 hcp hk2
        · have := appendOld_sound h hblk hw g4 (o := 0) (l := w.len) (by omega) (c := c) (by
            cases ex
            · exact .inl hcp
            · exact hcp
            · simp [okEx] at hex) h0 (by rw [g1]; exact hc) (ex := ex) (κ := κ) (z := z) (by rw [List.drop_zero, g1, List.take_length]; exact hk2)
          rwa [Nat.zero_mul, Nat.add_zero] at this
  · simp at hk

theorem appendSlw_sound (h : Rel P r s e H) {b o l : Nat} {c : Cp} {a : AV} {bytes : Nat} {ys : SC} {κ : SV → St → Option ρ} {z : ρ} (ha : VR r (.slw b o l c) a) (hk : appendSlw s bytes b o l c ys κ = some z) :
    AppOk P r s e H a ys.t.size bytes (ys.xs.flatMap ys.t.cells) ys.xs.length κ z := by
  unfold appendSlw at hk
  split at hk
  · rename_i own t xs hblk
    obtain ⟨zs, hzs, hk1⟩ := orNone_some hk
    clear hk
    obtain ⟨ht, hflat, hzl⟩ := castL_eq hzs
    rw [← hflat, ← hzl, ht]
    obtain ⟨w, hw, hle, hcase⟩ := ha
    obtain ⟨g1, g2, g3, g4⟩ := many_block h hblk hw
    rw [g1] at hle
    split at hk1
    · obtain ⟨ho, hk2⟩ := bif_some' hk1
      obtain ⟨hc, hk3⟩ := chk_some hk2
      clear hk1 hk2
      subst ho
      simp only [Bool.and_eq_true, blt_iff] at hc
      rcases g4 with ⟨g4, rfl⟩ | ⟨g4, _, g7, g8⟩
      · rcases hcase with ⟨_, rfl⟩ | ⟨hf, _⟩
        · have hl : l = 0 := by simp at hle; omega
          subst hl
          simp only [List.drop_nil, List.take_nil, List.nil_append] at hk3
          refine (appendNil_sound (h.del b) g3 (by simpa using hc.2) hk3).del
        · rw [g4] at hf; simp at hf
      · rcases hcase with ⟨hf, _⟩ | ⟨_, cp, hcp, rfl⟩
        · rw [g4] at hf; simp at hf
        · exact appendOld_sound h hblk hw g4 hle (.inl hcp) (by omega) hc.2 hk3
    · rename_i m
      obtain ⟨hc, hk3⟩ := chk_some hk1
      clear hk1
      simp only [Bool.and_eq_true, blt_iff, decide_eq_true_eq] at hc
      rcases g4 with ⟨g4, rfl⟩ | ⟨g4, ⟨pre, post, g5, g6⟩, g7, g8⟩
      · rcases hcase with ⟨_, rfl⟩ | ⟨hf, _⟩
        · have hl : l = 0 := by simp at hle; omega
          subst hl
          simp only [List.drop_nil, List.take_nil, List.nil_append] at hk3
          exact appendNil_sound h g3 (by simpa using hc.1.2) hk3
        · rw [g4] at hf; simp at hf
      · rcases hcase with ⟨hf, _⟩ | ⟨_, cp, hcp, rfl⟩
        · rw [g4] at hf; simp at hf
        · simp only [CpR] at hcp
          subst hcp
          obtain ⟨h2, h3⟩ := push_many h (xs := (xs.drop o).take l ++ zs) g3
          have hlen : ((xs.drop o).take l).length = l := by rw [List.length_take, List.length_drop]; omega
          refine ⟨_, _, _, _, _, ?_, h2, h3 .yes, h.upd_ext _, Kp.push s _, rfl, hk3⟩
          have hload := loadAt_win g5 (window_le hle)
          rw [flatMap_window _ _ _ hle, g6] at hload
          have hm : m * bytes ≤ 140737488355328 := by
            have h1 := hc.1.2
            unfold lim at h1
            have h0 : m * bytes ≤ (l + zs.length) * bytes := Nat.mul_le_mul_right _ (by omega)
            omega
          simp only [appendTo]
          rw [beq0_false (by omega), cond_false, bytes_le (decide_eq_true hc.1.2), g2, hload]
          simp only [show Nat.beq t.size t.size = true from Nat.beq_refl _, Bool.and_self, cond_true]
          rw [decide_eq_true hc.2, decide_eq_true hm, Bool.and_self, cond_true, List.length_append, hlen, flatMap_app]
    · simp at hk1
  · simp at hk

theorem append_sound (h : Rel P r s e H) {x y : SV} {a b : AV} {size bytes : Nat} {κ : SV → St → Option ρ} {z : ρ} (ha : VR r x a) (hb : VR r y b) (hk : appendS s size bytes x y κ = some z) :
    ∃ new n, cellsOf H size b = some new ∧ lenOf b = some n ∧ new.all AV.one = true ∧ AppOk P r s e H a size bytes new n κ z := by
  unfold appendS at hk
  split at hk
  · simp only [VR] at hb
    subst hb
    exact ⟨[], 0, rfl, rfl, rfl, append0_sound h ha hk⟩
  · obtain ⟨ys, hys, hk1⟩ := orNone_some hk
    obtain ⟨hsz, hk2⟩ := bif_some' hk1
    clear hk hk1
    simp only [Bool.and_eq_true, Nat.beq_eq, blt_iff] at hsz
    obtain ⟨hsz, hpos⟩ := hsz
    subst hsz
    obtain ⟨hcells, hlen⟩ := sliceC_sound h hb hys
    refine ⟨_, _, hcells, hlen, flatMap_one _ _, ?_⟩
    unfold appendC at hk2
    split at hk2
    · simp only [VR] at ha
      subst ha
      obtain ⟨hc, hk3⟩ := chk_some hk2
      exact appendNil_sound h hpos hc hk3
    · exact appendSla_sound h ha hk2
    · exact appendSlw_sound h ha hk2
    · simp at hk2

end
end Go.Sh
