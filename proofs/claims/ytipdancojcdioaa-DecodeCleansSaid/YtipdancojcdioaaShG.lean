/- Operations of the shallow reading are the evaluator's: numbers, texts, memory. No condition. -/
import Derived.Test.YtipdancojcdioaaShF
namespace Go.Sh
set_option linter.unusedVariables false
set_option linter.unusedSimpArgs false
open Go Go.Ev

section
variable {ρ : Type} {P : Fr} {r : RM} {s : St} {e : Env} {H : Heap}

def OpOk (P : Fr) (r : RM) (s : St) (e : Env) (H : Heap) (op : AOp) (κ : SV → St → Option ρ) (y : ρ) : Prop :=
  ∃ u H' v s' r', (∀ callF, op.run callF e H = some (u, H')) ∧ Rel P r' s' e H' ∧ VR r' v u ∧ Ext r r' ∧ Kp s s' ∧ s'.env = s.env ∧ κ v s' = some y

theorem OpOk.pure (h : Rel P r s e H) {op : AOp} {κ : SV → St → Option ρ} {y : ρ} {u : AV} {v : SV} (hr : ∀ callF, op.run callF e H = some (u, H)) (hv : VR r v u) (hk : κ v s = some y) : OpOk P r s e H op κ y :=
  ⟨u, H, v, s, r, hr, h, hv, Ext.refl r, Kp.refl s, rfl, hk⟩

/-! ### cells at places -/
theorem loadAt_win {H : Heap} {hb : Nat} {pre cs post : List AV} {a n : Nat} (hg : H.get hb = some (pre ++ (cs ++ post))) (ha : a + n ≤ cs.length) :
    loadAt H hb (pre.length + a) n = some ((cs.drop a).take n) := by
  unfold loadAt
  rw [hg]
  simp only
  rw [decide_eq_true (by simp; omega), cond_true, List.drop_length_add_append, List.drop_append_of_le_length (by omega), List.take_append_of_le_length (by simp; omega)]

theorem storeAt_win {H : Heap} {hb : Nat} {pre cs post vs : List AV} {a n : Nat} (hg : H.get hb = some (pre ++ (cs ++ post))) (hro : H.ro ≤ hb) (h1 : vs.all AV.one = true) (hn : vs.length = n) (ha : a + n ≤ cs.length) :
    storeAt H hb (pre.length + a) vs = some (H.setTo hb (some (pre ++ ((cs.take a ++ (vs ++ cs.drop (a + n))) ++ post)))) := by
  unfold storeAt
  rw [decide_eq_true hro, h1, Bool.and_self, cond_true, hg]
  simp only
  rw [decide_eq_true (by simp; omega), cond_true, List.take_length_add_append, show pre.length + a + vs.length = pre.length + (a + n) by omega, List.drop_length_add_append,
    List.take_append_of_le_length (by omega), List.drop_append_of_le_length (by omega)]
  simp only [List.append_assoc]

theorem flatMap_length {t : Ty} (xs : List t.den) : (xs.flatMap t.cells).length = xs.length * t.size := by
  rw [← cellsN_full (d := t.dflt), cellsN_length (cells_length t)]

theorem flatMap_part {t : Ty} {xs : List t.den} {i a n : Nat} (hi : i < xs.length) (ha : a + n ≤ t.size) :
    i * t.size + a + n ≤ (xs.flatMap t.cells).length ∧ ((xs.flatMap t.cells).drop (i * t.size + a)).take n = ((t.cells (xs.getD i t.dflt)).drop a).take n := by
  have := Nat.mul_le_mul_right t.size hi
  rw [Nat.succ_mul] at this
  refine ⟨by rw [flatMap_length]; omega, ?_⟩
  rw [← cellsN_full (d := t.dflt), cellsN_part (cells_length t) _ _ _ _ _ hi ha]

theorem setD_eq {α : Type} {d : α} : ∀ (xs : List α) (i : Nat) (y : α), i < xs.length → setD d xs i y = xs.set i y
  | [], i, y, h => by simp at h
  | x :: xs, 0, y, h => rfl
  | x :: xs, i + 1, y, h => by simp only [setD, List.set_cons_succ, setD_eq xs i y (by simpa using h)]

theorem flatMap_set {t : Ty} {xs : List t.den} {i a n : Nat} {vs : List AV} {y : t.den} (hi : i < xs.length) (h : Wrote t (xs.getD i t.dflt) a n vs y) :
    vs.length = n ∧ i * t.size + a + n ≤ (xs.flatMap t.cells).length ∧
      (xs.set i y).flatMap t.cells = (xs.flatMap t.cells).take (i * t.size + a) ++ (vs ++ (xs.flatMap t.cells).drop (i * t.size + a + n)) := by
  have hw := arr_wrote (m := xs.length) hi h
  obtain ⟨h1, h2, h3⟩ := hw
  simp only [Ty.cells, Ty.size] at h2 h3
  rw [setD_eq xs i y hi] at h3
  have e1 := cellsN_full (f := t.cells) (d := t.dflt) (xs.set i y)
  rw [List.length_set] at e1
  rw [e1, cellsN_full] at h3
  exact ⟨h1, by rw [flatMap_length]; exact h2, h3⟩

theorem offP_cons (ix : Ix) (p : List Ix) : offP (ix :: p) = ix.i * ix.s + (ix.off + offP p) := by
  simp only [offP]; omega

theorem okIx.tail {w : W} {ix : Ix} {p : List Ix} (h : okIx w (ix :: p)) : okP p := h.1.tail

theorem got_load {cs : List AV} {a n : Nat} {g : Bool} {x : SV} (h : Got r cs a n g x) : ∃ v, VR r x v ∧ (bif g then v = .agg ((cs.drop a).take n) else (n = 1 ∧ v.one = true ∧ (cs.drop a).take n = [v])) := h.2

/-- what a load answers -/
theorem loadS_sound (h : Rel P r s e H) {a : SV} {n : Nat} {g : Bool} {κ : SV → Option ρ} {y : ρ} {u : AV} (hu : VR r a u) (hl : loadS s a n g κ = some y) :
    ∃ hb off, u = .ptr hb off ∧ ∃ cs, loadAt H hb off n = some cs ∧ ∃ v x, VR r x v ∧ κ x = some y ∧ (bif g then v = .agg cs else cs = [v]) := by
  unfold loadS at hl
  split at hl
  · rename_i b o p
    obtain ⟨w, hw, hv, rfl, hix⟩ := hu
    refine ⟨_, _, rfl, ?_⟩
    split at hl
    · rename_i own z hk
      obtain ⟨x, hx, hκ⟩ := orNone_some hl
      obtain ⟨w0, g1, g2, g3, g4⟩ := h.br b _ hk
      rw [hw] at g1
      obtain rfl := Option.some.inj g1
      obtain ⟨_, u, pre, post, hvr, hget, hpre⟩ := g2
      obtain ⟨h1, v, h2, h3⟩ := getV_sound hix.1 hx hvr
      refine ⟨_, by rw [← hpre]; exact loadAt_win hget h1, v, x, h2, hκ, ?_⟩
      cases g with
      | true => exact h3
      | false => exact h3.2.2
    · rename_i own t xs hk
      split at hl
      · rename_i ix q
        obtain ⟨hb, hl2⟩ := bif_some' hl
        simp only [Bool.and_eq_true, Nat.beq_eq] at hb
        obtain ⟨⟨hel, hs⟩, rfl⟩ := hb
        obtain ⟨x, hx, hκ⟩ := orNone_some hl2
        obtain ⟨w0, g1, g2, g3, g4⟩ := h.br b _ hk
        rw [hw] at g1
        obtain rfl := Option.some.inj g1
        obtain ⟨hlen, hsz, hpos, g2⟩ := g2
        have hi := hix.2 ix (List.mem_cons_self ..) hel
        rw [hlen] at hi
        rcases g2 with ⟨g2, _⟩ | ⟨_, pre, post, hget, hpre⟩
        · rw [hv] at g2; simp at g2
        · have hp := getT_sound t _ _ _ _ _ _ hix.tail hx
          obtain ⟨t', x', rfl, q1, q2, q3, q4⟩ := hp
          obtain ⟨p1, p2⟩ := flatMap_part hi q3
          rw [offP_cons, hs, Nat.zero_add, ← hpre]
          refine ⟨_, loadAt_win hget (by omega), tyAV t' x', .ty t' x', rfl, hκ, ?_⟩
          rw [p2, q4]
          cases g with
          | true => exact tyAV_agg t' x' q2
          | false => exact (tyAV_one t' x' q2).1
      · simp at hl
    · simp at hl
  · simp at hl

theorem oneS_sound {v : SV} {u : AV} (h : VR r v u) (ho : oneS v = true) : u.cells.all AV.one = true := by
  cases v with
  | ty t x => simp only [VR] at h; subst h; rw [tyAV_cells]; exact cells_one t x
  | tup l => simp [oneS] at ho
  | segs l =>
    obtain ⟨cs, rfl, k⟩ := h
    simp only [oneS] at ho
    show cs.all AV.one = true
    induction l generalizing cs with
    | nil => simp only [CRs] at k; subst k; rfl
    | cons x l ih =>
      obtain ⟨v, r', rfl, a, b⟩ := k
      rw [List.all_cons, Bool.and_eq_true] at ho
      rw [List.all_append, ih ho.2 r' b, Bool.and_true]
      cases x with
      | ty t x => simp only [VR] at a; subst a; rw [tyAV_cells]; exact cells_one t x
      | tup l => simp at ho
      | segs l => simp at ho
      | _ => obtain ⟨h1, h2, _⟩ := size_cells a rfl; rw [h1]; simp [h2]
  | _ => obtain ⟨h1, h2, _⟩ := size_cells h rfl; rw [h1]; simp [h2]

theorem storeS_sound (h : Rel P r s e H) {a v : SV} {n : Nat} {κ : SV → St → Option ρ} {y : ρ} {u x : AV} (hu : VR r a u) (hx : VR r v x) (hl : storeS s a n v κ = some y) :
    ∃ hb off, u = .ptr hb off ∧ x.cells.length = n ∧ ∃ H', storeAt H hb off x.cells = some H' ∧ ∃ s', Rel P r s' e H' ∧ Kp s s' ∧ s'.env = s.env ∧ κ (.tup []) s' = some y := by
  unfold storeS at hl
  obtain ⟨h1s, hl1⟩ := bif_some' hl
  clear hl
  have hone := oneS_sound hx h1s
  split at hl1
  · rename_i b o p
    obtain ⟨w, hw, hv, rfl, hix⟩ := hu
    refine ⟨_, _, rfl, ?_⟩
    split at hl1
    · rename_i z hk
      obtain ⟨z', hz, hκ⟩ := orNone_some hl1
      obtain ⟨w0, g1, g2, g3, g4⟩ := h.br b _ hk
      rw [hw] at g1
      obtain rfl := Option.some.inj g1
      obtain ⟨_, u, pre, post, hvr, hget, hpre⟩ := g2
      obtain ⟨h1, h2, u', h3, h4⟩ := setV_sound hix.1 hz hvr hx
      have hro := ((g4 hv).2 rfl).1
      refine ⟨h1, _, by rw [← hpre]; exact storeAt_win hget hro hone h1 h2, _, ?_, Kp.setB .., rfl, hκ⟩
      refine h.write hk rfl hw hv (fun k' hk' => ?_)
      obtain rfl := Option.some.inj hk'
      exact ⟨rfl, hv, u', pre, post, h3, by simp [h4], hpre⟩
    · rename_i t xs hk
      split at hl1
      · rename_i ix q
        obtain ⟨hb, hl2⟩ := bif_some' hl1
        simp only [Bool.and_eq_true, Nat.beq_eq] at hb
        obtain ⟨⟨hel, hs⟩, rfl⟩ := hb
        obtain ⟨z', hz, hκ⟩ := orNone_some hl2
        obtain ⟨w0, g1, g2, g3, g4⟩ := h.br b _ hk
        rw [hw] at g1
        obtain rfl := Option.some.inj g1
        obtain ⟨hlen, hsz, hpos, g2⟩ := g2
        have hi := hix.2 ix (List.mem_cons_self ..) hel
        rw [hlen] at hi
        rcases g2 with ⟨g2, _⟩ | ⟨_, pre, post, hget, hpre⟩
        · rw [hv] at g2; simp at g2
        · have hp := setT_sound t _ _ _ _ _ _ _ hix.tail hz hx
          obtain ⟨p1, p2, p3⟩ := flatMap_set hi hp
          have hro := ((g4 hv).2 rfl).1
          rw [offP_cons, hs, Nat.zero_add, ← hpre]
          refine ⟨p1, _, storeAt_win hget hro hone p1 (by omega), _, ?_, Kp.setB .., rfl, hκ⟩
          refine h.write hk rfl hw hv (fun k' hk' => ?_)
          obtain rfl := Option.some.inj hk'
          refine ⟨rfl, by simp [hlen], hsz, hpos, .inr ⟨hv, pre, post, ?_, hpre⟩⟩
          simp only [Heap.get_setTo, if_true]
          rw [p3]
      · simp at hl1
    · simp at hl1
  · simp at hl1

end
end Go.Sh
