/- Each operation of the evaluator against the loaded one (three): what makes memory, slices. -/
import Derived.Test.YtipdancojcdioaaEvF
namespace Go.Ev
set_option linter.unusedVariables false
set_option linter.unusedSimpArgs false
open Go

section
variable {P : Program} {a : Act} {o : Oper} {j : JM} {H H' : Heap} {w : World} {e : Env} {v : AV} {callF : CallF}

theorem push_sound (hw : WR j H w) {cs : List AV} {l : List Value} (hl : VRs j cs l) (elem : TypeId) :
    Trans j H w (upd j H.next ⟨w.heap.size, 0, l.length⟩) (H.push cs) (w.alloc (.cells l.toArray elem)) := by
  have := Trans.push (w' := w.alloc (.cells l.toArray elem)) hw cs l [] elem (0, 0) hl (by rw [List.append_nil]; rfl) (.inl (Nat.le_refl _)) rfl rfl rfl
  simpa using this

theorem upd_same (j : JM) (b : Nat) (loc : Loc) : upd j b loc b = some loc := by simp [upd]

theorem does_alloc {t : TypeId} {p : AOp} (ho : o.op = .alloc t) (hc : cOp P (.alloc t) = some p) (hw : WR j H w)
    (hr : p.run callF e H = some (v, H')) : Does P a o j H w v H' := by
  simp only [cOp, Option.map_eq_some_iff] at hc
  obtain ⟨z, hz, rfl⟩ := hc
  simp only [AOp.run, Option.some.injEq, Prod.mk.injEq] at hr
  obtain ⟨rfl, rfl⟩ := hr
  obtain ⟨zv, h1, h2, _⟩ := zero_sound hz
  refine ⟨_, .pointer (some ⟨w.heap.size, 0, none⟩), _, push_sound hw (h2 j) t, ⟨_, upd_same .., rfl⟩, .inl ?_⟩
  simp [execOp, ho, Instr.alloc, run_zeroV h1, newVar, newRow]

theorem does_box {t : TypeId} {x : Operand} {p : AOp} (ho : o.op = .box t x) (hc : cOp P (.box t x) = some p) (hw : WR j H w) (hE : ER j e a.tmps)
    (hr : p.run callF e H = some (v, H')) : Does P a o j H w v H' := by
  simp only [cOp, Option.map_eq_some_iff] at hc
  obtain ⟨y, hy, rfl⟩ := hc
  obtain ⟨u, hu, h1⟩ := on1_some hr
  obtain ⟨_, h1⟩ := bif_some h1
  simp only [Option.some.injEq, Prod.mk.injEq] at h1
  obtain ⟨rfl, rfl⟩ := h1
  have hv := VR.cells (opd_sound hE hy hu)
  refine ⟨_, .pointer (some ⟨w.heap.size, 0, none⟩), _, push_sound hw hv t, ⟨_, upd_same .., rfl⟩, .inl ?_⟩
  simp [execOp, ho, Instr.box, newVar, newRow]

/-! ### parts -/
def PartsR (j : JM) (place : Nat → Option (Nat × Nat)) : List (Nat × Nat × AV) → List (Nat × Value) → Prop
  | [], l => l = []
  | (off, size, v) :: r, l => ∃ i c rest, l = (i, c) :: rest ∧ place i = some (off, size) ∧ VR j v c ∧ PartsR j place r rest

theorem parts_sound (hE : ER j e a.tmps) {place : Nat → Option (Nat × Nat)} : ∀ {xs : List (Nat × Operand)} {ys : List (Nat × Nat × Opd)} {vs : List (Nat × Nat × AV)},
    cParts place xs = some ys → getParts e ys = some vs → PartsR j place vs (xs.map fun (i, x) => (i, a.eval x))
  | [], ys, vs, h, hv => by
    simp only [cParts, Option.some.injEq] at h
    subst h
    simp only [getParts, Option.some.injEq] at hv
    subst hv
    rfl
  | (i, x) :: xs, ys, vs, h, hv => by
    simp only [cParts] at h
    split at h
    · rename_i off size hp
      split at h
      · rename_i y hy
        split at h
        · rename_i ys' hys
          obtain rfl := Option.some.inj h
          simp only [getParts] at hv
          split at hv
          · rename_i v hv1
            split at hv
            · rename_i vs' hvs
              obtain rfl := Option.some.inj hv
              exact ⟨i, _, _, rfl, hp, opd_sound hE hy hv1, parts_sound hE hys hvs⟩
            · simp at hv
          · simp at hv
        · simp at h
      · simp at h
    · simp at h

theorem fill_foldl : ∀ (cs : List Value) (off k : Nat) (l : List Value), off + k + cs.length ≤ l.length →
    ((cs.zipIdx k).foldl (fun (acc : Array Value) (x : Value × Nat) => acc.setIfInBounds (off + x.2) x.1) l.toArray).toList = l.take (off + k) ++ (cs ++ l.drop (off + k + cs.length))
  | [], off, k, l, h => by simp
  | c :: cs, off, k, l, h => by
    simp only [List.length_cons] at h
    simp only [List.zipIdx_cons, List.foldl_cons, List.setIfInBounds_toArray]
    rw [fill_foldl cs off (k + 1) (l.set (off + k) c) (by simp; omega)]
    apply List.ext_getElem?
    intro i
    simp only [List.getElem?_append, List.getElem?_take, List.getElem?_drop, List.length_take, List.length_set, List.getElem?_set, List.length_cons]
    by_cases h1 : i < off + k
    · have : i < off + (k + 1) := by omega
      have h2 : ¬ (off + k = i) := by omega
      have h3 : i < min (off + (k + 1)) l.length := by omega
      have h4 : i < min (off + k) l.length := by omega
      simp [h1, this, h2, h3, h4]
    · by_cases h2 : i = off + k
      · subst h2
        have h3 : off + k < min (off + (k + 1)) l.length := by omega
        have h4 : ¬ off + k < min (off + k) l.length := by omega
        have h5 : off + k < l.length := by omega
        have h6 : off + k - min (off + k) l.length = 0 := by omega
        simp only [h3, h4, if_true, if_false, h6]
        simp; omega
      · have h3 : ¬ i < min (off + (k + 1)) l.length := by omega
        have h4 : ¬ i < min (off + k) l.length := by omega
        simp only [h3, h4, if_false]
        have e1 : i - min (off + k) l.length = (i - min (off + (k + 1)) l.length) + 1 := by omega
        rw [e1]
        simp only [List.getElem?_cons_succ, Nat.add_lt_add_iff_right]
        by_cases h5 : i - min (off + (k + 1)) l.length < cs.length
        · simp [h5]
        · simp only [h5, if_false]
          have e2 : ¬ (off + k = off + (k + 1) + cs.length + (i - min (off + (k + 1)) l.length - cs.length)) := by omega
          simp only [e2, if_false]
          congr 1; omega

theorem fillIn_ones : ∀ {ps : List (Nat × Nat × AV)} {zs cs : List AV}, fillIn zs ps = some cs → cs.length = zs.length
  | [], zs, cs, h => by simp only [fillIn, Option.some.injEq] at h; subst h; rfl
  | (off, size, v) :: ps, zs, cs, h => by
    simp only [fillIn] at h
    obtain ⟨hb, h⟩ := bif_some h
    simp only [Bool.and_eq_true, decide_eq_true_eq] at hb
    rw [fillIn_ones h]
    simp; omega

theorem fill_sound {place : Nat → Option (Nat × Nat)} : ∀ {ps : List (Nat × Nat × AV)} {qs : List (Nat × Value)} {zs cs : List AV} {l : List Value}, PartsR j place ps qs → VRs j zs l → fillIn zs ps = some cs →
    ∃ m, Instr.fill place l.toArray qs = some m.toArray ∧ VRs j cs m
  | [], qs, zs, cs, l, hp, hl, h => by
    simp only [PartsR] at hp
    subst hp
    simp only [fillIn, Option.some.injEq] at h
    subst h
    exact ⟨l, rfl, hl⟩
  | (off, size, v) :: ps, qs, zs, cs, l, hp, hl, h => by
    obtain ⟨i, c, rest, rfl, hpl, hv, hrest⟩ := hp
    simp only [fillIn] at h
    obtain ⟨hb, h⟩ := bif_some h
    simp only [Bool.and_eq_true, decide_eq_true_eq] at hb
    have hc := VR.cells hv
    have hcl := VRs.length hc
    have hll := VRs.length hl
    have hsz : c.cells.size = size := by rw [← Array.length_toList]; omega
    have hnew := fill_foldl c.cells.toList off 0 l (by simp; omega)
    simp only [Nat.add_zero, Array.length_toList, hsz] at hnew
    have hrel : VRs j (zs.take off ++ (v.cells ++ zs.drop (off + size))) (l.take off ++ (c.cells.toList ++ l.drop (off + size))) :=
      VRs.append (VRs.take _ hl) (VRs.append hc (VRs.drop _ hl))
    obtain ⟨m, hm1, hm2⟩ := fill_sound hrest hrel h
    refine ⟨m, ?_, hm2⟩
    simp only [Instr.fill, hpl]
    have hcond : (c.cells.size ≠ size || decide (off + c.cells.size > l.toArray.size)) = false := by simp; omega
    rw [if_neg (by simpa using hcond)]
    rw [← hm1]
    congr 1
    apply Array.ext'
    rw [← hnew]
    simp [Array.foldl_toList, ← Array.toList_zipIdx]

theorem does_build {t : TypeId} {parts : Array (Nat × Operand)} {p : AOp} (ho : o.op = .build t parts) (hc : cOp P (.build t parts) = some p) (hw : WR j H w) (hE : ER j e a.tmps)
    (hr : p.run callF e H = some (v, H')) : Does P a o j H w v H' := by
  simp only [cOp] at hc
  have fin : ∀ (place : Nat → Option (Nat × Nat)) (z : List AV) (ps : List (Nat × Nat × Opd)), zero? P t = some z → cParts place parts.toList = some ps → p = .build z ps →
      (∀ zv cells qs, zeroV? P t = some zv → Instr.fill place zv.cells qs = some cells → P.built t qs = some cells) → Does P a o j H w v H' := by
    rintro place z ps hz hps rfl hb
    simp only [AOp.run] at hr
    split at hr
    · rename_i vs hvs
      split at hr
      · rename_i cs hcs
        simp only [Option.some.injEq, Prod.mk.injEq] at hr
        obtain ⟨rfl, rfl⟩ := hr
        obtain ⟨zv, h1, h2, _⟩ := zero_sound hz
        obtain ⟨m, hm1, hm2⟩ := fill_sound (parts_sound hE hps hvs) (h2 j) hcs
        refine Does.pure hw ⟨m, rfl, hm2⟩ ?_
        have := hb zv m.toArray _ h1 (by simpa using hm1)
        simp only [execOp, ho, Sem.run_bind]
        rw [run_build w t _ m.toArray (by simpa using this)]
        rfl
      · simp at hr
    · simp at hr
  unfold cBuild at hc
  split at hc
  · rename_i fs hu
    split at hc
    · rename_i places hpl
      simp only [Option.bind_eq_some_iff, Option.map_eq_some_iff] at hc
      obtain ⟨z, hz, ps, hps, rfl⟩ := hc
      refine fin _ z ps hz hps rfl (fun zv cells qs h1 h2 => ?_)
      unfold Program.built
      simp only [zeroV?, Option.bind_eq_some_iff] at h1
      obtain ⟨i, hi, hzv⟩ := h1
      simp [hi, hu, hzv, hpl]
      simpa using h2
    · simp at hc
  · rename_i n el hu
    split at hc
    · rename_i s hs
      simp only [Option.bind_eq_some_iff, Option.map_eq_some_iff] at hc
      obtain ⟨z, hz, ps, hps, rfl⟩ := hc
      refine fin _ z ps hz hps rfl (fun zv cells qs h1 h2 => ?_)
      unfold Program.built
      simp only [zeroV?, Option.bind_eq_some_iff] at h1
      obtain ⟨i, hi, hzv⟩ := h1
      simp only [size?, Option.map_eq_some_iff] at hs
      obtain ⟨ie, hie, rfl⟩ := hs
      simp only [hi, hu, hzv, hie]
      exact h2
    · simp at hc
  · simp at hc

theorem rep_sound {zs : List AV} {l : List Value} (h : VRs j zs l) : ∀ n, VRs j (rep n zs) ((List.replicate n l).flatten)
  | 0 => by simp [rep, VRs]
  | n + 1 => by simp only [rep, List.replicate_succ, List.flatten_cons]; exact VRs.append h (rep_sound h n)

theorem rep_length (n : Nat) (l : List AV) : (rep n l).length = n * l.length := by
  induction n with
  | zero => simp [rep]
  | succ n ih => simp [rep, ih, Nat.add_mul]; omega

theorem range_map_rep (l : List Value) (n s : Nat) (hs : l.length = s) (h0 : 0 < s) :
    ((Array.range (n * s)).map fun x => l.toArray[x % l.toArray.size]!) = ((List.replicate n l).flatten).toArray := by
  apply Array.ext'
  simp only [Array.toList_map, Array.toList_range, List.size_toArray, hs]
  apply List.ext_getElem?
  intro i
  by_cases hi : i < n * s
  · have hlt : i % s < l.length := by rw [hs]; exact Nat.mod_lt _ h0
    rw [List.getElem?_map, List.getElem?_range hi, Option.map_some]
    have hfl : ((List.replicate n l).flatten)[i]? = l[i % s]? := by
      clear hlt
      induction n generalizing i with
      | zero => simp at hi
      | succ n ih =>
        rw [List.replicate_succ, List.flatten_cons]
        by_cases hlt : i < s
        · rw [List.getElem?_append_left (by omega), Nat.mod_eq_of_lt hlt]
        · rw [List.getElem?_append_right (by omega), hs, ih (i - s) (by have := Nat.add_mul n 1 s; omega)]
          congr 1
          exact (Nat.mod_eq_sub_mod (by omega)).symm
    rw [hfl, List.getElem?_eq_getElem hlt]
    simp [hlt]
  · rw [List.getElem?_eq_none (by simp; omega), List.getElem?_eq_none (by simp [hs]; omega)]

theorem does_buildSl {t : TypeId} {n : Nat} {parts : Array (Nat × Operand)} {p : AOp} (ho : o.op = .buildSlice t n parts) (hc : cOp P (.buildSlice t n parts) = some p) (hw : WR j H w) (hE : ER j e a.tmps)
    (hr : p.run callF e H = some (v, H')) : Does P a o j H w v H' := by
  simp only [cOp, Option.bind_eq_some_iff] at hc
  obtain ⟨el, hel, s, hs, z, hz, hc⟩ := hc
  obtain ⟨⟨h0, hzl, hlim⟩, hc⟩ := if_some hc
  simp only [Option.map_eq_some_iff] at hc
  obtain ⟨ps, hps, rfl⟩ := hc
  simp only [AOp.run] at hr
  split at hr
  · rename_i vs hvs
    split at hr
    · rename_i cs hcs
      obtain ⟨hone, hr⟩ := bif_some hr
      simp only [Option.some.injEq, Prod.mk.injEq] at hr
      obtain ⟨rfl, rfl⟩ := hr
      obtain ⟨zv, h1, h2, _⟩ := zero_sound hz
      have hzlen := VRs.length (h2 j)
      obtain ⟨m, hm1, hm2⟩ := fill_sound (parts_sound hE hps hvs) (rep_sound (h2 j) n) hcs
      have hmlen := VRs.length hm2
      have hcl := fillIn_ones hcs
      rw [rep_length, hzl] at hcl
      refine ⟨_, .slice (some ⟨w.heap.size, 0, none⟩) n n, _, push_sound hw hm2 el, ?_, .inl ?_⟩
      · refine ⟨_, n, upd_same .., Nat.le_refl _, by simp; omega, by simp, .inl rfl⟩
      · have hel' : P.underlying t = some (.slice el) := by
          unfold elemOf? at hel
          split at hel
          · rename_i e' hu; rw [hu]; simpa using hel
          · simp at hel
        have hbig : ¬ (16777216 < n * s) := by omega
        have hzs : zv.cells.toList.length = s := by omega
        have hrm := range_map_rep zv.cells.toList n s hzs h0
        simp only [Array.toArray_toList] at hrm
        simp only [execOp, ho, Sem.run_bind, Instr.buildSlice, run_underlying hel', Result.andThen_ok, run_sizeOf hs, Nat.reducePow, gt_iff_lt, hbig, if_false]
        by_cases hn0 : n * s = 0
        · have : n = 0 := by
            rcases Nat.mul_eq_zero.1 hn0 with h | h
            · exact h
            · omega
          subst this
          simp only [Nat.zero_mul, if_true, Sem.run_pure, Sem.run_bind, Result.andThen_ok, Array.range_zero', Array.map_empty]
          have hm1' : Instr.fill (fun i => some (i * s, s)) #[] (parts.map fun x => (x.1, a.eval x.2)).toList = some m.toArray := by simpa using hm1
          rw [hm1']
          simp [newRow]
        · simp only [hn0, if_false, Sem.run_bind, Sem.run_pure, run_zeroV h1, Result.andThen_ok]
          rw [hrm]
          have hm1' : Instr.fill (fun i => some (i * s, s)) ((List.replicate n zv.cells.toList).flatten).toArray (parts.map fun x => (x.1, a.eval x.2)).toList = some m.toArray := by simpa using hm1
          rw [hm1']
          simp [newRow]
    · simp at hr
  · simp at hr

end
end Go.Ev
